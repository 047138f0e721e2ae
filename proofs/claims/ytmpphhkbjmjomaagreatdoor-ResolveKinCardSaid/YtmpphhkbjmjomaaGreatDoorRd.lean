/- Looking a method up: the roads. -/
import Derived.Test.YtmpphhkbjmjomaaGreatDoorRb
import Derived.Test.YtmpphhkbjmjomaaGreatDoorRc
set_option maxRecDepth 100000
set_option maxHeartbeats 1000000
set_option linter.unusedVariables false
set_option linter.unusedSimpArgs false
namespace Go.Proofs.YtmpphhkbjmjomaaGreatDoor.Hi
open Go.RowKit Bs

theorem findH_at {m : List EntM} {c : Nat} (hc : c < m.length) (n d : ByteArray) : findH m (c : Int) n d = findE m[c] n d := by
  unfold findH
  rw [entAt_nat hc]
  rfl
theorem Built.find {B bw : Nat} {w0 w : World} {m : List EntM} (h : Built B bw w0 w m) {c : Nat} (hc : c < m.length) (n d : ByteArray) :
    Calls Tryz.prog 80 #[.pointer (some ⟨bw, 0, none⟩), .int .i64 c, .string n, .string d] w fun r w' => r = .returned (.tuple #[.int .i64 (findH m c n d).1, .int .i64 (findH m c n d).2]) ∧ Below w.heap.size w w' := by
  rw [findH_at hc]
  exact Find_in h.hw h.live (entAt_nat hc) n d

/-- The place of an id that is the answer. -/
structure IdAt (w w1 : World) : Prop where
  s0 : w1.cell? ⟨w.heap.size, 0, none⟩ = some (.int .i64 0)
  s1 : w1.cell? ⟨w.heap.size, 1, none⟩ = some (.int .i64 0)
  t : ∀ j, w1.frozen? ⟨w.heap.size, j, none⟩ = false
  bel : Below w.heap.size w w1
  lt : w.heap.size < w1.heap.size
theorem IdAt.start (w : World) : IdAt w (w.alloc (.cells #[.int .i64 0, .int .i64 0] 29)) :=
  ⟨World.cell?_alloc_new .., World.cell?_alloc_new .., fun j => frozen_new .., (Below.refl _ _).alloc (Nat.le_refl _) _, by simp⟩
theorem IdAt.next {w w1 w2 : World} (h : IdAt w w1) (hb : Below w1.heap.size w1 w2) : IdAt w w2 :=
  ⟨below_cell' hb h.s0, below_cell' hb h.s1, fun j => (World.frozen?_of_block (w := w1) (a := ⟨w.heap.size, j, none⟩) (hb.block _ h.lt)).trans (h.t j), h.bel.trans (hb.mono h.bel.size), Nat.lt_of_lt_of_le h.lt hb.size⟩
theorem IdAt.two {w w1 : World} (h : IdAt w w1) (v0 v1 : Value) : ∀ j (hj : j < [v0, v1].length), ((w1.setCell ⟨w.heap.size, 0, none⟩ v0).setCell ⟨w.heap.size, 1, none⟩ v1).cell? ⟨w.heap.size, j, none⟩ = some [v0, v1][j] := by
  have key := set2 (v0 := v0) (v1 := v1) h.s0 h.s1
  exact Hi.two key.1 key.2
theorem IdAt.end {w w1 : World} (h : IdAt w w1) (v0 v1 : Value) : Below w.heap.size w ((w1.setCell ⟨w.heap.size, 0, none⟩ v0).setCell ⟨w.heap.size, 1, none⟩ v1) :=
  (h.bel.setCell (Nat.le_refl _) _).setCell (Nat.le_refl _) _

theorem OwnR {B bw : Nat} {w0 w : World} {m : List EntM} (h : Built B bw w0 w m) {c : Nat} (hc : c < m.length) (n d : ByteArray) :
    Calls Tryz.prog 61 #[.pointer (some ⟨bw, 0, none⟩), .int .i64 c, .string n, .string d] w fun r w' => r = .returned (.tuple #[idV (ownR m c n d).1, .int .i64 (ownR m c n d).2]) ∧ Below w.heap.size w w' := by
  have HS := Lib.hid (IdAt.start w)
  have HF := Lib.hid ((h.next HS.out.bel).find hc n d)
  unfold ownR idV
  generalize findH m c n d = f at HF
  clear h
  go_enter Tryz.func61, Tryz.ntmps61
  go_wp2_with fail
  refine HF.out.mono ?_
  rintro _ w1 ⟨rfl, hb⟩
  have HB := Lib.hid (HS.out.next hb)
  have s0 := HB.out.s0
  have s1 := HB.out.s1
  have t0 := HB.out.t 0
  have t1 := HB.out.t 1
  clear hb HF HS
  go_wp2
  refine bodyPost_ret (results_cells_tmp rfl _ _ w.heap.size [.int .i64 c, .int .i64 f.1] _ rfl (HB.out.two _ _) Tryz.underlying29 rfl id_info2) rfl ⟨rfl, HB.out.end _ _⟩

theorem firstM_drop {m : List EntM} {n d : ByteArray} {L : List Int} {k : Nat} (hk : k < L.length) : firstM m n d (L.drop k) = if (findH m L[k] n d).2 = 0 then ((L[k], (findH m L[k] n d).1), 0) else firstM m n d (L.drop (k + 1)) := by
  rw [List.drop_eq_getElem_cons hk]
  rfl

theorem ChainR {B bw : Nat} {w0 w : World} {m : List EntM} (h : Built B bw w0 w m) {c : Nat} (hc : c < m.length) (n d : ByteArray) :
    Calls Tryz.prog 63 #[.pointer (some ⟨bw, 0, none⟩), .int .i64 c, .string n, .string d] w fun r w' => r = .returned (.tuple #[idV (chainR m c n d).1, .int .i64 (chainR m c n d).2]) ∧ Below w.heap.size w w' := by
  have HS := Lib.hid (IdAt.start w)
  have HC := Lib.hid ((h.next HS.out.bel).chain c hc)
  have HF := Lib.hid (fun (wr : World) (hr : Below w.heap.size w wr) (k : Nat) (hk : k < m.length) => (h.next hr).find hk n d)
  have HM : Hid (∀ x ∈ ch m c, ∃ k : Nat, x = k ∧ k < m.length) := Lib.hid fun x hx => by
    obtain ⟨k, e, _, hk, _⟩ := ch_mem h.wf hc x hx
    exact ⟨k, e, hk⟩
  have HL : Hid ((ch m c).length ≤ 300) := Lib.hid (by
    have h1 := ch_len h.wf hc
    have h2 := (h.wf.depth c hc).2.1
    have h3 := h.wf.len
    omega)
  unfold chainR idV
  generalize ch m c = L at *
  clear h
  have hl := HL.out
  obtain ⟨R, hR⟩ : ∃ R, firstM m n d L = R := ⟨_, rfl⟩
  have HR := Lib.hid hR
  rw [hR]
  clear hR
  go_enter Tryz.func63, Tryz.ntmps63
  go_wp2_with fail
  refine HC.out.mono ?_
  rintro _ w1 ⟨ad, cc, rfl, hs, hb⟩
  have HB := Lib.hid (HS.out.next hb)
  have HIS := Lib.hid hs
  clear hb hs HC HS
  go_wp2_with fail
  go_loopg [24] L.length (fun gk u wr => ∃ k : Nat, Hid (k + gk = L.length ∧ firstM m n d (L.drop k) = R) ∧ u = .int .i64 k ∧ Hid (IdAt w wr ∧ Below w1.heap.size w1 wr))
  case atStart => exact ⟨0, Lib.hid ⟨Nat.zero_add _, by rw [List.drop_zero]; exact HR.out⟩, by go_num, Lib.hid ⟨HB.out, Below.refl _ _⟩⟩
  case round =>
    clear HB HR
    obtain ⟨k, hk, rfl, HB⟩ := hrel
    have s0 := HB.out.1.s0
    have s1 := HB.out.1.s1
    have t0 := HB.out.1.t 0
    have t1 := HB.out.1.t 1
    by_cases hlt : k < L.length
    · have hlt' : (k : Int) < (L.length : Int) := by omega
      have hk0 : (0 : Int) ≤ (k : Int) := by omega
      obtain ⟨b, o, rfl, hel⟩ := HIS.out.elem (by omega)
      have g0 := below_cell' HB.out.2 (hel k _ (List.getElem?_eq_getElem hlt))
      obtain ⟨y, hy, hym⟩ := HM.out L[k] (List.getElem_mem hlt)
      have HD : Hid (firstM m n d (L.drop k) = if (findH m L[k] n d).2 = 0 then ((L[k], (findH m L[k] n d).1), 0) else firstM m n d (L.drop (k + 1))) := Lib.hid (firstM_drop hlt)
      rw [hy] at g0 HD
      have HX := Lib.hid (HF.out wr HB.out.1.bel y hym)
      clear hel hy hym
      generalize findH m y n d = f at HX HD
      obtain ⟨f1, f2⟩ := f
      go_wp2_with fail
      refine HX.out.mono ?_
      rintro _ w2 ⟨rfl, hb⟩
      have HB2 : Hid (IdAt w w2 ∧ Below w1.heap.size w1 w2) := Lib.hid ⟨HB.out.1.next hb, HB.out.2.trans (hb.mono HB.out.2.size)⟩
      clear hb HX HB s0 s1 t0 t1 g0
      have s0 := HB2.out.1.s0
      have s1 := HB2.out.1.s1
      have t0 := HB2.out.1.t 0
      have t1 := HB2.out.1.t 1
      by_cases hf : f2 = 0
      · subst hf
        have HG : Hid (R = (((y : Int), f1), 0)) := Lib.hid (by rw [← hk.out.2, HD.out]; rfl)
        clear HD hk
        go_wp2
        refine bodyPost_ret (results_cells_tmp rfl _ _ w.heap.size [.int .i64 y, .int .i64 f1] _ rfl (HB2.out.1.two _ _) Tryz.underlying29 rfl id_info2) rfl ⟨by rw [HG.out]; rfl, HB2.out.1.end _ _⟩
      · have HG : Hid (firstM m n d (L.drop (k + 1)) = R) := Lib.hid (by rw [← hk.out.2, HD.out, if_neg hf])
        have hf' : (f2 == 0) = false := by simpa using hf
        clear HD hf
        go_wp2
        go_roundg (L.length - (k + 1))
        case measure => have := hk.out.1; omega
        case rel => exact ⟨k + 1, Lib.hid ⟨by have := hk.out.1; omega, HG.out⟩, by go_num, HB2⟩
    · have HG : Hid (R = ((0, 0), 6)) := Lib.hid (by
        rw [← hk.out.2, List.drop_eq_nil_of_le (by omega)]
        rfl)
      clear hk
      go_wp2
      refine bodyPost_ret (results_cells_tmp rfl _ _ w.heap.size [.int .i64 0, .int .i64 0] _ rfl (HB.out.1.two _ _) Tryz.underlying29 rfl id_info2) rfl ⟨by rw [HG.out]; rfl, HB.out.1.end _ _⟩

theorem SomeR {B bw : Nat} {w0 w : World} {m : List EntM} (h : Built B bw w0 w m) {c : Nat} (hc : c < m.length) (n d : ByteArray) :
    Calls Tryz.prog 79 #[.pointer (some ⟨bw, 0, none⟩), .int .i64 c, .string n, .string d] w fun r w' => r = .returned (.tuple #[idV (someM m c n d).1, .int .i64 (someM m c n d).2]) ∧ Below w.heap.size w w' := by
  cases hL : candM m c n d with
  | nil =>
    refine (Some_none h hc n d hL).mono ?_
    rintro r w' ⟨rfl, hb⟩
    exact ⟨by unfold someM; rw [hL]; rfl, hb⟩
  | cons p r =>
    have HS := Lib.hid (IdAt.start w)
    have HC := Lib.hid (Candidates (h.next HS.out.bel) hc n d)
    have HQ : Hid (someM m c n d = (p, 0)) := Lib.hid (by unfold someM; rw [hL])
    have hln := cand_len h.wf hc n d
    rw [hL] at HC hln
    rw [HQ.out]
    unfold idV
    clear h hL HQ
    go_enter Tryz.func79, Tryz.ntmps79
    go_wp2_with fail
    refine HC.out.mono ?_
    rintro _ w1 ⟨ad, k, rfl, hrow, hb⟩
    have HB := Lib.hid (HS.out.next hb)
    have s0 := HB.out.s0
    have s1 := HB.out.s1
    have t0 := HB.out.t 0
    have t1 := HB.out.t 1
    obtain ⟨b, o, rfl, c0, c1⟩ := IdSl.elem hrow (k := 0) (by simp)
    have e1 : (((p :: r).length : Int) == 0) = false := by simp <;> omega
    have e2 : (0 : Int) < ((p :: r).length : Int) := by simp <;> omega
    simp only [Nat.zero_mul, Nat.add_zero, List.getElem_cons_zero] at c0 c1
    clear hb hrow HC HS
    generalize (p :: r).length = ln at *
    go_wp2
    refine bodyPost_ret (results_cells_tmp rfl _ _ w.heap.size [.int .i64 p.1, .int .i64 p.2] _ rfl (HB.out.two _ _) Tryz.underlying29 rfl id_info2) rfl ⟨rfl, HB.out.end _ _⟩
end Go.Proofs.YtmpphhkbjmjomaaGreatDoor.Hi
