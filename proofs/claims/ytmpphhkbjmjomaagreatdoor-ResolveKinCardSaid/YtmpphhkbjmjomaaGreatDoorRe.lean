/- Looking a method up along roads. -/
import Derived.Test.YtmpphhkbjmjomaaGreatDoorRd
set_option maxRecDepth 100000
set_option maxHeartbeats 2000000
set_option linter.unusedVariables false
set_option linter.unusedSimpArgs false
namespace Go.Proofs.YtmpphhkbjmjomaaGreatDoor.Hi
open Go.RowKit Bs

/-- What going along n roads comes to. -/
def Along (Q : Nat → Int × Int → Int → Prop) (n : Nat) (p : Int × Int) (e : Int) : Prop :=
  (e = 0 ∧ ∃ k, k < n ∧ Q k p 0 ∧ ∀ j, j < k → ∃ p' e', Q j p' e' ∧ e' ≠ 0) ∨ (p = (0, 0) ∧ e = 21 ∧ ∀ j, j < n → ∃ p' e', Q j p' e' ∧ e' ≠ 0)
def IsRoad (f : Nat) : Prop := f = 63 ∨ f = 61 ∨ f = 62 ∨ f = 78 ∨ f = 79

theorem Look_in {bw : Nat} {w : World} {c : Int} {ifc : Bool} {g k : Nat} (n d : ByteArray) (hk : k ≤ 4) (fs : List Nat) (hfl : fs.length = k) (hcell : ∀ j (hj : j < fs.length), w.cell? ⟨g, j, none⟩ = some (roadV fs[j])) (HC0 : ∀ wr, Below w.heap.size w wr → Calls Tryz.prog 20 #[.pointer (some ⟨bw, 0, none⟩), .int .i64 c] wr fun r w' => ∃ (v0 v1 : ByteArray) (ia ma : Option Addr) (il ic ml mc : Nat) (f l : Int), r = .returned (.tuple #[.agg #[.string v0, .string v1, .slice ia il ic, .int .i64 f, .int .i64 l, .slice ma ml mc], .int .i64 0]) ∧ Below wr.heap.size wr w')
    (HI0 : ∀ wr, Below w.heap.size w wr → Calls Tryz.prog 14 #[.pointer (some ⟨bw, 0, none⟩), .int .i64 c] wr fun r w' => r = .returned (.bool ifc) ∧ Below wr.heap.size wr w')
    (Q : Nat → Int × Int → Int → Prop) (hf : ∀ j (hj : j < (fs ++ [78, 79]).length), IsRoad (fs ++ [78, 79])[j])
    (HR0 : ∀ wr, Below w.heap.size w wr → ∀ j (hj : j < (fs ++ [78, 79]).length), Calls Tryz.prog (fs ++ [78, 79])[j] #[.pointer (some ⟨bw, 0, none⟩), .int .i64 c, .string n, .string d] wr fun r w' => ∃ p e, r = .returned (.tuple #[idV p, .int .i64 e]) ∧ Q j p e ∧ Below wr.heap.size wr w') :
    Calls Tryz.prog 60 #[.pointer (some ⟨bw, 0, none⟩), .int .i64 c, .string n, .string d, .bool ifc, .slice (some ⟨g, 0, none⟩) k k] w fun r w' => ∃ p e, r = .returned (.tuple #[idV p, .int .i64 e]) ∧ Along Q (k + 2) p e ∧ Below w.heap.size w w' := by
  have HS := Lib.hid (IdAt.start w)
  have HC := Lib.hid (HC0 _ HS.out.bel)
  have HI := Lib.hid HI0
  have HR := Lib.hid HR0
  have HRO := Lib.hid hf
  have hlen : (fs ++ [78, 79]).length = k + 2 := by simp [hfl]
  have HLN := Lib.hid hlen
  clear HC0 HI0 HR0 hf hlen
  cases ifc
  all_goals
    go_enter Tryz.func60, Tryz.ntmps60
    go_wp2_with fail
    refine HC.out.mono ?_
    rintro _ w1 ⟨v0, v1, ia, ma, il, ic, ml, mc, f, l, rfl, hb⟩
    have HB1 := Lib.hid ((HS.out.next hb).next ((Below.refl w1.heap.size w1).alloc (Nat.le_refl _) (.cells #[.string v0, .string v1, .slice ia il ic, .int .i64 f, .int .i64 l, .slice ma ml mc] 54)))
    clear hb HC HS
    go_wp2_with fail
    refine (HI.out _ HB1.out.bel).mono ?_
    rintro _ w2 ⟨rfl, hb⟩
    have HB2 := Lib.hid (HB1.out.next hb)
    clear hb HI HB1
    have hb2 := (Below.refl w2.heap.size w2).alloc (Nat.le_refl _) (.cells #[roadV 78, roadV 79] 137)
    obtain ⟨cap, w3, hr, hb3, hc3⟩ := run_roads (w := w2.alloc (.cells #[roadV 78, roadV 79] 137)) (g := g) (k := k) fs hfl hk (fun j hj => below_cell' hb2 (below_cell' HB2.out.bel (hcell j hj))) (q := w2.heap.size) 78 79 (World.cell?_alloc_new ..) (World.cell?_alloc_new ..) 136
    have HB3 := Lib.hid ((HB2.out.next hb2).next hb3)
    obtain ⟨rb, hrb⟩ : ∃ rb, (w2.alloc (.cells #[roadV 78, roadV 79] 137)).heap.size = rb := ⟨_, rfl⟩
    rw [hrb] at hr hc3
    have HC3 := Lib.hid hc3
    unfold roadV at hr
    clear hb2 hb3 hrb HB2 hc3 hcell hfl
    generalize (fs ++ [78, 79]) = F at *
    go_wp2_with (at_builtin; go_loud (refine Lib.wpList_append_run _ rfl _ _ _ _ rfl _ _ rfl rfl _ _ hr ?_))
    go_loopg [43] (k + 2) (fun gk u wr => ∃ j : Nat, Hid (j + gk = k + 2 ∧ ∀ i, i < j → ∃ p' e', Q i p' e' ∧ e' ≠ 0) ∧ u = .int .i64 j ∧ Hid (IdAt w wr ∧ Below w3.heap.size w3 wr))
    case atStart => exact ⟨0, Lib.hid ⟨Nat.zero_add _, fun i hi => absurd hi (Nat.not_lt_zero _)⟩, by go_num, Lib.hid ⟨HB3.out, Below.refl _ _⟩⟩
    case round =>
      clear HB3 hr
      obtain ⟨j, hj, rfl, HB⟩ := hrel
      by_cases hlt : j < k + 2
      · have hlt' : (j : Int) < (k : Int) + 2 := by omega
        have hj0 : (0 : Int) ≤ (j : Int) := by omega
        have hjF : j < F.length := by rw [HLN.out]; exact hlt
        have g0 := below_cell' HB.out.2 (HC3.out j hjF)
        have HX := Lib.hid (HR.out wr HB.out.1.bel j hjF)
        have hro := HRO.out j hjF
        unfold roadV at g0
        generalize F[j] = fn at g0 HX hro
        rcases hro with rfl | rfl | rfl | rfl | rfl
        all_goals
          go_wp2_with fail
          refine HX.out.mono ?_
          rintro _ w4 ⟨p, e, rfl, hq, hb⟩
          have HQ := Lib.hid hq
          have HB4 := Lib.hid ((HB.out.1.next hb).next ((Below.refl w4.heap.size w4).alloc (Nat.le_refl _) (.cells #[.int .i64 p.1, .int .i64 p.2] 29)))
          have HBB : Hid (Below w3.heap.size w3 (w4.alloc (.cells #[.int .i64 p.1, .int .i64 p.2] 29))) := Lib.hid ((HB.out.2.trans (hb.mono HB.out.2.size)).alloc (Nat.le_trans HB.out.2.size hb.size) _)
          clear hb hq HX g0
          unfold idV
          by_cases he : e = 0
          · subst he
            have s0 := HB4.out.s0
            have s1 := HB4.out.s1
            have t0 := HB4.out.t 0
            have t1 := HB4.out.t 1
            have m0 : (w4.alloc (.cells #[.int .i64 p.1, .int .i64 p.2] 29)).cell? ⟨w4.heap.size, 0, none⟩ = some (.int .i64 p.1) := World.cell?_alloc_new ..
            have m1 : (w4.alloc (.cells #[.int .i64 p.1, .int .i64 p.2] 29)).cell? ⟨w4.heap.size, 1, none⟩ = some (.int .i64 p.2) := World.cell?_alloc_new ..
            go_wp2
            refine bodyPost_ret (results_cells_tmp rfl _ _ w.heap.size [.int .i64 p.1, .int .i64 p.2] _ rfl (HB4.out.two _ _) Tryz.underlying29 rfl id_info2) rfl ⟨p, 0, rfl, .inl ⟨rfl, j, hlt, HQ.out, hj.out.2⟩, HB4.out.end _ _⟩
          · have he' : (e == 0) = false := by simpa using he
            have HE := Lib.hid he
            clear he
            go_wp2
            go_roundg (k + 2 - (j + 1))
            case measure => have := hj.out.1; omega
            case rel => exact ⟨j + 1, Lib.hid ⟨by have := hj.out.1; omega, fun i hi => by
              rcases Nat.lt_succ_iff_lt_or_eq.1 hi with h | rfl
              · exact hj.out.2 i h
              · exact ⟨p, e, HQ.out, HE.out⟩⟩, by go_num, Lib.hid ⟨HB4.out, HBB.out⟩⟩
      · have s0 := HB.out.1.s0
        have s1 := HB.out.1.s1
        have t0 := HB.out.1.t 0
        have t1 := HB.out.1.t 1
        have HJ : Hid (j = k + 2) := Lib.hid (by have := hj.out.1; omega)
        go_wp2
        refine bodyPost_ret (results_cells_tmp rfl _ _ w.heap.size [.int .i64 0, .int .i64 0] _ rfl (HB.out.1.two _ _) Tryz.underlying29 rfl id_info2) rfl ⟨(0, 0), 21, rfl, .inr ⟨rfl, rfl, fun i hi => hj.out.2 i (by rw [HJ.out]; exact hi)⟩, HB.out.1.end _ _⟩
end Go.Proofs.YtmpphhkbjmjomaaGreatDoor.Hi
