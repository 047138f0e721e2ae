/- Virtual tables: grow: the walk. -/
import Derived.Test.YtipinmbpdgjalaaGreatDoorJf
set_option maxRecDepth 100000
set_option maxHeartbeats 8000000
set_option linter.unusedVariables false
set_option linter.unusedSimpArgs false
namespace Go.Proofs.YtipinmbpdgjalaaGreatDoor.Hi
open Go.RowKit Go.Shelf Go.Sort Bs

theorem clone_slots {S : Nat → Prop} {w : World} {a : Option Addr} {n c : Nat} {A : List Slt} (h : SlotSl S w (.slice a n c) A) (cc : Nat) :
    Calls Tryz.prog 73 #[.slice a n cc] w fun e w' => ∃ v', e = .returned v' ∧ w'.ownsRow w.heap.size 40 4 v' n (cellsS A) ∧ Below w.heap.size w w' := by
  obtain ⟨rfl, in2, in3, css, il, ik, iR, ic'⟩ := h.rows (by decide)
  have hcs : css = A.map slotCs := List.ext_getElem (by rw [il, List.length_map]) fun i h1 h2 => by
    rw [List.getElem_map]
    exact iR i (by omega)
  have e : css.flatten = cellsS A := by rw [hcs]; rfl
  have := CloneV a A.length cc css w (by rw [flat_len _ ik, il]) in3 (fun h => ?_) (fun a ha j u hj => ?_) (fun u hu => ?_)
  · rw [e] at this
    exact this
  · rcases ic' with h0 | ⟨b, o, e, _⟩
    · rw [h0]; rfl
    · rw [h] at e; cases e
  · rcases ic' with h0 | ⟨b, o, e, _, hcell⟩
    · rw [show css = [] from List.eq_nil_of_length_eq_zero (by rw [il, h0]; rfl)] at hj
      simp at hj
    · rw [ha] at e
      injection e with e
      subst e
      rw [Addr.add_lit]
      exact hcell j u hj
  · obtain ⟨l, hl, hu'⟩ := List.mem_flatten.1 hu
    rw [hcs] at hl
    obtain ⟨s, _, rfl⟩ := List.mem_map.1 hl
    simp only [slotCs, List.mem_cons, List.not_mem_nil, or_false] at hu'
    rcases hu' with rfl | rfl | rfl | rfl <;> rfl
theorem growL_len (m : List EntM) (A : List Slt) (l : List (Int × Int)) : A.length ≤ (growL m A l).length ∧ (growL m A l).length ≤ A.length + l.length := by
  rw [growL_eq]
  unfold shapeV
  rw [List.length_append, List.length_map, List.length_map]
  have := List.length_filter_le (newB m A) l
  omega
theorem growL_succ (m : List EntM) (A : List Slt) {L : List (Int × Int)} {k : Nat} (hk : k < L.length) : growL m A (L.take (k + 1)) = stepV m A (growL m A (L.take k)) L[k] := by
  unfold growL
  rw [List.take_succ_eq_append_getElem hk, List.foldl_append]
  rfl

theorem VGrow {B bw : Nat} {w0 w : World} {m : List EntM} (h : Built B bw w0 w m) {c : Nat} (hc : c < m.length) (hml : (ownV m c).length ≤ 40) (A : List Slt) (ad : Option Addr) (cap : Nat) (hA : SlotSl (fun b => b < w.heap.size) w (.slice ad A.length cap) A) (hAr : ∀ a ∈ A, ∃ y, methAt m a.1 = some y) (hAl : A.length ≤ 12000) :
    Calls Tryz.prog 42 #[.pointer (some ⟨bw, 0, none⟩), .int .i64 c, .slice ad A.length cap] w fun e w' => ∃ v, e = .returned v ∧ w'.ownsRow w.heap.size 40 4 v (growM m c A).length (cellsS (growM m c A)) ∧ Below w.heap.size w w' := by
  have hcap : A.length ≤ cap := by obtain ⟨a', c', hf, h2, _⟩ := hA; injection hf with _ _ f3; omega
  have HCL := Lib.hid (clone_slots hA A.length)
  have HOWN := Lib.hid (fun wr (hr : Below w.heap.size w wr) => VOwn (h.next hr) hc)
  have HH := Lib.hid (fun wr (hr : Below w.heap.size w wr) => h.next hr)
  have HAS := Lib.hid hA
  have HAR := Lib.hid hAr
  have HLM : Hid (∀ q ∈ ownV m c, ∃ y, methAt m q = some y) := Lib.hid (fun q hq => by
    obtain ⟨_, _, y, hy, _⟩ := (mem_own hc).1 hq
    exact ⟨y, hy⟩)
  have HG : Hid (growM m c A = growL m A (ownV m c)) := Lib.hid rfl
  obtain ⟨ii, hi0, hiz0, hiz1, hiz2⟩ := info_parts info_V
  generalize ownV m c = L at *
  generalize growM m c A = R at *
  have hal : (A.length : Int) ≤ 12000 := by omega
  clear h hc hA hAr
  go_enter Tryz.func42, Tryz.ntmps42
  go_wp2_with fail
  refine HCL.out.mono ?_
  rintro _ w2 ⟨v2, rfl, hrow2, hb2⟩
  have HOX := Lib.hid (HOWN.out w2 hb2)
  go_wp2_with fail
  refine HOX.out.mono ?_
  rintro _ w3 ⟨la, lk, rfl, hls, hby, hb3⟩
  have HR3 := Lib.hid (row_of_block hrow2 fun q hq => hb3.block q (own_live hrow2 hq).2)
  have HRB : Hid (∀ g, v2.ownBlock = some g → (w.heap.size ≤ g ∧ g < w2.heap.size) ∨ w3.heap.size ≤ g) := Lib.hid (fun g hg => .inl (own_live hrow2 hg))
  have HB3 : Hid (Below w.heap.size w w3) := Lib.hid (hb2.trans (hb3.mono hb2.size))
  have HLS := Lib.hid hls
  have HZ : Hid (w.heap.size ≤ w2.heap.size ∧ w2.heap.size ≤ w3.heap.size) := Lib.hid ⟨hb2.size, hb3.size⟩
  clear hrow2 hb2 hb3 hls hby HCL HOWN HOX
  go_wp2_with fail
  go_loopg [7, 25] L.length (fun gk u uu wr => ∃ (k : Nat) (T : List Slt), Hid (k + gk = L.length ∧ T = growL m A (L.take k)) ∧ uu = .int .i64 k ∧ Hid (wr.ownsRow w.heap.size 40 4 u T.length (cellsS T)) ∧ Hid (Chg (fun g => w.heap.size ≤ g ∧ g < w2.heap.size) w3 wr) ∧ Hid (∀ g, u.ownBlock = some g → (w.heap.size ≤ g ∧ g < w2.heap.size) ∨ w3.heap.size ≤ g))
  case atStart => exact ⟨0, A, Lib.hid ⟨Nat.zero_add _, by simp [growL]⟩, rfl, HR3, Lib.hid (Chg.refl _ _), HRB⟩
  case round =>
    obtain ⟨k, T, hk, rfl, hrow, hchg, hrb⟩ := hrel
    obtain ⟨ra, rc, rfl⟩ := own_slice hrow.out
    have hTl : A.length ≤ T.length ∧ T.length ≤ A.length + k := by
      rw [hk.out.2]
      have := growL_len m A (L.take k)
      have h2 : (L.take k).length ≤ k := by simp; omega
      omega
    have HBW : Hid (Below w.heap.size w wr) := Lib.hid (HB3.out.trans (hchg.out.below HB3.out.size fun q hq hf => by omega))
    by_cases hlt : k < L.length
    · have hlt' : (k : Int) < (L.length : Int) := by omega
      have hk40 : (k : Int) ≤ 40 := by omega
      obtain ⟨lb, lo, rfl, g0, g1⟩ := IdSl.elem (HLS.out.alike (Alike.of_chg hchg.out fun g hg => ⟨hg.2, fun hf => by have := hg.1; omega⟩)) hlt
      obtain ⟨y, hy⟩ := HLM.out L[k] (List.getElem_mem hlt)
      have HGS : Hid (growL m A (L.take (k + 1)) = stepV m A T L[k]) := Lib.hid (by rw [growL_succ m A hlt, ← hk.out.2])
      have HKG : Hid (k + gk = L.length) := Lib.hid hk.out.1
      obtain ⟨q, hq⟩ : ∃ q, L[k] = q := ⟨_, rfl⟩
      rw [hq] at g0 g1 hy HGS
      have HYM := Lib.hid hy
      have HTL := Lib.hid hTl
      obtain ⟨wi, hwi⟩ : ∃ wi, (wr.alloc (.cells #[.int .i64 q.1, .int .i64 q.2] 38)) = wi := ⟨_, rfl⟩
      have q0 : wi.cell? ⟨wr.heap.size, 0, none⟩ = some (.int .i64 q.1) := by rw [← hwi]; exact World.cell?_alloc_new ..
      have q1 : wi.cell? ⟨wr.heap.size, 1, none⟩ = some (.int .i64 q.2) := by rw [← hwi]; exact World.cell?_alloc_new ..
      have HRW := Lib.hid (show wi.ownsRow w.heap.size 40 4 (.slice ra T.length rc) T.length (cellsS T) by rw [← hwi]; exact hrow.out.alloc _)
      have HCW := Lib.hid (show Chg (fun g => w.heap.size ≤ g ∧ g < w2.heap.size) w3 wi by rw [← hwi]; exact hchg.out.alloc _)
      have HQB : Hid (∀ g, ra = some ⟨g, 0, none⟩ → g < wr.heap.size ∧ g ≠ wr.heap.size) := Lib.hid (fun g hg => by
        have := (own_live hrow.out (g := g) (by rw [hg]; rfl)).2
        omega)
      have HQ := Lib.hid (And.intro q0 q1)
      clear hq hy hrow hchg hk hTl
      go_wp2_with fail
      try rw [hwi]
      clear hwi g0 g1 q0 q1
      generalize wr.heap.size = bz at HQ HQB ⊢
      go_loopg [10, 31] A.length (fun gi u10 u31 wr => ∃ i : Nat, Hid (i + gi = A.length) ∧ u10 = .bool ((A.take i).any fun a => hitB m q a.1) ∧ u31 = .int .i64 i ∧ Hid (wr.ownsRow w.heap.size 40 4 (.slice ra T.length rc) T.length (cellsS (setS m q (A.take i) T))) ∧ Hid (Chg (fun g => w.heap.size ≤ g ∧ g < w2.heap.size) w3 wr) ∧ Hid (wr.cell? ⟨bz, 0, none⟩ = some (.int .i64 q.1) ∧ wr.cell? ⟨bz, 1, none⟩ = some (.int .i64 q.2)))
      case atStart => exact ⟨0, Lib.hid (Nat.zero_add _), rfl, rfl, Lib.hid (by simpa [setS] using HRW.out), HCW, HQ⟩
      case round =>
        clear HRW HCW HQ
        obtain ⟨i, hi, rfl, rfl, HRV, HCV, HQV⟩ := hrel
        have HBV : Hid (Below w.heap.size w wr) := Lib.hid (HB3.out.trans (HCV.out.below HB3.out.size fun q hq hf => by omega))
        by_cases hil : i < A.length
        · have hil' : (i : Int) < (A.length : Int) := by omega
          have hiT : (i : Int) < (T.length : Int) := by have := HTL.out; omega
          obtain ⟨ab, ao, rfl, _, r0, r1, _, _⟩ := SlotSl.elem (Sl.alike HAS.out (Alike.of_below HBV.out fun _ h => h) fun _ _ h => h) hil
          obtain ⟨z, hz⟩ := HAR.out A[i] (List.getElem_mem hil)
          have HSU : Hid (setS m q (A.take (i + 1)) T = if hitB m q A[i].1 = true then (setS m q (A.take i) T).set i (T[i]'(by have := HTL.out; omega) |>.1, q) else setS m q (A.take i) T) := Lib.hid (setS_succ hil (by have := HTL.out; omega))
          have HAN : Hid ((A.take (i + 1)).any (fun a => hitB m q a.1) = ((A.take i).any (fun a => hitB m q a.1) || hitB m q A[i].1)) := Lib.hid (any_succ hil)
          have HHB : Hid (hitB m q A[i].1 = (alikeB m q A[i].1 && (ovR m q A[i].1).1)) := Lib.hid rfl
          obtain ⟨ro, hro⟩ : ∃ x, A[i].1 = x := ⟨_, rfl⟩
          rw [hro] at r0 r1 hz HSU HAN HHB
          have k0 := cell_regrown HQV.out.1
          have k1 := cell_regrown HQV.out.2
          have k2 := cell_regrown r0
          have k3 := cell_regrown r1
          have cA : ∀ d os, Calls Tryz.prog 75 #[.pointer (some ⟨bw, 0, none⟩), .agg #[.int .i64 q.1, .int .i64 q.2], .agg #[.int .i64 ro.1, .int .i64 ro.2]] (grow (redrawn wr d) os) fun e w'' => e = .returned (.bool (alikeB m q ro)) ∧ ∃ p : Regrown, w'' = grow (redrawn wr p.d) p.os := fun d os => Calls.regrown_of (VAlike (HH.out _ (HBV.out.trans ((below_regrown wr d os).mono HBV.out.size))) HYM.out hz)
          have cO : ∀ d os, Calls Tryz.prog 76 #[.pointer (some ⟨bw, 0, none⟩), .agg #[.int .i64 q.1, .int .i64 q.2], .agg #[.int .i64 ro.1, .int .i64 ro.2]] (grow (redrawn wr d) os) fun e w'' => e = .returned (.bool (ovR m q ro).1) ∧ ∃ p : Regrown, w'' = grow (redrawn wr p.d) p.os := fun d os => Calls.regrown_of (VOverrides (HH.out _ (HBV.out.trans ((below_regrown wr d os).mono HBV.out.size))) q ro)
          generalize alikeB m q ro = al at cA HHB
          generalize (ovR m q ro).1 = ov at cO HHB
          clear hro hz r0 r1
          cases al
          all_goals
            go_wp2_with fail
            refine wp_region_quiet_below (by kernel_rfl) (by kernel_rfl) ?_
            repeat (with_reducible refine wpQuiet_step (fun K hK => ?_); go_simp; first | (with_reducible refine hK _ ?_; clear hK K) | (apply Exists.intro; refine ⟨fun _ => ?_, hK _ ?_⟩; (go_at_call 75; exact cA _ _); clear hK K) | (apply Exists.intro; refine ⟨fun _ => ?_, hK _ ?_⟩; (go_at_call 76; exact cO _ _); clear hK K))
            with_reducible refine wpQuiet_nil ?_
            intro _ hw'
            obtain ⟨⟨dq, osq⟩, hw''⟩ := hw'
            subst hw''
            have hbq := below_regrown wr dq osq
            have q0 := k0 dq osq
            have q1 := k1 dq osq
            have HRQ : Hid ((grow (redrawn wr dq) osq).ownsRow w.heap.size 40 4 (.slice ra T.length rc) T.length (cellsS (setS m q (A.take i) T))) := Lib.hid (row_of_block HRV.out fun q hq => hbq.block q (own_live HRV.out hq).2)
            have HCQ : Hid (Chg (fun g => w.heap.size ≤ g ∧ g < w2.heap.size) w3 (grow (redrawn wr dq) osq)) := Lib.hid (HCV.out.trans (Chg.of_below (F := fun _ => False) hbq) fun _ _ h => h.elim)
            clear k0 k1 k2 k3 cA cO hbq HRV HCV HQV HBV
            generalize grow (redrawn wr dq) osq = w5 at q0 q1 HRQ HCQ ⊢
          · have HB : Hid (hitB m q ro = false) := Lib.hid (by rw [HHB.out]; rfl)
            rw [HB.out, Bool.or_false] at HAN
            go_wp2
            go_roundg (A.length - (i + 1))
            case measure => have := hi.out; omega
            case rel => exact ⟨i + 1, Lib.hid (by have := hi.out; omega), by rw [HAN.out], by go_num, Lib.hid (by rw [HSU.out, HB.out]; exact HRQ.out), HCQ, Lib.hid ⟨q0, q1⟩⟩
          · cases ov with
            | false =>
              have HB : Hid (hitB m q ro = false) := Lib.hid (by rw [HHB.out]; rfl)
              rw [HB.out, Bool.or_false] at HAN
              go_wp2
              go_roundg (A.length - (i + 1))
              case measure => have := hi.out; omega
              case rel => exact ⟨i + 1, Lib.hid (by have := hi.out; omega), by rw [HAN.out], by go_num, Lib.hid (by rw [HSU.out, HB.out]; exact HRQ.out), HCQ, Lib.hid ⟨q0, q1⟩⟩
            | true =>
              have HB : Hid (hitB m q ro = true) := Lib.hid (by rw [HHB.out]; rfl)
              rw [HB.out, Bool.or_true] at HAN
              have hTi : i < T.length := by have := HTL.out; omega
              obtain ⟨g, gc, hgf, hgb, hgl⟩ := HRQ.out.form (by omega)
              obtain ⟨rfl, rfl⟩ : ra = some ⟨g, 0, none⟩ ∧ rc = gc := by injection hgf with a1 a2 a3; exact ⟨a1, a3⟩
              have hT' : (setS m q (A.take i) T).length = T.length := setS_len (by rw [List.length_take]; have := HTL.out; omega)
              have hTi' : i < (setS m q (A.take i) T).length := by omega
              obtain ⟨e0, e1, e2, e3⟩ := cellsS_get (setS m q (A.take i) T) i hTi'
              obtain ⟨n2, c2⟩ : ∃ v, w5.cell? ⟨g, i * 4 + 2, none⟩ = some v := ⟨_, (HRQ.out.cellAt (i * 4 + 2) (by omega)).trans e2⟩
              obtain ⟨n3, c3⟩ : ∃ v, w5.cell? ⟨g, i * 4 + 3, none⟩ = some v := ⟨_, (HRQ.out.cellAt (i * 4 + 3) (by omega)).trans e3⟩
              have f2 := HRQ.out.frozenAt (i * 4 + 2)
              have f3 := HRQ.out.frozenAt (i * 4 + 3)
              have s1 := (HRQ.out.stored (i * 4 + 2) (.int .i64 q.1)).1
              have s2 := (s1.stored (i * 4 + 3) (.int .i64 q.2)).1
              rw [cellsS_set _ i hTi' q, setS_keeps i hTi (by rw [List.length_take]; omega) hTi'] at s2
              have hne := (HQB.out g rfl).2
              have b0 := (setCell_off (w := w5.setCell ⟨g, i * 4 + 2, none⟩ (.int .i64 q.1)) (v := .int .i64 q.2) (b := g) (o := i * 4 + 3) (b' := bz) (o' := 0) (.inl hne)).trans ((setCell_off (.inl hne)).trans q0)
              have b1 := (setCell_off (w := w5.setCell ⟨g, i * 4 + 2, none⟩ (.int .i64 q.1)) (v := .int .i64 q.2) (b := g) (o := i * 4 + 3) (b' := bz) (o' := 1) (.inl hne)).trans ((setCell_off (.inl hne)).trans q1)
              have hFg : w3.heap.size ≤ g ∨ (w.heap.size ≤ g ∧ g < w2.heap.size) := (hrb.out g rfl).elim .inr .inl
              have hch := (HCQ.out.setCell (a := ⟨g, i * 4 + 2, none⟩) hFg (.int .i64 q.1)).setCell (a := ⟨g, i * 4 + 3, none⟩) hFg (.int .i64 q.2)
              have HS2 := Lib.hid s2
              have HB2 := Lib.hid (And.intro b0 b1)
              have HCH := Lib.hid hch
              clear s1 s2 b0 b1 hch hFg hne e0 e1 e2 e3 hgf hgb hgl hT' hTi'
              go_wp2
              go_roundg (A.length - (i + 1))
              case measure => have := hi.out; omega
              case rel => exact ⟨i + 1, Lib.hid (by have := hi.out; omega), by rw [HAN.out], by go_num, Lib.hid (by rw [HSU.out, HB.out]; exact HS2.out), HCH, HB2⟩
        · have hin : i = A.length := by have := hi.out; omega
          have HRT : Hid (wr.ownsRow w.heap.size 40 4 (.slice ra T.length rc) T.length (cellsS (setS m q A T))) := Lib.hid (by have := HRV.out; rw [hin, List.take_length] at this; exact this)
          rw [hin, List.take_length]
          have HMM := Lib.hid (OMethod_some (HH.out wr HBV.out) HYM.out)
          have HNB0 : Hid (newB m A q = (!(A.any fun a => hitB m q a.1) || !(bits .and .i64 y.flags 5 != 0))) := Lib.hid (by unfold newB pubB; rw [HYM.out])
          have q0 := HQV.out.1
          have q1 := HQV.out.2
          clear HRV hin hil hi
          generalize (A.any fun a => hitB m q a.1) = an at HNB0 ⊢
          go_wp2_with fail
          refine HMM.out.mono ?_
          rintro _ w5 ⟨ya, yq, yc, rfl, hb⟩
          obtain ⟨wy, hwy⟩ : ∃ wy, (w5.alloc (.cells #[.string y.name, .string y.desc, .int .i64 y.flags, .int .i64 y.locals, .int .i64 y.stack, .slice ya yq yc] 55)) = wy := ⟨_, rfl⟩
          have hby : Below w5.heap.size w5 wy := by rw [← hwy]; exact (Below.refl _ _).alloc (Nat.le_refl _) _
          have y2 : wy.cell? ⟨w5.heap.size, 2, none⟩ = some (.int .i64 y.flags) := by rw [← hwy]; exact World.cell?_alloc_new ..
          have hb' := hb.trans (hby.mono hb.size)
          have HRY := Lib.hid (row_of_block HRT.out fun q hq => hb'.block q (own_live HRT.out hq).2)
          have HCY : Hid (Chg (fun g => w.heap.size ≤ g ∧ g < w2.heap.size) w3 wy) := Lib.hid (HCV.out.trans (Chg.of_below (F := fun _ => False) hb') fun _ _ h => h.elim)
          have HBY := Lib.hid (HBV.out.trans (hb'.mono HBV.out.size))
          have q0 := below_cell' hb' HQV.out.1
          have q1 := below_cell' hb' HQV.out.2
          clear hb hby hb' HMM HRT HCV HQV HBV
          cases an with
          | false =>
            have HNB : Hid (newB m A q = true) := Lib.hid (by rw [HNB0.out]; rfl)
            clear HNB0
            have HSTEP : Hid (stepV m A T q = setS m q A T ++ [(q, q)]) := Lib.hid (by unfold stepV; rw [HNB.out]; rfl)
            have HNEW : Hid (∀ j u, ([.int .i64 q.1, .int .i64 q.2, .int .i64 q.1, .int .i64 q.2] : List Value)[j]? = some u → (wy.alloc (.cells #[.int .i64 q.1, .int .i64 q.2, .int .i64 q.1, .int .i64 q.2] 40)).cell? ((⟨wy.heap.size, 0, none⟩ : Addr).add j) = some u) := Lib.hid (by
              intro j u hu
              rw [Addr.add_lit, Nat.zero_add]
              rw [World.cell?_alloc_new]
              rw [← Array.getElem?_toList]
              exact hu)
            have HTb := HTL.out
            have hzw : w.heap.size ≤ wy.heap.size := HBY.out.size
            go_wp2_with (first | (at_builtin; refine wpList_append_lies _ rfl _ _ 30 rfl w.heap.size 40 ii zeroV 4 32 Tryz.underlying30 hi0 hiz0 hiz1 hiz2 rfl (by decide) (.slice ra T.length rc) T.length (cellsS (setS m q A T)) rfl (HRY.out.alloc _) ⟨wy.heap.size, 0, none⟩ 1 1 [.int .i64 q.1, .int .i64 q.2, .int .i64 q.1, .int .i64 q.2] (by simp [Act.eval, Act.put]) rfl HNEW.out (by intro u hu; simp at hu; rcases hu with rfl | rfl | rfl | rfl <;> rfl) (by decide) (by unfold maxLen; omega) (by omega) (by simp; omega) _ rfl ?_; intro g' cap' w6 hown hgrow hat hlt6))
            have hyz : w3.heap.size ≤ wy.heap.size := HCY.out.size
            have hat' : (Value.slice ra T.length rc).ownBlock = some g' ∨ w3.heap.size ≤ g' := hat.imp id (fun e => by rw [e]; simp; omega)
            have HL6 : Hid (Chg (fun g => w.heap.size ≤ g ∧ g < w2.heap.size) w3 w6) := Lib.hid ((HCY.out.alloc _).grown hgrow (fun q hq => (hrb.out q hq).elim .inr .inl))
            have HR6 : Hid (w6.ownsRow w.heap.size 40 4 (.slice (some ⟨g', 0, none⟩) (T.length + 1) cap') (T.length + 1) (cellsS (setS m q A T ++ [(q, q)]))) := Lib.hid (by rw [cellsS_app]; exact hown)
            have HRB6 : Hid (∀ g, (Value.slice (some ⟨g', 0, none⟩) (T.length + 1) cap').ownBlock = some g → (w.heap.size ≤ g ∧ g < w2.heap.size) ∨ w3.heap.size ≤ g) := Lib.hid (fun g hg => by
              have e : g' = g := by simpa [Value.ownBlock] using hg
              subst e
              exact hat'.elim (fun h => hrb.out g' h) .inr)
            have hTn : (setS m q A T ++ [(q, q)]).length = T.length + 1 := by rw [List.length_append, setS_len HTL.out.1]; rfl
            clear hown hgrow hat hlt6 hat'
            try go_wp2
            go_roundg (L.length - (k + 1))
            case measure => have := HKG.out; omega
            case rel => exact ⟨k + 1, setS m q A T ++ [(q, q)], Lib.hid ⟨by have := HKG.out; omega, by rw [HGS.out, HSTEP.out]⟩, by go_num, Lib.hid (by rw [hTn]; exact HR6.out), HL6, HRB6⟩
          | true =>
            cases h5 : (bits .and .i64 y.flags 5 == 0) with
            | true =>
              have HNB : Hid (newB m A q = true) := Lib.hid (by rw [HNB0.out]; simp [bne, h5])
              clear HNB0
              have HSTEP : Hid (stepV m A T q = setS m q A T ++ [(q, q)]) := Lib.hid (by unfold stepV; rw [HNB.out]; rfl)
              have HNEW : Hid (∀ j u, ([.int .i64 q.1, .int .i64 q.2, .int .i64 q.1, .int .i64 q.2] : List Value)[j]? = some u → (wy.alloc (.cells #[.int .i64 q.1, .int .i64 q.2, .int .i64 q.1, .int .i64 q.2] 40)).cell? ((⟨wy.heap.size, 0, none⟩ : Addr).add j) = some u) := Lib.hid (by
                intro j u hu
                rw [Addr.add_lit, Nat.zero_add]
                rw [World.cell?_alloc_new]
                rw [← Array.getElem?_toList]
                exact hu)
              have HTb := HTL.out
              have hzw : w.heap.size ≤ wy.heap.size := HBY.out.size
              go_wp2_with (first | (at_builtin; refine wpList_append_lies _ rfl _ _ 30 rfl w.heap.size 40 ii zeroV 4 32 Tryz.underlying30 hi0 hiz0 hiz1 hiz2 rfl (by decide) (.slice ra T.length rc) T.length (cellsS (setS m q A T)) rfl (HRY.out.alloc _) ⟨wy.heap.size, 0, none⟩ 1 1 [.int .i64 q.1, .int .i64 q.2, .int .i64 q.1, .int .i64 q.2] (by simp [Act.eval, Act.put]) rfl HNEW.out (by intro u hu; simp at hu; rcases hu with rfl | rfl | rfl | rfl <;> rfl) (by decide) (by unfold maxLen; omega) (by omega) (by simp; omega) _ rfl ?_; intro g' cap' w6 hown hgrow hat hlt6))
              have hyz : w3.heap.size ≤ wy.heap.size := HCY.out.size
              have hat' : (Value.slice ra T.length rc).ownBlock = some g' ∨ w3.heap.size ≤ g' := hat.imp id (fun e => by rw [e]; simp; omega)
              have HL6 : Hid (Chg (fun g => w.heap.size ≤ g ∧ g < w2.heap.size) w3 w6) := Lib.hid ((HCY.out.alloc _).grown hgrow (fun q hq => (hrb.out q hq).elim .inr .inl))
              have HR6 : Hid (w6.ownsRow w.heap.size 40 4 (.slice (some ⟨g', 0, none⟩) (T.length + 1) cap') (T.length + 1) (cellsS (setS m q A T ++ [(q, q)]))) := Lib.hid (by rw [cellsS_app]; exact hown)
              have HRB6 : Hid (∀ g, (Value.slice (some ⟨g', 0, none⟩) (T.length + 1) cap').ownBlock = some g → (w.heap.size ≤ g ∧ g < w2.heap.size) ∨ w3.heap.size ≤ g) := Lib.hid (fun g hg => by
                have e : g' = g := by simpa [Value.ownBlock] using hg
                subst e
                exact hat'.elim (fun h => hrb.out g' h) .inr)
              have hTn : (setS m q A T ++ [(q, q)]).length = T.length + 1 := by rw [List.length_append, setS_len HTL.out.1]; rfl
              clear hown hgrow hat hlt6 hat'
              try go_wp2
              go_roundg (L.length - (k + 1))
              case measure => have := HKG.out; omega
              case rel => exact ⟨k + 1, setS m q A T ++ [(q, q)], Lib.hid ⟨by have := HKG.out; omega, by rw [HGS.out, HSTEP.out]⟩, by go_num, Lib.hid (by rw [hTn]; exact HR6.out), HL6, HRB6⟩
            | false =>
              have HNB : Hid (newB m A q = false) := Lib.hid (by rw [HNB0.out]; simp [bne, h5])
              have HSTEP : Hid (stepV m A T q = setS m q A T) := Lib.hid (by unfold stepV; rw [HNB.out]; rfl)
              have hTn : (setS m q A T).length = T.length := setS_len HTL.out.1
              go_wp2
              try rw [hwy]
              go_roundg (L.length - (k + 1))
              case measure => have := HKG.out; omega
              case rel => exact ⟨k + 1, setS m q A T, Lib.hid ⟨by have := HKG.out; omega, by rw [HGS.out, HSTEP.out]⟩, by go_num, Lib.hid (by rw [hTn]; exact HRY.out), HCY, hrb⟩
    · have hkn : k = L.length := by have := hk.out.1; omega
      have HT : Hid (T = R) := Lib.hid (by rw [hk.out.2, hkn, List.take_length, HG.out])
      clear hkn
      go_wp2
      go_ret
      have ht := HT.out
      subst ht
      exact ⟨_, rfl, hrow.out, HBW.out⟩
end Go.Proofs.YtipinmbpdgjalaaGreatDoor.Hi
