/- Interface tables: filled, Build, Marks: the walks. -/
import Derived.Test.YtipinmbpdgjalaaGreatDoorBc
set_option maxRecDepth 100000
set_option maxHeartbeats 4000000
set_option linter.unusedVariables false
set_option linter.unusedSimpArgs false
namespace Go.Proofs.YtipinmbpdgjalaaGreatDoor.Hi
open Go.RowKit Go.Shelf Go.Sort Bs

/-- Build's answer. -/
def itbM (m : List EntM) (r : Int) : List Ety × Int := ((rootM m r).1.map (etyM m r), (rootM m r).2)
def cellsY (T : List Ety) : List Value := (T.map etyCs).flatten
theorem cellsY_snoc (T : List Ety) (t : Ety) : cellsY (T ++ [t]) = cellsY T ++ etyCs t := by unfold cellsY; simp
def EtyIs (w : World) (cs : List Value) (t : Ety) : Prop := cs = etyCs t
abbrev EtySl (S : Nat → Prop) := Sl S 8 64 EtyIs
theorem etySl_row {w : World} {n : Nat} {ra : Option Addr} {rc : Nat} {T : List Ety} (h : w.ownsRow n 68 8 (.slice ra T.length rc) T.length (cellsY T)) (hl : T.length ≤ 100000) : EtySl (fun b => n ≤ b ∧ b < w.heap.size) w (.slice ra T.length rc) T := by
  refine Sl.of_own h (css := T.map etyCs) (by simp) rfl (fun cs hcs => ?_) (fun i hi => by simp [EtyIs]) (by omega) _ (fun b hb => own_live h hb)
  obtain ⟨p, _, rfl⟩ := List.mem_map.1 hcs
  rfl
theorem EtySl.elem {S : Nat → Prop} {w : World} {a : Option Addr} {c : Nat} {xs : List Ety} (h : EtySl S w (.slice a xs.length c) xs) {k : Nat} (hk : k < xs.length) : ∃ b o, a = some ⟨b, o, none⟩ ∧ S b ∧ w.cell? ⟨b, o + k * 8, none⟩ = some (.int .i64 xs[k].1.1) ∧ w.cell? ⟨b, o + k * 8 + 1, none⟩ = some (.int .i64 xs[k].1.2) ∧ w.cell? ⟨b, o + k * 8 + 2, none⟩ = some (.int .i64 xs[k].2.1.1.1) ∧ w.cell? ⟨b, o + k * 8 + 3, none⟩ = some (.int .i64 xs[k].2.1.1.2) ∧
    w.cell? ⟨b, o + k * 8 + 4, none⟩ = some (.int .i64 xs[k].2.1.2) ∧ w.cell? ⟨b, o + k * 8 + 5, none⟩ = some (.int .i64 xs[k].2.2.1.1) ∧ w.cell? ⟨b, o + k * 8 + 6, none⟩ = some (.int .i64 xs[k].2.2.1.2) ∧ w.cell? ⟨b, o + k * 8 + 7, none⟩ = some (.int .i64 xs[k].2.2.2) := by
  obtain ⟨a', c', hf, h2, h3, h4⟩ := h
  injection hf with f1 f2 f3
  subst f1; subst f3
  rcases h4 with h4 | ⟨b, o, rfl, hS, h4⟩
  · rw [h4] at hk; simp at hk
  · obtain ⟨cs, g1, g2, rfl⟩ := h4 k hk
    exact ⟨b, o, rfl, hS, g2 0 (by simp [etyCs]), g2 1 (by simp [etyCs]), g2 2 (by simp [etyCs]), g2 3 (by simp [etyCs]), g2 4 (by simp [etyCs]), g2 5 (by simp [etyCs]), g2 6 (by simp [etyCs]), g2 7 (by simp [etyCs])⟩
theorem EtySl.carry {S : Nat → Prop} {w w' : World} {v : Value} {xs : List Ety} (h : EtySl S w v xs) (ha : Alike S w w') : EtySl S w' v xs := Sl.alike h ha fun _ _ h => h

theorem IFilled {w : World} {a : Option Addr} {cap : Nat} {xs : List (Int × Int)} (fv : Int × Int → Ety) (caps : Array Value) (hm : IdSl (fun b => b < w.heap.size) w (.slice a xs.length cap) xs) (hl : xs.length ≤ 12040)
    (hf : ∀ wr, Below w.heap.size w wr → ∀ q : Int × Int, q ∈ xs → Calls Tryz.prog 60 (#[.agg #[.int .i64 q.1, .int .i64 q.2]] ++ caps) wr fun r w' => r = .returned (.agg (etyCs (fv q)).toArray) ∧ Below wr.heap.size wr w') :
    Calls Tryz.prog 59 #[.slice a xs.length cap, .func (.func 60) #[] caps] w fun e w' => ∃ ad k, e = .returned (.slice ad xs.length k) ∧ w'.ownsRow w.heap.size 68 8 (.slice ad xs.length k) xs.length (cellsY (xs.map fv)) ∧ Below w.heap.size w w' := by
  have HM := Lib.hid hm
  have HF := Lib.hid hf
  have HSN : Hid (∀ k (hk : k < xs.length), cellsY ((xs.take (k + 1)).map fv) = cellsY ((xs.take k).map fv) ++ etyCs (fv xs[k])) := Lib.hid (fun k hk => by
    rw [List.take_succ_eq_append_getElem hk, List.map_append]
    exact cellsY_snoc _ _)
  obtain ⟨i0, hi0, hiz0, hiz1, hiz2⟩ := info_parts info_E
  clear hm hf
  go_enter Tryz.func59, Tryz.ntmps59
  go_wp2_with fail
  go_loopg [5, 10] xs.length (fun gk u uu wr => ∃ (k : Nat), Hid (k + gk = xs.length) ∧ uu = .int .i64 k ∧ Hid (wr.ownsRow w.heap.size 68 8 u k (cellsY ((xs.take k).map fv))) ∧ Hid (Below w.heap.size w wr))
  case atStart => exact ⟨0, Lib.hid (Nat.zero_add _), rfl, Lib.hid (World.ownsRow_nil _ _ _ _), Lib.hid (Below.refl _ _)⟩
  case round =>
    obtain ⟨k, hk, rfl, hrow, HB⟩ := hrel
    obtain ⟨ra, rc, rfl⟩ := own_slice hrow.out
    by_cases hlt : k < xs.length
    · have hlt' : (k : Int) < (xs.length : Int) := by omega
      obtain ⟨b, o, rfl, g0, g1⟩ := IdSl.elem (HM.out.alike (Alike.of_below HB.out fun _ h => h)) hlt
      have HSK := Lib.hid (HSN.out k hlt)
      have HFK := Lib.hid (fun wr hb => HF.out wr hb xs[k] (List.getElem_mem hlt))
      generalize xs[k] = q at g0 g1 HSK HFK
      obtain ⟨wx, hwx⟩ : ∃ wx, (wr.alloc (.cells #[.int .i64 q.1, .int .i64 q.2] 38)) = wx := ⟨_, rfl⟩
      have hbx : Below wr.heap.size wr wx := by rw [← hwx]; exact (Below.refl _ _).alloc (Nat.le_refl _) _
      have q0 : wx.cell? ⟨wr.heap.size, 0, none⟩ = some (.int .i64 q.1) := by rw [← hwx]; exact World.cell?_alloc_new ..
      have q1 : wx.cell? ⟨wr.heap.size, 1, none⟩ = some (.int .i64 q.2) := by rw [← hwx]; exact World.cell?_alloc_new ..
      have HBX := Lib.hid (HB.out.trans (hbx.mono HB.out.size))
      have HRX := Lib.hid (row_of_block hrow.out fun j hj => hbx.block j (own_live hrow.out hj).2)
      have HC := Lib.hid (HFK.out wx HBX.out)
      obtain ⟨t, ht⟩ : ∃ t, fv q = t := ⟨_, rfl⟩
      rw [ht] at HSK HC
      obtain ⟨⟨e1, e2⟩, ⟨⟨e3, e4⟩, e5⟩, ⟨⟨e6, e7⟩, e8⟩⟩ := t
      clear hbx hrow HB HFK ht
      go_wp2_with fail
      try rw [hwx]
      clear hwx g0 g1
      refine HC.out.mono ?_
      rintro _ w1 ⟨rfl, hb⟩
      have HB1 := Lib.hid (HBX.out.trans (hb.mono HBX.out.size))
      have HR1 := Lib.hid (row_of_block HRX.out fun j hj => hb.block j (own_live HRX.out hj).2)
      clear hb HC HBX HRX q0 q1
      rw [show (etyCs ((e1, e2), ((e3, e4), e5), (e6, e7), e8)).toArray = #[.int .i64 e1, .int .i64 e2, .int .i64 e3, .int .i64 e4, .int .i64 e5, .int .i64 e6, .int .i64 e7, .int .i64 e8] from rfl]
      have HNEW : Hid (∀ i u, (etyCs ((e1, e2), ((e3, e4), e5), (e6, e7), e8))[i]? = some u → (w1.alloc (.cells #[.int .i64 e1, .int .i64 e2, .int .i64 e3, .int .i64 e4, .int .i64 e5, .int .i64 e6, .int .i64 e7, .int .i64 e8] 68)).cell? ((⟨w1.heap.size, 0, none⟩ : Addr).add i) = some u) := Lib.hid (by
        intro i u hu
        rw [show (⟨w1.heap.size, 0, none⟩ : Addr).add i = ⟨w1.heap.size, i, none⟩ by unfold Addr.add; split <;> simp_all]
        rw [World.cell?_alloc_new]
        rw [← Array.getElem?_toList]
        exact hu)
      have hz1 := HB1.out.size
      have hkb : k ≤ 12040 := by omega
      go_wp2_with (first | (at_builtin; refine wpList_append_own _ rfl _ _ 59 rfl w.heap.size 68 i0 zeroE 8 64 Tryz.underlying59 hi0 hiz0 hiz1 hiz2 rfl (by decide) (.slice ra k rc) k (cellsY ((xs.take k).map fv)) rfl (HR1.out.alloc _) ⟨w1.heap.size, 0, none⟩ 1 1 (etyCs ((e1, e2), ((e3, e4), e5), (e6, e7), e8)) (by simp [Act.eval, Act.put]) rfl HNEW.out (by intro u hu; simp [etyCs] at hu; rcases hu with rfl | rfl | rfl | rfl | rfl | rfl | rfl | rfl <;> rfl) (by unfold maxLen; omega) (by omega) (by simp at hz1 ⊢; omega) ?_; intro v1 w6 hown1 hgrow1 hnil1; obtain ⟨g1', cap1, rfl⟩ := own_form hown1))
      have HB6 : Hid (Below w.heap.size w w6) := Lib.hid ((HB1.out.alloc HB1.out.size _).grown hgrow1 (by simp at hz1 ⊢; omega) (fun q hq => (own_live HR1.out hq).1))
      have HR6 : Hid (w6.ownsRow w.heap.size 68 8 (.slice (some ⟨g1', 0, none⟩) (k + 1) cap1) (k + 1) (cellsY ((xs.take (k + 1)).map fv))) := Lib.hid (by rw [HSK.out]; exact hown1)
      go_roundg (xs.length - (k + 1))
      case measure => have := hk.out; omega
      case rel => exact ⟨k + 1, Lib.hid (by have := hk.out; omega), by go_num, HR6, HB6⟩
    · have hkn : k = xs.length := by have := hk.out; omega
      subst hkn
      have HR6 : Hid (wr.ownsRow w.heap.size 68 8 (.slice ra xs.length rc) xs.length (cellsY (xs.map fv))) := Lib.hid (by have := hrow.out; rwa [List.take_length] at this)
      go_wp2
      go_ret
      exact ⟨_, _, rfl, HR6.out, HB.out⟩

theorem rootM_err {m : List EntM} (r : Int) (h : (rootM m r).2 ≠ 0) : (rootM m r).1 = [] := by
  unfold rootM at *
  split
  · rfl
  · next hh =>
    rw [hh] at h
    simp only at h
    split
    · rfl
    · next h2 => rw [if_neg h2] at h; exact absurd rfl h
theorem itb_len {m : List EntM} (r : Int) : (itbM m r).1.length = (rootM m r).1.length := by unfold itbM; simp
theorem IBuild {B bw : Nat} {w0 w : World} {m : List EntM} (h : Built B bw w0 w m) (hml : ∀ e ∈ m, e.c.meths.length ≤ 40) (r : Int) :
    Calls Tryz.prog 26 #[.pointer (some ⟨bw, 0, none⟩), .int .i64 r] w fun e w' => ∃ ad k, e = .returned (.tuple #[.slice ad (itbM m r).1.length k, .int .i64 (itbM m r).2]) ∧ w'.ownsRow w.heap.size 68 8 (.slice ad (itbM m r).1.length k) (itbM m r).1.length (cellsY (itbM m r).1) ∧ Below w.heap.size w w' := by
  obtain ⟨wp, hwp⟩ : ∃ wp, (w.alloc (.cells #[.pointer (some ⟨bw, 0, none⟩)] 28)) = wp := ⟨_, rfl⟩
  obtain ⟨wa, hwa⟩ : ∃ wa, (wp.alloc (.cells #[.int .i64 r] 3)) = wa := ⟨_, rfl⟩
  have hbp : Below w.heap.size w wp := by rw [← hwp]; exact (Below.refl _ _).alloc (Nat.le_refl _) _
  have hbq : Below wp.heap.size wp wa := by rw [← hwa]; exact (Below.refl _ _).alloc (Nat.le_refl _) _
  have hba := hbp.trans (hbq.mono hbp.size)
  have q0 : wa.cell? ⟨w.heap.size, 0, none⟩ = some (.pointer (some ⟨bw, 0, none⟩)) := below_cell' hbq (by rw [← hwp]; exact World.cell?_alloc_new ..)
  have q1 : wa.cell? ⟨wp.heap.size, 0, none⟩ = some (.int .i64 r) := by rw [← hwa]; exact World.cell?_alloc_new ..
  have HR := Lib.hid (IRoots (h.next hba) hml r)
  have HLN := Lib.hid (rootM_len h.wf h.ord hml r)
  have HE := Lib.hid (fun wr (hr : Below wa.heap.size wa wr) (q : Int × Int) => IBuild1 ((h.next hba).next hr) r q (below_cell' hr q0) (below_cell' hr q1))
  have HBA := Lib.hid hba
  have HZE : Hid ((rootM m r).2 ≠ 0 → (rootM m r).1 = []) := Lib.hid (rootM_err r)
  have HQ := Lib.hid (And.intro q0 q1)
  have HT : Hid ((itbM m r).1 = (rootM m r).1.map (etyM m r) ∧ (itbM m r).2 = (rootM m r).2) := Lib.hid ⟨rfl, rfl⟩
  generalize itbM m r = T at HT ⊢
  generalize rootM m r = R at *
  generalize etyM m r = fv at *
  obtain ⟨L, e⟩ := R
  obtain ⟨T, te⟩ := T
  simp only at *
  obtain ⟨rfl, rfl⟩ := HT.out
  have hLT : (L.map fv).length = L.length := List.length_map ..
  rw [hLT]
  clear h hbp hbq hba HT
  go_enter Tryz.func26, Tryz.ntmps26
  go_wp2_with fail
  try rw [hwp]
  try rw [hwa]
  clear hwp hwa
  refine HR.out.mono ?_
  rintro _ w1 ⟨ra, rc, rfl, hrow, hb⟩
  by_cases he : te = 0
  · subst he
    have HS1 : Hid (IdSl (fun b => b < w1.heap.size) w1 (.slice ra L.length rc) L) := Lib.hid (Sl.of_own (css := L.map idCells) hrow (by simp) rfl (by intro cs h; obtain ⟨p, _, rfl⟩ := List.mem_map.1 h; rfl) (fun i h => by rw [List.getElem_map]; rfl) (by have := HLN.out; omega) _ (fun b hb => (own_live hrow hb).2))
    have HB1 := Lib.hid hb
    have HBW := Lib.hid (HBA.out.trans (hb.mono HBA.out.size))
    have HFI := Lib.hid (IFilled fv #[.pointer (some ⟨w.heap.size, 0, none⟩), .pointer (some ⟨wp.heap.size, 0, none⟩)] HS1.out HLN.out (fun wr hr q _ => HE.out wr (HB1.out.trans (hr.mono HB1.out.size)) q))
    clear hrow hb HR HE HS1 HQ
    go_wp2_with fail
    refine HFI.out.mono ?_
    rintro _ w2 ⟨fa, fc, rfl, hrow, hb⟩
    have HB2 := Lib.hid (HBW.out.trans (hb.mono HBW.out.size))
    have HRW := Lib.hid (row_less hrow HBW.out.size)
    clear hb hrow HFI
    go_wp2
    go_ret2
    exact ⟨_, _, rfl, HRW.out, HB2.out⟩
  · have hL := HZE.out he
    subst hL
    have HB1 := Lib.hid (HBA.out.trans (hb.mono HBA.out.size))
    have he' : (te != 0) = true := by simpa using he
    clear hrow hb HR HE HQ hLT HZE
    go_wp2
    go_ret2
    exact ⟨_, _, rfl, World.ownsRow_nil _ _ _ _, HB1.out⟩
end Go.Proofs.YtipinmbpdgjalaaGreatDoor.Hi
