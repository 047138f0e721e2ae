/- Virtual tables: a class's own virtual methods: the walk. -/
import Derived.Test.YtipinmbpdgjalaaGreatDoorJd
import Derived.Test.YtipinmbpdgjalaaGreatDoorKA
set_option maxRecDepth 100000
set_option maxHeartbeats 4000000
set_option linter.unusedVariables false
set_option linter.unusedSimpArgs false
namespace Go.Proofs.YtipinmbpdgjalaaGreatDoor.Hi
open Go.RowKit Go.Shelf Go.Sort Bs

theorem Class4 {B bw : Nat} {w0 w : World} {m : List EntM} (h : Built B bw w0 w m) {i : Nat} (hi : i < m.length) :
    Calls Tryz.prog 20 #[.pointer (some ⟨bw, 0, none⟩), .int .i64 i] w fun r w' => ∃ (v0 v1 : ByteArray) (ia ma : Option Addr) (il ic mc : Nat) (f l : Int), r = .returned (.tuple #[.agg #[.string v0, .string v1, .slice ia il ic, .int .i64 f, .int .i64 l, .slice ma (clsAt m i).meths.length mc], .int .i64 0]) ∧ (clsAt m i).meths.length * 80 ≤ 140737488355328 ∧ Below w.heap.size w w' :=
  (Class_in h.hw h.live (entAt_nat hi)).mono fun r w' ⟨cs', h1, h2, h3⟩ => by
    obtain ⟨iv, mv, rfl, _⟩ := id h2
    obtain ⟨ia, ic, rfl, _⟩ := (ClsIs.shape h2).1
    obtain ⟨ma, mc, rfl, _, hby, _⟩ := (ClsIs.shape h2).2
    rw [clsAt_at hi]
    exact ⟨_, _, _, _, _, _, _, _, _, h1, hby, h3⟩
theorem ids_take {m : List EntM} {c j : Nat} (hj : j < (clsAt m c).meths.length) : (idsC m c).take (j + 1) = (idsC m c).take j ++ [((c : Int), (j : Int))] := by
  unfold idsC
  rw [List.take_succ_eq_append_getElem (by rw [List.length_map, List.length_range]; exact hj), List.getElem_map, List.getElem_range]
theorem VOwn {B bw : Nat} {w0 w : World} {m : List EntM} (h : Built B bw w0 w m) {c : Nat} (hc : c < m.length) :
    Calls Tryz.prog 74 #[.pointer (some ⟨bw, 0, none⟩), .int .i64 c] w fun e w' => ∃ ad k, e = .returned (.slice ad (ownV m c).length k) ∧ IdSl (fun b => w.heap.size ≤ b ∧ b < w'.heap.size) w' (.slice ad (ownV m c).length k) (ownV m c) ∧ (ownV m c).length * 80 ≤ 140737488355328 ∧ Below w.heap.size w w' := by
  have HC := Lib.hid (Class4 h hc)
  have HH := Lib.hid (fun wr (hr : Below w.heap.size w wr) => h.next hr)
  have HM : Hid (∀ j, j < (clsAt m c).meths.length → ∃ y, methAt m ((c : Int), (j : Int)) = some y) := Lib.hid (fun j hj => by
    rw [clsAt_at hc] at hj
    exact ⟨_, methAt_at hc hj⟩)
  obtain ⟨n, hn⟩ : ∃ n, (clsAt m c).meths.length = n := ⟨_, rfl⟩
  have HTK : Hid (∀ j, j < n → (idsC m c).take (j + 1) = (idsC m c).take j ++ [((c : Int), (j : Int))]) := Lib.hid (fun j hj => ids_take (by rw [hn]; exact hj))
  have HLN : Hid ((idsC m c).length = n) := Lib.hid (by unfold idsC; rw [List.length_map, List.length_range, hn])
  have HOW : Hid (ownV m c = (idsC m c).filter (virB m)) := Lib.hid rfl
  rw [hn] at HC HM
  obtain ⟨L, hL⟩ : ∃ L, ownV m c = L := ⟨_, rfl⟩
  rw [hL] at HOW ⊢
  obtain ⟨i0, hi0, hiz0, hiz1, hiz2⟩ := info_parts info_id
  clear h hc hn hL
  go_enter Tryz.func74, Tryz.ntmps74
  go_wp2_with fail
  refine HC.out.mono ?_
  rintro _ w1 ⟨v0, v1, ia, ma, il, ic, mc, cf, cl, rfl, hby, hb⟩
  obtain ⟨wx, hwx⟩ : ∃ wx, (w1.alloc (.cells #[.string v0, .string v1, .slice ia il ic, .int .i64 cf, .int .i64 cl, .slice ma n mc] 26)) = wx := ⟨_, rfl⟩
  have hbx : Below w1.heap.size w1 wx := by rw [← hwx]; exact (Below.refl _ _).alloc (Nat.le_refl _) _
  have c5 : wx.cell? ⟨w1.heap.size, 5, none⟩ = some (.slice ma n mc) := by rw [← hwx]; exact World.cell?_alloc_new ..
  have HB1 := Lib.hid (hb.trans (hbx.mono hb.size))
  clear hb hbx HC
  go_wp2_with fail
  try rw [hwx]
  clear hwx c5
  have HSZ : Hid (w.heap.size ≤ wx.heap.size) := Lib.hid HB1.out.size
  go_loopg [7, 19] n (fun gk u uu wr => ∃ (k : Nat) (ps : List (Int × Int)), Hid (k + gk = n ∧ ps = ((idsC m c).take k).filter (virB m)) ∧ uu = .int .i64 k ∧ Hid (wr.ownsRow wx.heap.size 38 2 u ps.length (ps.map idCells).flatten) ∧ Hid (Below wx.heap.size wx wr))
  case atStart => exact ⟨0, [], Lib.hid ⟨Nat.zero_add _, by simp⟩, rfl, Lib.hid (World.ownsRow_nil _ _ _ _), Lib.hid (Below.refl _ _)⟩
  case round =>
    obtain ⟨j, ps, hk, rfl, hrow, HL⟩ := hrel
    obtain ⟨ra, rc, rfl⟩ := own_slice hrow.out
    by_cases hlt : j < n
    · have hlt' : (j : Int) < (n : Int) := by omega
      have hj : (j : Int) ≤ 140737488355328 := by omega
      obtain ⟨y, hy⟩ := HM.out j hlt
      have HPL : Hid (ps.length ≤ j) := Lib.hid (by
        rw [hk.out.2]
        have h1 := List.length_filter_le (virB m) ((idsC m c).take j)
        have h2 : ((idsC m c).take j).length ≤ j := by simp; omega
        omega)
      have HPS : Hid (((idsC m c).take (j + 1)).filter (virB m) = ps ++ (if virB m ((c : Int), (j : Int)) = true then [((c : Int), (j : Int))] else [])) := Lib.hid (by
        rw [HTK.out j hlt, List.filter_append, ← hk.out.2]
        congr 1
        cases h : virB m ((c : Int), (j : Int)) <;> simp [h])
      obtain ⟨wi, hwi⟩ : ∃ wi, (wr.alloc (.cells #[.int .i64 (c : Int), .int .i64 (j : Int)] 38)) = wi := ⟨_, rfl⟩
      have hbi : Below wr.heap.size wr wi := by rw [← hwi]; exact (Below.refl _ _).alloc (Nat.le_refl _) _
      have i0' : wi.cell? ⟨wr.heap.size, 0, none⟩ = some (.int .i64 (c : Int)) := by rw [← hwi]; exact World.cell?_alloc_new ..
      have i1' : wi.cell? ⟨wr.heap.size, 1, none⟩ = some (.int .i64 (j : Int)) := by rw [← hwi]; exact World.cell?_alloc_new ..
      have HLA := Lib.hid (HL.out.trans (hbi.mono HL.out.size))
      have HID := Lib.hid (And.intro i0' i1')
      have HV := Lib.hid (VVirtual (HH.out wi (HB1.out.trans (HLA.out.mono HB1.out.size))) hy)
      have hrowA := Lib.hid (row_of_block hrow.out fun q hq => hbi.block q (own_live hrow.out hq).2)
      clear hbi hy HL hrow
      go_wp2_with fail
      try rw [hwi]
      clear hwi
      refine HV.out.mono ?_
      rintro _ w3 ⟨rfl, hb⟩
      have HL3 : Hid (Below wx.heap.size wx w3) := Lib.hid (HLA.out.trans (hb.mono HLA.out.size))
      have hrow3 := Lib.hid (row_of_block hrowA.out fun q hq => hb.block q (own_live hrowA.out hq).2)
      have k0 := below_cell' hb HID.out.1
      have k1 := below_cell' hb HID.out.2
      clear hb HV hrowA HLA HID i0' i1'
      cases hh : virB m ((c : Int), (j : Int))
      · have HN : Hid (((idsC m c).take (j + 1)).filter (virB m) = ps) := Lib.hid (by rw [HPS.out, hh]; simp)
        clear HPS hh
        go_wp2
        go_roundg (n - (j + 1))
        case measure => have := hk.out.1; omega
        case rel => exact ⟨j + 1, ps, Lib.hid ⟨by have := hk.out.1; omega, HN.out.symm⟩, by go_num, hrow3, HL3⟩
      · have HN : Hid (((idsC m c).take (j + 1)).filter (virB m) = ps ++ [((c : Int), (j : Int))]) := Lib.hid (by rw [HPS.out, hh]; rfl)
        clear HPS hh
        have HNEW : Hid (∀ i u, ([.int .i64 (c : Int), .int .i64 (j : Int)] : List Value)[i]? = some u → (w3.alloc (.cells #[.int .i64 (c : Int), .int .i64 (j : Int)] 38)).cell? ((⟨w3.heap.size, 0, none⟩ : Addr).add i) = some u) := Lib.hid (by
          intro i u hu
          rw [show (⟨w3.heap.size, 0, none⟩ : Addr).add i = ⟨w3.heap.size, i, none⟩ by unfold Addr.add; split <;> simp_all]
          rw [World.cell?_alloc_new]
          rw [← Array.getElem?_toList]
          exact hu)
        have hz3 := HL3.out.size
        go_wp2_with (first | (at_builtin; refine wpList_append_own _ rfl _ _ 72 rfl wx.heap.size 38 i0 (.agg #[.int .i64 0, .int .i64 0]) 2 16 Tryz.underlying72 hi0 hiz0 hiz1 hiz2 rfl (by decide) (.slice ra ps.length rc) ps.length (ps.map idCells).flatten rfl (hrow3.out.alloc _) ⟨w3.heap.size, 0, none⟩ 1 1 [.int .i64 (c : Int), .int .i64 (j : Int)] (by simp [Act.eval, Act.put]) rfl HNEW.out (by intro u hu; simp at hu; rcases hu with rfl | rfl <;> rfl) (by have := HPL.out; unfold maxLen; omega) (by have := HPL.out; omega) (by simp at hz3 ⊢; omega) ?_; intro v1 w6 hown1 hgrow1 hnil1; obtain ⟨g1', cap1, rfl⟩ := own_form hown1))
        have HL6 : Hid (Below wx.heap.size wx w6) := Lib.hid ((HL3.out.alloc HL3.out.size _).grown hgrow1 (by simp at hz3 ⊢; omega) (fun q hq => (own_live hrow3.out hq).1))
        have HR6 : Hid (w6.ownsRow wx.heap.size 38 2 (.slice (some ⟨g1', 0, none⟩) (ps.length + 1) cap1) (ps ++ [((c : Int), (j : Int))]).length ((ps ++ [((c : Int), (j : Int))]).map idCells).flatten) := Lib.hid (by simpa [idCells] using hown1)
        go_roundg (n - (j + 1))
        case measure => have := hk.out.1; omega
        case rel => exact ⟨j + 1, _, Lib.hid ⟨by have := hk.out.1; omega, HN.out.symm⟩, by go_num, by simpa using HR6, HL6⟩
    · have hkn : j = n := by have := hk.out.1; omega
      have HPS : Hid (ps = L) := Lib.hid (by rw [hk.out.2, hkn, ← HLN.out, List.take_length, HOW.out])
      have HPL : Hid (ps.length * 80 ≤ 140737488355328) := Lib.hid (by
        have h1 := List.length_filter_le (virB m) ((idsC m c).take j)
        have h2 : ((idsC m c).take j).length ≤ j := by simp; omega
        rw [hk.out.2]
        omega)
      clear hkn
      go_wp2
      go_ret
      have hp := HPS.out
      subst hp
      refine ⟨ra, rc, rfl, ?_, HPL.out, HB1.out.trans (HL.out.mono HB1.out.size)⟩
      exact Sl.of_own (css := ps.map idCells) hrow.out (by simp) rfl (by intro cs h; obtain ⟨p, _, rfl⟩ := List.mem_map.1 h; rfl) (fun i h => by rw [List.getElem_map]; rfl) (by have := HPL.out; omega) _ (fun b hb => by have := hrow.out.lt b hb; have := HSZ.out; omega)
end Go.Proofs.YtipinmbpdgjalaaGreatDoor.Hi
