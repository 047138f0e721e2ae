/- maxspec.Max. -/
import Derived.Test.YtiiebakblkpkeaaGreatDoorKd
set_option maxRecDepth 100000
set_option maxHeartbeats 1000000
set_option linter.unusedVariables false
set_option linter.unusedSimpArgs false
namespace Go.Proofs.YtiiebakblkpkeaaGreatDoor.Hi
open Go.RowKit Bs

theorem cand_len {m : List EntM} (hw : WFm m) {c : Nat} (hc : c < m.length) (n d : ByteArray) : (candM m c n d).length ≤ 300 := by
  have h1 := List.length_filterMap_le (candAt m n d) (clo m c)
  have h2 := (clo_fits hw hc).2
  rw [← clo_at hc] at h2
  unfold candM
  omega
theorem ids_of_own {w : World} {B : Nat} {ad : Option Addr} {k : Nat} {L : List (Int × Int)} (h : w.ownsRow B 24 2 (.slice ad L.length k) L.length (L.map idCells).flatten) (hl : L.length ≤ 300) : IdSl (fun b => b < w.heap.size) w (.slice ad L.length k) L := by
  refine Sl.of_own h (css := L.map idCells) (by simp) rfl (fun cs hcs => ?_) (fun i hi => by simp [idCells, IdIs]) (by omega) _ (fun b hb => (own_live h hb).2)
  obtain ⟨p, _, rfl⟩ := List.mem_map.1 hcs
  rfl

theorem Max {B bw : Nat} {w0 w : World} {m : List EntM} (h : Built B bw w0 w m) {c : Nat} (hc : c < m.length) (n d : ByteArray) :
    Calls Tryz.prog 62 #[.pointer (some ⟨bw, 0, none⟩), .int .i64 c, .string n, .string d] w fun r w' => ∃ ad k, r = .returned (.tuple #[.slice ad (maxM m c n d).length k, .int .i64 0]) ∧ w'.ownsRow (w.heap.size + 1) 24 2 (.slice ad (maxM m c n d).length k) (maxM m c n d).length ((maxM m c n d).map idCells).flatten ∧ Below w.heap.size w w' := by
  have hba : Below w.heap.size w (w.alloc (.cells #[.pointer (some ⟨bw, 0, none⟩)] 35)) := (Below.refl _ _).alloc (Nat.le_refl _) _
  have HC := Lib.hid (Candidates (h.next hba) hc n d)
  have HLN := Lib.hid (cand_len h.wf hc n d)
  have HB0 := Lib.hid (h.next hba)
  have HBA := Lib.hid hba
  have HQ : Hid ((w.alloc (.cells #[.pointer (some ⟨bw, 0, none⟩)] 35)).cell? ⟨w.heap.size, 0, none⟩ = some (.pointer (some ⟨bw, 0, none⟩))) := Lib.hid (World.cell?_alloc_new w #[.pointer (some ⟨bw, 0, none⟩)] 35 0)
  unfold maxM
  clear h hba
  generalize candM m c n d = all at HC HLN ⊢
  go_enter Tryz.func62, Tryz.ntmps62
  go_wp2_with fail
  refine HC.out.mono ?_
  rintro _ w1 ⟨ad, k, rfl, hs, hb⟩
  have gw := below_cell' hb HQ.out
  have HZ : Hid (w.heap.size + 1 ≤ w1.heap.size) := Lib.hid (by have := hb.size; simpa using this)
  have HBB : Hid (Below w.heap.size w (w1.alloc (.cells #[.slice ad all.length k] 94))) := Lib.hid ((HBA.out.trans (hb.mono HBA.out.size)).alloc (by have := HZ.out; omega) _)
  have HAL : Below w1.heap.size w1 (w1.alloc (.cells #[.slice ad all.length k] 94)) := (Below.refl _ _).alloc (Nat.le_refl _) _
  have HB2 := Lib.hid ((HB0.out.next hb).next HAL)
  have HS2 := Lib.hid (IdSl.next hs HAL)
  have HGW := Lib.hid (below_cell' HAL gw)
  have HGA : Hid ((w1.alloc (.cells #[.slice ad all.length k] 94)).cell? ⟨w1.heap.size, 0, none⟩ = some (.slice ad all.length k)) := Lib.hid (World.cell?_alloc_new w1 #[.slice ad all.length k] 94 0)
  have HZ2 : Hid (w.heap.size + 1 ≤ (w1.alloc (.cells #[.slice ad all.length k] 94)).heap.size) := Lib.hid (by have := HZ.out; simp; omega)
  obtain ⟨i0, hi0, hiz0, hiz1, hiz2⟩ := info_parts info_id
  clear hs hb gw HQ HZ HBA HB0 HAL HC
  go_wp2_with fail
  generalize w1.alloc (.cells #[.slice ad all.length k] 94) = w2 at HBB HB2 HS2 HGW HGA HZ2
  generalize w1.heap.size = qa at HGA
  have hl300 := HLN.out
  go_loopg [13, 30] all.length (fun gk u uu wr => ∃ (k : Nat) (ps : List (Int × Int)), Hid (k + gk = all.length ∧ ps = (all.take k).filter fun p => !hidM m all p) ∧ uu = .int .i64 k ∧ Hid (wr.ownsRow w2.heap.size 24 2 u ps.length (ps.map idCells).flatten) ∧ Hid (Below w2.heap.size w2 wr))
  case atStart => exact ⟨0, [], Lib.hid ⟨Nat.zero_add _, by simp⟩, rfl, Lib.hid (World.ownsRow_nil _ _ _ _), Lib.hid (Below.refl _ _)⟩
  case round =>
    obtain ⟨j, ps, hk, rfl, hrow, HL⟩ := hrel
    obtain ⟨ra, rc, rfl⟩ := own_slice hrow.out
    by_cases hlt : j < all.length
    · have hlt' : (j : Int) < (all.length : Int) := by omega
      obtain ⟨b, o, rfl, g0, g1⟩ := IdSl.elem (IdSl.next HS2.out HL.out) hlt
      have HAW : Hid (Below wr.heap.size wr (wr.alloc (.cells #[.int .i64 all[j].1, .int .i64 all[j].2] 24))) := Lib.hid ((Below.refl _ _).alloc (Nat.le_refl _) _)
      have HLA : Hid (Below w2.heap.size w2 (wr.alloc (.cells #[.int .i64 all[j].1, .int .i64 all[j].2] 24))) := Lib.hid (HL.out.alloc HL.out.size _)
      have HID : Hid ((wr.alloc (.cells #[.int .i64 all[j].1, .int .i64 all[j].2] 24)).cell? ⟨wr.heap.size, 0, none⟩ = some (.int .i64 all[j].1) ∧ (wr.alloc (.cells #[.int .i64 all[j].1, .int .i64 all[j].2] 24)).cell? ⟨wr.heap.size, 1, none⟩ = some (.int .i64 all[j].2)) := Lib.hid ⟨World.cell?_alloc_new .., World.cell?_alloc_new ..⟩
      have hrowA := Lib.hid (hrow.out.alloc (.cells #[.int .i64 all[j].1, .int .i64 all[j].2] 24))
      have HM1 := Lib.hid (Max1 (HB2.out.next HLA.out) all[j] (below_cell' HLA.out HGA.out) (IdSl.next HS2.out HLA.out) (below_cell' HLA.out HGW.out))
      have HPS : Hid ((all.take (j + 1)).filter (fun p => !hidM m all p) = ps ++ (if hidM m all all[j] = true then [] else [all[j]])) := Lib.hid (by
        rw [List.take_succ_eq_append_getElem hlt, List.filter_append, ← hk.out.2]
        congr 1
        cases h : hidM m all all[j] <;> simp [h])
      have HPL : Hid (ps.length ≤ 300) := Lib.hid (by
        rw [hk.out.2]
        have h1 := List.length_filter_le (fun p => !hidM m all p) (all.take j)
        have h2 : (all.take j).length ≤ j := by simp; omega
        have := HLN.out
        omega)
      unfold idV at HM1
      generalize all[j] = p at g0 g1 HM1 HPS HLA HID hrowA HAW
      go_wp2_with fail
      refine HM1.out.mono ?_
      rintro e w3 ⟨rfl, hb⟩
      have HL3 : Hid (Below w2.heap.size w2 w3) := Lib.hid (HLA.out.trans (hb.mono HLA.out.size))
      have hrow3 := Lib.hid (row_of_block hrowA.out fun q hq => hb.block q (own_live hrowA.out hq).2)
      have k0 := below_cell' hb HID.out.1
      have k1 := below_cell' hb HID.out.2
      clear hb hrow HL HM1 g0 g1 hrowA HLA HAW HID
      generalize wr.heap.size = qm at k0 k1
      cases hh : hidM m all p
      · have HN : Hid ((all.take (j + 1)).filter (fun p => !hidM m all p) = ps ++ [p]) := Lib.hid (by rw [HPS.out, hh]; rfl)
        clear HPS hh
        have HNEW : Hid (∀ i u, ([.int .i64 p.1, .int .i64 p.2] : List Value)[i]? = some u → (w3.alloc (.cells #[.int .i64 p.1, .int .i64 p.2] 24)).cell? ((⟨w3.heap.size, 0, none⟩ : Addr).add i) = some u) := Lib.hid (by
          intro i u hu
          rw [show (⟨w3.heap.size, 0, none⟩ : Addr).add i = ⟨w3.heap.size, i, none⟩ by unfold Addr.add; split <;> simp_all]
          rw [World.cell?_alloc_new]
          rw [← Array.getElem?_toList]
          exact hu)
        have hz3 := HL3.out.size
        go_wp2_with (first | (at_builtin; refine wpList_append_own _ rfl _ _ 94 rfl w2.heap.size 24 i0 (.agg #[.int .i64 0, .int .i64 0]) 2 16 Tryz.underlying94 hi0 hiz0 hiz1 hiz2 rfl (by decide) (.slice ra ps.length rc) ps.length (ps.map idCells).flatten rfl (hrow3.out.alloc _) ⟨w3.heap.size, 0, none⟩ 1 1 [.int .i64 p.1, .int .i64 p.2] (by simp [Act.eval, Act.put]) rfl HNEW.out (by intro u hu; simp at hu; rcases hu with rfl | rfl <;> rfl) (by have := HPL.out; unfold maxLen; omega) (by have := HPL.out; omega) (by simp at hz3 ⊢; omega) ?_; intro v1 w6 hown1 hgrow1 hnil1; obtain ⟨g1', cap1, rfl⟩ := own_form hown1))
        have HL6 : Hid (Below w2.heap.size w2 w6) := Lib.hid ((HL3.out.alloc HL3.out.size _).grown hgrow1 (by simp at hz3 ⊢; omega) (fun q hq => (own_live hrow3.out hq).1))
        have HR6 : Hid (w6.ownsRow w2.heap.size 24 2 (.slice (some ⟨g1', 0, none⟩) (ps.length + 1) cap1) (ps ++ [p]).length ((ps ++ [p]).map idCells).flatten) := Lib.hid (by simpa [idCells] using hown1)
        go_roundg (all.length - (j + 1))
        case measure => have := hk.out.1; omega
        case rel => exact ⟨j + 1, _, Lib.hid ⟨by omega, HN.out.symm⟩, by go_num, by simpa using HR6, HL6⟩
      · have HN : Hid ((all.take (j + 1)).filter (fun p => !hidM m all p) = ps) := Lib.hid (by rw [HPS.out, hh]; simp)
        clear HPS hh
        go_wp2
        go_roundg (all.length - (j + 1))
        case measure => have := hk.out.1; omega
        case rel => exact ⟨j + 1, ps, Lib.hid ⟨by omega, HN.out.symm⟩, by go_num, hrow3, HL3⟩
    · have hkn : j = all.length := by have := hk.out.1; omega
      have HPS : Hid (ps = maxL m all) := Lib.hid (by rw [hk.out.2, hkn, List.take_length]; rfl)
      clear hkn
      go_wp2
      go_ret2
      have hp := HPS.out
      subst hp
      refine ⟨ra, rc, rfl, ?_, HBB.out.trans (HL.out.mono HBB.out.size)⟩
      obtain ⟨r1, r2⟩ := hrow.out
      refine ⟨r1, ?_⟩
      rcases r2 with r2 | ⟨g, cap, cur, e, r3, r4⟩
      · exact .inl r2
      · exact .inr ⟨g, cap, cur, e, by have := HZ2.out; omega, r4⟩
end Go.Proofs.YtiiebakblkpkeaaGreatDoor.Hi
