/- Reading types: a descriptor: the walk. -/
import Derived.Test.YtipinmbpdgjalaaGreatDoorMP
import Derived.WalkMore
import Derived.Test.YtipinmbpdgjalaaGreatDoorML
set_option maxRecDepth 100000
set_option maxHeartbeats 8000000
set_option linter.unusedVariables false
set_option linter.unusedSimpArgs false
namespace Go.Proofs.YtipinmbpdgjalaaGreatDoor.Pr
open Go.RowKit Bs

theorem cut_rest_le (s sep : List UInt8) : (Lib.cut s sep).2.1.length ≤ s.length := by
  unfold Lib.cut
  split
  · simp
  · simp
theorem tail_le (l : List UInt8) : (tail l).rest.length ≤ l.length ∧ ((tail l).ok = true → (tail l).rest.length < l.length) := by
  have hd : (l.drop (brackets l)).length ≤ l.length := by simp
  unfold tail
  cases hx : l.drop (brackets l) with
  | nil => exact ⟨Nat.zero_le _, fun h => by cases h⟩
  | cons x r =>
    rw [hx] at hd
    simp at hd
    rw [oneTail_cons]
    split
    · exact ⟨by simp; omega, fun _ => by simp; omega⟩
    · split
      · have := cut_rest_le r [59]
        exact ⟨by simp; omega, fun _ => by simp; omega⟩
      · exact ⟨by simp; omega, fun h => by cases h⟩

theorem info_type : (Tryz.prog.info? 155).map (fun i => (i.zero, i.size, i.bytes)) = some (some (.agg #[.int .i64 0, .string ⟨#[]⟩]), 2, 24) := by kernel_rfl
theorem cell_two_new (w : World) (x y : Value) (t : TypeId) {b : Nat} (hb : b = w.heap.size) : ∀ j u, [x, y][j]? = some u → (w.alloc (.cells #[x, y] t)).cell? ((⟨b, 0, none⟩ : Addr).add j) = some u := by
  subst hb
  intro j u hu
  have hadd : (⟨w.heap.size, 0, none⟩ : Addr).add j = ⟨w.heap.size, j, none⟩ := by unfold Addr.add; split <;> simp_all
  rw [hadd, World.cell?_alloc_new]
  simpa using hu

theorem descEnd_four {rest : List UInt8} {n : Nat} {wide void : Bool} {rd : Int} {rn : List UInt8} (h : rest.isEmpty = false) : descEnd true rest n wide void rd rn = ⟨0, false, 0, [], 4⟩ := by
  unfold descEnd; rw [h]; rfl
theorem descEnd_false {rest : List UInt8} {n : Nat} {wide void : Bool} {rd : Int} {rn : List UInt8} : descEnd false rest n wide void rd rn = ⟨0, false, 0, [], 4⟩ := by
  unfold descEnd; rfl
theorem descEnd_five {rest : List UInt8} {n : Nat} {wide void : Bool} {rd : Int} {rn : List UInt8} (h : rest.isEmpty = true) (h2 : (wide || decide (20 < (n : Int))) = true) : descEnd true rest n wide void rd rn = ⟨0, false, 0, [], 5⟩ := by
  unfold descEnd; rw [h, if_neg (by simp), if_pos h2]
theorem descEnd_ok {rest : List UInt8} {n : Nat} {wide void : Bool} {rd : Int} {rn : List UInt8} (h : rest.isEmpty = true) (h2 : (wide || decide (20 < (n : Int))) = false) : descEnd true rest n wide void rd rn = ⟨n, void, rd, rn, 0⟩ := by
  unfold descEnd; rw [h, if_neg (by simp), if_neg (by rw [h2]; simp)]

theorem ParseDesc (l : List UInt8) (w : World) (hl : l.length ≤ 2000) (he : Lf.Env w) :
    Calls Tryz.prog 103 #[.string (ba l)] w (DescPost (descM l) w) := by
  have hz := ba_size l
  have hd : decide ((2000 : Int) < (l.length : Int)) = false := by simp; omega
  have H0 := Lib.hid (DS.start w l)
  have HDM0 : Hid (descM l = if l.head? = some 40 then (if (argsM l.length (l.drop 1) 0 false).ok = true then (if (argsM l.length (l.drop 1) 0 false).rest.head? = some 86 then descEnd true ((argsM l.length (l.drop 1) 0 false).rest.drop 1) (argsM l.length (l.drop 1) 0 false).n (argsM l.length (l.drop 1) 0 false).wide true 0 []
      else descEnd (tail (argsM l.length (l.drop 1) 0 false).rest).ok (tail (argsM l.length (l.drop 1) 0 false).rest).rest (argsM l.length (l.drop 1) 0 false).n ((argsM l.length (l.drop 1) 0 false).wide || decide (255 < (brackets (argsM l.length (l.drop 1) 0 false).rest : Int))) false (brackets (argsM l.length (l.drop 1) 0 false).rest) (tail (argsM l.length (l.drop 1) 0 false).rest).name)
    else descEnd false (argsM l.length (l.drop 1) 0 false).rest (argsM l.length (l.drop 1) 0 false).n (argsM l.length (l.drop 1) 0 false).wide false 0 []) else descEnd false l 0 false false 0 []) := Lib.hid (if_neg (by omega))
  go_enter Tryz.func103, Tryz.ntmps103
  go_wp2
  go_step3
  go_wp2_with fail
  show Calls Tryz.prog 115 _ (Hi.allocs w (descObjs l)) _
  generalize Hi.allocs w (descObjs l) = w0 at H0 ⊢
  by_cases h40 : l.head? = some 40
  · obtain ⟨l1, rfl⟩ : ∃ l1, l = 40 :: l1 := by
      cases l with
      | nil => cases h40
      | cons x r => exact ⟨r, by simp at h40; rw [h40]⟩
    refine (take_yes (w.heap.size + 1) l1 40 _ H0.out.cur.rest (H0.out.cur.thaw 0) (by simp at hl; omega)).mono ?_
    rintro e _ ⟨rfl, rfl⟩
    replace H0 := Lib.hid (H0.out.setRest l1)
    generalize (w0.setCell ⟨w.heap.size + 1, 0, none⟩ (.string (ba l1))) = w1 at H0 ⊢
    obtain ⟨A, hA⟩ : ∃ A, argsM (l1.length + 1) l1 0 false = A := ⟨_, rfl⟩
    have HAA := Lib.hid hA
    have HDM : Hid (descM (40 :: l1) = if A.ok = true then (if A.rest.head? = some 86 then descEnd true (A.rest.drop 1) A.n A.wide true 0 [] else descEnd (tail A.rest).ok (tail A.rest).rest A.n (A.wide || decide (255 < (brackets A.rest : Int))) false (brackets A.rest) (tail A.rest).name) else descEnd false A.rest A.n A.wide false 0 []) := Lib.hid (by
      rw [HDM0.out, if_pos h40, ← hA]
      rfl)
    clear hA HDM0 h40
    obtain ⟨R, hDD⟩ : ∃ R, descM (40 :: l1) = R := ⟨_, rfl⟩
    rw [hDD] at HDM
    have HDR := Lib.hid hDD
    clear hDD
    go_wp2
    go_step3
    go_wp2_with fail
    go_loopg [6] (l1.length + 2) (fun gk u wr => ∃ (f : Nat) (lc : List UInt8) (n : Nat) (wd ok : Bool), u = .bool ok ∧ Hid (gk = (if ok then f + 1 else 0) ∧ (ok = true → lc.length < f ∧ argsM f lc n wd = A) ∧ (ok = false → A = ⟨false, lc, n, wd⟩) ∧ (ok = true → lc.length + n ≤ 2000)) ∧ Hid (DS w wr lc wd n false 0 ⟨#[]⟩))
    case atStart => exact ⟨l1.length + 1, l1, 0, false, true, rfl, Lib.hid ⟨rfl, fun _ => ⟨by omega, HAA.out⟩, (fun h => by cases h), fun _ => by simp at hl; omega⟩, H0⟩
    case round =>
      obtain ⟨f, lc, n, wd, ok, rfl, hI, HF⟩ := hrel
      cases ok
      · obtain ⟨-, -, i3, -⟩ := hI.out
        have F : Hid (descM (40 :: l1) = ⟨0, false, 0, [], 4⟩) := Lib.hid (by rw [HDR.out, HDM.out, i3 rfl, if_neg (by simp)]; exact descEnd_false)
        clear i3
        have HG := HF
        have k0 := HG.out.r0
        have k1 := HG.out.r1
        have k2 := HG.out.r2
        have k3 := HG.out.r3
        have k4 := HG.out.rth 0
        have k5 := HG.out.rth 1
        have k6 := HG.out.rth 2
        have k7 := HG.out.rth 3
        have k8 := HG.out.cur.rest
        have k9 := HG.out.cur.wide
        have k10 := HG.out.d1
        have k11 := HG.out.d2
        have k12 := HG.out.d3
        obtain ⟨ra, rc, rxs, k13, -⟩ := HG.out.row
        have k14 := HG.out.dth 1
        have k15 := HG.out.dth 2
        have k16 := HG.out.dth 3
        have kz := HG.out.lt
        go_wp2
        refine bodyPost_ret (Hi.results_cells_tmp rfl _ _ w.heap.size [.slice none 0 0, .bool false, .int .i64 0, .string ⟨#[]⟩] _ rfl (HF.out.put _ _ _ _).1 Tryz.underlying157 rfl desc_info) rfl ⟨⟨none, 0, by rw [F.out]; rfl⟩, (HF.out.put _ _ _ _).2⟩
      · obtain ⟨i1, i2, i3, i4⟩ := hI.out
        obtain ⟨i5, i6⟩ := i2 rfl
        replace i4 := i4 rfl
        obtain ⟨f, rfl⟩ : ∃ f', f = f' + 1 := ⟨f - 1, by omega⟩
        have hlc : lc.length ≤ 2000 := by omega
        by_cases h41 : lc.head? = some 41
        · have HE : Hid (A = ⟨true, lc.drop 1, n, wd⟩) := Lib.hid (by rw [← i6]; unfold argsM; rw [if_pos h41])
          obtain ⟨l2, rfl⟩ : ∃ l2, lc = 41 :: l2 := by
            cases lc with
            | nil => cases h41
            | cons x r => exact ⟨r, by simp at h41; rw [h41]⟩
          have HDN : Hid (R = if l2.head? = some 86 then descEnd true (l2.drop 1) n wd true 0 [] else descEnd (tail l2).ok (tail l2).rest n (wd || decide (255 < (brackets l2 : Int))) false (brackets l2) (tail l2).name) := Lib.hid (by
            rw [HDM.out, HE.out, if_pos rfl]
            rfl)
          clear i1 i2 i3 i6 h41 HDM HE HAA
          go_wp2_with fail
          refine (take_yes (w.heap.size + 1) l2 41 _ HF.out.cur.rest (HF.out.cur.thaw 0) (by simp at hlc; omega)).mono ?_
          rintro e _ ⟨rfl, rfl⟩
          replace HF := Lib.hid (HF.out.setRest l2)
          generalize (wr.setCell ⟨w.heap.size + 1, 0, none⟩ (.string (ba l2))) = w2 at HF ⊢
          have hl2 : l2.length ≤ 2000 := by simp at hlc; omega
          go_wp2_with fail
          by_cases h86 : l2.head? = some 86
          · obtain ⟨l3, rfl⟩ : ∃ l3, l2 = 86 :: l3 := by
              cases l2 with
              | nil => cases h86
              | cons x r => exact ⟨r, by simp at h86; rw [h86]⟩
            have HDE : Hid (R = descEnd true l3 n wd true 0 []) := Lib.hid (HDN.out.trans (if_pos h86))
            clear h86 HDN
            refine (take_yes (w.heap.size + 1) l3 86 _ HF.out.cur.rest (HF.out.cur.thaw 0) (by simp at hl2; omega)).mono ?_
            rintro e _ ⟨rfl, rfl⟩
            replace HF := Lib.hid (HF.out.setRest l3)
            generalize (w2.setCell ⟨w.heap.size + 1, 0, none⟩ (.string (ba l3))) = w3 at HF ⊢
            have HG := HF
            replace HF := Lib.hid (HF.out.setD true)
            have k0 := HG.out.r0
            have k1 := HG.out.r1
            have k2 := HG.out.r2
            have k3 := HG.out.r3
            have k4 := HG.out.rth 0
            have k5 := HG.out.rth 1
            have k6 := HG.out.rth 2
            have k7 := HG.out.rth 3
            have k8 := HG.out.cur.rest
            have k9 := HG.out.cur.wide
            have k10 := HG.out.d1
            have k11 := HG.out.d2
            have k12 := HG.out.d3
            obtain ⟨ra, rc, rxs, k13, -⟩ := HG.out.row
            have k14 := HG.out.dth 1
            have k15 := HG.out.dth 2
            have k16 := HG.out.dth 3
            have kz := HG.out.lt
            cases hrr : l3.isEmpty
            · have e1 : (ba l3).toList.isEmpty = false := by rw [ba_toList]; exact hrr
              have e2 : (!(ba l3).toList.isEmpty) = true := by rw [e1]; rfl
              have F := Lib.hid (HDR.out.trans (HDE.out.trans (descEnd_four hrr)))
              go_wp2
              refine bodyPost_ret (Hi.results_cells_tmp rfl _ _ w.heap.size [.slice none 0 0, .bool false, .int .i64 0, .string ⟨#[]⟩] _ rfl (HF.out.put _ _ _ _).1 Tryz.underlying157 rfl desc_info) rfl ⟨⟨none, 0, by rw [F.out]; rfl⟩, (HF.out.put _ _ _ _).2⟩
            · have e1 : (ba l3).toList.isEmpty = true := by rw [ba_toList]; exact hrr
              have e2 : (!(ba l3).toList.isEmpty) = false := by rw [e1]; rfl
              cases hww : (wd)
              · rw [hww] at k9
                by_cases hnn : 20 < n
                · have hnn' : decide ((20 : Int) < ((n : Nat) : Int)) = true := by simp; omega
                  have F := Lib.hid (HDR.out.trans (HDE.out.trans (descEnd_five hrr (by rw [hnn']; simp))))
                  go_wp2
                  refine bodyPost_ret (Hi.results_cells_tmp rfl _ _ w.heap.size [.slice none 0 0, .bool false, .int .i64 0, .string ⟨#[]⟩] _ rfl (HF.out.put _ _ _ _).1 Tryz.underlying157 rfl desc_info) rfl ⟨⟨none, 0, by rw [F.out]; rfl⟩, (HF.out.put _ _ _ _).2⟩
                · have hnn' : decide ((20 : Int) < ((n : Nat) : Int)) = false := by simp; omega
                  have F := Lib.hid (HDR.out.trans (HDE.out.trans (descEnd_ok hrr (by rw [hnn', hww]; rfl))))
                  go_wp2
                  refine bodyPost_ret (Hi.results_cells_tmp rfl _ _ w.heap.size [.slice ra n rc, .bool true, .int .i64 0, .string ⟨#[]⟩] _ rfl (HF.out.put _ _ _ _).1 Tryz.underlying157 rfl desc_info) rfl ⟨⟨ra, rc, by rw [F.out]; rfl⟩, (HF.out.put _ _ _ _).2⟩
              · rw [hww] at k9
                have F := Lib.hid (HDR.out.trans (HDE.out.trans (descEnd_five hrr (by rw [hww]; simp))))
                go_wp2
                refine bodyPost_ret (Hi.results_cells_tmp rfl _ _ w.heap.size [.slice none 0 0, .bool false, .int .i64 0, .string ⟨#[]⟩] _ rfl (HF.out.put _ _ _ _).1 Tryz.underlying157 rfl desc_info) rfl ⟨⟨none, 0, by rw [F.out]; rfl⟩, (HF.out.put _ _ _ _).2⟩
          · have HDE : Hid (R = descEnd (tail l2).ok (tail l2).rest n (wd || decide (255 < (brackets l2 : Int))) false (brackets l2) (tail l2).name) := Lib.hid (HDN.out.trans (if_neg h86))
            refine (take_no (w.heap.size + 1) l2 86 _ HF.out.cur.rest h86 (by omega)).mono ?_
            rintro e _ ⟨rfl, rfl⟩
            clear h86 HDN
            have HG := HF
            replace HF := Lib.hid (HF.out.setD false)
            have HONE := Lib.hid (one (w.heap.size + 1) l2 wd _ HF.out.cur hl2 (he.below HF.out.below) (by omega))
            have q1 := HG.out.d1
            have q2 := HG.out.dth 1
            go_wp2_with fail
            refine HONE.out.mono ?_
            rintro e w4 ⟨rfl, hcur, hchg⟩
            change Cur w4 (w.heap.size + 1) (tail l2).rest (wd || decide (255 < (brackets l2 : Int))) at hcur
            have e1 : (oneTail (l2.drop (brackets l2))) = tail l2 := rfl
            rw [e1]
            clear e1 q1 q2 HG
            have HG := Lib.hid (HF.out.chg hchg hcur)
            clear hchg hcur HONE HF
            generalize tail l2 = t at HG HDE ⊢
            generalize brackets l2 = d at HG HDE ⊢
            obtain ⟨t1, t2, t3⟩ := t
            have HF := Lib.hid (HG.out.setRet (d : Int) (ba t1))
            cases t2
            · have F : Hid (descM (40 :: l1) = ⟨0, false, 0, [], 4⟩) := Lib.hid ((HDR.out.trans HDE.out).trans descEnd_false)
              have k0 := HG.out.r0
              have k1 := HG.out.r1
              have k2 := HG.out.r2
              have k3 := HG.out.r3
              have k4 := HG.out.rth 0
              have k5 := HG.out.rth 1
              have k6 := HG.out.rth 2
              have k7 := HG.out.rth 3
              have k8 := HG.out.cur.rest
              have k9 := HG.out.cur.wide
              have k10 := HG.out.d1
              have k11 := HG.out.d2
              have k12 := HG.out.d3
              obtain ⟨ra, rc, rxs, k13, -⟩ := HG.out.row
              have k14 := HG.out.dth 1
              have k15 := HG.out.dth 2
              have k16 := HG.out.dth 3
              have kz := HG.out.lt
              go_wp2
              refine bodyPost_ret (Hi.results_cells_tmp rfl _ _ w.heap.size [.slice none 0 0, .bool false, .int .i64 0, .string ⟨#[]⟩] _ rfl (HF.out.put _ _ _ _).1 Tryz.underlying157 rfl desc_info) rfl ⟨⟨none, 0, by rw [F.out]; rfl⟩, (HF.out.put _ _ _ _).2⟩
            · skip
              have k0 := HG.out.r0
              have k1 := HG.out.r1
              have k2 := HG.out.r2
              have k3 := HG.out.r3
              have k4 := HG.out.rth 0
              have k5 := HG.out.rth 1
              have k6 := HG.out.rth 2
              have k7 := HG.out.rth 3
              have k8 := HG.out.cur.rest
              have k9 := HG.out.cur.wide
              have k10 := HG.out.d1
              have k11 := HG.out.d2
              have k12 := HG.out.d3
              obtain ⟨ra, rc, rxs, k13, -⟩ := HG.out.row
              have k14 := HG.out.dth 1
              have k15 := HG.out.dth 2
              have k16 := HG.out.dth 3
              have kz := HG.out.lt
              cases hrr : t3.isEmpty
              · have e1 : (ba t3).toList.isEmpty = false := by rw [ba_toList]; exact hrr
                have e2 : (!(ba t3).toList.isEmpty) = true := by rw [e1]; rfl
                have F := Lib.hid (HDR.out.trans (HDE.out.trans (descEnd_four hrr)))
                go_wp2
                refine bodyPost_ret (Hi.results_cells_tmp rfl _ _ w.heap.size [.slice none 0 0, .bool false, .int .i64 0, .string ⟨#[]⟩] _ rfl (HF.out.put _ _ _ _).1 Tryz.underlying157 rfl desc_info) rfl ⟨⟨none, 0, by rw [F.out]; rfl⟩, (HF.out.put _ _ _ _).2⟩
              · have e1 : (ba t3).toList.isEmpty = true := by rw [ba_toList]; exact hrr
                have e2 : (!(ba t3).toList.isEmpty) = false := by rw [e1]; rfl
                cases hww : (wd || decide (255 < (d : Int)))
                · rw [hww] at k9
                  by_cases hnn : 20 < n
                  · have hnn' : decide ((20 : Int) < ((n : Nat) : Int)) = true := by simp; omega
                    have F := Lib.hid (HDR.out.trans (HDE.out.trans (descEnd_five hrr (by rw [hnn']; simp))))
                    go_wp2
                    refine bodyPost_ret (Hi.results_cells_tmp rfl _ _ w.heap.size [.slice none 0 0, .bool false, .int .i64 0, .string ⟨#[]⟩] _ rfl (HF.out.put _ _ _ _).1 Tryz.underlying157 rfl desc_info) rfl ⟨⟨none, 0, by rw [F.out]; rfl⟩, (HF.out.put _ _ _ _).2⟩
                  · have hnn' : decide ((20 : Int) < ((n : Nat) : Int)) = false := by simp; omega
                    have F := Lib.hid (HDR.out.trans (HDE.out.trans (descEnd_ok hrr (by rw [hnn', hww]; rfl))))
                    go_wp2
                    refine bodyPost_ret (Hi.results_cells_tmp rfl _ _ w.heap.size [.slice ra n rc, .bool false, .int .i64 (d : Int), .string (ba t1)] _ rfl (HF.out.put _ _ _ _).1 Tryz.underlying157 rfl desc_info) rfl ⟨⟨ra, rc, by rw [F.out]; rfl⟩, (HF.out.put _ _ _ _).2⟩
                · rw [hww] at k9
                  have F := Lib.hid (HDR.out.trans (HDE.out.trans (descEnd_five hrr (by rw [hww]; simp))))
                  go_wp2
                  refine bodyPost_ret (Hi.results_cells_tmp rfl _ _ w.heap.size [.slice none 0 0, .bool false, .int .i64 0, .string ⟨#[]⟩] _ rfl (HF.out.put _ _ _ _).1 Tryz.underlying157 rfl desc_info) rfl ⟨⟨none, 0, by rw [F.out]; rfl⟩, (HF.out.put _ _ _ _).2⟩
        · have HE : Hid (A = if (tail lc).ok = true then argsM f (tail lc).rest (n + 1) (wd || decide (255 < (brackets lc : Int))) else ⟨false, (tail lc).rest, n + 1, wd || decide (255 < (brackets lc : Int))⟩) := Lib.hid (by rw [← i6]; conv => lhs; unfold argsM; rw [if_neg h41])
          obtain ⟨t1, t2⟩ := tail_le lc
          have HI1 := Lib.hid i1
          clear i1 i2 i3 i6
          go_wp2_with fail
          refine (take_no (w.heap.size + 1) lc 41 _ HF.out.cur.rest h41 (by omega)).mono ?_
          rintro e _ ⟨rfl, rfl⟩
          have hDA := HF.out.alloc (.cells #[.int .i64 0, .string ⟨#[]⟩] 155)
          have HONE := Lib.hid (one (w.heap.size + 1) lc wd (wr.alloc (.cells #[.int .i64 0, .string ⟨#[]⟩] 155)) hDA.cur hlc (he.below hDA.below) (by omega))
          go_wp2_with fail
          refine HONE.out.mono ?_
          rintro e w2 ⟨rfl, hcur, hchg⟩
          change Cur w2 (w.heap.size + 1) (tail lc).rest (wd || decide (255 < (brackets lc : Int))) at hcur
          have e1 : (oneTail (lc.drop (brackets lc))) = tail lc := rfl
          rw [e1]
          clear e1 HONE
          generalize tail lc = t at hcur HE t1 t2 ⊢
          generalize brackets lc = d at hcur HE ⊢
          obtain ⟨tn, tok, tr⟩ := t
          have hz2 : wr.heap.size < w2.heap.size := by have := hchg.size; simp at this; omega
          have c0 : (wr.alloc (.cells #[.int .i64 0, .string ⟨#[]⟩] 155)).cell? ⟨wr.heap.size, 0, none⟩ = some (.int .i64 0) := by rw [World.cell?_alloc_new]; rfl
          have c1 : (wr.alloc (.cells #[.int .i64 0, .string ⟨#[]⟩] 155)).cell? ⟨wr.heap.size, 1, none⟩ = some (.string ⟨#[]⟩) := by rw [World.cell?_alloc_new]; rfl
          have hCb := HF.out.cur.lt
          have q0 := hchg.cell_eq c0 (by simp; omega)
          have q1 := hchg.cell_eq c1 (by simp; omega)
          have q2 : ∀ j, w2.frozen? ⟨wr.heap.size, j, none⟩ = false := fun j => (hchg.frozen (a := ⟨wr.heap.size, j, none⟩) (by simp) (by simp; omega)).trans (World.frozen?_alloc_new ..)
          have q3 := q2 0
          have q4 := q2 1
          have HQ := Lib.hid q2
          have hch3 : Chg (fun k => k = w.heap.size + 1) wr ((w2.setCell ⟨wr.heap.size, 0, none⟩ (.int .i64 d)).setCell ⟨wr.heap.size, 1, none⟩ (.string (ba tn))) :=
            ((((Chg.refl _ wr).alloc (.cells #[.int .i64 0, .string ⟨#[]⟩] 155)).trans hchg (fun _ _ h => h)).setCell (a := ⟨wr.heap.size, 0, none⟩) (.inl (Nat.le_refl _)) _).setCell (a := ⟨wr.heap.size, 1, none⟩) (.inl (Nat.le_refl _)) _
          have HT : Hid (((w2.setCell ⟨wr.heap.size, 0, none⟩ (.int .i64 d)).setCell ⟨wr.heap.size, 1, none⟩ (.string (ba tn))).cell? ⟨wr.heap.size, 0, none⟩ = some (.int .i64 d) ∧ ((w2.setCell ⟨wr.heap.size, 0, none⟩ (.int .i64 d)).setCell ⟨wr.heap.size, 1, none⟩ (.string (ba tn))).cell? ⟨wr.heap.size, 1, none⟩ = some (.string (ba tn))) := Lib.hid
            ⟨by rw [setCell_off (by omega)]; exact setCell_same q0, setCell_same (by rw [setCell_off (by omega)]; exact q1)⟩
          have hch2 : Chg (fun k => k = w.heap.size + 1) wr w2 := ((Chg.refl _ wr).alloc (.cells #[.int .i64 0, .string ⟨#[]⟩] 155)).trans hchg (fun _ _ h => h)
          have H3 := Lib.hid (HF.out.chg hch3 ((hcur.block (Below.heap_setCell _ _ _ _ (by simp; omega))).block (Below.heap_setCell _ _ _ _ (by simp; omega))))
          have HLE : Hid (w.heap.size + 3 ≤ wr.heap.size) := Lib.hid (by have := HF.out.lt; omega)
          have H2 := HF.out.chg (((Chg.refl _ wr).alloc (.cells #[.int .i64 0, .string ⟨#[]⟩] 155)).trans hchg (fun _ _ h => h)) hcur
          obtain ⟨ra, rc, rxs, q5, hown2⟩ := H2.row
          have q6 := H2.dth 0
          have hD2 := H2.lt
          have hown3 : ((w2.setCell ⟨wr.heap.size, 0, none⟩ (.int .i64 d)).setCell ⟨wr.heap.size, 1, none⟩ (.string (ba tn))).ownsRow (w.heap.size + 3) 155 2 (.slice ra n rc) n rxs := by
            obtain ⟨ra', rc', rxs', e1, e2⟩ := H3.out.row
            rw [setCell_off (by have := HLE.out; omega), setCell_off (by have := HLE.out; omega), q5] at e1
            injection e1 with e1
            injection e1 with e3 e4 e5
            subst e3; subst e5
            obtain ⟨a', b', c', d'⟩ : True ∧ True ∧ True ∧ True := ⟨trivial, trivial, trivial, trivial⟩
            refine Hi.row_of_block hown2 fun k hk => ?_
            have hk2 : k < wr.heap.size := by
              obtain ⟨r1, r2, r3, r4, r5⟩ := HF.out.row
              have e6 := q5.symm.trans (hch2.cell_eq r4 (by simp))
              injection e6 with e6
              rw [e6] at hk
              exact (r5.lt k hk).2
            rw [Below.heap_setCell _ _ _ _ (by simp; omega), Below.heap_setCell _ _ _ _ (by simp; omega)]
          have hb0 : ∀ g, (Value.slice ra n rc).ownBlock = some g → w.heap.size + 3 ≤ g := fun g hg => (hown2.lt g hg).1
          have HB0 := Lib.hid hb0
          have HOWN := Lib.hid hown3
          have key : ∀ w1 : World, (((w2.setCell ⟨wr.heap.size, 0, none⟩ (.int .i64 d)).setCell ⟨wr.heap.size, 1, none⟩ (.string (ba tn))).alloc (.cells #[.int .i64 d, .string (ba tn)] 155)).grownBy w1 (Value.slice ra n rc).ownBlock → w1.cell? ⟨w.heap.size + 1 + 1, 0, none⟩ = some (.slice ra n rc) ∧ w1.frozen? ⟨w.heap.size + 1 + 1, 0, none⟩ = false := fun w1 hg => by
            have e : w1.heap[w.heap.size + 1 + 1]? = w2.heap[w.heap.size + 1 + 1]? := by
              have hle := HLE.out
              rw [hg.block (w.heap.size + 1 + 1) (by simp; omega) (fun e => by have := hb0 _ e.symm; omega), Below.heap_alloc _ _ _ (by simp; omega), Below.heap_setCell _ _ _ _ (by simp; omega), Below.heap_setCell _ _ _ _ (by simp; omega)]
            exact ⟨(World.cell?_of_block (w := w2) (a := ⟨w.heap.size + 1 + 1, 0, none⟩) e).trans q5, (World.frozen?_of_block (w := w2) (a := ⟨w.heap.size + 1 + 1, 0, none⟩) e).trans q6⟩
          have HKEY := Lib.hid key
          have hn2 : n ≤ 2000 := by omega
          have hle := HLE.out
          have k0' : (((w2.setCell ⟨wr.heap.size, 0, none⟩ (.int .i64 d)).setCell ⟨wr.heap.size, 1, none⟩ (.string (ba tn))).alloc (.cells #[.int .i64 d, .string (ba tn)] 155)).cell? ⟨w.heap.size + 1 + 1, 0, none⟩ = some (.slice ra n rc) := by
            rw [World.cell?_alloc_lt _ _ _ (by simp; omega), setCell_off (by omega), setCell_off (by omega)]; exact q5
          have HK0 := Lib.hid k0'
          clear k0'
          obtain ⟨i0, hi0, hz0, hz1, hz2⟩ := info_parts info_type
          clear hch3 hch2 hchg hcur hDA c0 c1 q2 HF H2 hown2 hown3 hb0 key
          go_wp2_with (first | (at_builtin; refine wpList_append_own _ rfl _ _ 153 rfl (w.heap.size + 3) 155 i0 (.agg #[.int .i64 0, .string ⟨#[]⟩]) 2 24 Tryz.underlying153 hi0 hz0 hz1 hz2 rfl (by decide) (.slice ra n rc) n rxs rfl (HOWN.out.alloc _) ⟨w2.heap.size, 0, none⟩ 1 1 [.int .i64 d, .string (ba tn)] (by simp [Act.eval, Act.put]) rfl (cell_two_new _ _ _ _ (by simp)) (by intro u hu; simp at hu; rcases hu with rfl | rfl <;> rfl) (by unfold maxLen; omega) (by omega) (by simp; omega) ?_; intro v1 w5 hown1 hgrow1 hnil1; obtain ⟨g1, cap1, rfl⟩ := Hi.own_form hown1; obtain ⟨k1, k2⟩ := HKEY.out w5 hgrow1))
          have HN := Lib.hid ((H3.out.alloc (.cells #[.int .i64 d, .string (ba tn)] 155)).append HK0.out HB0.out hgrow1 hown1)
          have hgk := HI1.out
          cases tok
          · have HE2 := Lib.hid (HE.out.trans (if_neg (by simp)))
            go_roundg 0
            case measure => simp at hgk; omega
            case rel => exact ⟨f, tr, n + 1, _, false, rfl, Lib.hid ⟨rfl, (fun h => by cases h), (fun _ => HE2.out), (fun h => by cases h)⟩, HN⟩
          · have HE2 := Lib.hid (HE.out.trans (if_pos rfl))
            have t3 := t2 rfl
            go_roundg (f + 1)
            case measure => simp at hgk; omega
            case rel => exact ⟨f, tr, n + 1, _, true, rfl, Lib.hid ⟨rfl, (fun _ => ⟨by omega, HE2.out.symm⟩), (fun h => by cases h), fun _ => by omega⟩, HN⟩
  · have F : Hid (descM l = ⟨0, false, 0, [], 4⟩) := Lib.hid ((HDM0.out.trans (if_neg h40)).trans descEnd_false)
    refine (take_no (w.heap.size + 1) l 40 _ H0.out.cur.rest h40 (by omega)).mono ?_
    rintro e _ ⟨rfl, rfl⟩
    clear h40 HDM0
    go_wp2
    go_step3
    go_wp2_with fail
    go_loopg [6] 0 (fun gk u wr => u = .bool false ∧ Hid (DS w wr l false 0 false 0 ⟨#[]⟩))
    case atStart => exact ⟨rfl, H0⟩
    case round =>
      obtain ⟨rfl, HF⟩ := hrel
      have HG := HF
      have k0 := HG.out.r0
      have k1 := HG.out.r1
      have k2 := HG.out.r2
      have k3 := HG.out.r3
      have k4 := HG.out.rth 0
      have k5 := HG.out.rth 1
      have k6 := HG.out.rth 2
      have k7 := HG.out.rth 3
      have k8 := HG.out.cur.rest
      have k9 := HG.out.cur.wide
      have k10 := HG.out.d1
      have k11 := HG.out.d2
      have k12 := HG.out.d3
      obtain ⟨ra, rc, rxs, k13, -⟩ := HG.out.row
      have k14 := HG.out.dth 1
      have k15 := HG.out.dth 2
      have k16 := HG.out.dth 3
      have kz := HG.out.lt
      go_wp2
      refine bodyPost_ret (Hi.results_cells_tmp rfl _ _ w.heap.size [.slice none 0 0, .bool false, .int .i64 0, .string ⟨#[]⟩] _ rfl (HF.out.put _ _ _ _).1 Tryz.underlying157 rfl desc_info) rfl ⟨⟨none, 0, by rw [F.out]; rfl⟩, (HF.out.put _ _ _ _).2⟩
end Go.Proofs.YtipinmbpdgjalaaGreatDoor.Pr
/- Reading types: descriptors of any length; how many arguments; references. -/
set_option maxRecDepth 100000
set_option maxHeartbeats 1000000
set_option linter.unusedVariables false
set_option linter.unusedSimpArgs false
namespace Go.Proofs.YtipinmbpdgjalaaGreatDoor.Pr
open Go.RowKit Bs

theorem ParseDesc_any (l : List UInt8) (w : World) (hl : l.length ≤ maxLen) (he : Lf.Env w) :
    Calls Tryz.prog 103 #[.string (ba l)] w (DescPost (descM l) w) := by
  by_cases hb : 2000 < l.length
  · unfold maxLen at hl
    have hz := ba_size l
    have hd : decide ((2000 : Int) < (l.length : Int)) = true := by simp; omega
    have F : Hid (descM l = ⟨0, false, 0, [], 5⟩) := Lib.hid (if_pos hb)
    go_enter Tryz.func103, Tryz.ntmps103
    go_wp2
    go_step3
    go_wp2
    have hc : ∀ j : Nat, (w.alloc (.cells #[.slice none 0 0, .bool false, .int .i64 0, .string ⟨#[]⟩] 157)).cell? ⟨w.heap.size, j, none⟩ = (#[Value.slice none 0 0, .bool false, .int .i64 0, .string ⟨#[]⟩])[j]? := fun j => World.cell?_alloc_new ..
    refine bodyPost_ret (Hi.results_cells_tmp rfl _ _ w.heap.size [.slice none 0 0, .bool false, .int .i64 0, .string ⟨#[]⟩] _ rfl (fun j hj => ?_) Tryz.underlying157 rfl desc_info) rfl ⟨⟨none, 0, by rw [F.out]; rfl⟩, (Below.refl _ _).alloc (Nat.le_refl _) _⟩
    rw [hc j]
    match j, hj with
    | 0, _ => rfl
    | 1, _ => rfl
    | 2, _ => rfl
    | 3, _ => rfl
  · exact ParseDesc l w (by omega) he

theorem Args (l : List UInt8) (w : World) (hl : l.length ≤ maxLen) (he : Lf.Env w) :
    Calls Tryz.prog 117 #[.string (ba l)] w fun e w' => e = .returned (.tuple #[.int .i64 (descM l).n, .int .i64 (descM l).err]) ∧ Below w.heap.size w w' := by
  have HD := Lib.hid (ParseDesc_any l w hl he)
  generalize descM l = r at HD
  clear hl he
  go_enter Tryz.func117, Tryz.ntmps117
  go_wp2_with fail
  refine HD.out.mono ?_
  rintro e w1 ⟨⟨a, c, rfl⟩, hb⟩
  have HB := Lib.hid hb
  clear hb
  go_wp2
  go_ret2
  exact ⟨rfl, HB.out.alloc HB.out.size _⟩

/-- OK, or ErrForm. -/
def formE (b : Bool) : Int := if b = true then 0 else 1
/-- Is a reference sound? -/
def refB (cls name desc : List UInt8) : Bool := decide ((refTyM cls).err = 0) && decide ((descM desc).err = 0) && Lf.memberB (ba name)

theorem RefCheck (ifc : Bool) (cls name desc : List UInt8) (w : World) (h1 : cls.length ≤ maxLen) (h2 : name.length ≤ maxLen) (h3 : desc.length ≤ maxLen) (he : Lf.Env w) :
    Calls Tryz.prog 134 #[.agg #[.bool ifc, .string (ba cls), .string (ba name), .string (ba desc)]] w fun e w' => e = .returned (.int .i64 (formE (refB cls name desc))) ∧ Below w.heap.size w w' := by
  have HE := Lib.hid he
  have HD := Lib.hid (fun w' he' => ParseDesc_any desc w' h3 he')
  have HC := Lib.hid (fun w' he' => ParseRef cls w' h1 he')
  have HM := Lib.hid (fun w' => Lf.Member (ba name) w' (by rw [ba_size]; exact h2))
  have F : Hid (refB cls name desc = (decide ((refTyM cls).err = 0) && decide ((descM desc).err = 0) && Lf.memberB (ba name))) := Lib.hid rfl
  generalize refB cls name desc = R at F ⊢
  generalize refTyM cls = c at HC F
  generalize descM desc = d at HD F
  generalize Lf.memberB (ba name) = mb at HM F
  clear he h1 h2 h3
  go_enter Tryz.func134, Tryz.ntmps134
  go_wp2_with fail
  refine (HC.out _ (env_alloc HE.out _)).mono ?_
  rintro e w1 ⟨rfl, hb1⟩
  have ce : ∀ j : Nat, (w.alloc (.cells #[.bool ifc, .string (ba cls), .string (ba name), .string (ba desc)] 118)).cell? ⟨w.heap.size, j, none⟩ = (#[Value.bool ifc, .string (ba cls), .string (ba name), .string (ba desc)])[j]? := fun j => World.cell?_alloc_new ..
  have r2 : w1.cell? ⟨w.heap.size, 2, none⟩ = some (.string (ba name)) := below_cell' hb1 (ce 2)
  have r3 : w1.cell? ⟨w.heap.size, 3, none⟩ = some (.string (ba desc)) := below_cell' hb1 (ce 3)
  have HB1 : Hid (Below w.heap.size w w1) := Lib.hid (((Below.refl _ _).alloc (Nat.le_refl _) _).trans (hb1.mono (by simp)))
  have hz1 : w.heap.size < w1.heap.size := World.block_lt_of_cell? _ _ r2
  have HE1 := Lib.hid (HE.out.below HB1.out)
  clear hb1 ce
  go_wp2_with fail
  have HB1' : Hid (Below w.heap.size w (w1.alloc (.cells #[.int .i64 c.dims, .string (ba c.name)] 155))) := Lib.hid (HB1.out.alloc HB1.out.size _)
  have r2' : (w1.alloc (.cells #[.int .i64 c.dims, .string (ba c.name)] 155)).cell? ⟨w.heap.size, 2, none⟩ = some (.string (ba name)) := alloc_old r2
  refine (HD.out _ (env_alloc HE1.out _)).mono ?_
  rintro e w2 ⟨⟨da, dc, rfl⟩, hb2⟩
  have q2 : w2.cell? ⟨w.heap.size, 2, none⟩ = some (.string (ba name)) := below_cell' hb2 r2'
  have HB2 : Hid (Below w.heap.size w w2) := Lib.hid (HB1'.out.trans (hb2.mono HB1'.out.size))
  have hz2 : w.heap.size < w2.heap.size := World.block_lt_of_cell? _ _ q2
  clear hb2 r2 r2' r3 HB1 HB1' HE1 HC HD hz1
  obtain ⟨cd, cn, ce⟩ := c
  obtain ⟨dn, dv, dd, dr, de⟩ := d
  have HX : Hid (∀ o, Below w.heap.size w (w2.alloc o)) := Lib.hid fun o => HB2.out.alloc HB2.out.size o
  by_cases h1 : ce = 0
  · subst h1
    by_cases h2 : de = 0
    · subst h2
      cases mb
      · have G : Hid (R = false) := Lib.hid (by rw [F.out]; rfl)
        go_wp2_with fail
        refine (HM.out _).mono ?_
        rintro e _ ⟨rfl, rfl⟩
        go_wp2
        go_ret
        exact ⟨by rw [G.out]; rfl, HX.out _⟩
      · have G : Hid (R = true) := Lib.hid (by rw [F.out]; rfl)
        go_wp2_with fail
        refine (HM.out _).mono ?_
        rintro e _ ⟨rfl, rfl⟩
        go_wp2
        go_ret
        exact ⟨by rw [G.out]; rfl, HX.out _⟩
    · have e2 : (de != 0) = true := by simpa using h2
      have G : Hid (R = false) := Lib.hid (by rw [F.out]; simp [h2])
      go_wp2
      go_ret
      exact ⟨by rw [G.out]; rfl, HX.out _⟩
  · have e1 : (ce != 0) = true := by simpa using h1
    have G : Hid (R = false) := Lib.hid (by rw [F.out]; simp [h1])
    go_wp2
    go_ret
    exact ⟨by rw [G.out]; rfl, HX.out _⟩
end Go.Proofs.YtipinmbpdgjalaaGreatDoor.Pr
/- Instructions: what the operand has. -/
set_option maxRecDepth 100000
set_option maxHeartbeats 2000000
set_option linter.unusedVariables false
set_option linter.unusedSimpArgs false
namespace Go.Proofs.YtipinmbpdgjalaaGreatDoor.Pr
open Go.RowKit Bs

/-- Is what the operand has fine? -/
def opndB (k n : Int) (ty cls nm ds : List UInt8) : Bool :=
  if k = 0 then true else if k = 1 then decide (-2147483648 ≤ n) && decide (n ≤ 2147483647) else if k = 2 then decide (0 ≤ n) && decide (n ≤ 39) else if k = 3 then decide (0 ≤ n) && decide (n ≤ 199)
  else if k = 4 then Lf.validB ty else if k = 5 then decide ((refTyM ty).err = 0) else if k = 6 then decide ((parseM ty).err = 0) && decide ((parseM ty).dims < 255)
  else if k = 7 then decide ((refTyM ty).err = 0) && (decide (1 ≤ n) && decide (n ≤ (refTyM ty).dims)) else if k = 8 then refB cls nm ds else false

theorem Valid_any (q : List UInt8) (w : World) (hq : q.length ≤ maxLen) (he : Lf.Env w) : Calls Tryz.prog 100 #[.string (ba q)] w fun e w' => e = .returned (.bool (Lf.validB q)) ∧ Below w.heap.size w w' := by
  have := Lf.Valid (ba q) w (by rw [ba_size]; exact hq) he
  rw [ba_list] at this
  exact this

theorem operand (op n : Int) (ifc : Bool) (ty cls nm ds : List UInt8) (w : World) (h1 : ty.length ≤ maxLen) (h2 : cls.length ≤ maxLen) (h3 : nm.length ≤ maxLen) (h4 : ds.length ≤ maxLen) (he : Lf.Env w) :
    Calls Tryz.prog 128 #[.agg #[.int .i64 op, .int .i64 n, .string (ba ty), .bool ifc, .string (ba cls), .string (ba nm), .string (ba ds)]] w fun e w' => e = .returned (.bool (opndB (Lf.operandOf op) n ty cls nm ds)) ∧ Below w.heap.size w w' := by
  have HE := Lib.hid he
  have H1 := Lib.hid h1
  have H2 := Lib.hid h2
  have H3 := Lib.hid h3
  have H4 := Lib.hid h4
  have HO := Lib.hid (fun w' => Lf.Operand op w')
  clear he h1 h2 h3 h4
  generalize Lf.operandOf op = k at HO ⊢
  obtain ⟨R, hR⟩ : ∃ R, opndB k n ty cls nm ds = R := ⟨_, rfl⟩
  rw [hR]
  have HR := Lib.hid hR
  clear hR
  go_enter Tryz.func128, Tryz.ntmps128
  go_wp2_with fail
  refine (HO.out _).mono ?_
  rintro e w1 ⟨rfl, hb1⟩
  have ce : ∀ j : Nat, (w.alloc (.cells #[.int .i64 op, .int .i64 n, .string (ba ty), .bool ifc, .string (ba cls), .string (ba nm), .string (ba ds)] 120)).cell? ⟨w.heap.size, j, none⟩ = (#[Value.int .i64 op, .int .i64 n, .string (ba ty), .bool ifc, .string (ba cls), .string (ba nm), .string (ba ds)])[j]? := fun j => World.cell?_alloc_new ..
  have c1 : w1.cell? ⟨w.heap.size, 1, none⟩ = some (.int .i64 n) := below_cell' hb1 (ce 1)
  have c2 : w1.cell? ⟨w.heap.size, 2, none⟩ = some (.string (ba ty)) := below_cell' hb1 (ce 2)
  have c3 : w1.cell? ⟨w.heap.size, 3, none⟩ = some (.bool ifc) := below_cell' hb1 (ce 3)
  have c4 : w1.cell? ⟨w.heap.size, 4, none⟩ = some (.string (ba cls)) := below_cell' hb1 (ce 4)
  have c5 : w1.cell? ⟨w.heap.size, 5, none⟩ = some (.string (ba nm)) := below_cell' hb1 (ce 5)
  have c6 : w1.cell? ⟨w.heap.size, 6, none⟩ = some (.string (ba ds)) := below_cell' hb1 (ce 6)
  have HB1 : Hid (Below w.heap.size w w1) := Lib.hid (((Below.refl _ _).alloc (Nat.le_refl _) _).trans (hb1.mono (by simp)))
  have HE1 := Lib.hid (HE.out.below HB1.out)
  clear hb1 ce
  have hk : k = 0 ∨ k = 1 ∨ k = 2 ∨ k = 3 ∨ k = 4 ∨ k = 5 ∨ k = 6 ∨ k = 7 ∨ k = 8 ∨ (k ≠ 0 ∧ k ≠ 1 ∧ k ≠ 2 ∧ k ≠ 3 ∧ k ≠ 4 ∧ k ≠ 5 ∧ k ≠ 6 ∧ k ≠ 7 ∧ k ≠ 8) := by omega
  rcases hk with rfl | rfl | rfl | rfl | rfl | rfl | rfl | rfl | rfl | ⟨n0, n1, n2, n3, n4, n5, n6, n7, n8⟩
  · go_wp2
    go_ret
    exact ⟨by rw [← HR.out]; rfl, HB1.out⟩
  · go_wp2_with fail
    refine (Lf.within _ _ _ _).mono ?_
    rintro e _ ⟨rfl, rfl⟩
    go_wp2
    go_ret
    exact ⟨by rw [← HR.out]; rfl, HB1.out⟩
  · go_wp2_with fail
    refine (Lf.within _ _ _ _).mono ?_
    rintro e _ ⟨rfl, rfl⟩
    go_wp2
    go_ret
    exact ⟨by rw [← HR.out]; rfl, HB1.out⟩
  · go_wp2_with fail
    refine (Lf.within _ _ _ _).mono ?_
    rintro e _ ⟨rfl, rfl⟩
    go_wp2
    go_ret
    exact ⟨by rw [← HR.out]; rfl, HB1.out⟩
  · go_wp2_with fail
    refine (Valid_any ty _ H1.out HE1.out).mono ?_
    rintro e w2 ⟨rfl, hb⟩
    replace HB1 := Lib.hid (HB1.out.trans (hb.mono HB1.out.size))
    clear hb
    go_wp2
    go_ret
    exact ⟨by rw [← HR.out]; rfl, HB1.out⟩
  · have G : Hid (R = decide ((refTyM ty).err = 0)) := Lib.hid HR.out.symm
    have HP := Lib.hid (ParseRef ty _ H1.out HE1.out)
    generalize refTyM ty = p at G HP
    obtain ⟨pd, pn, pe⟩ := p
    go_wp2_with fail
    refine HP.out.mono ?_
    rintro e w2 ⟨rfl, hb⟩
    replace HB1 := Lib.hid (HB1.out.trans (hb.mono HB1.out.size))
    clear hb
    go_wp2
    go_ret
    exact ⟨by rw [G.out]; exact Lf.ret_bool rfl, HB1.out.alloc HB1.out.size _⟩
  · have G : Hid (R = (decide ((parseM ty).err = 0) && decide ((parseM ty).dims < 255))) := Lib.hid HR.out.symm
    have HP := Lib.hid (Parse ty _ H1.out HE1.out)
    generalize parseM ty = p at G HP
    obtain ⟨pd, pn, pe⟩ := p
    by_cases hp : pe = 0
    · subst hp
      go_wp2_with fail
      refine HP.out.mono ?_
      rintro e w2 ⟨rfl, hb⟩
      replace HB1 := Lib.hid (HB1.out.trans (hb.mono HB1.out.size))
      clear hb
      go_wp2
      go_ret
      exact ⟨by rw [G.out]; rfl, HB1.out.alloc HB1.out.size _⟩
    · have e1 : (pe == 0) = false := by simpa using hp
      have G' : Hid (R = false) := Lib.hid (by rw [G.out]; simp [hp])
      go_wp2_with fail
      refine HP.out.mono ?_
      rintro e w2 ⟨rfl, hb⟩
      replace HB1 := Lib.hid (HB1.out.trans (hb.mono HB1.out.size))
      clear hb
      go_wp2
      go_ret
      exact ⟨by rw [G'.out]; rfl, HB1.out.alloc HB1.out.size _⟩
  · have G : Hid (R = (decide ((refTyM ty).err = 0) && (decide (1 ≤ n) && decide (n ≤ (refTyM ty).dims)))) := Lib.hid HR.out.symm
    have HP := Lib.hid (ParseRef ty _ H1.out HE1.out)
    generalize refTyM ty = p at G HP
    obtain ⟨pd, pn, pe⟩ := p
    have hz1 := World.block_lt_of_cell? _ _ c1
    by_cases hp : pe = 0
    · subst hp
      go_wp2_with fail
      refine HP.out.mono ?_
      rintro e w2 ⟨rfl, hb⟩
      have c1' := below_cell' hb c1
      have hz2 := World.block_lt_of_cell? _ _ c1'
      replace HB1 := Lib.hid (HB1.out.trans (hb.mono HB1.out.size))
      clear hb
      go_wp2_with fail
      refine (Lf.within _ _ _ _).mono ?_
      rintro e _ ⟨rfl, rfl⟩
      go_wp2
      go_ret
      exact ⟨by rw [G.out]; rfl, HB1.out.alloc HB1.out.size _⟩
    · have e1 : (pe == 0) = false := by simpa using hp
      have G' : Hid (R = false) := Lib.hid (by rw [G.out]; simp [hp])
      go_wp2_with fail
      refine HP.out.mono ?_
      rintro e w2 ⟨rfl, hb⟩
      replace HB1 := Lib.hid (HB1.out.trans (hb.mono HB1.out.size))
      clear hb
      go_wp2
      go_ret
      exact ⟨by rw [G'.out]; rfl, HB1.out.alloc HB1.out.size _⟩
  · have G : Hid (R = refB cls nm ds) := Lib.hid HR.out.symm
    have HP := Lib.hid (RefCheck ifc cls nm ds _ H2.out H3.out H4.out HE1.out)
    generalize refB cls nm ds = p at G HP
    cases p
    all_goals
      go_wp2_with fail
      refine HP.out.mono ?_
      rintro e w2 ⟨rfl, hb⟩
      replace HB1 := Lib.hid (HB1.out.trans (hb.mono HB1.out.size))
      clear hb
      unfold formE
      go_wp2
      go_ret
      exact ⟨by rw [G.out]; rfl, HB1.out⟩
  · have G : Hid (R = false) := Lib.hid (by rw [← HR.out]; unfold opndB; simp [n0, n1, n2, n3, n4, n5, n6, n7, n8])
    go_wp2
    go_ret
    exact ⟨by rw [G.out]; rfl, HB1.out⟩
end Go.Proofs.YtipinmbpdgjalaaGreatDoor.Pr
