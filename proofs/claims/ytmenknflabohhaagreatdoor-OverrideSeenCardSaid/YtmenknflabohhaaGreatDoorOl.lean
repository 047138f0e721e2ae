/- Overriding: all of a world: the walk. -/
import Derived.Test.YtmenknflabohhaaGreatDoorOi
import Derived.Test.YtmenknflabohhaaGreatDoorOj
import Derived.Deep.AppendLies
set_option maxRecDepth 100000
set_option maxHeartbeats 4000000
set_option linter.unusedVariables false
set_option linter.unusedSimpArgs false
namespace Go.Proofs.YtmenknflabohhaaGreatDoor.Hi
open Go.RowKit Bs

/-- All, of the first k classes. -/
def allK (m : List EntM) (x : MethM) (a : Int × Int) (k : Nat) : List (Int × Int) := (List.range k).flatMap fun c => ofC c (downM m x a c)
theorem allK_succ (m : List EntM) (x : MethM) (a : Int × Int) (k : Nat) : allK m x a (k + 1) = allK m x a k ++ ofC k (downM m x a k) := by
  unfold allK
  rw [List.range_succ, List.flatMap_append]
  simp
theorem allK_len {m : List EntM} (hw : WFm m) (x : MethM) (a : Int × Int) : ∀ k, k ≤ m.length → (allK m x a k).length ≤ k
  | 0, _ => by simp [allK]
  | k + 1, h => by
    have h1 := allK_len hw x a k (by omega)
    have h2 := down_top hw x a (r := k) (by omega)
    rw [allK_succ, List.length_append]
    omega
theorem down_len {m : List EntM} (hw : WFm m) (x : MethM) (a : Int × Int) {r : Nat} (hr : r < m.length) : (downM m x a r).length ≤ 301 := by
  have h1 := ch_len_le hw hr
  have h2 := downL_le m a r
  have h3 := fold_len (m := m) (n := x.name) (d := x.desc) (a := a) (ch m r).reverse (downL m a r)
  rw [List.length_reverse] at h3
  unfold downM
  split
  · simp
  split
  · omega
  · omega
theorem ofC_take (k : Nat) (L : List (Int × Int)) {j : Nat} (hj : j < L.length) : ofC k (L.take (j + 1)) = if (L[j].1 == (k : Int)) = true then ofC k (L.take j) ++ [L[j]] else ofC k (L.take j) := by
  unfold ofC
  rw [List.take_succ_eq_append_getElem hj, List.filter_append]
  split
  · next h => simp only [List.filter_cons, h]; rfl
  · next h =>
    have h' : (L[j].1 == (k : Int)) = false := by simpa using h
    simp only [List.filter_cons, h']
    simp

theorem OAll {B bw : Nat} {w0 w : World} {m : List EntM} (h : Built B bw w0 w m) (p : Int × Int) :
    Calls Tryz.prog 8 #[.pointer (some ⟨bw, 0, none⟩), .agg #[.int .i64 p.1, .int .i64 p.2]] w fun r w' => ∃ ad k, r = .returned (.tuple #[.slice ad (allR m p).1.length k, .int .i64 (allR m p).2]) ∧ IdSl (fun b => w.heap.size ≤ b ∧ b < w'.heap.size) w' (.slice ad (allR m p).1.length k) (allR m p).1 ∧ Below w.heap.size w w' := by
  obtain ⟨wa, hwa⟩ : ∃ wa, (w.alloc (.cells #[.int .i64 p.1, .int .i64 p.2] 28)) = wa := ⟨_, rfl⟩
  have hba : Below w.heap.size w wa := by rw [← hwa]; exact (Below.refl _ _).alloc (Nat.le_refl _) _
  have p0 : wa.cell? ⟨w.heap.size, 0, none⟩ = some (.int .i64 p.1) := by rw [← hwa]; exact World.cell?_alloc_new ..
  have p1 : wa.cell? ⟨w.heap.size, 1, none⟩ = some (.int .i64 p.2) := by rw [← hwa]; exact World.cell?_alloc_new ..
  have HBA := Lib.hid hba
  cases hx : methAt m p with
  | none =>
    have HR : Hid (allR m p = ([], 3)) := Lib.hid (by unfold allR; rw [hx])
    have HA := Lib.hid (OAsk_bad (bw := bw) (a := p.1) (b := p.2) (w := wa) fun wr hr => OMethod_none ((h.next hba).next hr) hx)
    rw [HR.out]
    clear h hx HR hba
    go_enter Tryz.func8, Tryz.ntmps8
    go_wp2_with fail
    try rw [hwa]
    clear hwa
    refine HA.out.mono ?_
    rintro _ w1 ⟨rfl, hb⟩
    have HB := Lib.hid (HBA.out.trans (hb.mono HBA.out.size))
    clear hb HA HBA
    go_wp2
    go_ret2
    exact ⟨none, 0, rfl, idSl_nil, HB.out⟩
  | some x =>
    have HR : Hid (allR m p = (allK m x p m.length, 0)) := Lib.hid (by unfold allR; rw [hx]; rfl)
    obtain ⟨i, j, hi, hj, rfl, hxe⟩ := methAt_some hx
    have HA := Lib.hid (OAsk (h.next hba) hi hj)
    rw [hxe] at HA
    rw [HR.out]
    have HD := Lib.hid (fun wr (hr : Below w.heap.size w wr) q r (hrm : r < m.length) (hq : AskAt wr q bw ((i : Int), (j : Int)) x) => (by
      subst hxe
      exact ODown (h.next hr) hi hj hrm hq : Calls Tryz.prog 22 #[.pointer (some ⟨q, 0, none⟩), .int .i64 r] wr fun e w' => ∃ ad k, e = .returned (.slice ad (downM m x ((i : Int), (j : Int)) r).length k) ∧ IdSl (fun b => wr.heap.size ≤ b ∧ b < w'.heap.size) w' (.slice ad (downM m x ((i : Int), (j : Int)) r).length k) (downM m x ((i : Int), (j : Int)) r) ∧ Below wr.heap.size wr w'))
    have HLN := Lib.hid (fun wr (hr : Below w.heap.size w wr) => Len (h.next hr).hw)
    have HWF := Lib.hid h.wf
    obtain ⟨ii, hi0, hiz0, hiz1, hiz2⟩ := info_parts info_id
    have hm300 := h.wf.len
    clear h hx HR hba hxe hj
    go_enter Tryz.func8, Tryz.ntmps8
    go_wp2_with fail
    try rw [hwa]
    clear hwa
    refine HA.out.mono ?_
    rintro _ w1 ⟨q, rfl, hq, hb⟩
    have HQ := Lib.hid hq
    have HB := Lib.hid (HBA.out.trans (hb.mono HBA.out.size))
    have HLX := Lib.hid (HLN.out w1 HB.out)
    clear hb HA HBA hq p0 p1 HLN
    go_wp2_with fail
    refine HLX.out.mono ?_
    rintro _ w2 ⟨rfl, rfl⟩
    clear HLX
    go_wp2_with fail
    go_loopg [8, 23] m.length (fun gk u uu wr => ∃ k : Nat, Hid (k + gk = m.length) ∧ uu = .int .i64 k ∧ Hid (wr.ownsRow w1.heap.size 28 2 u (allK m x ((i : Int), (j : Int)) k).length ((allK m x ((i : Int), (j : Int)) k).map idCells).flatten) ∧ Hid (Below w1.heap.size w1 wr))
    case atStart => exact ⟨0, Lib.hid (Nat.zero_add _), rfl, Lib.hid (World.ownsRow_nil _ _ _ _), Lib.hid (Below.refl _ _)⟩
    case round =>
      obtain ⟨k, hk, rfl, hrow, HL⟩ := hrel
      by_cases hlt : k < m.length
      · have hlt' : (k : Int) < (m.length : Int) := by omega
        have HDX := Lib.hid (HD.out wr (HB.out.trans (HL.out.mono HB.out.size)) q k hlt (HQ.out.next HL.out))
        have HPL := Lib.hid (allK_len HWF.out x ((i : Int), (j : Int)) k (by omega))
        have HSU := Lib.hid (allK_succ m x ((i : Int), (j : Int)) k)
        have HDL := Lib.hid (down_len HWF.out x ((i : Int), (j : Int)) hlt)
        obtain ⟨ps, hps⟩ : ∃ ps, allK m x ((i : Int), (j : Int)) k = ps := ⟨_, rfl⟩
        rw [hps] at hrow HPL HSU
        clear hps
        obtain ⟨L, hL⟩ : ∃ L, downM m x ((i : Int), (j : Int)) k = L := ⟨_, rfl⟩
        rw [hL] at HDX HSU HDL
        clear hL
        obtain ⟨ra, rc, rfl⟩ := own_slice hrow.out
        go_wp2_with fail
        refine HDX.out.mono ?_
        rintro _ w3 ⟨la, lc, rfl, hs, hb⟩
        have HS3 := Lib.hid hs
        have HL3 := Lib.hid (HL.out.trans (hb.mono HL.out.size))
        have HR3 : Hid (w3.ownsRow w1.heap.size 28 2 (.slice ra ps.length rc) ps.length (ps.map idCells).flatten) := Lib.hid (row_of_block hrow.out fun g hg => hb.block g (own_live hrow.out hg).2)
        have HG3 : Hid (∀ g, (Value.slice ra ps.length rc).ownBlock = some g → g < wr.heap.size ∨ w3.heap.size ≤ g) := Lib.hid (fun g hg => .inl (own_live hrow.out hg).2)
        have hz3 := hb.size
        obtain ⟨B3, hB3⟩ : ∃ B3, wr.heap.size = B3 := ⟨_, rfl⟩
        rw [hB3] at HS3 HG3 hz3
        clear hb hs HDX hrow HL hB3
        go_wp2_with fail
        go_loopg [8, 30] L.length (fun gj u uu wr => ∃ (j' : Nat) (qs : List (Int × Int)), Hid (j' + gj = L.length ∧ qs = ps ++ ofC k (L.take j')) ∧ uu = .int .i64 j' ∧ Hid (wr.ownsRow w1.heap.size 28 2 u qs.length (qs.map idCells).flatten) ∧ Hid (IdSl (fun b => B3 ≤ b ∧ b < w3.heap.size) wr (.slice la L.length lc) L) ∧ Hid (∀ g, u.ownBlock = some g → g < B3 ∨ w3.heap.size ≤ g) ∧ Hid (Below w1.heap.size w1 wr) ∧ Hid (w3.heap.size ≤ wr.heap.size))
        case atStart => exact ⟨0, ps, Lib.hid ⟨Nat.zero_add _, by simp [ofC]⟩, rfl, HR3, HS3, HG3, HL3, Lib.hid (Nat.le_refl _)⟩
        case round =>
          clear HR3 HS3 HG3 HL3
          obtain ⟨j', qs, hj', rfl, hrow, HS, HG, HL, hz⟩ := hrel
          obtain ⟨ra', rc', rfl⟩ := own_slice hrow.out
          by_cases hjl : j' < L.length
          · have hjl' : (j' : Int) < (L.length : Int) := by omega
            obtain ⟨lb, lo, rfl, g0, g1⟩ := IdSl.elem HS.out hjl
            have HTK := Lib.hid (ofC_take k L hjl)
            have HQL : Hid (qs.length ≤ 700) := Lib.hid (by
              rw [hj'.out.2, List.length_append]
              have := HPL.out
              have := HDL.out
              have := ofC_le k (L.take j')
              rw [List.length_take] at this
              omega)
            generalize L[j'] = e at g0 g1 HTK
            obtain ⟨wb, hwb⟩ : ∃ wb, (wr.alloc (.cells #[.int .i64 e.1, .int .i64 e.2] 28)) = wb := ⟨_, rfl⟩
            have hbb : Below wr.heap.size wr wb := by rw [← hwb]; exact (Below.refl _ _).alloc (Nat.le_refl _) _
            have m0 : wb.cell? ⟨wr.heap.size, 0, none⟩ = some (.int .i64 e.1) := by rw [← hwb]; exact World.cell?_alloc_new ..
            have m1 : wb.cell? ⟨wr.heap.size, 1, none⟩ = some (.int .i64 e.2) := by rw [← hwb]; exact World.cell?_alloc_new ..
            have hzq := hz.out
            have HSB : Hid (IdSl (fun b => B3 ≤ b ∧ b < w3.heap.size) wb (.slice (some ⟨lb, lo, none⟩) L.length lc) L) := Lib.hid (HS.out.alike (Alike.of_below hbb fun b hb => by omega))
            have HRB : Hid (wb.ownsRow w1.heap.size 28 2 (.slice ra' qs.length rc') qs.length (qs.map idCells).flatten) := Lib.hid (by rw [← hwb]; exact hrow.out.alloc _)
            have HLB : Hid (Below w1.heap.size w1 wb) := Lib.hid (HL.out.trans (hbb.mono HL.out.size))
            have hzb : w3.heap.size ≤ wb.heap.size := Nat.le_trans hzq hbb.size
            clear hbb
            by_cases hc : e.1 = (k : Int)
            case neg =>
              have hc' : (e.1 == (k : Int)) = false := by simpa using hc
              have HN : Hid (qs = ps ++ ofC k (L.take (j' + 1))) := Lib.hid (by rw [HTK.out, hc', hj'.out.2]; rfl)
              have HZB := Lib.hid hzb
              have hdl := HDL.out
              clear hc HTK hzb hzq
              go_wp2_with fail
              try rw [hwb]
              clear hwb
              go_wp2
              go_roundg (L.length - (j' + 1))
              case measure => have := hj'.out.1; omega
              case rel => exact ⟨j' + 1, qs, Lib.hid ⟨by have := hj'.out.1; omega, HN.out⟩, by go_num, HRB, HSB, HG, HLB, HZB⟩
            have hc' : (e.1 == (k : Int)) = true := by simpa using hc
            have HN : Hid (qs ++ [e] = ps ++ ofC k (L.take (j' + 1))) := Lib.hid (by rw [HTK.out, hc', hj'.out.2, List.append_assoc]; rfl)
            clear hc HTK
            have HNEW : Hid (∀ j u, ([.int .i64 e.1, .int .i64 e.2] : List Value)[j]? = some u → (wb.alloc (.cells #[.int .i64 e.1, .int .i64 e.2] 28)).cell? ((⟨wb.heap.size, 0, none⟩ : Addr).add j) = some u) := Lib.hid (by
              intro j u hu
              rw [show (⟨wb.heap.size, 0, none⟩ : Addr).add j = ⟨wb.heap.size, j, none⟩ by unfold Addr.add; split <;> simp_all]
              rw [World.cell?_alloc_new]
              rw [← Array.getElem?_toList]
              exact hu)
            have hq700 := HQL.out
            have hzl := HL.out.size
            have hdl := HDL.out
            subst hwb
            go_wp2_with (first | (at_builtin; refine wpList_append_lies _ rfl _ _ 35 rfl w1.heap.size 28 ii (.agg #[.int .i64 0, .int .i64 0]) 2 16 Tryz.underlying35 hi0 hiz0 hiz1 hiz2 rfl (by decide) (.slice ra' qs.length rc') qs.length (qs.map idCells).flatten rfl (HRB.out.alloc _) ⟨(wr.alloc (.cells #[.int .i64 e.1, .int .i64 e.2] 28)).heap.size, 0, none⟩ 1 1 [.int .i64 e.1, .int .i64 e.2] (by simp [Act.eval, Act.put]) rfl HNEW.out (by intro u hu; simp at hu; rcases hu with rfl | rfl <;> rfl) (by decide) (by unfold maxLen; omega) (by omega) (by simp; omega) ((wr.alloc (.cells #[.int .i64 e.1, .int .i64 e.2] 28)).heap.size + 1) (by simp) ?_; intro g1' cap1 w6 hown1 hgrow1 hwh hlg))
            have HR6 : Hid (w6.ownsRow w1.heap.size 28 2 (.slice (some ⟨g1', 0, none⟩) (qs.length + 1) cap1) (qs ++ [e]).length ((qs ++ [e]).map idCells).flatten) := Lib.hid (by simpa [idCells] using hown1)
            have HS6 : Hid (IdSl (fun b => B3 ≤ b ∧ b < w3.heap.size) w6 (.slice (some ⟨lb, lo, none⟩) L.length lc) L) := Lib.hid (HSB.out.alike fun b hb => by
              refine (hgrow1.block b (by simp; omega) (fun e => ?_)).trans (Below.heap_alloc (wr.alloc (.cells #[.int .i64 e.1, .int .i64 e.2] 28)) _ b (by simp; omega))
              have := HG.out b e.symm
              omega)
            have HG6 : Hid (∀ g, (Value.slice (some ⟨g1', 0, none⟩) (qs.length + 1) cap1).ownBlock = some g → g < B3 ∨ w3.heap.size ≤ g) := Lib.hid (fun g hg => by
              obtain rfl : g1' = g := by simpa [Value.ownBlock] using hg
              rcases hwh with h | h
              · exact HG.out _ h
              · simp at h
                omega)
            have HL6 : Hid (Below w1.heap.size w1 w6) := Lib.hid ((HLB.out.alloc HLB.out.size _).grown hgrow1 (by simp; omega) (fun g hg => (own_live HRB.out hg).1))
            have HZ6 : Hid (w3.heap.size ≤ w6.heap.size) := Lib.hid (by
              have := hgrow1.size
              simp at this
              omega)
            clear hown1 hgrow1 hwh hlg HRB HSB HLB
            go_roundg (L.length - (j' + 1))
            case measure => have := hj'.out.1; omega
            case rel => exact ⟨j' + 1, qs ++ [e], Lib.hid ⟨by have := hj'.out.1; omega, HN.out⟩, by go_num, by simpa using HR6, HS6, HG6, HL6, HZ6⟩
          · have hjn : j' = L.length := by have := hj'.out.1; omega
            have HQS : Hid (qs = allK m x ((i : Int), (j : Int)) (k + 1)) := Lib.hid (by rw [HSU.out, hj'.out.2, hjn, List.take_length])
            have HRQ : Hid (wr.ownsRow w1.heap.size 28 2 (.slice ra' qs.length rc') (allK m x ((i : Int), (j : Int)) (k + 1)).length ((allK m x ((i : Int), (j : Int)) (k + 1)).map idCells).flatten) := Lib.hid (by rw [← HQS.out]; exact hrow.out)
            clear hjn
            go_wp2
            go_roundg (m.length - (k + 1))
            case measure => have := hk.out; omega
            case rel => exact ⟨k + 1, Lib.hid (by have := hk.out; omega), by go_num, HRQ, HL⟩
      · have hkn : k = m.length := by have := hk.out; omega
        subst hkn
        obtain ⟨ra, rc, rfl⟩ := own_slice hrow.out
        have HPL := Lib.hid (allK_len HWF.out x ((i : Int), (j : Int)) m.length (Nat.le_refl _))
        go_wp2
        go_ret2
        exact ⟨ra, rc, rfl, (idSl_row hrow.out (by have := HPL.out; omega)).mono (fun b hb => ⟨by have := HB.out.size; omega, hb.2⟩), HB.out.trans (HL.out.mono HB.out.size)⟩
end Go.Proofs.YtmenknflabohhaaGreatDoor.Hi
