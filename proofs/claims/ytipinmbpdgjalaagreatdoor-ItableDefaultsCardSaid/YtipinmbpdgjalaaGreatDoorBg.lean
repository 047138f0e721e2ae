/- ItableSays: the walk. -/
import Derived.Test.YtipinmbpdgjalaaGreatDoorBf
set_option maxRecDepth 100000
set_option maxHeartbeats 8000000
set_option linter.unusedVariables false
set_option linter.unusedSimpArgs false
namespace Go.Proofs.YtipinmbpdgjalaaGreatDoor.Hi
open Go.RowKit Go.Shelf Go.Sort Bs

theorem itb_cases (m : List EntM) (d : Int) : (itbM m d = ([], 3)) ∨ (itbM m d = ([], 23)) ∨ ∃ r : Nat, d = r ∧ ∃ hr : r < m.length, isIfaceM m (r : Int) = false ∧ itbM m d = ((rootL m (clo m r)).map (etyM m r), 0) := by
  cases her : entAt m d with
  | none => exact .inl (by unfold itbM; rw [rootM_out her]; rfl)
  | some e =>
    obtain ⟨r, rfl, hr, _⟩ := entAt_some her
    cases hi : isIfaceM m (r : Int) with
    | true => exact .inr (.inl (by unfold itbM; rw [rootM_iface hr hi]; rfl))
    | false => exact .inr (.inr ⟨r, rfl, hr, hi, by unfold itbM; rw [rootM_ok hr hi]⟩)

theorem ItableSays (a : Option Addr) (cp : Nat) (xs : List ClsM) (d : Int) (hwd : (Lit.int .i64 d).wf = true) (w : World) (hx : ClsSl (fun b => b < w.heap.size) w (.slice a xs.length cp) xs) (he : Lf.Env w) :
    Calls Tryz.prog 8 #[.slice a xs.length cp, .int .i64 d] w fun e w' => e = .returned (.bool true) ∧ Below w.heap.size w w' := by
  have HX := Lib.hid hx
  have HE := Lib.hid he
  have HAW := Lib.hid (awake14 w)
  clear hx he
  go_enter Tryz.func8, Tryz.ntmps8
  go_wp2_with fail
  refine HAW.out.mono ?_
  rintro e w1 ⟨rfl, hb1⟩
  have HB1 := Lib.hid hb1
  have HBU := Lib.hid (built14 a cp xs w1 (HX.out.nextO hb1) (HE.out.below hb1))
  clear hb1 HX HE HAW
  go_wp2_with fail
  refine HBU.out.mono ?_
  rintro e w2 ⟨rfl, h2⟩
  have H2 := Lib.hid h2
  have HB2 := Lib.hid (HB1.out.trans (h2.below.mono HB1.out.size))
  have HML := Lib.hid (mlA_defs xs)
  clear h2 HBU HB1
  generalize w1.heap.size = B at H2
  generalize defs xs = m at H2 HML
  have HWF := Lib.hid H2.out.wf
  have HO := Lib.hid H2.out.ord
  have HBD := Lib.hid (IBuild H2.out HML.out d)
  have HMK := Lib.hid (fun wr (hr : Below w2.heap.size w2 wr) => IMarks (H2.out.next hr) HML.out d)
  have err : ∀ te : Int, te ≠ 0 → itbM m d = ([], te) → Calls Tryz.prog 26 #[.pointer (some ⟨B + 1, 0, none⟩), .int .i64 d] w2 fun _ _ => True := fun _ _ _ => HBD.out.mono fun _ _ _ => trivial
  clear err
  rcases itb_cases m d with hit | hit | ⟨r, rfl, hr, hi, hit⟩
  case inr.inr =>
    have hL : itbM m (r : Int) = (((rootL m (clo m r)).map (etyM m r)), 0) := hit
    have HEL : Hid (∀ k (h : k < ((rootL m (clo m r)).map (etyM m r)).length), ∃ q, q ∈ rootL m (clo m r) ∧ ((rootL m (clo m r)).map (etyM m r))[k] = etyM m r q) := Lib.hid (fun k h => by
      rw [List.getElem_map]
      exact ⟨_, List.getElem_mem _, rfl⟩)
    have HLL : Hid (((rootL m (clo m r)).map (etyM m r)).length ≤ 12040) := Lib.hid (by
      have := rootM_len HWF.out HO.out HML.out (r : Int)
      rw [rootM_ok hr hi] at this
      rw [List.length_map]
      exact this)
    have HSUM : Hid (errN ((rootL m (clo m r)).map (etyM m r)) 0 + errN ((rootL m (clo m r)).map (etyM m r)) 24 + errN ((rootL m (clo m r)).map (etyM m r)) 23 + errN ((rootL m (clo m r)).map (etyM m r)) 22 = ((rootL m (clo m r)).map (etyM m r)).length) := Lib.hid (errN_all _ (fun t ht => by
      obtain ⟨q, hq, rfl⟩ := List.mem_map.1 ht
      exact root_errs HWF.out HO.out hr hi hq))
    have HQ := Lib.hid (fun q (hq : q ∈ rootL m (clo m r)) => And.intro (root_errs HWF.out HO.out hr hi hq) (root_ext HWF.out HO.out hr hq))
    have HIF := Lib.hid (fun wr (hb : Below w2.heap.size w2 wr) q => CInterface (H2.out.next hb) (r : Int) q)
    have HVI := Lib.hid (fun wr (hb : Below w2.heap.size w2 wr) q => CVirtual (H2.out.next hb) (r : Int) q)
    have HLK := Lib.hid (fun wr (hb : Below w2.heap.size w2 wr) q (hq : q ∈ rootL m (clo m r)) => ILookup (H2.out.next hb) HML.out hr hi hq)
    have HXT := Lib.hid (fun wr (hb : Below w2.heap.size w2 wr) c => (H2.out.next hb).extends (r : Int) c)
    rw [hL] at HBD HMK
    dsimp only at HBD HMK
    generalize ((rootL m (clo m r)).map (etyM m r)) = T at *
    obtain ⟨n0, hn0⟩ : ∃ n, errN T 0 = n := ⟨_, rfl⟩
    obtain ⟨n1, hn1⟩ : ∃ n, errN T 24 = n := ⟨_, rfl⟩
    obtain ⟨n2, hn2⟩ : ∃ n, errN T 23 = n := ⟨_, rfl⟩
    obtain ⟨n3, hn3⟩ : ∃ n, errN T 22 = n := ⟨_, rfl⟩
    rw [hn0, hn1, hn2, hn3] at HMK HSUM
    clear hit hL hn0 hn1 hn2 hn3
    go_wp2_with fail
    refine HBD.out.mono ?_
    rintro _ w3 ⟨ra, rc, rfl, hrow, hb⟩
    have HS3 : Hid (EtySl (fun b => b < w3.heap.size) w3 (.slice ra T.length rc) T) := Lib.hid (Sl.mono (etySl_row hrow (by have := HLL.out; omega)) (fun b hb => hb.2) fun _ _ h => h)
    have HMX := Lib.hid (HMK.out w3 hb)
    have HB3 := Lib.hid hb
    clear hb hrow HBD HMK
    go_wp2_with fail
    refine HMX.out.mono ?_
    rintro _ w4 ⟨rfl, hb⟩
    have HB4 := Lib.hid (HB3.out.trans (hb.mono HB3.out.size))
    have HS4 : Hid (EtySl (fun b => b < w3.heap.size) w4 (.slice ra T.length rc) T) := Lib.hid (HS3.out.carry (Alike.of_below hb fun _ h => h))
    have HZ : Hid (w3.heap.size ≤ w4.heap.size) := Lib.hid hb.size
    have hs := HSUM.out
    have hll := HLL.out
    have hsum : ((n0 : Int) + n1 + n2 + n3) = (T.length : Int) := by omega
    have w1' : wrap64 ((n0 : Int) + n1) = (n0 : Int) + n1 := (by unfold wrap64; omega)
    have w2' : wrap64 ((n0 : Int) + n1 + n2) = (n0 : Int) + n1 + n2 := (by unfold wrap64; omega)
    have w3' : wrap64 ((n0 : Int) + n1 + n2 + n3) = (T.length : Int) := by rw [← hsum]; exact (by unfold wrap64; omega)
    clear hb HMX HS3 HB3 HSUM
    go_wp2_with fail
    clear w1' w2' w3' hsum hs
    go_loopg [13] T.length (fun gk u wr => ∃ k : Nat, Hid (k + gk = T.length) ∧ u = .int .i64 k ∧ Hid (Below w4.heap.size w4 wr))
    case atStart => exact ⟨0, Lib.hid (Nat.zero_add _), rfl, Lib.hid (Below.refl _ _)⟩
    case round =>
      obtain ⟨k, hk, rfl, HBR⟩ := hrel
      by_cases hlt : k < T.length
      · have hlt' : (k : Int) < (T.length : Int) := by omega
        obtain ⟨b, o, rfl, _, g0, g1, g2, g3, g4, g5, g6, g7⟩ := EtySl.elem (HS4.out.carry (Alike.of_below HBR.out fun _ h => Nat.lt_of_lt_of_le h HZ.out)) hlt
        obtain ⟨q, hq, hTk⟩ := HEL.out k hlt
        rw [hTk] at g0 g1 g2 g3 g4 g5 g6 g7
        have HBW := Lib.hid (HB4.out.trans (HBR.out.mono HB4.out.size))
        obtain ⟨hqe, hqx⟩ := HQ.out q hq
        have HIQ := Lib.hid (fun wr hb => HIF.out wr hb q)
        have HVQ := Lib.hid (fun wr hb => HVI.out wr hb q)
        have HLQ := Lib.hid (fun wr hb => HLK.out wr hb q hq)
        have HXQ := Lib.hid (fun wr hb => HXT.out wr hb q.1)
        rw [hqx] at HXQ
        unfold etyM at g0 g1 g2 g3 g4 g5 g6 g7 HLQ
        obtain ⟨RI, hRI⟩ : ∃ R, itfM m r q = R := ⟨_, rfl⟩
        obtain ⟨RV, hRV⟩ : ∃ R, virM m r q = R := ⟨_, rfl⟩
        rw [hRI] at g2 g3 g4 HIQ HLQ hqe
        rw [hRV] at g5 g6 g7 HVQ HLQ
        obtain ⟨⟨i1, i2⟩, i3⟩ := RI
        obtain ⟨⟨y1, y2⟩, y3⟩ := RV
        dsimp only at g0 g1 g2 g3 g4 g5 g6 g7 hqe HIQ HVQ
        obtain ⟨q1, q2⟩ := q
        dsimp only at g0 g1 HIQ HVQ HLQ HXQ
        rw [show (etyCs ((q1, q2), ((i1, i2), i3), (y1, y2), y3)).toArray = #[.int .i64 q1, .int .i64 q2, .int .i64 i1, .int .i64 i2, .int .i64 i3, .int .i64 y1, .int .i64 y2, .int .i64 y3] from rfl] at HLQ
        have HRID := Lib.hid (fun a b w => by have := RID a b a b w; rw [beq_self_eq_true, beq_self_eq_true] at this; exact this)
        have HRE := Lib.hid (RSameEntry ((q1, q2), ((i1, i2), i3), (y1, y2), y3))
        rw [show (etyCs ((q1, q2), ((i1, i2), i3), (y1, y2), y3)).toArray = #[.int .i64 q1, .int .i64 q2, .int .i64 i1, .int .i64 i2, .int .i64 i3, .int .i64 y1, .int .i64 y2, .int .i64 y3] from rfl] at HRE
        have HQE := Lib.hid hqe
        clear hq hTk hqe hqx hRI hRV
        -- the entry on its own
        obtain ⟨wx, hwx⟩ : ∃ wx, (wr.alloc (.cells #[.int .i64 q1, .int .i64 q2, .int .i64 i1, .int .i64 i2, .int .i64 i3, .int .i64 y1, .int .i64 y2, .int .i64 y3] 68)) = wx := ⟨_, rfl⟩
        have hbx : Below wr.heap.size wr wx := by rw [← hwx]; exact (Below.refl _ _).alloc (Nat.le_refl _) _
        have CX : Cells wx wr.heap.size [.int .i64 q1, .int .i64 q2, .int .i64 i1, .int .i64 i2, .int .i64 i3, .int .i64 y1, .int .i64 y2, .int .i64 y3] := by rw [← hwx]; exact Cells.start wr [.int .i64 q1, .int .i64 q2, .int .i64 i1, .int .i64 i2, .int .i64 i3, .int .i64 y1, .int .i64 y2, .int .i64 y3] _
        have HCX := Lib.hid CX
        have HLX := Lib.hid (HBR.out.trans (hbx.mono HBR.out.size))
        have HBX := Lib.hid (HB4.out.trans (HLX.out.mono HB4.out.size))
        have x0 : wx.cell? ⟨wr.heap.size, 0, none⟩ = some (.int .i64 q1) := CX.1 0 (by simp)
        have x1 : wx.cell? ⟨wr.heap.size, 1, none⟩ = some (.int .i64 q2) := CX.1 1 (by simp)
        have HIX := Lib.hid (HIQ.out wx HBX.out)
        clear hbx CX HIQ HBW HBR
        go_wp2_with fail
        try rw [hwx]
        clear hwx g0 g1 g2 g3 g4 g5 g6 g7
        refine HIX.out.mono ?_
        rintro _ w5 ⟨rfl, hb⟩
        obtain ⟨wy, hwy⟩ : ∃ wy, (w5.alloc (.cells #[.int .i64 i1, .int .i64 i2] 38)) = wy := ⟨_, rfl⟩
        have hby : Below w5.heap.size w5 wy := by rw [← hwy]; exact (Below.refl _ _).alloc (Nat.le_refl _) _
        have CI : Cells wy w5.heap.size [.int .i64 i1, .int .i64 i2] := by rw [← hwy]; exact Cells.start w5 [.int .i64 i1, .int .i64 i2] _
        have hb' := hb.trans (hby.mono hb.size)
        have CX := HCX.out.below hb' HCX.out.lt
        have HLY := Lib.hid (HLX.out.trans (hb'.mono HLX.out.size))
        have HBY := Lib.hid (HB4.out.trans (HLY.out.mono HB4.out.size))
        have HCY := Lib.hid (And.intro CX CI)
        have HVX := Lib.hid (HVQ.out wy HBY.out)
        clear x0 x1 HCX
        have x0 : wy.cell? ⟨wr.heap.size, 0, none⟩ = some (.int .i64 q1) := CX.1 0 (by simp)
        have x1 : wy.cell? ⟨wr.heap.size, 1, none⟩ = some (.int .i64 q2) := CX.1 1 (by simp)
        clear hb hby hb' CX CI HIX HVQ HLX HBX
        go_wp2_with fail
        try rw [hwy]
        clear hwy
        refine HVX.out.mono ?_
        rintro _ w6 ⟨rfl, hb⟩
        obtain ⟨wz, hwz⟩ : ∃ wz, (w6.alloc (.cells #[.int .i64 y1, .int .i64 y2] 38)) = wz := ⟨_, rfl⟩
        have hbz : Below w6.heap.size w6 wz := by rw [← hwz]; exact (Below.refl _ _).alloc (Nat.le_refl _) _
        have CV : Cells wz w6.heap.size [.int .i64 y1, .int .i64 y2] := by rw [← hwz]; exact Cells.start w6 [.int .i64 y1, .int .i64 y2] _
        have hb' := hb.trans (hbz.mono hb.size)
        have CX := HCY.out.1.below hb' HCY.out.1.lt
        have CI := HCY.out.2.below hb' HCY.out.2.lt
        have HLZ := Lib.hid (HLY.out.trans (hb'.mono HLY.out.size))
        have HBZ := Lib.hid (HB4.out.trans (HLZ.out.mono HB4.out.size))
        have HCZ := Lib.hid (And.intro CX (And.intro CI CV))
        have HLK2 := Lib.hid (HLQ.out wz HBZ.out)
        clear x0 x1 HCY
        have x0 : wz.cell? ⟨wr.heap.size, 0, none⟩ = some (.int .i64 q1) := CX.1 0 (by simp)
        have x1 : wz.cell? ⟨wr.heap.size, 1, none⟩ = some (.int .i64 q2) := CX.1 1 (by simp)
        clear hb hbz hb' CX CI CV HVX HLQ HLY HBY
        go_wp2_with fail
        try rw [hwz]
        clear hwz
        refine HLK2.out.mono ?_
        rintro _ w7 ⟨rfl, hb⟩
        obtain ⟨wv, hwv⟩ : ∃ wv, (w7.alloc (.cells #[.int .i64 q1, .int .i64 q2, .int .i64 i1, .int .i64 i2, .int .i64 i3, .int .i64 y1, .int .i64 y2, .int .i64 y3] 68)) = wv := ⟨_, rfl⟩
        have hbv : Below w7.heap.size w7 wv := by rw [← hwv]; exact (Below.refl _ _).alloc (Nat.le_refl _) _
        have CY : Cells wv w7.heap.size [.int .i64 q1, .int .i64 q2, .int .i64 i1, .int .i64 i2, .int .i64 i3, .int .i64 y1, .int .i64 y2, .int .i64 y3] := by rw [← hwv]; exact Cells.start w7 [.int .i64 q1, .int .i64 q2, .int .i64 i1, .int .i64 i2, .int .i64 i3, .int .i64 y1, .int .i64 y2, .int .i64 y3] _
        have hb' := hb.trans (hbv.mono hb.size)
        have CX := HCZ.out.1.below hb' HCZ.out.1.lt
        have CI := HCZ.out.2.1.below hb' HCZ.out.2.1.lt
        have CV := HCZ.out.2.2.below hb' HCZ.out.2.2.lt
        have HLV := Lib.hid (HLZ.out.trans (hb'.mono HLZ.out.size))
        have HCV := Lib.hid (And.intro CX (And.intro CI (And.intro CV CY)))
        clear x0 x1 HCZ hb hbv hb' CX CI CV CY HLK2 HLZ HBZ
        have x4 : wv.cell? ⟨wr.heap.size, 4, none⟩ = some (.int .i64 i3) := HCV.out.1.1 4 (by simp)
        have x7 : wv.cell? ⟨wr.heap.size, 7, none⟩ = some (.int .i64 y3) := HCV.out.1.1 7 (by simp)
        have x2 : wv.cell? ⟨wr.heap.size, 2, none⟩ = some (.int .i64 i1) := HCV.out.1.1 2 (by simp)
        have x3 : wv.cell? ⟨wr.heap.size, 3, none⟩ = some (.int .i64 i2) := HCV.out.1.1 3 (by simp)
        have i0' : wv.cell? ⟨w5.heap.size, 0, none⟩ = some (.int .i64 i1) := HCV.out.2.1.1 0 (by simp)
        have i1' : wv.cell? ⟨w5.heap.size, 1, none⟩ = some (.int .i64 i2) := HCV.out.2.1.1 1 (by simp)
        go_wp2_with fail
        try rw [hwv]
        clear hwv
        refine (HRID.out i1 i2 wv).mono ?_
        rintro _ w8 ⟨rfl, hb⟩
        have HL8 := Lib.hid (HLV.out.trans (hb.mono HLV.out.size))
        have HC8 := Lib.hid (And.intro (HCV.out.1.below hb HCV.out.1.lt) (And.intro (HCV.out.2.1.below hb HCV.out.2.1.lt) (And.intro (HCV.out.2.2.1.below hb HCV.out.2.2.1.lt) (HCV.out.2.2.2.below hb HCV.out.2.2.2.lt))))
        clear hb HCV HLV x4 x7 x2 x3 i0' i1'
        have x5 : w8.cell? ⟨wr.heap.size, 5, none⟩ = some (.int .i64 y1) := HC8.out.1.1 5 (by simp)
        have x6 : w8.cell? ⟨wr.heap.size, 6, none⟩ = some (.int .i64 y2) := HC8.out.1.1 6 (by simp)
        have v0' : w8.cell? ⟨w6.heap.size, 0, none⟩ = some (.int .i64 y1) := HC8.out.2.2.1.1 0 (by simp)
        have v1' : w8.cell? ⟨w6.heap.size, 1, none⟩ = some (.int .i64 y2) := HC8.out.2.2.1.1 1 (by simp)
        go_wp2_with fail
        refine (HRID.out y1 y2 w8).mono ?_
        rintro _ w9 ⟨rfl, hb⟩
        have HL9 := Lib.hid (HL8.out.trans (hb.mono HL8.out.size))
        have HC9 := Lib.hid (And.intro (HC8.out.1.below hb HC8.out.1.lt) (And.intro (HC8.out.2.1.below hb HC8.out.2.1.lt) (And.intro (HC8.out.2.2.1.below hb HC8.out.2.2.1.lt) (HC8.out.2.2.2.below hb HC8.out.2.2.2.lt))))
        clear hb HC8 HL8 x5 x6 v0' v1'
        have x0 : w9.cell? ⟨wr.heap.size, 0, none⟩ = some (.int .i64 q1) := HC9.out.1.1 0 (by simp)
        have x1 : w9.cell? ⟨wr.heap.size, 1, none⟩ = some (.int .i64 q2) := HC9.out.1.1 1 (by simp)
        have x2 : w9.cell? ⟨wr.heap.size, 2, none⟩ = some (.int .i64 i1) := HC9.out.1.1 2 (by simp)
        have x3 : w9.cell? ⟨wr.heap.size, 3, none⟩ = some (.int .i64 i2) := HC9.out.1.1 3 (by simp)
        have x4 : w9.cell? ⟨wr.heap.size, 4, none⟩ = some (.int .i64 i3) := HC9.out.1.1 4 (by simp)
        have x5 : w9.cell? ⟨wr.heap.size, 5, none⟩ = some (.int .i64 y1) := HC9.out.1.1 5 (by simp)
        have x6 : w9.cell? ⟨wr.heap.size, 6, none⟩ = some (.int .i64 y2) := HC9.out.1.1 6 (by simp)
        have x7 : w9.cell? ⟨wr.heap.size, 7, none⟩ = some (.int .i64 y3) := HC9.out.1.1 7 (by simp)
        have z0 : w9.cell? ⟨w7.heap.size, 0, none⟩ = some (.int .i64 q1) := HC9.out.2.2.2.1 0 (by simp)
        have z1 : w9.cell? ⟨w7.heap.size, 1, none⟩ = some (.int .i64 q2) := HC9.out.2.2.2.1 1 (by simp)
        have z2 : w9.cell? ⟨w7.heap.size, 2, none⟩ = some (.int .i64 i1) := HC9.out.2.2.2.1 2 (by simp)
        have z3 : w9.cell? ⟨w7.heap.size, 3, none⟩ = some (.int .i64 i2) := HC9.out.2.2.2.1 3 (by simp)
        have z4 : w9.cell? ⟨w7.heap.size, 4, none⟩ = some (.int .i64 i3) := HC9.out.2.2.2.1 4 (by simp)
        have z5 : w9.cell? ⟨w7.heap.size, 5, none⟩ = some (.int .i64 y1) := HC9.out.2.2.2.1 5 (by simp)
        have z6 : w9.cell? ⟨w7.heap.size, 6, none⟩ = some (.int .i64 y2) := HC9.out.2.2.2.1 6 (by simp)
        have z7 : w9.cell? ⟨w7.heap.size, 7, none⟩ = some (.int .i64 y3) := HC9.out.2.2.2.1 7 (by simp)
        go_wp2_with fail
        refine (HRE.out w9).mono ?_
        rintro _ w10 ⟨rfl, hb⟩
        have HL10 := Lib.hid (HL9.out.trans (hb.mono HL9.out.size))
        have HC10 := Lib.hid (HC9.out.1.below hb HC9.out.1.lt)
        have HXX := Lib.hid (HXQ.out w10 (HB4.out.trans (HL10.out.mono HB4.out.size)))
        clear hb HC9 HL9 HRE HRID HXQ x0 x1 x2 x3 x4 x5 x6 x7 z0 z1 z2 z3 z4 z5 z6 z7
        have x0 : w10.cell? ⟨wr.heap.size, 0, none⟩ = some (.int .i64 q1) := HC10.out.1 0 (by simp)
        have x4 : w10.cell? ⟨wr.heap.size, 4, none⟩ = some (.int .i64 i3) := HC10.out.1 4 (by simp)
        rcases HQE.out with e | e | e | e
        all_goals
          subst e
          go_wp2_with fail
          refine HXX.out.mono ?_
          rintro _ w11 ⟨rfl, hb⟩
          have HL11 := Lib.hid (HL10.out.trans (hb.mono HL10.out.size))
          clear hb HXX HC10 x0 x4
          go_wp2
          go_roundg (T.length - (k + 1))
          case measure => have := hk.out; omega
          case rel => exact ⟨k + 1, Lib.hid (by have := hk.out; omega), by go_num, HL11⟩
      · have hlt' : ¬ (k : Int) < (T.length : Int) := by omega
        have HBE := Lib.hid (HB2.out.trans ((HB4.out.trans (HBR.out.mono HB4.out.size)).mono HB2.out.size))
        clear hk HB4 HBR
        go_wp2
        go_ret
        exact ⟨rfl, HBE.out⟩
  all_goals
    rw [hit] at HBD HMK
    dsimp only at HBD HMK
    rw [show errN ([] : List Ety) 0 = 0 from rfl, show errN ([] : List Ety) 24 = 0 from rfl, show errN ([] : List Ety) 23 = 0 from rfl, show errN ([] : List Ety) 22 = 0 from rfl] at HMK
    clear hit
    go_wp2_with fail
    refine HBD.out.mono ?_
    rintro _ w3 ⟨ra, rc, rfl, hrow, hb⟩
    have HMX := Lib.hid (HMK.out w3 hb)
    have HB3 := Lib.hid (HB2.out.trans (hb.mono HB2.out.size))
    clear hb hrow HBD HMK
    go_wp2_with fail
    refine HMX.out.mono ?_
    rintro _ w4 ⟨rfl, hb⟩
    have HB4 := Lib.hid (HB3.out.trans (hb.mono HB3.out.size))
    clear hb HMX
    go_wp2
    go_ret
    exact ⟨rfl, HB4.out⟩
end Go.Proofs.YtipinmbpdgjalaaGreatDoor.Hi
