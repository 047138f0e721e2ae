/- Interface tables: the methods that flags let through; Roots: the walks. -/
import Derived.Test.YtipinmbpdgjalaaGreatDoorWC
import Derived.Test.YtipinmbpdgjalaaGreatDoorOj
set_option maxRecDepth 100000
set_option maxHeartbeats 4000000
set_option linter.unusedVariables false
set_option linter.unusedSimpArgs false
namespace Go.Proofs.YtipinmbpdgjalaaGreatDoor.Hi
open Go.RowKit Go.Shelf Go.Sort Bs

theorem methAtI {m : List EntM} {c k : Nat} (hc : c < m.length) (hk : k < m[c].c.meths.length) : methAt m ((c : Int), (k : Int)) = some m[c].c.meths[k] := methAt_at hc hk
/-- The methods of a class: their numbers. -/
def idsI (m : List EntM) (c : Nat) : List (Int × Int) := (List.range (clsAt m c).meths.length).map fun (i : Nat) => ((c : Int), (i : Int))
/-- What flags let through: none of wo, all of wi, and no <init>. -/
def mthX (wo wi : Int) (y : MethM) : Bool := (bits .and .i64 y.flags wo == 0) && ((bits .and .i64 y.flags wi == wi) && !(y.name.toList == initN.toList))
def mthB (m : List EntM) (wo wi : Int) (q : Int × Int) : Bool := match methAt m q with
  | some y => mthX wo wi y
  | none => false
def mthM (m : List EntM) (c : Nat) (wo wi : Int) : List (Int × Int) := (idsI m c).filter (mthB m wo wi)
theorem idsI_take {m : List EntM} {c j : Nat} (hj : j < (clsAt m c).meths.length) : (idsI m c).take (j + 1) = (idsI m c).take j ++ [((c : Int), (j : Int))] := by
  unfold idsI
  rw [List.take_succ_eq_append_getElem (by rw [List.length_map, List.length_range]; exact hj), List.getElem_map, List.getElem_range]
theorem mem_mth {m : List EntM} {c : Nat} (hc : c < m.length) {wo wi : Int} {q : Int × Int} (h : q ∈ mthM m c wo wi) : ∃ (k : Nat) (hk : k < m[c].c.meths.length), q = ((c : Int), (k : Int)) ∧ methAt m q = some m[c].c.meths[k] ∧ mthX wo wi m[c].c.meths[k] = true := by
  obtain ⟨h1, h2⟩ := List.mem_filter.1 h
  obtain ⟨k, hk, rfl⟩ := List.mem_map.1 h1
  rw [List.mem_range, clsAt_at hc] at hk
  refine ⟨k, hk, rfl, methAt_at hc hk, ?_⟩
  unfold mthB at h2
  rw [methAt_at hc hk] at h2
  exact h2

theorem IMethods {B bw : Nat} {w0 w : World} {m : List EntM} (h : Built B bw w0 w m) {c : Nat} (hc : c < m.length) (wo wi : Int) :
    Calls Tryz.prog 67 #[.pointer (some ⟨bw, 0, none⟩), .int .i64 c, .int .i64 wo, .int .i64 wi] w fun e w' => ∃ ad k, e = .returned (.slice ad (mthM m c wo wi).length k) ∧ w'.ownsRow w.heap.size 38 2 (.slice ad (mthM m c wo wi).length k) (mthM m c wo wi).length ((mthM m c wo wi).map idCells).flatten ∧ Below w.heap.size w w' := by
  have HC := Class_in h.hw h.live (entAt_nat hc)
  have HM : Hid (∀ j (hj : j < m[c].c.meths.length), mthB m wo wi ((c : Int), (j : Int)) = mthX wo wi m[c].c.meths[j]) := Lib.hid (fun j hj => by
    unfold mthB
    rw [methAt_at hc hj])
  have HTK : Hid (∀ j, j < m[c].c.meths.length → (idsI m c).take (j + 1) = (idsI m c).take j ++ [((c : Int), (j : Int))]) := Lib.hid (fun j hj => idsI_take (by rw [clsAt_at hc]; exact hj))
  have HLN : Hid ((idsI m c).length = m[c].c.meths.length) := Lib.hid (by unfold idsI; rw [List.length_map, List.length_range, clsAt_at hc])
  have HOW : Hid (mthM m c wo wi = (idsI m c).filter (mthB m wo wi)) := Lib.hid rfl
  generalize m[c].c = C at HC HM HTK HLN
  have HC := Lib.hid HC
  obtain ⟨L, hL⟩ : ∃ L, mthM m c wo wi = L := ⟨_, rfl⟩
  rw [hL] at HOW ⊢
  generalize idsI m c = ids at HTK HLN HOW
  obtain ⟨pb, hpb⟩ : ∃ pb, mthB m wo wi = pb := ⟨_, rfl⟩
  rw [hpb] at HOW HM
  obtain ⟨i0, hi0, hiz0, hiz1, hiz2⟩ := info_parts info_id
  have hinit : initN.toList = [60, 105, 110, 105, 116, 62] := by decide +kernel
  clear h hc hL hpb
  go_enter Tryz.func67, Tryz.ntmps67
  go_wp2_with fail
  refine HC.out.mono ?_
  rintro _ w1 ⟨cs, rfl, hcl, hb⟩
  obtain ⟨iv, mv, rfl, _, _, hif, _, _, hme⟩ := hcl
  obtain ⟨ia, ic, rfl, _⟩ := id hif
  obtain ⟨ma, mc, rfl, _, hby, _⟩ := id hme
  rw [show [Value.string C.name, .string C.super, .slice ia C.ifaces.length ic, .int .i64 C.flags, .int .i64 C.loader, .slice ma C.meths.length mc].toArray = #[Value.string C.name, .string C.super, .slice ia C.ifaces.length ic, .int .i64 C.flags, .int .i64 C.loader, .slice ma C.meths.length mc] from rfl]
  obtain ⟨wx, hwx⟩ : ∃ wx, (w1.alloc (.cells #[.string C.name, .string C.super, .slice ia C.ifaces.length ic, .int .i64 C.flags, .int .i64 C.loader, .slice ma C.meths.length mc] 26)) = wx := ⟨_, rfl⟩
  have hbx : Below w1.heap.size w1 wx := by rw [← hwx]; exact (Below.refl _ _).alloc (Nat.le_refl _) _
  have c5 : wx.cell? ⟨w1.heap.size, 5, none⟩ = some (.slice ma C.meths.length mc) := by rw [← hwx]; exact World.cell?_alloc_new ..
  have HB1 := Lib.hid (hb.trans (hbx.mono hb.size))
  have HMS : Hid (MethSl (fun b => b < wx.heap.size) wx (.slice ma C.meths.length mc) C.meths) := Lib.hid ((hme.alike (Alike.of_below hbx fun k hk => hk.2)).mono fun k hk => Nat.lt_of_lt_of_le hk.2 hbx.size)
  clear hb hbx HC hif hme
  go_wp2_with fail
  try rw [hwx]
  clear hwx c5
  have HSZ : Hid (w.heap.size ≤ wx.heap.size) := Lib.hid HB1.out.size
  go_loopg [11, 23] C.meths.length (fun gk u uu wr => ∃ (k : Nat) (ps : List (Int × Int)), Hid (k + gk = C.meths.length ∧ ps = (ids.take k).filter pb) ∧ uu = .int .i64 k ∧ Hid (wr.ownsRow wx.heap.size 38 2 u ps.length (ps.map idCells).flatten) ∧ Hid (Below wx.heap.size wx wr))
  case atStart => exact ⟨0, [], Lib.hid ⟨Nat.zero_add _, by simp⟩, rfl, Lib.hid (World.ownsRow_nil _ _ _ _), Lib.hid (Below.refl _ _)⟩
  case round =>
    obtain ⟨j, ps, hk, rfl, hrow, HL⟩ := hrel
    obtain ⟨ra, rc, rfl⟩ := own_slice hrow.out
    by_cases hlt : j < C.meths.length
    · have hlt' : (j : Int) < (C.meths.length : Int) := by omega
      have hj : (j : Int) ≤ 140737488355328 := by omega
      obtain ⟨b, o, ca, cc, rfl, g0, g1, g2, g3, g4, g5, _⟩ := MethSl.elem (HMS.out.alike (Alike.of_below HL.out fun _ h => h)) hlt
      have HPL : Hid (ps.length ≤ j) := Lib.hid (by
        rw [hk.out.2]
        have h1 := List.length_filter_le pb (ids.take j)
        have h2 : (ids.take j).length ≤ j := by simp; omega
        omega)
      have HPS : Hid ((ids.take (j + 1)).filter pb = ps ++ (if pb ((c : Int), (j : Int)) = true then [((c : Int), (j : Int))] else [])) := Lib.hid (by
        rw [HTK.out j hlt, List.filter_append, ← hk.out.2]
        congr 1
        cases h : pb ((c : Int), (j : Int)) <;> simp [h])
      have HMJ := HM.out j hlt
      unfold mthX at HMJ
      rw [hinit] at HMJ
      generalize C.meths[j] = y at g0 g1 g2 g3 g4 g5 HMJ
      obtain ⟨wy, hwy⟩ : ∃ wy, (wr.alloc (.cells #[.string y.name, .string y.desc, .int .i64 y.flags, .int .i64 y.locals, .int .i64 y.stack, .slice ca y.code.length cc] 55)) = wy := ⟨_, rfl⟩
      have hby2 : Below wr.heap.size wr wy := by rw [← hwy]; exact (Below.refl _ _).alloc (Nat.le_refl _) _
      have x0 : wy.cell? ⟨wr.heap.size, 0, none⟩ = some (.string y.name) := by rw [← hwy]; exact World.cell?_alloc_new ..
      have x2 : wy.cell? ⟨wr.heap.size, 2, none⟩ = some (.int .i64 y.flags) := by rw [← hwy]; exact World.cell?_alloc_new ..
      have HLY : Hid (Below wx.heap.size wx wy) := Lib.hid (HL.out.trans (hby2.mono HL.out.size))
      have hrowY := Lib.hid (row_of_block hrow.out fun q hq => hby2.block q (own_live hrow.out hq).2)
      obtain ⟨R, hR⟩ : ∃ R, pb ((c : Int), (j : Int)) = R := ⟨_, rfl⟩
      rw [hR] at HMJ HPS
      have HR := Lib.hid HMJ
      clear hby2 HMJ hR hrow
      cases h1 : (bits .and .i64 y.flags wo == 0)
      all_goals
        cases h2 : (bits .and .i64 y.flags wi == wi)
        all_goals
          cases h3 : (y.name.toList == [60, 105, 110, 105, 116, 62])
          all_goals rw [h1, h2, h3] at HR
      case true.true.false =>
        have HN : Hid ((ids.take (j + 1)).filter pb = ps ++ [((c : Int), (j : Int))]) := Lib.hid (by rw [HPS.out, HR.out]; rfl)
        have HNEW : Hid (∀ i u, ([.int .i64 (c : Int), .int .i64 (j : Int)] : List Value)[i]? = some u → (wy.alloc (.cells #[.int .i64 (c : Int), .int .i64 (j : Int)] 38)).cell? ((⟨wy.heap.size, 0, none⟩ : Addr).add i) = some u) := Lib.hid (by
          intro i u hu
          rw [show (⟨wy.heap.size, 0, none⟩ : Addr).add i = ⟨wy.heap.size, i, none⟩ by unfold Addr.add; split <;> simp_all]
          rw [World.cell?_alloc_new]
          rw [← Array.getElem?_toList]
          exact hu)
        have hz3 := HLY.out.size
        clear HPS HR
        go_upto_if 45 with fail
        try rw [hwy]
        clear hwy g0 g1 g2 g3 g4 g5
        go_wp2_with (first | (at_builtin; refine wpList_append_own _ rfl _ _ 72 rfl wx.heap.size 38 i0 (.agg #[.int .i64 0, .int .i64 0]) 2 16 Tryz.underlying72 hi0 hiz0 hiz1 hiz2 rfl (by decide) (.slice ra ps.length rc) ps.length (ps.map idCells).flatten rfl (hrowY.out.alloc _) ⟨wy.heap.size, 0, none⟩ 1 1 [.int .i64 (c : Int), .int .i64 (j : Int)] (by simp [Act.eval, Act.put]) rfl HNEW.out (by intro u hu; simp at hu; rcases hu with rfl | rfl <;> rfl) (by have := HPL.out; unfold maxLen; omega) (by have := HPL.out; omega) (by simp at hz3 ⊢; omega) ?_; intro v1 w6 hown1 hgrow1 hnil1; obtain ⟨g1', cap1, rfl⟩ := own_form hown1))
        have HL6 : Hid (Below wx.heap.size wx w6) := Lib.hid ((HLY.out.alloc HLY.out.size _).grown hgrow1 (by simp at hz3 ⊢; omega) (fun q hq => (own_live hrowY.out hq).1))
        have HR6 : Hid (w6.ownsRow wx.heap.size 38 2 (.slice (some ⟨g1', 0, none⟩) (ps.length + 1) cap1) (ps ++ [((c : Int), (j : Int))]).length ((ps ++ [((c : Int), (j : Int))]).map idCells).flatten) := Lib.hid (by simpa [idCells] using hown1)
        go_roundg (C.meths.length - (j + 1))
        case measure => have := hk.out.1; omega
        case rel => exact ⟨j + 1, _, Lib.hid ⟨by have := hk.out.1; omega, HN.out.symm⟩, by go_num, by simpa using HR6, HL6⟩
      all_goals
        have HN : Hid ((ids.take (j + 1)).filter pb = ps) := Lib.hid (by rw [HPS.out, HR.out]; simp)
        clear HPS HR
        go_upto_if 45 with fail
        try rw [hwy]
        clear hwy g0 g1 g2 g3 g4 g5
        go_wp2
        go_roundg (C.meths.length - (j + 1))
        case measure => have := hk.out.1; omega
        case rel => exact ⟨j + 1, ps, Lib.hid ⟨by have := hk.out.1; omega, HN.out.symm⟩, by go_num, hrowY, HLY⟩
    · have hkn : j = C.meths.length := by have := hk.out.1; omega
      have HPS : Hid (ps = L) := Lib.hid (by rw [hk.out.2, hkn, ← HLN.out, List.take_length, HOW.out])
      clear hkn
      go_wp2
      go_ret
      have hp := HPS.out
      subst hp
      exact ⟨ra, rc, rfl, row_less hrow.out HSZ.out, HB1.out.trans (HL.out.mono HB1.out.size)⟩
end Go.Proofs.YtipinmbpdgjalaaGreatDoor.Hi
