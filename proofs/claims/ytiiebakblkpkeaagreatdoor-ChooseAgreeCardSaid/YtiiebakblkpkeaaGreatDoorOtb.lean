/- Overriding: First: the walk. -/
import Derived.Test.YtiiebakblkpkeaaGreatDoorOt
import Derived.Test.YtiiebakblkpkeaaGreatDoorOsb
set_option maxRecDepth 100000
set_option maxHeartbeats 4000000
set_option linter.unusedVariables false
set_option linter.unusedSimpArgs false
namespace Go.Proofs.YtiiebakblkpkeaaGreatDoor.Hi
open Go.RowKit Bs

theorem OFirst1 {S : Nat → Prop} {w : World} {cb cc : Nat} {ca : Option Addr} {L : List Int} (hb : w.cell? ⟨cb, 0, none⟩ = some (.slice ca L.length cc)) (hs : IntSl S w (.slice ca L.length cc) L) (hS : ∀ k, S k → k < w.heap.size) (p : Int × Int) :
    Calls Tryz.prog 61 #[idO p, .pointer (some ⟨cb, 0, none⟩)] w fun r w' => r = .returned (.bool (!L.contains p.1)) ∧ Below w.heap.size w w' := by
  obtain ⟨wa, hwa⟩ : ∃ wa, (w.alloc (.cells #[.int .i64 p.1, .int .i64 p.2] 24)) = wa := ⟨_, rfl⟩
  have hba : Below w.heap.size w wa := by rw [← hwa]; exact (Below.refl _ _).alloc (Nat.le_refl _) _
  have p0 : wa.cell? ⟨w.heap.size, 0, none⟩ = some (.int .i64 p.1) := by rw [← hwa]; exact World.cell?_alloc_new ..
  have k0 := below_cell' hba hb
  have HC := Lib.hid (contains_ints p.1 (hs.alike (Alike.of_below hba hS)))
  have HB := Lib.hid hba
  generalize L.contains p.1 = t at *
  unfold idO
  clear hba hs hS hb
  go_enter Tryz.func61, Tryz.ntmps61
  go_wp2_with fail
  try rw [hwa]
  clear hwa
  refine HC.out.mono ?_
  rintro _ w1 ⟨rfl, rfl⟩
  go_wp2
  go_ret
  exact ⟨rfl, HB.out⟩

/-- First, of a method that is there. -/
def firstI (m : List EntM) (x : MethM) (a : Int × Int) (r : Int) : (Int × Int) × Int := match entAt m r with
  | none => (((0 : Int), (0 : Int)), 3)
  | some _ => firstE m x a r.toNat

theorem OFirst {B bw : Nat} {w0 w : World} {m : List EntM} (h : Built B bw w0 w m) {a b : Nat} (ha : a < m.length) (hb : b < m[a].c.meths.length) (r : Int) :
    Calls Tryz.prog 29 #[.pointer (some ⟨bw, 0, none⟩), .int .i64 r, .agg #[.int .i64 a, .int .i64 b]] w fun e w' => e = .returned (.tuple #[.agg #[.int .i64 (firstI m m[a].c.meths[b] ((a : Int), (b : Int)) r).1.1, .int .i64 (firstI m m[a].c.meths[b] ((a : Int), (b : Int)) r).1.2], .int .i64 (firstI m m[a].c.meths[b] ((a : Int), (b : Int)) r).2]) ∧ Below w.heap.size w w' := by
  obtain ⟨wp, hwp⟩ : ∃ wp, (w.alloc (.cells #[.int .i64 (a : Int), .int .i64 (b : Int)] 24)) = wp := ⟨_, rfl⟩
  have hbp : Below w.heap.size w wp := by rw [← hwp]; exact (Below.refl _ _).alloc (Nat.le_refl _) _
  have hzp : wp.heap.size = w.heap.size + 1 := by rw [← hwp]; simp
  have HS := Lib.hid (IdAt.start wp)
  obtain ⟨wa, hwa⟩ : ∃ wa, (wp.alloc (.cells #[.int .i64 0, .int .i64 0] 24)) = wa := ⟨_, rfl⟩
  rw [hwa] at HS
  have p0 : wp.cell? ⟨w.heap.size, 0, none⟩ = some (.int .i64 a) := by rw [← hwp]; exact World.cell?_alloc_new ..
  have p1 : wp.cell? ⟨w.heap.size, 1, none⟩ = some (.int .i64 b) := by rw [← hwp]; exact World.cell?_alloc_new ..
  have q0 : wa.cell? ⟨w.heap.size, 0, none⟩ = some (.int .i64 a) := by rw [← hwa]; exact alloc_old p0
  have q1 : wa.cell? ⟨w.heap.size, 1, none⟩ = some (.int .i64 b) := by rw [← hwa]; exact alloc_old p1
  have HBP := Lib.hid hbp
  have hba := hbp.trans (HS.out.bel.mono hbp.size)
  have HA := Lib.hid (OAsk (h.next hba) ha hb)
  have HD := Lib.hid (fun wr (hr : Below w.heap.size w wr) q k (hk : k < m.length) (hq : AskAt wr q bw ((a : Int), (b : Int)) m[a].c.meths[b]) => ODownR (h.next hr) ha hb hk hq)
  have HC := Lib.hid (fun wr (hr : Below w.heap.size w wr) => Chain (h.next hr).hw (h.next hr).live r)
  have HWF := Lib.hid h.wf
  generalize m[a].c.meths[b] = x at *
  obtain ⟨R, hR⟩ : ∃ R, firstI m x ((a : Int), (b : Int)) r = R := ⟨_, rfl⟩
  rw [hR]
  have HRV := Lib.hid hR
  obtain ⟨⟨u1, u2⟩, ur⟩ := R
  simp only
  clear h hb hbp hba p0 p1 hR
  go_enter Tryz.func29, Tryz.ntmps29
  go_wp2_with fail
  try rw [hwp]
  try rw [hwa]
  clear hwp hwa
  refine HA.out.mono ?_
  rintro _ w1 ⟨q, rfl, hq, hb⟩
  have HS1 := Lib.hid (HS.out.next hb)
  have HB1 : Hid (Below w.heap.size w w1) := Lib.hid (HBP.out.trans (HS1.out.bel.mono HBP.out.size))
  have HQ := Lib.hid hq
  have HCX := Lib.hid (HC.out w1 HB1.out)
  clear hb hq HA HS q0 q1 HC
  have HZP := Lib.hid hzp
  have HTWO : Hid (∀ w', IdAt wp w' → (w'.cell? ⟨w.heap.size + 1, 0, none⟩ = some (.int .i64 0) ∧ w'.cell? ⟨w.heap.size + 1, 1, none⟩ = some (.int .i64 0) ∧ ∀ j, w'.frozen? ⟨w.heap.size + 1, j, none⟩ = false) ∧ ∀ v0 v1, (∀ j (hj : j < [v0, v1].length), ((w'.setCell ⟨w.heap.size + 1, 0, none⟩ v0).setCell ⟨w.heap.size + 1, 1, none⟩ v1).cell? ⟨w.heap.size + 1, j, none⟩ = some [v0, v1][j]) ∧ Below w.heap.size w ((w'.setCell ⟨w.heap.size + 1, 0, none⟩ v0).setCell ⟨w.heap.size + 1, 1, none⟩ v1)) := Lib.hid (fun w' h => by
    rw [← hzp]
    exact ⟨⟨h.s0, h.s1, h.t⟩, fun v0 v1 => ⟨h.two v0 v1, HBP.out.trans ((h.end v0 v1).mono HBP.out.size)⟩⟩)
  clear hzp
  cases her : entAt m r with
  | none =>
    obtain ⟨⟨rfl, rfl⟩, rfl⟩ : ((0 : Int) = u1 ∧ (0 : Int) = u2) ∧ (3 : Int) = ur := by
      have hR := HRV.out
      unfold firstI at hR
      rw [her] at hR
      simpa [Prod.ext_iff] using hR
    have HCM : Hid (chainM m r = ([], 3)) := Lib.hid (by unfold chainM; rw [her])
    rw [HCM.out] at HCX
    clear her HCM HRV
    go_wp2_with fail
    refine HCX.out.mono ?_
    rintro _ w2 ⟨ca, cc, rfl, _, hb⟩
    obtain ⟨wy, hwy⟩ : ∃ wy, (w2.alloc (.cells #[.slice ca 0 cc] 42)) = wy := ⟨_, rfl⟩
    have hby : Below w2.heap.size w2 wy := by rw [← hwy]; exact (Below.refl _ _).alloc (Nat.le_refl _) _
    have HS2 := Lib.hid (HS1.out.next (hb.trans (hby.mono hb.size)))
    obtain ⟨⟨s0, s1, st⟩, hfin⟩ := HTWO.out wy HS2.out
    have t0 := st 0
    have t1 := st 1
    have HFIN := Lib.hid hfin
    clear hb hby HCX st hfin
    subst hwy
    go_wp2
    refine bodyPost_ret (results_cells_tmp rfl _ _ (w.heap.size + 1) [.int .i64 0, .int .i64 0] _ rfl (HFIN.out _ _).1 Tryz.underlying24 rfl id_info2) rfl ⟨rfl, (HFIN.out _ _).2⟩
  | some e =>
    obtain ⟨k, rfl, hk, _⟩ := entAt_some her
    have HR : Hid (firstE m x ((a : Int), (b : Int)) k = ((u1, u2), ur)) := Lib.hid (by
      have hR := HRV.out
      unfold firstI at hR
      rw [her, Int.toNat_natCast] at hR
      exact hR)
    have HCM : Hid (chainM m (k : Int) = (ch m k, 0)) := Lib.hid (by unfold ch chainM; rw [her])
    rw [HCM.out] at HCX
    clear her HCM HRV
    go_wp2_with fail
    refine HCX.out.mono ?_
    rintro _ w2 ⟨ca, cc, rfl, hs, hb⟩
    obtain ⟨wy, hwy⟩ : ∃ wy, (w2.alloc (.cells #[.slice ca (ch m k).length cc] 42)) = wy := ⟨_, rfl⟩
    have hby : Below w2.heap.size w2 wy := by rw [← hwy]; exact (Below.refl _ _).alloc (Nat.le_refl _) _
    have c0 : wy.cell? ⟨w2.heap.size, 0, none⟩ = some (.slice ca (ch m k).length cc) := by rw [← hwy]; exact World.cell?_alloc_new ..
    have hsy := hs.alike (Alike.of_below hby fun b hb => hb.2)
    have HS2 := Lib.hid (HS1.out.next (hb.trans (hby.mono hb.size)))
    have HB2 : Hid (Below w.heap.size w wy) := Lib.hid (HBP.out.trans (HS2.out.bel.mono HBP.out.size))
    have HQ2 := Lib.hid (HQ.out.next (hb.trans (hby.mono hb.size)))
    have HDX := Lib.hid (HD.out wy HB2.out q k hk HQ2.out)
    have HCB := Lib.hid c0
    have HCS := Lib.hid hsy
    have hzy : w2.heap.size < wy.heap.size := World.block_lt_of_cell? _ _ c0
    have HZY := Lib.hid (And.intro hzy (And.intro hby.size hb.size))
    clear hb hby hs hsy HCX HD HQ HS1 hzy
    go_wp2_with fail
    try rw [hwy]
    clear hwy
    refine HDX.out.mono ?_
    rintro _ w3 ⟨da, dc, rfl, hrow, hb⟩
    have HB3 := Lib.hid hb
    have HROW := Lib.hid hrow
    have HLEN := Lib.hid (downLen HWF.out x ((a : Int), (b : Int)) hk)
    obtain ⟨L, hL⟩ : ∃ L, downM m x ((a : Int), (b : Int)) k = L := ⟨_, rfl⟩
    have HFL : Hid (firstL m x ((a : Int), (b : Int)) k = L.filter fun p => (ch m k).contains p.1) := Lib.hid (by unfold firstL; rw [hL])
    rw [hL] at HROW HLEN ⊢
    clear hrow hb HDX c0 hL
    have HF : Hid (∃ F, F = L.filter (fun p => (ch m k).contains p.1) ∧ (F = [] → u1 = 0 ∧ u2 = 0 ∧ ur = 6) ∧ (∀ n (h : n + 1 = F.length), u1 = (F[n]'(by omega)).1 ∧ u2 = (F[n]'(by omega)).2 ∧ ur = 0)) := Lib.hid (by
      refine ⟨_, rfl, fun h => ?_, fun n h => ?_⟩
      · have hR := HR.out
        unfold firstE at hR
        rw [HFL.out, h] at hR
        simp [Prod.ext_iff] at hR
        omega
      · have hR := HR.out
        unfold firstE at hR
        rw [HFL.out, List.getLast?_eq_getElem?, show (L.filter fun p => (ch m k).contains p.1).length - 1 = n by omega, List.getElem?_eq_getElem (by omega)] at hR
        simp only [Prod.ext_iff] at hR
        exact ⟨hR.1.1.symm, hR.1.2.symm, hR.2.symm⟩)
    obtain ⟨F, hF, hF0, hF1⟩ := HF.out
    have HFF := Lib.hid hF
    have HF0 := Lib.hid hF0
    have HF1 := Lib.hid hF1
    clear HF hF hF0 hF1 HR HFL
    have HDL : Hid (∃ (fa : Option Addr) (fc : Nat), Calls Tryz.prog 60 #[.slice da L.length dc, .func (.func 61) #[] #[.pointer (some ⟨w2.heap.size, 0, none⟩)]] w3 fun r w' => r = .returned (.slice fa F.length fc) ∧ ((fa = none ∧ F = []) ∨ ∃ b, fa = some ⟨b, 0, none⟩ ∧ Ids2 w' b F) ∧ Below wy.heap.size wy w') := Lib.hid (by
      have hz3 := HB3.out.size
      rcases HROW.out.2 with ⟨e, h0⟩ | ⟨g, cap, cur, e, hg1, hg2, _⟩
      · injection e with e1 e2 e3
        have hL0 : L = [] := List.eq_nil_of_length_eq_zero e2
        have hFn : F = [] := by rw [HFF.out, hL0]; rfl
        subst hL0; subst hFn; subst e1; subst e3
        exact ⟨none, 0, (Del_none none 0 _ w3).mono fun r w' h => ⟨h.1, .inl ⟨rfl, rfl⟩, by rw [← h.2]; exact HB3.out⟩⟩
      · injection e with e1 e2 e3
        subst e1; subst e3
        obtain ⟨i1, i2, i3⟩ := ids2_of_own HROW.out
        have hgz : g < w3.heap.size := (Array.getElem?_eq_some_iff.1 hg2).1
        refine ⟨some ⟨g, 0, none⟩, dc, (DelF (w1 := wy) (qw := w2.heap.size) (fun p => !(ch m k).contains p.1) HB3.out (fun wr hr p hp => OFirst1 (below_cell' hr HCB.out) (HCS.out.alike (Alike.of_below hr fun b hb => by have := HZY.out; omega)) (fun b hb => by have := HZY.out; have := hr.size; omega) p) i1 i2 i3 hg1 hgz HLEN.out).mono ?_⟩
        rintro r w' ⟨rfl, h2, h3, h4⟩
        have hFF : (L.filter fun p => !(!(ch m k).contains p.1)) = F := by rw [HFF.out]; congr 1; funext p; rw [Bool.not_not]
        rw [hFF] at h2 ⊢
        exact ⟨rfl, .inr ⟨g, rfl, h2⟩, h4⟩)
    obtain ⟨fa, fc, hdl⟩ := HDL.out
    have HDX := Lib.hid hdl
    have HFL : Hid (F.length ≤ 301) := Lib.hid (by
      rw [HFF.out]
      exact Nat.le_trans (List.length_filter_le _ _) HLEN.out)
    clear HDL hdl HROW HLEN HCB HCS
    go_wp2_with fail
    refine HDX.out.mono ?_
    rintro _ w4 ⟨rfl, hfa, hb⟩
    have HS4 := Lib.hid (HS2.out.next hb)
    obtain ⟨⟨s0, s1, st⟩, hfin⟩ := HTWO.out w4 HS4.out
    have t0 := st 0
    have t1 := st 1
    have HFIN := Lib.hid hfin
    clear hb HDX st hfin HTWO
    cases hFl : F.length with
    | zero =>
      obtain ⟨rfl, rfl, rfl⟩ := HF0.out (List.eq_nil_of_length_eq_zero hFl)
      clear hfa HF1 HF0
      go_wp2
      refine bodyPost_ret (results_cells_tmp rfl _ _ (w.heap.size + 1) [.int .i64 0, .int .i64 0] _ rfl (HFIN.out _ _).1 Tryz.underlying24 rfl id_info2) rfl ⟨rfl, (HFIN.out _ _).2⟩
    | succ n =>
      obtain ⟨rfl, rfl, rfl⟩ := HF1.out n hFl.symm
      have hFne : F ≠ [] := fun h => by rw [h] at hFl; cases hFl
      rcases hfa with ⟨_, h⟩ | ⟨fb, rfl, hids⟩
      · exact absurd h hFne
      obtain ⟨g0, g1⟩ := hids n (by omega)
      have hnb : n ≤ 301 := by have := HFL.out; omega
      have hnl : (n : Int) < ((n + 1 : Nat) : Int) := by omega
      obtain ⟨z, hz⟩ : ∃ z, F[n]'(by omega) = z := ⟨_, rfl⟩
      rw [hz] at g0 g1
      have HZ := Lib.hid hz
      clear hids hFne HF0 HF1 hz
      go_wp2
      refine bodyPost_ret (results_cells_tmp rfl _ _ (w.heap.size + 1) [.int .i64 z.1, .int .i64 z.2] _ rfl (HFIN.out _ _).1 Tryz.underlying24 rfl id_info2) rfl ⟨by have h := HZ.out; subst h; rfl, (HFIN.out _ _).2⟩
end Go.Proofs.YtiiebakblkpkeaaGreatDoor.Hi
