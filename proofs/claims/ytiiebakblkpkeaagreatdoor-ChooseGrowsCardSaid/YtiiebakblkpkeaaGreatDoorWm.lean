/- Selection: what stands beside; Special: the walks. -/
import Derived.Test.YtiiebakblkpkeaaGreatDoorWl
set_option maxRecDepth 100000
set_option maxHeartbeats 8000000
set_option linter.unusedVariables false
set_option linter.unusedSimpArgs false
namespace Go.Proofs.YtiiebakblkpkeaaGreatDoor.Hi
open Go.RowKit Go.Shelf Go.Sort Bs
attribute [local go_sem ↓] idxI0 idxI1

/-- A class's own instance method of a name, open to be taken. -/
def besK (m : List EntM) (c k : Nat) (n d : ByteArray) : Option (Int × Int) :=
  if (findH m (k : Int) n d).2 = 0 then (match methAt m ((k : Int), (findH m (k : Int) n d).1) with
    | none => none
    | some y => if ((bits .and .i64 y.flags 8 == 0) && (((k : Int) == (c : Int)) || (bits .and .i64 y.flags 1 != 0))) = true then some ((k : Int), (findH m (k : Int) n d).1) else none)
  else none
/-- The method of an interface itself, or the public one of the top class. -/
def besM (m : List EntM) (c : Nat) (n d : ByteArray) : Option (Int × Int) := match besK m c c n d with
  | some q => some q
  | none => besK m c 0 n d

theorem CBeside {B bw : Nat} {w0 w : World} {m : List EntM} (h : Built B bw w0 w m) {c : Nat} (hc : c < m.length) (n d : ByteArray) (f0 l0 s0 : Int) (ad0 : Option Addr) (q0 c0 : Nat) :
    Calls Tryz.prog 36 #[.pointer (some ⟨bw, 0, none⟩), .int .i64 c, .agg #[.string n, .string d, .int .i64 f0, .int .i64 l0, .int .i64 s0, .slice ad0 q0 c0]] w fun e w' => ∃ (i1 i2 : Int) (ok : Bool), e = .returned (.tuple #[.agg #[.int .i64 i1, .int .i64 i2], .bool ok]) ∧ (ok = false → besM m c n d = none) ∧ (ok = true → besM m c n d = some (i1, i2)) ∧ Below w.heap.size w w' := by
  have h0m : 0 < m.length := by omega
  obtain ⟨wp, hwp⟩ : ∃ wp, (w.alloc (.cells #[.string n, .string d, .int .i64 f0, .int .i64 l0, .int .i64 s0, .slice ad0 q0 c0] 39)) = wp := ⟨_, rfl⟩
  have hbp : Below w.heap.size w wp := by rw [← hwp]; exact (Below.refl _ _).alloc (Nat.le_refl _) _
  have HS := Lib.hid (IdAt.start wp)
  obtain ⟨wa, hwa⟩ : ∃ wa, (wp.alloc (.cells #[.int .i64 0, .int .i64 0] 24)) = wa := ⟨_, rfl⟩
  rw [hwa] at HS
  have x0 : wp.cell? ⟨w.heap.size, 0, none⟩ = some (.string n) := by rw [← hwp]; exact World.cell?_alloc_new ..
  have x1 : wp.cell? ⟨w.heap.size, 1, none⟩ = some (.string d) := by rw [← hwp]; exact World.cell?_alloc_new ..
  have HX := Lib.hid (And.intro (below_cell' HS.out.bel x0) (below_cell' HS.out.bel x1))
  have HBP := Lib.hid hbp
  have HH := Lib.hid (fun wr (hr : IdAt wp wr) => h.next (HBP.out.trans (hr.bel.mono HBP.out.size)))
  have HFIN : Hid (∀ w', IdAt wp w' → (w'.cell? ⟨wp.heap.size, 0, none⟩ = some (.int .i64 0) ∧ w'.cell? ⟨wp.heap.size, 1, none⟩ = some (.int .i64 0) ∧ ∀ j, w'.frozen? ⟨wp.heap.size, j, none⟩ = false) ∧ ∀ v0 v1, (∀ j (hj : j < [v0, v1].length), ((w'.setCell ⟨wp.heap.size, 0, none⟩ v0).setCell ⟨wp.heap.size, 1, none⟩ v1).cell? ⟨wp.heap.size, j, none⟩ = some [v0, v1][j]) ∧ Below w.heap.size w ((w'.setCell ⟨wp.heap.size, 0, none⟩ v0).setCell ⟨wp.heap.size, 1, none⟩ v1)) := Lib.hid (fun w' h =>
    ⟨⟨h.s0, h.s1, h.t⟩, fun v0 v1 => ⟨h.two v0 v1, HBP.out.trans ((h.end v0 v1).mono HBP.out.size)⟩⟩)
  have HKC : Hid (∀ k : Nat, besK m c k n d = if (findH m (k : Int) n d).2 = 0 then (match methAt m ((k : Int), (findH m (k : Int) n d).1) with
    | none => none
    | some y => if ((bits .and .i64 y.flags 8 == 0) && (((k : Int) == (c : Int)) || (bits .and .i64 y.flags 1 != 0))) = true then some ((k : Int), (findH m (k : Int) n d).1) else none)
    else none) := Lib.hid (fun _ => rfl)
  have HM : Hid (besM m c n d = match besK m c c n d with
    | some q => some q
    | none => besK m c 0 n d) := Lib.hid rfl
  obtain ⟨R, hR⟩ : ∃ R, besM m c n d = R := ⟨_, rfl⟩
  rw [hR] at HM ⊢
  have HLT := Lib.hid (And.intro hc h0m)
  have hc300 : (c : Int) ≤ 300 := by have := h.wf.len; omega
  clear h hR hbp x0 x1 hc h0m
  go_enter Tryz.func36, Tryz.ntmps36
  go_wp2_with fail
  try rw [hwp]
  try rw [hwa]
  clear hwp hwa
  go_loopg [17] 2 (fun gk u wr => ∃ k : Nat, Hid (k + gk = 2) ∧ u = .int .i64 k ∧ Hid (IdAt wp wr ∧ wr.cell? ⟨w.heap.size, 0, none⟩ = some (.string n) ∧ wr.cell? ⟨w.heap.size, 1, none⟩ = some (.string d) ∧ (1 ≤ k → besK m c c n d = none) ∧ (2 ≤ k → besK m c 0 n d = none)))
  case atStart => exact ⟨0, Lib.hid rfl, rfl, Lib.hid ⟨HS.out, HX.out.1, HX.out.2, fun h => absurd h (by decide), fun h => absurd h (by decide)⟩⟩
  case round =>
    obtain ⟨k, hk, rfl, HW⟩ := hrel
    clear HS HX
    by_cases hlt : k < 2
    · have HK : Hid (k = 0 ∨ k = 1) := Lib.hid (by omega)
      have HKG : Hid (k + gk = 2) := hk
      have HA := Lib.hid HW.out.1
      have HX := Lib.hid (And.intro HW.out.2.1 HW.out.2.2.1)
      have HP1 := Lib.hid HW.out.2.2.2.1
      have x0 := HX.out.1
      have x1 := HX.out.2
      rcases HK.out with rfl | rfl
      · clear hk hlt HK HW
        have HF := Lib.hid ((HH.out wr HA.out).find HLT.out.1 n d)
        have HNM : Hid ((findH m ((c : Nat) : Int) n d).2 = 0 → ∃ y, methAt m (((c : Nat) : Int), (findH m ((c : Nat) : Int) n d).1) = some y) := Lib.hid (fun h0 => by
          obtain ⟨b, hb, _, h, _⟩ := find_names HLT.out.1 h0
          exact ⟨_, h⟩)
        have HKX := Lib.hid (HKC.out c)
        obtain ⟨⟨fi, fe⟩, hF⟩ : ∃ R, findH m ((c : Nat) : Int) n d = R := ⟨_, rfl⟩
        rw [hF] at HF HKX HNM
        simp only at HF HKX HNM
        clear hF
        go_wp2_with fail
        refine HF.out.mono ?_
        rintro _ w1 ⟨rfl, hb⟩
        obtain ⟨wi, hwi⟩ : ∃ wi, (w1.alloc (.cells #[.int .i64 c, .int .i64 fi] 24)) = wi := ⟨_, rfl⟩
        have hbi : Below w1.heap.size w1 wi := by rw [← hwi]; exact (Below.refl _ _).alloc (Nat.le_refl _) _
        have i0 : wi.cell? ⟨w1.heap.size, 0, none⟩ = some (.int .i64 c) := by rw [← hwi]; exact World.cell?_alloc_new ..
        have i1 : wi.cell? ⟨w1.heap.size, 1, none⟩ = some (.int .i64 fi) := by rw [← hwi]; exact World.cell?_alloc_new ..
        have hb' := hb.trans (hbi.mono hb.size)
        have HA2 := Lib.hid (HA.out.next hb')
        have HX2 := Lib.hid (And.intro (below_cell' hb' HX.out.1) (below_cell' hb' HX.out.2))
        have HI2 := Lib.hid (And.intro i0 i1)
        have HMA := Lib.hid (MethodAny (HH.out wi HA2.out) (c, fi))
        clear hb hbi hb' HF HA HX x0 x1
        go_wp2_with fail
        try rw [hwi]
        clear hwi
        refine HMA.out.mono ?_
        rintro _ w2 ⟨nm, ds, f, l, s, ad, q, cq, er, rfl, g, kx, hb⟩
        obtain ⟨wy, hwy⟩ : ∃ wy, (w2.alloc (.cells #[.string nm, .string ds, .int .i64 f, .int .i64 l, .int .i64 s, .slice ad q cq] 39)) = wy := ⟨_, rfl⟩
        have hby : Below w2.heap.size w2 wy := by rw [← hwy]; exact (Below.refl _ _).alloc (Nat.le_refl _) _
        have y2 : wy.cell? ⟨w2.heap.size, 2, none⟩ = some (.int .i64 f) := by rw [← hwy]; exact World.cell?_alloc_new ..
        have hb' := hb.trans (hby.mono hb.size)
        have HA3 := Lib.hid (HA2.out.next hb')
        have HX3 := Lib.hid (And.intro (below_cell' hb' HX2.out.1) (below_cell' hb' HX2.out.2))
        have i0 := below_cell' hb' HI2.out.1
        have i1 := below_cell' hb' HI2.out.2
        have G := Lib.hid g
        have KK := Lib.hid kx
        clear hb hby hb' HMA HA2 HX2 HI2 g kx
        by_cases hfe : fe = 0
        case neg =>
          have hfe' : (fe == 0) = false := by simpa using hfe
          have HNN : Hid (besK m c c n d = none) := Lib.hid (by rw [HKX.out, if_neg hfe])
          clear hfe HKX HNM G KK i0 i1 HFIN
          go_wp2
          try rw [hwy]
          go_roundg 1
          case measure => have := HKG.out; omega
          case rel => exact ⟨1, Lib.hid rfl, by go_num, Lib.hid ⟨HA3.out, HX3.out.1, HX3.out.2, fun _ => HNN.out, fun h => absurd h (by decide)⟩⟩
        subst hfe
        obtain ⟨y, hy⟩ := HNM.out rfl
        have HYY : Hid (f = y.flags) := Lib.hid (by
          have he : er = 0 := Classical.byContradiction fun hne => by
            have := (KK.out hne).1
            rw [hy] at this
            cases this
          obtain ⟨z, hz, _, _, hf⟩ := G.out he
          rw [hy] at hz
          rw [hf, Option.some.inj hz])
        obtain rfl := HYY.out
        have HKY : Hid (besK m c c n d = if ((bits .and .i64 y.flags 8 == 0) && ((((c : Nat) : Int) == (c : Int)) || (bits .and .i64 y.flags 1 != 0))) = true then some (((c : Nat) : Int), fi) else none) := Lib.hid (by rw [HKX.out, if_pos rfl, hy])
        clear hy HKX HNM G KK HYY
        cases hst : (bits .and .i64 y.flags 8 == 0) with
        | false =>
          have HNN : Hid (besK m c c n d = none) := Lib.hid (by rw [HKY.out, hst]; rfl)
          clear HKY i0 i1 HFIN
          go_wp2
          try rw [hwy]
          go_roundg 1
          case measure => have := HKG.out; omega
          case rel => exact ⟨1, Lib.hid rfl, by go_num, Lib.hid ⟨HA3.out, HX3.out.1, HX3.out.2, fun _ => HNN.out, fun h => absurd h (by decide)⟩⟩
        | true =>
          have HRR : Hid (R = some (((c : Nat) : Int), fi)) := Lib.hid (by rw [HM.out, HKY.out, hst]; simp)
          obtain ⟨⟨s0, s1, st⟩, hfin⟩ := HFIN.out wy HA3.out
          have t0 := st 0
          have t1 := st 1
          have HFI := Lib.hid hfin
          clear HFIN st hfin HH HKC HM HKY HP1
          go_wp2
          try rw [hwy]
          refine bodyPost_ret (results_cells_tmp rfl _ _ (wp.heap.size) [.int .i64 c, .int .i64 fi] _ rfl (HFI.out _ _).1 Tryz.underlying24 rfl id_info2) rfl ⟨_, _, _, rfl, fun h => Bool.noConfusion h, fun _ => HRR.out, (HFI.out _ _).2⟩
      · clear hk hlt HK HW
        have HF := Lib.hid ((HH.out wr HA.out).find HLT.out.2 n d)
        have HNM : Hid ((findH m (0 : Int) n d).2 = 0 → ∃ y, methAt m ((0 : Int), (findH m (0 : Int) n d).1) = some y) := Lib.hid (fun h0 => by
          obtain ⟨b, hb, _, h, _⟩ := find_names HLT.out.2 h0
          exact ⟨_, h⟩)
        have HKX := Lib.hid (HKC.out 0)
        have e0 : ((0 : Nat) : Int) = 0 := rfl
        rw [e0] at HF HKX
        clear e0
        obtain ⟨⟨fi, fe⟩, hF⟩ : ∃ R, findH m (0 : Int) n d = R := ⟨_, rfl⟩
        rw [hF] at HF HKX HNM
        simp only at HF HKX HNM
        clear hF
        go_wp2_with fail
        refine HF.out.mono ?_
        rintro _ w1 ⟨rfl, hb⟩
        obtain ⟨wi, hwi⟩ : ∃ wi, (w1.alloc (.cells #[.int .i64 0, .int .i64 fi] 24)) = wi := ⟨_, rfl⟩
        have hbi : Below w1.heap.size w1 wi := by rw [← hwi]; exact (Below.refl _ _).alloc (Nat.le_refl _) _
        have i0 : wi.cell? ⟨w1.heap.size, 0, none⟩ = some (.int .i64 0) := by rw [← hwi]; exact World.cell?_alloc_new ..
        have i1 : wi.cell? ⟨w1.heap.size, 1, none⟩ = some (.int .i64 fi) := by rw [← hwi]; exact World.cell?_alloc_new ..
        have hb' := hb.trans (hbi.mono hb.size)
        have HA2 := Lib.hid (HA.out.next hb')
        have HX2 := Lib.hid (And.intro (below_cell' hb' HX.out.1) (below_cell' hb' HX.out.2))
        have HI2 := Lib.hid (And.intro i0 i1)
        have HMA := Lib.hid (MethodAny (HH.out wi HA2.out) (0, fi))
        clear hb hbi hb' HF HA HX x0 x1
        go_wp2_with fail
        try rw [hwi]
        clear hwi
        refine HMA.out.mono ?_
        rintro _ w2 ⟨nm, ds, f, l, s, ad, q, cq, er, rfl, g, kx, hb⟩
        obtain ⟨wy, hwy⟩ : ∃ wy, (w2.alloc (.cells #[.string nm, .string ds, .int .i64 f, .int .i64 l, .int .i64 s, .slice ad q cq] 39)) = wy := ⟨_, rfl⟩
        have hby : Below w2.heap.size w2 wy := by rw [← hwy]; exact (Below.refl _ _).alloc (Nat.le_refl _) _
        have y2 : wy.cell? ⟨w2.heap.size, 2, none⟩ = some (.int .i64 f) := by rw [← hwy]; exact World.cell?_alloc_new ..
        have hb' := hb.trans (hby.mono hb.size)
        have HA3 := Lib.hid (HA2.out.next hb')
        have HX3 := Lib.hid (And.intro (below_cell' hb' HX2.out.1) (below_cell' hb' HX2.out.2))
        have i0 := below_cell' hb' HI2.out.1
        have i1 := below_cell' hb' HI2.out.2
        have G := Lib.hid g
        have KK := Lib.hid kx
        clear hb hby hb' HMA HA2 HX2 HI2 g kx
        by_cases hfe : fe = 0
        case neg =>
          have hfe' : (fe == 0) = false := by simpa using hfe
          have HNN : Hid (besK m c 0 n d = none) := Lib.hid (by rw [HKX.out, if_neg hfe])
          clear hfe HKX HNM G KK i0 i1 HFIN
          go_wp2
          try rw [hwy]
          go_roundg 0
          case measure => have := HKG.out; omega
          case rel => exact ⟨2, Lib.hid rfl, by go_num, Lib.hid ⟨HA3.out, HX3.out.1, HX3.out.2, fun _ => HP1.out (by decide), fun _ => HNN.out⟩⟩
        subst hfe
        obtain ⟨y, hy⟩ := HNM.out rfl
        have HYY : Hid (f = y.flags) := Lib.hid (by
          have he : er = 0 := Classical.byContradiction fun hne => by
            have := (KK.out hne).1
            rw [hy] at this
            cases this
          obtain ⟨z, hz, _, _, hf⟩ := G.out he
          rw [hy] at hz
          rw [hf, Option.some.inj hz])
        obtain rfl := HYY.out
        have HKY : Hid (besK m c 0 n d = if ((bits .and .i64 y.flags 8 == 0) && (((0 : Int) == (c : Int)) || (bits .and .i64 y.flags 1 != 0))) = true then some ((0 : Int), fi) else none) := Lib.hid (by rw [HKX.out, if_pos rfl, hy])
        clear hy HKX HNM G KK HYY
        cases hst : (bits .and .i64 y.flags 8 == 0) with
        | false =>
          have HNN : Hid (besK m c 0 n d = none) := Lib.hid (by rw [HKY.out, hst]; rfl)
          clear HKY i0 i1 HFIN
          go_wp2
          try rw [hwy]
          go_roundg 0
          case measure => have := HKG.out; omega
          case rel => exact ⟨2, Lib.hid rfl, by go_num, Lib.hid ⟨HA3.out, HX3.out.1, HX3.out.2, fun _ => HP1.out (by decide), fun _ => HNN.out⟩⟩
        | true =>
          cases hz : ((0 : Int) == (c : Int)) with
          | true =>
            have HRR : Hid (R = some ((0 : Int), fi)) := Lib.hid (by rw [HM.out, HP1.out (by decide), HKY.out, hst]; simp only [hz, Bool.true_and, Bool.true_or, if_true])
            obtain ⟨⟨s0, s1, st⟩, hfin⟩ := HFIN.out wy HA3.out
            have t0 := st 0
            have t1 := st 1
            have HFI := Lib.hid hfin
            clear HFIN st hfin HH HKC HM HKY HP1
            go_wp2
            try rw [hwy]
            refine bodyPost_ret (results_cells_tmp rfl _ _ (wp.heap.size) [.int .i64 0, .int .i64 fi] _ rfl (HFI.out _ _).1 Tryz.underlying24 rfl id_info2) rfl ⟨_, _, _, rfl, fun h => Bool.noConfusion h, fun _ => HRR.out, (HFI.out _ _).2⟩
          | false =>
            cases hpb : (bits .and .i64 y.flags 1 != 0) with
            | true =>
              have HRR : Hid (R = some ((0 : Int), fi)) := Lib.hid (by rw [HM.out, HP1.out (by decide), HKY.out, hst, hpb]; simp)
              obtain ⟨⟨s0, s1, st⟩, hfin⟩ := HFIN.out wy HA3.out
              have t0 := st 0
              have t1 := st 1
              have HFI := Lib.hid hfin
              clear HFIN st hfin HH HKC HM HKY HP1
              go_wp2
              try rw [hwy]
              refine bodyPost_ret (results_cells_tmp rfl _ _ (wp.heap.size) [.int .i64 0, .int .i64 fi] _ rfl (HFI.out _ _).1 Tryz.underlying24 rfl id_info2) rfl ⟨_, _, _, rfl, fun h => Bool.noConfusion h, fun _ => HRR.out, (HFI.out _ _).2⟩
            | false =>
              have HNN : Hid (besK m c 0 n d = none) := Lib.hid (by rw [HKY.out, hst, hpb]; simp only [hz]; rfl)
              clear HKY i0 i1 HFIN
              go_wp2
              try rw [hwy]
              go_roundg 0
              case measure => have := HKG.out; omega
              case rel => exact ⟨2, Lib.hid rfl, by go_num, Lib.hid ⟨HA3.out, HX3.out.1, HX3.out.2, fun _ => HP1.out (by decide), fun _ => HNN.out⟩⟩
    · have hk2 : (k : Int) = 2 := by have := hk.out; omega
      have HRN : Hid (R = none) := Lib.hid (by rw [HM.out, HW.out.2.2.2.1 (by omega), HW.out.2.2.2.2 (by omega)])
      rw [hk2]
      obtain ⟨⟨s0, s1, st⟩, hfin⟩ := HFIN.out wr HW.out.1
      have t0 := st 0
      have t1 := st 1
      have HFI := Lib.hid hfin
      clear HFIN st hfin HH HKC HM HW hk hlt hk2
      go_wp2
      refine bodyPost_ret (results_cells_tmp rfl _ _ (wp.heap.size) [.int .i64 0, .int .i64 0] _ rfl (HFI.out _ _).1 Tryz.underlying24 rfl id_info2) rfl ⟨_, _, _, rfl, fun _ => HRN.out, fun h => Bool.noConfusion h, (HFI.out _ _).2⟩
end Go.Proofs.YtiiebakblkpkeaaGreatDoor.Hi
