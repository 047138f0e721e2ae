/- ResolveNearest: the walk. -/
import Derived.Test.YtilckbljealhgaaGreatDoorRo
set_option maxRecDepth 100000
set_option maxHeartbeats 2000000
set_option linter.unusedVariables false
set_option linter.unusedSimpArgs false
namespace Go.Proofs.YtilckbljealhgaaGreatDoor.Hi
open Go.RowKit Bs

theorem built11 (a : Option Addr) (c : Nat) (xs : List ClsM) (w : World) (hx : ClsSl (fun b => b < w.heap.size) w (.slice a xs.length c) xs) (he : Lf.Env w) :
    Calls Tryz.prog 5 #[.slice a xs.length c] w fun e w' => e = .returned (.pointer (some ⟨w.heap.size + 1, 0, none⟩)) ∧ Built w.heap.size (w.heap.size + 1) w w' (defs xs) := by
  have HX := Lib.hid hx
  have HE := Lib.hid he
  obtain ⟨a', c', hf, hle, hby, hcells⟩ := hx
  injection hf with hf1 hf2 hf3
  subst hf1; subst hf3
  clear hcells he
  go_enter Tryz.func5, Tryz.ntmps5
  go_wp2_with fail
  refine (built_new _).mono ?_
  rintro e w2 ⟨rfl, h2⟩
  have H0 := Lib.hid h2
  clear h2
  obtain ⟨B, hB⟩ : ∃ B, w.heap.size = B := ⟨_, rfl⟩
  rw [hB] at H0 ⊢
  have HBE := Lib.hid hB
  clear hB
  go_wp2_with fail
  go_loopg [4] xs.length (fun gk u wr => ∃ (k : Nat) (m : List EntM), Hid (k + gk = xs.length ∧ m = defs (xs.take k)) ∧ u = .int .i64 k ∧ Hid (Built B (B + 1) w wr m))
  case atStart => exact ⟨0, startM, Lib.hid ⟨Nat.zero_add _, by simp [defs]⟩, rfl, H0⟩
  case round =>
    clear H0
    obtain ⟨k, m, hk, rfl, HB⟩ := hrel
    by_cases hlt : k < xs.length
    · have hlt' : (k : Int) < (xs.length : Int) := by omega
      obtain ⟨b, o, v2, v5, rfl, g0, g1, g2, g3, g4, g5, hcl, ⟨ia, ic, rfl⟩, ⟨ma, mc, rfl⟩⟩ := cls_elem HX.out (fun _ h => h) HB.out.below hlt
      have HD := Lib.hid (Define HB.out.hw HB.out.ord.short hcl (fun q hq => Nat.lt_of_lt_of_le hq HB.out.below.size) HB.out.live (HE.out.below HB.out.below))
      have HM : Hid (defs (xs.take (k + 1)) = defM m xs[k]) := Lib.hid (by rw [List.take_succ_eq_append_getElem hlt, defs_snoc, hk.out.2])
      clear hcl
      generalize xs[k] = c at g0 g1 g2 g3 g4 g5 HD HM
      go_wp2_with fail
      refine HD.out.mono ?_
      rintro e w3 ⟨rfl, hw3, hc3⟩
      have HB3 := Lib.hid (HB.out.define c hw3 hc3)
      clear hw3 hc3 g0 g1 g2 g3 g4 g5 HD
      go_wp2
      go_roundg (xs.length - (k + 1))
      case measure => have := hk.out.1; omega
      case rel => exact ⟨k + 1, defM m c, Lib.hid ⟨by omega, HM.out.symm⟩, by go_num, HB3⟩
    · have hkn : k = xs.length := by have := hk.out.1; omega
      have HM : Hid (m = defs xs) := Lib.hid (by rw [hk.out.2, hkn, List.take_length])
      clear hkn
      go_wp2
      go_ret
      have hb := HBE.out
      subst hb
      exact ⟨rfl, by rw [← HM.out]; exact HB.out⟩

theorem ClsSl.nextR {w w' : World} {v : Value} {xs : List ClsM} (h : ClsSl (fun b => b < w.heap.size) w v xs) (hb : Below w.heap.size w w') : ClsSl (fun b => b < w'.heap.size) w' v xs :=
  (ClsSl.alike h (Alike.of_below hb fun _ h => h)).mono (fun _ hk => Nat.lt_of_lt_of_le hk hb.size) fun _ _ h => h.mono fun _ hk => Nat.lt_of_lt_of_le hk hb.size

theorem Class_none {S : Nat → Prop} {bw : Nat} {w : World} {m : List EntM} (h : HW S bw w m) (hS : ∀ k, S k → k < w.heap.size) {id : Int} (he : entAt m id = none) :
    Calls Tryz.prog 11 #[.pointer (some ⟨bw, 0, none⟩), .int .i64 id] w fun r w' => r = .returned (.tuple #[.agg #[.string ⟨#[]⟩, .string ⟨#[]⟩, .slice none 0 0, .int .i64 0, .int .i64 0, .slice none 0 0], .int .i64 3]) ∧ Below w.heap.size w w' := by
  have hba : Below w.heap.size w (w.alloc (.cells #[.string ⟨#[]⟩, .string ⟨#[]⟩, .slice none 0 0, .int .i64 0, .int .i64 0, .slice none 0 0] 40)) := (Below.refl _ _).alloc (Nat.le_refl _) _
  have HA := Lib.hid (at_out (h.alike hba.size (Alike.of_below hba hS)) he)
  clear h hba
  go_enter Tryz.func11, Tryz.ntmps11
  go_wp2_with fail
  refine HA.out.mono ?_
  rintro e w' ⟨rfl, rfl⟩
  go_wp2
  exact bodyPost_ret (results_cells_tmp rfl _ _ w.heap.size [_, _, _, _, _, _] _ rfl (six (World.cell?_alloc_new ..) (World.cell?_alloc_new ..) (World.cell?_alloc_new ..) (World.cell?_alloc_new ..) (World.cell?_alloc_new ..) (World.cell?_alloc_new ..)) Tryz.underlying40 rfl class_info) rfl ⟨rfl, (Below.refl _ _).alloc (Nat.le_refl _) _⟩

theorem Class3 {B bw : Nat} {w0 w : World} {m : List EntM} (h : Built B bw w0 w m) {i : Nat} (hi : i < m.length) :
    Calls Tryz.prog 11 #[.pointer (some ⟨bw, 0, none⟩), .int .i64 i] w fun r w' => ∃ (v0 v1 : ByteArray) (ia ma : Option Addr) (ic ml mc : Nat) (f l : Int), r = .returned (.tuple #[.agg #[.string v0, .string v1, .slice ia m[i].c.ifaces.length ic, .int .i64 f, .int .i64 l, .slice ma ml mc], .int .i64 0]) ∧ Below w.heap.size w w' :=
  (Class_in h.hw h.live (entAt_nat hi)).mono fun r w' ⟨cs', h1, h2, h3⟩ => by
    obtain ⟨iv, mv, rfl, _⟩ := id h2
    obtain ⟨ia, ic, rfl, _⟩ := (ClsIs.shape h2).1
    obtain ⟨ma, mc, rfl, _⟩ := (ClsIs.shape h2).2
    exact ⟨_, _, _, _, _, _, _, _, _, h1, h3⟩
theorem super_ifc {m : List EntM} (hw : WFm m) (ho : OrdM m) {c p : Nat} (hc : c < m.length) (h0 : 0 < c) (hp : p < m.length) (h : superM m c = ((p : Int), 0)) : isIfaceM m p = false := by
  have h1 := (ho.sup c hc h0).1
  unfold superM at h
  rw [entAt_nat hc] at h
  simp only at h
  rw [if_neg (by have := (hw.above c hc).2.2; omega)] at h
  injection h with h2 _
  rw [h2] at h1
  unfold isIfaceM
  rw [entAt_nat hp]
  rwa [Int.toNat_natCast, clsAt_at hp] at h1
theorem lookup_hit {m : List EntM} {c : Nat} {n d : ByteArray} {k : Nat} (hk : k < (ch m c).length) (hp : ∀ j (hj : j < (ch m c).length), j < k → (findH m (ch m c)[j] n d).2 ≠ 0) (h0 : (findH m (ch m c)[k] n d).2 = 0) : lookupM m c n d = (((ch m c)[k], (findH m (ch m c)[k] n d).1), 0) := by
  unfold lookupM chainR
  rw [firstM_at hk hp h0]
  rfl

theorem ResolveNearest (a : Option Addr) (cp : Nat) (xs : List ClsM) (c : Int) (hc : (Lit.int .i64 c).wf = true) (n : ByteArray) (hn : n.size ≤ maxLen) (d : ByteArray) (hd : d.size ≤ maxLen) (w : World) (hx : ClsSl (fun b => b < w.heap.size) w (.slice a xs.length cp) xs) (he : Lf.Env w) :
    Calls Tryz.prog 3 #[.slice a xs.length cp, .int .i64 c, .string n, .string d] w fun e w' => e = .returned (.bool true) ∧ Below w.heap.size w w' := by
  have HX := Lib.hid hx
  have HE := Lib.hid he
  clear hx he hc hn hd
  go_enter Tryz.func3, Tryz.ntmps3
  go_wp2_with fail
  refine (awake11 _ HE.out).mono ?_
  rintro e w1 ⟨rfl, hb1⟩
  have HB1 := Lib.hid hb1
  have HBU := Lib.hid (built11 a cp xs w1 (HX.out.nextR hb1) (HE.out.below hb1))
  clear hb1
  go_wp2_with fail
  refine HBU.out.mono ?_
  rintro e w2 ⟨rfl, h2⟩
  have H2 := Lib.hid h2
  clear h2 HBU
  generalize w1.heap.size = B at H2
  generalize defs xs = m at H2
  have HWF := Lib.hid H2.out.wf
  have HO := Lib.hid H2.out.ord
  have HBL : Hid (Below w.heap.size w w2) := Lib.hid (HB1.out.trans (H2.out.below.mono HB1.out.size))
  cases hec : entAt m c with
  | none =>
    have HL := Lib.hid (Lookup_by (w := w2) n d (er := 3) (fun wr v hr => Look_out n d false v fun wz hz => Class_none ((H2.out.next hr).next hz).hw ((H2.out.next hr).next hz).live hec))
    have HCH := Lib.hid (fun wr (hr : Below w2.heap.size w2 wr) => Chain (H2.out.next hr).hw (H2.out.next hr).live c)
    have hcm : chainM m c = ([], 3) := by unfold chainM; rw [hec]
    rw [hcm] at HCH
    clear hec
    go_wp2_with fail
    refine HL.out.mono ?_
    rintro e w3 ⟨rfl, hb⟩
    have HB3 := Lib.hid (hb.alloc hb.size (.cells #[.int .i64 0, .int .i64 0] 27))
    have HCX := Lib.hid (HCH.out _ HB3.out)
    clear hb HL HCH
    go_wp2_with fail
    refine HCX.out.mono ?_
    rintro e w4 ⟨ad, k, rfl, _, hb⟩
    have HB4 := Lib.hid (HBL.out.trans ((HB3.out.trans (hb.mono HB3.out.size)).mono HBL.out.size))
    clear hb HCX
    go_wp2
    go_ret
    exact ⟨rfl, HB4.out⟩
  | some e =>
    obtain ⟨c, rfl, hcl, rfl⟩ := entAt_some hec
    clear hec
    have HCH := Lib.hid (fun wr (hr : Below w2.heap.size w2 wr) => (H2.out.next hr).chain c hcl)
    have HII := Lib.hid (fun wr (hr : Below w2.heap.size w2 wr) => (H2.out.next hr).isIface c)
    cases hif : isIfaceM m c
    · have HL := Lib.hid (Lookup_in H2.out hcl hif n d)
      rw [hif] at HII
      unfold idV at HL
      obtain ⟨R, hR⟩ : ∃ R, lookupM m c n d = R := ⟨_, rfl⟩
      rw [hR] at HL
      have HRR := Lib.hid hR
      clear hR
      obtain ⟨⟨r1, r2⟩, r3⟩ := R
      simp only at HL
      go_wp2_with fail
      refine HL.out.mono ?_
      rintro e w3 ⟨rfl, hb⟩
      obtain ⟨wx, hwx⟩ : ∃ wx, (w3.alloc (.cells #[.int .i64 r1, .int .i64 r2] 27)) = wx := ⟨_, rfl⟩
      have hbx : Below w3.heap.size w3 wx := by rw [← hwx]; exact (Below.refl _ _).alloc (Nat.le_refl _) _
      have m0 : wx.cell? ⟨w3.heap.size, 0, none⟩ = some (.int .i64 r1) := by rw [← hwx]; exact alloc_at rfl _ _ rfl
      have m1 : wx.cell? ⟨w3.heap.size, 1, none⟩ = some (.int .i64 r2) := by rw [← hwx]; exact alloc_at rfl _ _ rfl
      have HB3 : Hid (Below w2.heap.size w2 wx) := Lib.hid (hb.trans (hbx.mono hb.size))
      have HCX := Lib.hid (HCH.out wx HB3.out)
      clear hb hbx HL HCH
      go_wp2_with fail
      try rw [hwx]
      clear hwx
      refine HCX.out.mono ?_
      rintro e w4 ⟨ad, k, rfl, hs, hb⟩
      have HIS := Lib.hid hs
      have p0 := below_cell' hb m0
      have p1 := below_cell' hb m1
      have HB4 := Lib.hid (HB3.out.trans (hb.mono HB3.out.size))
      have HIX := Lib.hid (HII.out w4 HB4.out)
      clear hb hs HCX HB3 m0 m1 HII
      go_wp2_with fail
      refine HIX.out.mono ?_
      rintro e w5 ⟨rfl, hb⟩
      have m0 := below_cell' hb p0
      have m1 := below_cell' hb p1
      have HB5 := Lib.hid (HB4.out.trans (hb.mono HB4.out.size))
      have HI5 := Lib.hid (HIS.out.next hb)
      clear hb p0 p1 HIX HIS HB4
      have hl : (ch m c).length ≤ 300 := by
        have h1 := ch_len HWF.out hcl
        have h2 := (HWF.out.depth c hcl).2.1
        have h3 := HWF.out.len
        omega
      have HM : Hid (∀ x ∈ ch m c, ∃ k : Nat, x = k ∧ k < m.length) := Lib.hid fun x hx => by
        obtain ⟨k, e, _, hk, _⟩ := ch_mem HWF.out hcl x hx
        exact ⟨k, e, hk⟩
      have HFD := Lib.hid (fun (wr : World) (hr : Below w2.heap.size w2 wr) (y : Nat) (hy : y < m.length) => (H2.out.next hr).find hy n d)
      have HHIT : Hid (∀ k (hk : k < (ch m c).length), (∀ j (hj : j < (ch m c).length), j < k → (findH m (ch m c)[j] n d).2 ≠ 0) → (findH m (ch m c)[k] n d).2 = 0 → ((r1, r2), r3) = (((ch m c)[k], (findH m (ch m c)[k] n d).1), 0)) := Lib.hid fun k hk hp h0 => by rw [← HRR.out]; exact lookup_hit hk hp h0
      obtain ⟨L, hL⟩ : ∃ L, ch m c = L := ⟨_, rfl⟩
      have HLL := Lib.hid hL
      rw [hL] at HI5 hl HM HHIT
      rw [hL]
      clear hL
      have M0 := Lib.hid m0
      have M1 := Lib.hid m1
      go_wp2_with fail
      clear m0 m1
      go_loopg [18] L.length (fun gk u wr => ∃ k : Nat, Hid (k + gk = L.length ∧ ∀ j (hj : j < L.length), j < k → (findH m L[j] n d).2 ≠ 0) ∧ u = .int .i64 k ∧ Hid (Below w5.heap.size w5 wr))
      case atStart => exact ⟨0, Lib.hid ⟨Nat.zero_add _, fun j hj h => absurd h (Nat.not_lt_zero _)⟩, by go_num, Lib.hid (Below.refl _ _)⟩
      case round =>
        obtain ⟨k, hk, rfl, HB⟩ := hrel
        by_cases hlt : k < L.length
        · have hlt' : (k : Int) < (L.length : Int) := by omega
          have hk0 : (0 : Int) ≤ (k : Int) := by omega
          obtain ⟨b, o, rfl, hel⟩ := HI5.out.elem (by omega)
          have hel' := hel k _ (List.getElem?_eq_getElem hlt)
          have g0 := below_cell' HB.out hel'
          obtain ⟨y, hy, hym⟩ := HM.out L[k] (List.getElem_mem hlt)
          have HX := Lib.hid (HFD.out wr (HB5.out.trans (HB.out.mono HB5.out.size)) y hym)
          have HH := Lib.hid (fun h0 => HHIT.out k hlt hk.out.2 h0)
          have HNX : Hid ((findH m y n d).2 ≠ 0 → ∀ j (hj : j < L.length), j < k + 1 → (findH m L[j] n d).2 ≠ 0) := Lib.hid fun h0 j hj hjk => by
            rcases Nat.lt_succ_iff_lt_or_eq.1 hjk with h | rfl
            · exact hk.out.2 j hj h
            · rw [hy]; exact h0
          rw [hy] at g0 HH hel'
          have HEL := Lib.hid hel'
          clear hel hel' hy hym
          generalize findH m y n d = f at HX HH HNX
          obtain ⟨f1, f2⟩ := f
          go_wp2_with fail
          refine HX.out.mono ?_
          rintro e w6 ⟨rfl, hb⟩
          have HB6 := Lib.hid (HB.out.trans (hb.mono HB.out.size))
          clear hb HX HB g0
          by_cases hf : f2 = 0
          · subst hf
            have hr := HH.out rfl
            injection hr with hr1 hr3
            injection hr1 with hr1 hr2
            subst hr1; subst hr2; subst hr3
            have q0 := below_cell' HB6.out M0.out
            have q1 := below_cell' HB6.out M1.out
            have q2 := below_cell' HB6.out HEL.out
            have HBF := Lib.hid (HBL.out.trans ((HB5.out.trans (HB6.out.mono HB5.out.size)).mono HBL.out.size))
            clear HH HNX
            go_wp2_with fail
            go_quiet (fail)
            go_wp2
            go_ret
            exact ⟨rfl, below_drewN HBF.out _⟩
          · have hf' : (f2 == 0) = false := by simpa using hf
            have HG := Lib.hid (HNX.out hf)
            clear HH HNX hf
            go_wp2
            go_roundg (L.length - (k + 1))
            case measure => have := hk.out.1; omega
            case rel => exact ⟨k + 1, Lib.hid ⟨by have := hk.out.1; omega, HG.out⟩, by go_num, HB6⟩
        · have HNO : Hid (∀ x ∈ ch m c, (findH m x n d).2 ≠ 0) := Lib.hid fun x hx => by
            rw [HLL.out] at hx
            obtain ⟨j, hj, rfl⟩ := List.getElem_of_mem hx
            exact hk.out.2 j hj (by omega)
          have HB6 := Lib.hid (HB5.out.trans (HB.out.mono HB5.out.size))
          have H6 := Lib.hid (H2.out.next HB6.out)
          have HCX := Lib.hid (Class3 H6.out hcl)
          have HSX := Lib.hid (fun wz (hz : Below wr.heap.size wr wz) => (H6.out.next hz).super c)
          have q0 := below_cell' HB.out M0.out
          have q1 := below_cell' HB.out M1.out
          have HOK := Lib.hid (lookup_none_ok HWF.out HO.out hcl HNO.out)
          rw [HRR.out] at HOK
          clear hk
          go_wp2_with fail
          refine HCX.out.mono ?_
          rintro e w7 ⟨v0, v1, ia, ma, ic, ml, mc, f, l, rfl, hb⟩
          obtain ⟨wx, hwx⟩ : ∃ wx, (w7.alloc (.cells #[.string v0, .string v1, .slice ia m[c].c.ifaces.length ic, .int .i64 f, .int .i64 l, .slice ma ml mc] 40)) = wx := ⟨_, rfl⟩
          have hbx : Below w7.heap.size w7 wx := by rw [← hwx]; exact (Below.refl _ _).alloc (Nat.le_refl _) _
          have x2 : wx.cell? ⟨w7.heap.size, 2, none⟩ = some (.slice ia m[c].c.ifaces.length ic) := by rw [← hwx]; exact alloc_at rfl _ _ rfl
          have p0 := below_cell' hbx (below_cell' hb q0)
          have p1 := below_cell' hbx (below_cell' hb q1)
          have hb7 := hb.trans (hbx.mono hb.size)
          have HB7 := Lib.hid (HB6.out.trans (hb7.mono HB6.out.size))
          have HSY := Lib.hid (HSX.out wx hb7)
          have H7 := Lib.hid (H6.out.next hb7)
          clear hb hbx hb7 HCX HSX q0 q1 H6
          go_wp2_with fail
          try rw [hwx]
          clear hwx
          refine HSY.out.mono ?_
          rintro e w8 ⟨rfl, rfl⟩
          have HIF := Lib.hid (H7.out.isIface r1)
          by_cases hs : (superM m c).2 = 0
          · have h0 := super_ok hcl HWF.out hs
            have hs' : ((superM m c).2 != 0) = false := by simpa using hs
            by_cases hif0 : m[c].c.ifaces = []
            · obtain ⟨p, hp, hsp, hlk⟩ := lookup_super HWF.out HO.out hcl h0 HNO.out hif0
              have hpi := super_ifc HWF.out HO.out hcl h0 hp hsp
              have HLP := Lib.hid (Lookup_in H7.out hp hpi n d)
              rw [hlk, HRR.out] at HLP
              unfold idV at HLP
              rw [hif0] at x2
              rw [hsp] at hs' ⊢
              clear hs hif0 hlk hpi HIF HOK HSY
              go_wp2_with fail
              refine HLP.out.mono ?_
              rintro e w9 ⟨rfl, hb⟩
              obtain ⟨wy, hwy⟩ : ∃ wy, (w9.alloc (.cells #[.int .i64 r1, .int .i64 r2] 27)) = wy := ⟨_, rfl⟩
              have hby : Below w9.heap.size w9 wy := by rw [← hwy]; exact (Below.refl _ _).alloc (Nat.le_refl _) _
              have z0 : wy.cell? ⟨w9.heap.size, 0, none⟩ = some (.int .i64 r1) := by rw [← hwy]; exact alloc_at rfl _ _ rfl
              have z1 : wy.cell? ⟨w9.heap.size, 1, none⟩ = some (.int .i64 r2) := by rw [← hwy]; exact alloc_at rfl _ _ rfl
              have q0 := below_cell' hby (below_cell' hb p0)
              have q1 := below_cell' hby (below_cell' hb p1)
              have hb9 := hb.trans (hby.mono hb.size)
              have HB9 := Lib.hid (HBL.out.trans ((HB7.out.trans (hb9.mono HB7.out.size)).mono HBL.out.size))
              have HID := Lib.hid (RID r1 r2 r1 r2)
              rw [beq_self_eq_true, beq_self_eq_true] at HID
              clear hb hby hb9 p0 p1 HLP x2
              go_wp2_with fail
              try rw [hwy]
              clear hwy
              refine (HID.out _).mono ?_
              rintro e wz ⟨rfl, hb⟩
              have HBZ := Lib.hid (HB9.out.trans (hb.mono HB9.out.size))
              clear hb HID
              go_wp2
              go_ret
              exact ⟨rfl, HBZ.out⟩
            · have hif' : (0 : Int) < (m[c].c.ifaces.length : Int) := by
                have := List.length_pos_iff.2 hif0
                omega
              generalize m[c].c.ifaces.length = il at *
              rcases HOK.out with h21 | ⟨hr0, hri⟩
              · have h21 : r3 = 21 := h21
                subst h21
                have HBF := Lib.hid (HBL.out.trans (HB7.out.mono HBL.out.size))
                go_wp2
                go_ret
                exact ⟨rfl, HBF.out⟩
              · have hr0 : r3 = 0 := hr0
                have hri : isIfaceM m r1 = true := hri
                subst hr0
                rw [hri] at HIF
                go_wp2_with fail
                refine HIF.out.mono ?_
                rintro e w9 ⟨rfl, hb⟩
                have HBF := Lib.hid (HBL.out.trans ((HB7.out.trans (hb.mono HB7.out.size)).mono HBL.out.size))
                clear hb
                go_wp2
                go_ret
                exact ⟨rfl, HBF.out⟩
          · have hs' : ((superM m c).2 != 0) = true := by simpa using hs
            generalize superM m c = sp at *
            generalize m[c].c.ifaces.length = il at *
            rcases HOK.out with h21 | ⟨hr0, hri⟩
            · have h21 : r3 = 21 := h21
              subst h21
              have HBF := Lib.hid (HBL.out.trans (HB7.out.mono HBL.out.size))
              go_wp2
              go_ret
              exact ⟨rfl, HBF.out⟩
            · have hr0 : r3 = 0 := hr0
              have hri : isIfaceM m r1 = true := hri
              subst hr0
              rw [hri] at HIF
              go_wp2_with fail
              refine HIF.out.mono ?_
              rintro e w9 ⟨rfl, hb⟩
              have HBF := Lib.hid (HBL.out.trans ((HB7.out.trans (hb.mono HB7.out.size)).mono HBL.out.size))
              clear hb
              go_wp2
              go_ret
              exact ⟨rfl, HBF.out⟩
    · have HL := Lib.hid (Lookup_by (w := w2) n d (er := 23) (fun wr v hr => Look_off n d false v (fun wz hz => Class2 ((H2.out.next hr).next hz) hcl) (fun wz hz => by rw [show (!false) = isIfaceM m c by rw [hif]; rfl]; exact ((H2.out.next hr).next hz).isIface c)))
      have HLI := Lib.hid (fun wr (hr : Below w2.heap.size w2 wr) => LookupI_in (H2.out.next hr) hcl hif n d)
      have HFD := Lib.hid (fun wr (hr : Below w2.heap.size w2 wr) => (H2.out.next hr).find hcl n d)
      rw [hif] at HII
      obtain ⟨f, hf⟩ : ∃ f, findH m c n d = f := ⟨_, rfl⟩
      rw [hf] at HLI HFD
      unfold idV at HLI
      clear hf
      go_wp2_with fail
      refine HL.out.mono ?_
      rintro e w3 ⟨rfl, hb⟩
      have HB3 := Lib.hid (hb.alloc hb.size (.cells #[.int .i64 0, .int .i64 0] 27))
      have HCX := Lib.hid (HCH.out _ HB3.out)
      clear hb HL HCH
      go_wp2_with fail
      refine HCX.out.mono ?_
      rintro e w4 ⟨ad, k, rfl, hs, hb⟩
      have HB4 := Lib.hid (HB3.out.trans (hb.mono HB3.out.size))
      have HIX := Lib.hid (HII.out w4 HB4.out)
      clear hb hs HCX HB3 HII
      go_wp2_with fail
      refine HIX.out.mono ?_
      rintro e w5 ⟨rfl, hb⟩
      have HB5 := Lib.hid (HB4.out.trans (hb.mono HB4.out.size))
      have HLX := Lib.hid (HLI.out w5 HB5.out)
      clear hb HIX HB4 HLI
      go_wp2_with fail
      refine HLX.out.mono ?_
      rintro e w6 ⟨p, er, rfl, hpe, hb⟩
      have HPE := Lib.hid hpe
      obtain ⟨wx, hwx⟩ : ∃ wx, (w6.alloc (.cells #[.int .i64 p.1, .int .i64 p.2] 27)) = wx := ⟨_, rfl⟩
      have hbx : Below w6.heap.size w6 wx := by rw [← hwx]; exact (Below.refl _ _).alloc (Nat.le_refl _) _
      have m0 : wx.cell? ⟨w6.heap.size, 0, none⟩ = some (.int .i64 p.1) := by rw [← hwx]; exact alloc_at rfl _ _ rfl
      have m1 : wx.cell? ⟨w6.heap.size, 1, none⟩ = some (.int .i64 p.2) := by rw [← hwx]; exact alloc_at rfl _ _ rfl
      have HB6 : Hid (Below w2.heap.size w2 wx) := Lib.hid ((HB5.out.trans (hb.mono HB5.out.size)).trans (hbx.mono (Nat.le_trans HB5.out.size hb.size)))
      have HFX := Lib.hid (HFD.out wx HB6.out)
      clear hb hbx hpe HLX HB5 HFD
      go_wp2_with fail
      try rw [hwx]
      clear hwx
      refine HFX.out.mono ?_
      rintro e w7 ⟨rfl, hb⟩
      have p0 := below_cell' hb m0
      have p1 := below_cell' hb m1
      have HB7 := Lib.hid (HBL.out.trans ((HB6.out.trans (hb.mono HB6.out.size)).mono HBL.out.size))
      clear hb HFX HB6 m0 m1
      by_cases hf : f.2 = 0
      · obtain ⟨hp, he⟩ := HPE.out hf
        subst he
        rw [hp] at p0 p1
        have hf' : (f.2 == 0) = true := by simpa using hf
        go_wp2
        go_ret
        exact ⟨rfl, HB7.out⟩
      · have hf' : (f.2 == 0) = false := by simpa using hf
        have hf2 : (f.2 != 0) = true := by simpa using hf
        go_wp2
        go_ret
        exact ⟨rfl, HB7.out⟩
end Go.Proofs.YtilckbljealhgaaGreatDoor.Hi
