/- MaxspecBelow: a class and its superclass. -/
import Derived.Test.YtmpkdgankficeaaDoorMK
set_option maxRecDepth 100000
set_option maxHeartbeats 1000000
set_option linter.unusedVariables false
set_option linter.unusedSimpArgs false
namespace Go.Proofs.YtmpkdgankficeaaDoor.Hi
open Go.RowKit Bs

theorem ClsSl.next {w w' : World} {v : Value} {xs : List ClsM} (h : ClsSl (fun b => b < w.heap.size) w v xs) (hb : Below w.heap.size w w') : ClsSl (fun b => b < w'.heap.size) w' v xs :=
  (ClsSl.alike h (Alike.of_below hb fun _ h => h)).mono (fun _ hk => Nat.lt_of_lt_of_le hk hb.size) fun _ _ h => h.mono fun _ hk => Nat.lt_of_lt_of_le hk hb.size

theorem Class_out {S : Nat → Prop} {bw : Nat} {w : World} {m : List EntM} (h : HW S bw w m) (hS : ∀ k, S k → k < w.heap.size) {id : Int} (he : entAt m id = none) :
    Calls Tryd.prog 12 #[.pointer (some ⟨bw, 0, none⟩), .int .i64 id] w fun r w' => r = .returned (.tuple #[.agg #[.string ⟨#[]⟩, .string ⟨#[]⟩, .slice none 0 0, .int .i64 0, .int .i64 0, .slice none 0 0], .int .i64 3]) ∧ Below w.heap.size w w' := by
  have hba : Below w.heap.size w (w.alloc (.cells #[.string ⟨#[]⟩, .string ⟨#[]⟩, .slice none 0 0, .int .i64 0, .int .i64 0, .slice none 0 0] 32)) := (Below.refl _ _).alloc (Nat.le_refl _) _
  have HA := Lib.hid (at_out (h.alike hba.size (Alike.of_below hba hS)) he)
  clear h hba
  go_enter Tryd.func12, Tryd.ntmps12
  go_wp2_with fail
  refine HA.out.mono ?_
  rintro e w' ⟨rfl, rfl⟩
  go_wp2
  exact bodyPost_ret (results_cells_tmp rfl _ _ w.heap.size [_, _, _, _, _, _] _ rfl (six (World.cell?_alloc_new ..) (World.cell?_alloc_new ..) (World.cell?_alloc_new ..) (World.cell?_alloc_new ..) (World.cell?_alloc_new ..) (World.cell?_alloc_new ..)) Tryd.underlying32 rfl class_info) rfl ⟨rfl, (Below.refl _ _).alloc (Nat.le_refl _) _⟩

theorem MaxspecBelow (a : Option Addr) (cp : Nat) (xs : List ClsM) (c : Int) (hc : (Lit.int .i64 c).wf = true) (n : ByteArray) (hn : n.size ≤ maxLen) (d : ByteArray) (hd : d.size ≤ maxLen) (w : World) (hx : ClsSl (fun b => b < w.heap.size) w (.slice a xs.length cp) xs) (he : Lf.Env w) :
    Calls Tryd.prog 7 #[.slice a xs.length cp, .int .i64 c, .string n, .string d] w fun e w' => e = .returned (.bool true) ∧ Below w.heap.size w w' := by
  have HX := Lib.hid hx
  have HE := Lib.hid he
  clear hx he hc hn hd
  go_enter Tryd.func7, Tryd.ntmps7
  go_wp2_with fail
  refine (awake10 _).mono ?_
  rintro e w1 ⟨rfl, hb1⟩
  have HB1 := Lib.hid hb1
  have HBU := Lib.hid (built10 a cp xs w1 (ClsSl.next HX.out hb1) (HE.out.below hb1))
  clear hb1
  go_wp2_with fail
  refine HBU.out.mono ?_
  rintro e w2 ⟨rfl, h2⟩
  have H2 := Lib.hid h2
  clear h2 HBU
  generalize w1.heap.size = B at H2
  generalize defs xs = m at H2
  have HSU := Lib.hid (H2.out.super c)
  have HWF := Lib.hid H2.out.wf
  have HO := Lib.hid H2.out.ord
  have HBL : Hid (Below w.heap.size w w2) := Lib.hid (HB1.out.trans (H2.out.below.mono HB1.out.size))
  cases hec : entAt m c with
  | none =>
    have HCL := Lib.hid (Class_out H2.out.hw H2.out.live hec)
    have hs : superM m c = (0, 3) := by unfold superM; rw [hec]
    rw [hs] at HSU
    clear hs hec
    go_wp2_with fail
    refine HSU.out.mono ?_
    rintro e _ ⟨rfl, rfl⟩
    go_wp2_with fail
    refine HCL.out.mono ?_
    rintro e w3 ⟨rfl, hb⟩
    have HB3 := Lib.hid (HBL.out.trans (hb.mono HBL.out.size))
    clear hb HCL
    go_wp2
    go_ret
    exact ⟨rfl, HB3.out.alloc HB3.out.size _⟩
  | some e =>
    obtain ⟨i, rfl, hi, rfl⟩ := entAt_some hec
    have HCL := Lib.hid (Class_in H2.out.hw H2.out.live hec)
    by_cases h0 : 0 < i
    · obtain ⟨p, hp, hsp, ⟨r, hr⟩, hbare⟩ := cand_pre HWF.out HO.out hi h0 n d
      rw [hsp] at HSU
      have HR := Lib.hid hr
      have HBR := Lib.hid hbare
      clear hsp hr hbare h0 hec
      go_wp2_with fail
      refine HSU.out.mono ?_
      rintro e _ ⟨rfl, rfl⟩
      clear HSU
      go_wp2_with fail
      refine HCL.out.mono ?_
      rintro e w3 ⟨cs', rfl, hcl, hb⟩
      have hcl' := hcl
      obtain ⟨iv, mv, rfl, _⟩ := hcl'
      obtain ⟨ia, ic, rfl, _⟩ := (ClsIs.shape hcl).1
      obtain ⟨ma, mc, rfl, _⟩ := (ClsIs.shape hcl).2
      have H3 := Lib.hid (H2.out.next hb)
      clear hb hcl HCL H2 HBL
      have HAL : Hid (Below w3.heap.size w3 (w3.alloc (.cells #[.string m[i].c.name, .string m[i].c.super, .slice ia m[i].c.ifaces.length ic, .int .i64 m[i].c.flags, .int .i64 m[i].c.loader, .slice ma m[i].c.meths.length mc] 32))) := Lib.hid ((Below.refl _ _).alloc (Nat.le_refl _) _)
      have HQ : Hid ((w3.alloc (.cells #[.string m[i].c.name, .string m[i].c.super, .slice ia m[i].c.ifaces.length ic, .int .i64 m[i].c.flags, .int .i64 m[i].c.loader, .slice ma m[i].c.meths.length mc] 32)).cell? ⟨w3.heap.size, 2, none⟩ = some (.slice ia m[i].c.ifaces.length ic)) := Lib.hid (World.cell?_alloc_new ..)
      have H4 := Lib.hid (H3.out.next HAL.out)
      have HC1 := Lib.hid (Candidates H4.out hp n d)
      clear H3 HAL
      go_wp2_with fail
      generalize (w3.alloc (.cells #[.string m[i].c.name, .string m[i].c.super, .slice ia m[i].c.ifaces.length ic, .int .i64 m[i].c.flags, .int .i64 m[i].c.loader, .slice ma m[i].c.meths.length mc] 32)) = w4 at HQ H4 HC1
      generalize w3.heap.size = q at HQ
      refine HC1.out.mono ?_
      rintro e w5 ⟨a1, c1, rfl, hs1, hb⟩
      have HQ5 := Lib.hid (below_cell' hb HQ.out)
      have H5 := Lib.hid (H4.out.next hb)
      have HS1 := Lib.hid hs1
      have HC2 := Lib.hid (Candidates H5.out hi n d)
      clear hs1 hb HC1 HQ H4
      go_wp2_with fail
      refine HC2.out.mono ?_
      rintro e w6 ⟨a2, c2, rfl, hs2, hb⟩
      have HQ6 := Lib.hid (below_cell' hb HQ5.out)
      have H6 := Lib.hid (H5.out.next hb)
      have HS1' := Lib.hid (HS1.out.next hb)
      have HS2 := Lib.hid hs2
      have HLE : Hid ((candM m p n d).length ≤ (candM m i n d).length) := Lib.hid (by rw [HR.out, List.length_append]; omega)
      have HT := Lib.hid (IdSl.take hs2 HR.out)
      have HSM := Lib.hid (RIDs HT.out HS1'.out (fun _ h => h) (fun _ h => h))
      have hc2 : (candM m i n d).length ≤ c2 ∧ (candM m i n d).length * 16 ≤ 140737488355328 := by obtain ⟨_, _, e, h1, h2, _⟩ := hs2; injection e with _ _ e; subst e; exact ⟨h1, h2⟩
      have hlb : decide (((candM m i n d).length : Int) < ((candM m p n d).length : Int)) = false := decide_eq_false (by have := HLE.out; omega)
      have HQQ := Lib.hid (HQ6.out)
      clear hs2 hb HC2 HQ5 H5 HS1
      go_wp2_with fail
      clear hc2 hlb
      refine HSM.out.mono ?_
      rintro e w7 ⟨rfl, hb⟩
      have g2 := below_cell' hb HQ6.out
      have HBF : Hid (Below w.heap.size w w7) := Lib.hid (HB1.out.trans ((H6.out.below.trans (hb.mono H6.out.below.size)).mono HB1.out.size))
      by_cases hz : m[i].c.ifaces.length = 0
      · have e := HBR.out (List.length_eq_zero_iff.1 hz)
        rw [hz] at g2
        rw [e]
        clear hb HSM HQ6 HQQ HT HS2 HS1' HLE HR HBR e hz
        have hq : (((candM m p n d).length : Int) == ((candM m p n d).length : Int)) = true := beq_self_eq_true _
        go_wp2
        go_ret
        exact ⟨by simp, HBF.out⟩
      · have hz' : (0 : Int) < (m[i].c.ifaces.length : Int) := by omega
        have hzd : decide ((0 : Int) < (m[i].c.ifaces.length : Int)) = true := decide_eq_true hz'
        have hzn : 0 < m[i].c.ifaces.length := by omega
        clear hb HSM HQ6 HQQ HT HS2 HS1' HLE HR HBR hz
        go_wp2
        go_ret
        exact ⟨by simp [hzn], HBF.out⟩
    · have : i = 0 := by omega
      subst this
      rw [super_zero HWF.out HO.out] at HSU
      clear h0 hec
      go_wp2_with fail
      refine HSU.out.mono ?_
      rintro e _ ⟨rfl, rfl⟩
      clear HSU
      go_wp2_with fail
      refine HCL.out.mono ?_
      rintro e w3 ⟨cs', rfl, hcl, hb⟩
      have hcl' := hcl
      obtain ⟨iv, mv, rfl, _⟩ := hcl'
      obtain ⟨ia, ic, rfl, _⟩ := (ClsIs.shape hcl).1
      obtain ⟨ma, mc, rfl, _⟩ := (ClsIs.shape hcl).2
      have HB3 := Lib.hid (HBL.out.trans (hb.mono HBL.out.size))
      clear hb hcl HCL
      go_wp2
      go_ret
      exact ⟨rfl, HB3.out.alloc HB3.out.size _⟩
end Go.Proofs.YtmpkdgankficeaaDoor.Hi
