/- Virtual tables: SlotOf: the walk. -/
import Derived.Test.YtipinmbpdgjalaaGreatDoorJh
set_option maxRecDepth 100000
set_option maxHeartbeats 8000000
set_option linter.unusedVariables false
set_option linter.unusedSimpArgs false
namespace Go.Proofs.YtipinmbpdgjalaaGreatDoor.Hi
open Go.RowKit Go.Shelf Go.Sort Bs

def slO (s : Slt) : Value := .agg #[.int .i64 s.1.1, .int .i64 s.1.2, .int .i64 s.2.1, .int .i64 s.2.2]
/-- The place of the first slot that has a property, or -1. -/
def idxS (pr : Slt → Bool) (xs : List Slt) : Int := match xs.findIdx? pr with | some i => (i : Int) | none => -1

theorem SlotSl.next {w w' : World} {v : Value} {xs : List Slt} (h : SlotSl (fun b => b < w.heap.size) w v xs) (hb : Below w.heap.size w w') : SlotSl (fun b => b < w'.heap.size) w' v xs :=
  Sl.mono (h.alike (Alike.of_below hb fun _ h => h) fun _ _ h => h) (fun b h => Nat.lt_of_lt_of_le h hb.size) fun _ _ h => h

theorem IndexS {w : World} {a : Option Addr} {cap : Nat} {xs : List Slt} {f : Nat} (he : ∀ args w, (callFunc f args).run Tryz.prog w = .ok (.enter f args) w) (pr : Slt → Bool) (caps : Array Value) (hm : SlotSl (fun b => b < w.heap.size) w (.slice a xs.length cap) xs)
    (hf : ∀ wr, Below w.heap.size w wr → ∀ k (hk : k < xs.length), Calls Tryz.prog f (#[slO xs[k]] ++ caps) wr fun r w' => r = .returned (.bool (pr xs[k])) ∧ Below wr.heap.size wr w') :
    Calls Tryz.prog 54 #[.slice a xs.length cap, .func (.func f) #[] caps] w fun e w' => e = .returned (.int .i64 (idxS pr xs)) ∧ Below w.heap.size w w' := by
  have HM := Lib.hid hm
  have HF := Lib.hid hf
  have hby : xs.length * 32 ≤ 140737488355328 := by obtain ⟨_, _, _, _, h, _⟩ := hm; exact h
  clear hm hf
  go_enter Tryz.func54, Tryz.ntmps54
  go_wp2_with fail
  go_loopg [5, 8] xs.length (fun gk _ u wr => ∃ k : Nat, Hid (k + gk = xs.length ∧ ∀ j (h : j < xs.length), j < k → pr xs[j] = false) ∧ u = .int .i64 k ∧ Hid (Below w.heap.size w wr))
  case atStart => exact ⟨0, Lib.hid ⟨Nat.zero_add _, fun j h hj => by omega⟩, rfl, Lib.hid (Below.refl _ _)⟩
  case round =>
    obtain ⟨k, hk, rfl, hB⟩ := hrel
    by_cases hlt : k < xs.length
    · have hlt' : (k : Int) < (xs.length : Int) := by omega
      obtain ⟨b, o, rfl, _, g0, g1, g2, g3⟩ := SlotSl.elem (HM.out.alike (Alike.of_below hB.out fun _ h => h) fun _ _ h => h) hlt
      have HHIT : Hid (pr xs[k] = true → idxS pr xs = (k : Int)) := Lib.hid fun h => by
        unfold idxS
        rw [List.findIdx?_eq_some_iff_getElem.2 ⟨hlt, h, fun j hj => by simp [hk.out.2 j (by omega) hj]⟩]
      have HNEXT : Hid (pr xs[k] = false → ∀ j (h : j < xs.length), j < k + 1 → pr xs[j] = false) := Lib.hid fun h j hj hjk => by
        by_cases e : j = k
        · subst e; exact h
        · exact hk.out.2 j hj (by omega)
      have HC := Lib.hid (HF.out wr hB.out k hlt)
      generalize pr xs[k] = hit at HHIT HNEXT HC
      unfold slO at HC
      generalize xs[k] = x at g0 g1 g2 g3 HC
      go_wp2_with fail
      refine HC.out.mono ?_
      rintro e w1 ⟨rfl, hb1⟩
      have HB1 : Hid (Below w.heap.size w w1) := Lib.hid (hB.out.trans (hb1.mono hB.out.size))
      clear hb1 g0 g1 g2 g3
      cases hit
      · have G := Lib.hid (HNEXT.out rfl)
        go_wp2
        go_roundg (xs.length - (k + 1))
        case measure => have := hk.out.1; omega
        case rel => exact ⟨k + 1, Lib.hid ⟨by omega, G.out⟩, by go_num, HB1⟩
      · have G := Lib.hid (HHIT.out rfl)
        go_wp2
        go_ret
        exact ⟨by rw [G.out]; rfl, HB1.out⟩
    · have F : Hid (idxS pr xs = -1) := Lib.hid (by
        unfold idxS
        rw [List.findIdx?_eq_none_iff.2 (fun x hx => by
          obtain ⟨j, hj, rfl⟩ := List.getElem_of_mem hx
          exact hk.out.2 j hj (by omega))])
      go_wp2
      go_ret
      exact ⟨by rw [F.out]; rfl, hB.out⟩

theorem VSlotOf1 {w : World} {pb : Nat} {p : Int × Int} (h0 : w.cell? ⟨pb, 0, none⟩ = some (.int .i64 p.1)) (h1 : w.cell? ⟨pb, 1, none⟩ = some (.int .i64 p.2)) (s : Slt) :
    Calls Tryz.prog 55 #[slO s, .pointer (some ⟨pb, 0, none⟩)] w fun r w' => r = .returned (.bool (s.1 == p)) ∧ Below w.heap.size w w' := by
  obtain ⟨⟨s1, s2⟩, ⟨s3, s4⟩⟩ := s
  obtain ⟨p1, p2⟩ := p
  have hba : Below w.heap.size w (w.alloc (.cells #[.int .i64 s1, .int .i64 s2, .int .i64 s3, .int .i64 s4] 40)) := (Below.refl _ _).alloc (Nat.le_refl _) _
  have q0 : (w.alloc (.cells #[.int .i64 s1, .int .i64 s2, .int .i64 s3, .int .i64 s4] 40)).cell? ⟨w.heap.size, 0, none⟩ = some (.int .i64 s1) := World.cell?_alloc_new ..
  have q1 : (w.alloc (.cells #[.int .i64 s1, .int .i64 s2, .int .i64 s3, .int .i64 s4] 40)).cell? ⟨w.heap.size, 1, none⟩ = some (.int .i64 s2) := World.cell?_alloc_new ..
  have k0 := below_cell' hba h0
  have k1 := below_cell' hba h1
  have HB := Lib.hid hba
  clear h0 h1 hba
  unfold slO
  simp only at *
  by_cases e1 : s1 = p1
  · by_cases e2 : s2 = p2
    · subst e1; subst e2
      have HR : Hid (((s1, s2) == (s1, s2)) = true) := Lib.hid (beq_self_eq_true _)
      rw [HR.out]
      clear HR
      go_enter Tryz.func55, Tryz.ntmps55
      go_wp2
      go_ret
      exact ⟨rfl, HB.out⟩
    · have HR : Hid (((s1, s2) == (p1, p2)) = false) := Lib.hid (by rw [beq_eq_false_iff_ne]; intro h; injection h with _ h; exact e2 h)
      rw [HR.out]
      clear HR
      subst e1
      go_enter Tryz.func55, Tryz.ntmps55
      go_wp2
      go_ret
      exact ⟨rfl, HB.out⟩
  · have HR : Hid (((s1, s2) == (p1, p2)) = false) := Lib.hid (by rw [beq_eq_false_iff_ne]; intro h; injection h with h _; exact e1 h)
    rw [HR.out]
    clear HR
    go_enter Tryz.func55, Tryz.ntmps55
    go_wp2
    go_ret
    exact ⟨rfl, HB.out⟩
theorem VSlotOf2 {w : World} {pb : Nat} {p : Int × Int} (h0 : w.cell? ⟨pb, 0, none⟩ = some (.int .i64 p.1)) (h1 : w.cell? ⟨pb, 1, none⟩ = some (.int .i64 p.2)) (s : Slt) :
    Calls Tryz.prog 56 #[slO s, .pointer (some ⟨pb, 0, none⟩)] w fun r w' => r = .returned (.bool (s.2 == p)) ∧ Below w.heap.size w w' := by
  obtain ⟨⟨s1, s2⟩, ⟨s3, s4⟩⟩ := s
  obtain ⟨p1, p2⟩ := p
  have hba : Below w.heap.size w (w.alloc (.cells #[.int .i64 s1, .int .i64 s2, .int .i64 s3, .int .i64 s4] 40)) := (Below.refl _ _).alloc (Nat.le_refl _) _
  have q0 : (w.alloc (.cells #[.int .i64 s1, .int .i64 s2, .int .i64 s3, .int .i64 s4] 40)).cell? ⟨w.heap.size, 2, none⟩ = some (.int .i64 s3) := World.cell?_alloc_new ..
  have q1 : (w.alloc (.cells #[.int .i64 s1, .int .i64 s2, .int .i64 s3, .int .i64 s4] 40)).cell? ⟨w.heap.size, 3, none⟩ = some (.int .i64 s4) := World.cell?_alloc_new ..
  have k0 := below_cell' hba h0
  have k1 := below_cell' hba h1
  have HB := Lib.hid hba
  clear h0 h1 hba
  unfold slO
  simp only at *
  by_cases e1 : s3 = p1
  · by_cases e2 : s4 = p2
    · subst e1; subst e2
      have HR : Hid (((s3, s4) == (s3, s4)) = true) := Lib.hid (beq_self_eq_true _)
      rw [HR.out]
      clear HR
      go_enter Tryz.func56, Tryz.ntmps56
      go_wp2
      go_ret
      exact ⟨rfl, HB.out⟩
    · have HR : Hid (((s3, s4) == (p1, p2)) = false) := Lib.hid (by rw [beq_eq_false_iff_ne]; intro h; injection h with _ h; exact e2 h)
      rw [HR.out]
      clear HR
      subst e1
      go_enter Tryz.func56, Tryz.ntmps56
      go_wp2
      go_ret
      exact ⟨rfl, HB.out⟩
  · have HR : Hid (((s3, s4) == (p1, p2)) = false) := Lib.hid (by rw [beq_eq_false_iff_ne]; intro h; injection h with h _; exact e1 h)
    rw [HR.out]
    clear HR
    go_enter Tryz.func56, Tryz.ntmps56
    go_wp2
    go_ret
    exact ⟨rfl, HB.out⟩
def oI (o : Option Nat) : Int := match o with | some i => (i : Int) | none => -1
/-- SlotOf's answer. -/
def slotR (m : List EntM) (p : Int × Int) : Int × Int := match methAt m p with
  | none => (0, 3)
  | some _ => if virB m p = true then (oI (slotI m p (tabM m p.1.toNat)), 0) else (0, 6)
theorem virB_own {m : List EntM} {p : Int × Int} {y : MethM} (hy : methAt m p = some y) (h : virB m p = true) : ∃ c : Nat, p.1 = c ∧ c < m.length ∧ p ∈ ownV m c := by
  obtain ⟨i, j, hi, hj, rfl, rfl⟩ := methAt_some hy
  unfold virB at h
  rw [hy] at h
  simp only [Bool.and_eq_true, Bool.not_eq_true'] at h
  exact ⟨i, rfl, hi, (mem_own hi).2 ⟨rfl, h.1, _, hy, h.2⟩⟩
theorem bld_ok {m : List EntM} {c : Nat} (hc : c < m.length) (hif : isIfaceM m (c : Int) = false) : bldM m (c : Int) = (tabM m c, 0) := by
  unfold bldM
  rw [entAt_nat hc]
  simp only
  rw [if_neg (by rw [hif]; decide), Int.toNat_natCast]

theorem tabM_len {m : List EntM} (hw : WFm m) (hml : MlA m) {r : Nat} (hr : r < m.length) : (tabM m r).length ≤ 12000 := by
  have hP : ∀ j : Nat, (fun c : Int => ∃ k : Nat, c = k ∧ k < m.length) ((ch m r)[j]?.getD 0) := fun j => by
    by_cases hj : j < (ch m r).length
    · rw [List.getElem?_eq_getElem hj]
      obtain ⟨k, e, _, hk, _⟩ := ch_mem hw hr _ (List.getElem_mem hj)
      exact ⟨k, e, hk⟩
    · rw [List.getElem?_eq_none (by omega)]
      exact ⟨0, rfl, by omega⟩
  have h := tabO_len hml (back (fun c : Int => ∃ k : Nat, c = k ∧ k < m.length) (ch m r) hP (ch m r).length)
  rw [back_length] at h
  have G : tabO m (back (fun c : Int => ∃ k : Nat, c = k ∧ k < m.length) (ch m r) hP (ch m r).length) = tabM m r := by
    unfold tabO tabM
    rw [back_snd]
  rw [G] at h
  have := ch_len_le hw hr
  omega

theorem VSlotOf {B bw : Nat} {w0 w : World} {m : List EntM} (h : Built B bw w0 w m) (hml : MlA m) (p : Int × Int) :
    Calls Tryz.prog 18 #[.pointer (some ⟨bw, 0, none⟩), .agg #[.int .i64 p.1, .int .i64 p.2]] w fun e w' => e = .returned (.tuple #[.int .i64 (slotR m p).1, .int .i64 (slotR m p).2]) ∧ Below w.heap.size w w' := by
  have hba : Below w.heap.size w (w.alloc (.cells #[.int .i64 p.1, .int .i64 p.2] 38)) := (Below.refl _ _).alloc (Nat.le_refl _) _
  have p0 : (w.alloc (.cells #[.int .i64 p.1, .int .i64 p.2] 38)).cell? ⟨w.heap.size, 0, none⟩ = some (.int .i64 p.1) := World.cell?_alloc_new ..
  have p1 : (w.alloc (.cells #[.int .i64 p.1, .int .i64 p.2] 38)).cell? ⟨w.heap.size, 1, none⟩ = some (.int .i64 p.2) := World.cell?_alloc_new ..
  have HB := Lib.hid hba
  cases hx : methAt m p with
  | none =>
    have HM := Lib.hid (OMethod_none (h.next hba) hx)
    have HR : Hid (slotR m p = (0, 3)) := Lib.hid (by unfold slotR; rw [hx])
    rw [HR.out]
    clear h hba hx HR
    go_enter Tryz.func18, Tryz.ntmps18
    go_wp2_with fail
    refine HM.out.mono ?_
    rintro _ w1 ⟨rfl, hb⟩
    have HB1 := Lib.hid (HB.out.trans (hb.mono HB.out.size))
    clear hb HM HB p0 p1
    unfold zeroMeth
    go_wp2
    go_ret2
    exact ⟨rfl, HB1.out.alloc HB1.out.size _⟩
  | some x =>
    have HM := Lib.hid (OMethod_some (h.next hba) hx)
    have HV := Lib.hid (fun wr (hr : Below w.heap.size w wr) => VVirtual (h.next hr) hx)
    have HBD := Lib.hid (fun wr (hr : Below w.heap.size w wr) => VBuild (h.next hr) hml p.1)
    have HP := Lib.hid (And.intro p0 p1)
    have HZ0 : Hid (w.heap.size < (w.alloc (.cells #[.int .i64 p.1, .int .i64 p.2] 38)).heap.size) := Lib.hid (World.block_lt_of_cell? _ _ p0)
    have HR : Hid (slotR m p = if virB m p = true then (oI (slotI m p (tabM m p.1.toNat)), 0) else (0, 6)) := Lib.hid (by unfold slotR; rw [hx])
    have HT : Hid (virB m p = true → bldM m p.1 = (tabM m p.1.toNat, 0) ∧ (tabM m p.1.toNat).length ≤ 12000) := Lib.hid (fun hv => by
      obtain ⟨c, hc, hcl, hown⟩ := virB_own hx hv
      rw [hc, bld_ok hcl ((mem_own hcl).1 hown).2.1, Int.toNat_natCast]
      exact ⟨rfl, tabM_len h.wf hml hcl⟩)
    obtain ⟨R, hR⟩ : ∃ R, slotR m p = R := ⟨_, rfl⟩
    rw [hR] at HR ⊢
    generalize tabM m p.1.toNat = T at *
    have HIE : Hid (slotI m p T = match T.findIdx? (fun s => s.1 == p) with | some i => some i | none => T.findIdx? (fun s => s.2 == p)) := Lib.hid rfl
    generalize slotI m p T = I at *
    clear h hba hx hR
    go_enter Tryz.func18, Tryz.ntmps18
    go_wp2_with fail
    refine HM.out.mono ?_
    rintro _ w1 ⟨ad, q, c, rfl, hb⟩
    obtain ⟨wx, hwx⟩ : ∃ wx, (w1.alloc (.cells #[.string x.name, .string x.desc, .int .i64 x.flags, .int .i64 x.locals, .int .i64 x.stack, .slice ad q c] 55)) = wx := ⟨_, rfl⟩
    have hb' := hb.alloc hb.size (.cells #[.string x.name, .string x.desc, .int .i64 x.flags, .int .i64 x.locals, .int .i64 x.stack, .slice ad q c] 55)
    rw [hwx] at hb'
    have p0 := below_cell' hb' HP.out.1
    have p1 := below_cell' hb' HP.out.2
    have HBX := Lib.hid (HB.out.trans (hb'.mono HB.out.size))
    have HP1 := Lib.hid (And.intro p0 p1)
    have HZ1 : Hid (w.heap.size < wx.heap.size) := Lib.hid (Nat.lt_of_lt_of_le HZ0.out hb'.size)
    have HVX := Lib.hid (HV.out wx HBX.out)
    clear hb hb' HM HP HB HZ0 HV
    go_wp2_with fail
    try rw [hwx]
    clear hwx
    refine HVX.out.mono ?_
    rintro _ w2 ⟨rfl, hb⟩
    have p0 := below_cell' hb HP1.out.1
    have p1 := below_cell' hb HP1.out.2
    have HB2 := Lib.hid (HBX.out.trans (hb.mono HBX.out.size))
    have HP2 := Lib.hid (And.intro p0 p1)
    have HZ2 : Hid (w.heap.size < w2.heap.size) := Lib.hid (Nat.lt_of_lt_of_le HZ1.out hb.size)
    clear hb HVX HBX HP1 HZ1
    cases hv : virB m p with
    | false =>
      obtain rfl : R = (0, 6) := by rw [HR.out, if_neg (by rw [hv]; decide)]
      clear hv HR HT
      go_wp2
      go_ret2
      exact ⟨rfl, HB2.out⟩
    | true =>
      have HRE : Hid (R = (oI I, 0)) := Lib.hid (by rw [HR.out, if_pos hv])
      have HTT := Lib.hid (HT.out hv)
      have HBX := HBD.out w2 HB2.out
      rw [HTT.out.1] at HBX
      have HBX := Lib.hid HBX
      clear hv HR HT HBD
      go_wp2_with fail
      refine HBX.out.mono ?_
      rintro _ w3 ⟨v, rfl, hrow, hb⟩
      have p0 := below_cell' hb HP2.out.1
      have p1 := below_cell' hb HP2.out.2
      obtain ⟨ra, rc, rfl⟩ := own_slice hrow
      have HB3 := Lib.hid (HB2.out.trans (hb.mono HB2.out.size))
      have HS3 : Hid (SlotSl (fun b => b < w3.heap.size) w3 (.slice ra T.length rc) T) := Lib.hid (Sl.mono (slotSl_row hrow (by have := HTT.out.2; omega)) (fun b hb => hb.2) fun _ _ h => h)
      have HI1 := Lib.hid (IndexS (enters_of Tryz.func55 (by kernel_rfl) rfl) (fun s => s.1 == p) #[.pointer (some ⟨w.heap.size, 0, none⟩)] HS3.out fun wr hr k hk => VSlotOf1 (below_cell' hr p0) (below_cell' hr p1) _)
      have HP3 := Lib.hid (And.intro p0 p1)
      clear hrow hb HBX HP2 HZ2 HB2
      go_wp2_with fail
      refine HI1.out.mono ?_
      rintro _ w4 ⟨rfl, hb⟩
      have p0 := below_cell' hb HP3.out.1
      have p1 := below_cell' hb HP3.out.2
      have HB4 := Lib.hid (HB3.out.trans (hb.mono HB3.out.size))
      have HS4 := Lib.hid (SlotSl.next HS3.out hb)
      have HI2 := Lib.hid (IndexS (enters_of Tryz.func56 (by kernel_rfl) rfl) (fun s => s.2 == p) #[.pointer (some ⟨w.heap.size, 0, none⟩)] HS4.out fun wr hr k hk => VSlotOf2 (below_cell' hr p0) (below_cell' hr p1) _)
      clear hb HI1 HP3 HS3 HB3
      cases hf : T.findIdx? (fun s => s.1 == p) with
      | some i =>
        have E1 : Hid (idxS (fun s => s.1 == p) T = (i : Int)) := Lib.hid (by unfold idxS; rw [hf])
        obtain rfl : R = ((i : Int), 0) := by rw [HRE.out, HIE.out, hf]; rfl
        rw [E1.out]
        clear HI2 HIE HRE hf HS4 HTT
        have hi0 : (0 : Int) ≤ (i : Int) := by omega
        go_wp2
        go_ret2
        exact ⟨rfl, HB4.out⟩
      | none =>
        have E1 : Hid (idxS (fun s => s.1 == p) T = -1) := Lib.hid (by unfold idxS; rw [hf])
        obtain rfl : R = (idxS (fun s => s.2 == p) T, 0) := by rw [HRE.out, HIE.out, hf]; rfl
        rw [E1.out]
        clear hf HIE HRE
        go_wp2_with fail
        refine HI2.out.mono ?_
        rintro _ w5 ⟨rfl, hb⟩
        have HB5 := Lib.hid (HB4.out.trans (hb.mono HB4.out.size))
        clear hb HI2 HTT E1
        go_wp2
        go_ret2
        exact ⟨rfl, HB5.out⟩
end Go.Proofs.YtipinmbpdgjalaaGreatDoor.Hi
