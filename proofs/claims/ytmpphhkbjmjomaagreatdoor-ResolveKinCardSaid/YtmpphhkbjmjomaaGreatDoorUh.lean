/- Two classes of one run-time package resolve the same (plain); SamePackage in general. -/
import Derived.Test.YtmpphhkbjmjomaaGreatDoorUf
set_option maxRecDepth 100000
set_option maxHeartbeats 1000000
set_option linter.unusedVariables false
set_option linter.unusedSimpArgs false
namespace Go.Proofs.YtmpphhkbjmjomaaGreatDoor.Hi
open Go.RowKit Bs

theorem wrap_zero {n : Nat} (hn : n < 18446744073709551616) (h : IntKind.i64.wrap (n : Int) = 0) : n = 0 := by
  simp only [IntKind.wrap, IntKind.bits, IntKind.signed] at h
  omega
theorem mask_zero {f a b : Int} (hab : BitVec.ofInt 64 a &&& BitVec.ofInt 64 b = BitVec.ofInt 64 b) (h : bits .and .i64 f a = 0) : bits .and .i64 f b = 0 := by
  have h1 : (BitVec.ofInt 64 f &&& BitVec.ofInt 64 a).toNat = 0 := wrap_zero (BitVec.isLt _) h
  have h2 : BitVec.ofInt 64 f &&& BitVec.ofInt 64 a = 0#64 := BitVec.eq_of_toNat_eq (by simpa using h1)
  have h3 : BitVec.ofInt 64 f &&& BitVec.ofInt 64 b = 0#64 := by rw [← hab, ← BitVec.and_assoc, h2, BitVec.zero_and]
  show IntKind.i64.wrap ((BitVec.ofInt 64 f &&& BitVec.ofInt 64 b).toNat : Int) = 0
  rw [h3]
  decide
/-- Neither private nor protected. -/
theorem open_plain {f : Int} (h : bits .and .i64 f 6 = 0) : openM f = 1 ∨ openM f = 0 := by
  have h4 : bits .and .i64 f 4 = 0 := mask_zero (by decide) h
  have h2 : bits .and .i64 f 2 = 0 := mask_zero (by decide) h
  unfold openM
  rw [h4, h2]
  by_cases h1 : (bits .and .i64 f 1 != 0) = true
  · rw [if_pos h1]; exact .inl rfl
  · rw [if_neg h1]; exact .inr rfl

theorem home_kin {c d : ClsM} (h : homeB c d = true) (x : ClsM) : homeB c x = homeB d x := by
  unfold homeB at *
  simp only [Bool.and_eq_true, beq_iff_eq] at h
  rw [h.1, h.2]
section
variable {m : List EntM} {i j : Nat} (h : homeB (clsAt m i) (clsAt m j) = true)
include h
theorem classOpen_kin (k : Nat) : classOpenM m i k = classOpenM m j k := by
  unfold classOpenM
  rw [home_kin h]
theorem class_kin (s : ByteArray) : classR m i s = classR m j s := by
  unfold classR typeOpenM
  rw [classOpen_kin h]
theorem mo_kin {f : Int} (hf : bits .and .i64 f 6 = 0) (a k : Nat) : moM m i a f k = moM m j a f k := by
  unfold moM
  rw [home_kin h]
  rcases open_plain hf with e | e
  · rw [e]; rfl
  · rw [e]
    simp only [Int.reduceEq, if_false, false_and]
theorem kin_bad {r : RefM} (h1 : (methodR m i r).2 ≠ 0) (h2 : (methodR m j r).2 ≠ 0) : (methodR m i r).2 = (methodR m j r).2 := by
  unfold methodR at *
  rw [class_kin h] at *
  by_cases a1 : Pr.formE (refOk r) ≠ 0
  · rw [if_pos a1, if_pos a1]
  rw [if_neg a1] at h1 h2 ⊢
  rw [if_neg a1]
  by_cases a2 : (classR m j r.cls).2 ≠ 0
  · rw [if_pos a2, if_pos a2]
  rw [if_neg a2] at h1 h2 ⊢
  rw [if_neg a2]
  by_cases a3 : (foundM m (refT r.cls) r).2 ≠ 0
  · rw [if_pos a3, if_pos a3]
  rw [if_neg a3] at h1 h2 ⊢
  rw [if_neg a3]
  by_cases a4 : openR m i r = true
  · rw [if_pos a4] at h1; exact absurd rfl h1
  by_cases a5 : openR m j r = true
  · rw [if_pos a5] at h2; exact absurd rfl h2
  rw [if_neg a4, if_neg a5]
theorem kin_ok {r : RefM} (h1 : (methodR m i r).2 = 0) (hf : bits .and .i64 (flagsAt m (methodR m i r).1) 6 = 0) : methodR m j r = methodR m i r := by
  obtain ⟨b1, b2, b3, b4⟩ := method_ok h1
  rw [b2] at hf
  have b5 : openR m j r = true := by
    unfold openR at b4 ⊢
    rw [← mo_kin h hf]
    exact b4
  unfold methodR
  rw [class_kin h]
  rw [b4, b5]
end

/-- Is it another world of the same package? Where a number is of no class: no. -/
theorem at_any {S : Nat → Prop} {bw : Nat} {w : World} {m : List EntM} (h : HW S bw w m) (id : Int) : ∃ p, Calls Tryz.prog 25 #[.pointer (some ⟨bw, 0, none⟩), .int .i64 id] w fun r w' => r = .returned (.pointer p) ∧ w = w' := by
  cases he : entAt m id with
  | none => exact ⟨_, at_out h he⟩
  | some e =>
    obtain ⟨be, ia, ic, ma, mc, ca, cc, _, hc⟩ := at_in h he
    exact ⟨_, hc⟩
theorem SamePackage_out {S : Nat → Prop} {bw : Nat} {w : World} {m : List EntM} (h : HW S bw w m) {a b : Int} (ho : entAt m a = none ∨ entAt m b = none) :
    Calls Tryz.prog 18 #[.pointer (some ⟨bw, 0, none⟩), .int .i64 a, .int .i64 b] w fun r w' => r = .returned (.bool false) ∧ Below w.heap.size w w' := by
  cases hea : entAt m a with
  | none =>
    obtain ⟨q, hq⟩ := at_any h b
    have H1 := Lib.hid (at_out h hea)
    have H2 := Lib.hid hq
    clear hea ho h hq
    go_enter Tryz.func18, Tryz.ntmps18
    go_wp2_with fail
    refine H1.out.mono ?_
    rintro e w' ⟨rfl, rfl⟩
    go_wp2_with fail
    refine H2.out.mono ?_
    rintro e w' ⟨rfl, rfl⟩
    clear H1 H2
    go_wp2_with fail
    go_quiet (fail)
    go_wp2
    go_ret
    exact ⟨rfl, rfl, rfl, rfl, Nat.le_refl _, fun _ _ => rfl⟩
  | some e =>
    have heb : entAt m b = none := by rcases ho with h1 | h1 <;> simp_all
    obtain ⟨be, ia, ic, ma, mc, ca, cc, _, hc⟩ := at_in h hea
    have H1 := Lib.hid hc
    have H2 := Lib.hid (at_out h heb)
    clear hea ho h hc heb
    go_enter Tryz.func18, Tryz.ntmps18
    go_wp2_with fail
    refine H1.out.mono ?_
    rintro e w' ⟨rfl, rfl⟩
    go_wp2_with fail
    refine H2.out.mono ?_
    rintro e w' ⟨rfl, rfl⟩
    clear H1 H2
    go_wp2_with fail
    go_quiet (fail)
    go_wp2
    go_ret
    exact ⟨rfl, rfl, rfl, rfl, Nat.le_refl _, fun _ _ => rfl⟩
end Go.Proofs.YtmpphhkbjmjomaaGreatDoor.Hi
