/- Lookup, LookupIface. -/
import Derived.Test.YtmpphhkbjmjomaaGreatDoorRe
import Derived.Test.YtmpphhkbjmjomaaGreatDoorRj
set_option maxRecDepth 100000
set_option maxHeartbeats 1000000
set_option linter.unusedVariables false
set_option linter.unusedSimpArgs false
namespace Go.Proofs.YtmpphhkbjmjomaaGreatDoor.Hi
open Go.RowKit Bs

theorem along3 {a b c : (Int × Int) × Int} {p : Int × Int} {e : Int} (h : Along (fun j p e => (j = 0 ∧ (p, e) = a) ∨ (j = 1 ∧ (p, e) = b) ∨ (j = 2 ∧ (p, e) = c)) 3 p e) : (p, e) = firstR [a, b, c] := by
  have key : ∀ j, (∃ p' e', ((j = 0 ∧ (p', e') = a) ∨ (j = 1 ∧ (p', e') = b) ∨ (j = 2 ∧ (p', e') = c)) ∧ e' ≠ 0) → (j = 0 → a.2 ≠ 0) ∧ (j = 1 → b.2 ≠ 0) ∧ (j = 2 → c.2 ≠ 0) := by
    rintro j ⟨p', e', h | h | h, hne⟩
    · obtain ⟨rfl, rfl⟩ := h
      exact ⟨fun _ => hne, by omega, by omega⟩
    · obtain ⟨rfl, rfl⟩ := h
      exact ⟨by omega, fun _ => hne, by omega⟩
    · obtain ⟨rfl, rfl⟩ := h
      exact ⟨by omega, by omega, fun _ => hne⟩
  rcases h with ⟨rfl, k, hk, hq, hp⟩ | ⟨rfl, rfl, hp⟩
  · rcases hq with ⟨rfl, rfl⟩ | ⟨rfl, rfl⟩ | ⟨rfl, rfl⟩
    · simp [firstR]
    · have h0 := (key 0 (hp 0 (by omega))).1 rfl
      simp [firstR, h0]
    · have h0 := (key 0 (hp 0 (by omega))).1 rfl
      have h1 := (key 1 (hp 1 (by omega))).2.1 rfl
      simp [firstR, h0, h1]
  · have h0 := (key 0 (hp 0 (by omega))).1 rfl
    have h1 := (key 1 (hp 1 (by omega))).2.1 rfl
    have h2 := (key 2 (hp 2 (by omega))).2.2 rfl
    simp [firstR, h0, h1, h2]
theorem along_own {a : (Int × Int) × Int} {Q : Nat → Int × Int → Int → Prop} {n : Nat} (hn : 0 < n) (hQ : ∀ p e, Q 0 p e → (p, e) = a) (ha : a.2 = 0) {p : Int × Int} {e : Int} (h : Along Q n p e) : p = a.1 ∧ e = 0 := by
  rcases h with ⟨rfl, k, hk, hq, hp⟩ | ⟨_, _, hp⟩
  · rcases Nat.eq_zero_or_pos k with rfl | h0
    · have := hQ _ _ hq
      exact ⟨by rw [← this], rfl⟩
    · obtain ⟨p', e', h1, h2⟩ := hp 0 h0
      have := hQ _ _ h1
      rw [← this] at ha
      exact absurd ha h2
  · obtain ⟨p', e', h1, h2⟩ := hp 0 hn
    have := hQ _ _ h1
    rw [← this] at ha
    exact absurd ha h2

theorem Lookup_in {B bw : Nat} {w0 w : World} {m : List EntM} (h : Built B bw w0 w m) {c : Nat} (hc : c < m.length) (hi : isIfaceM m c = false) (n d : ByteArray) :
    Calls Tryz.prog 43 #[.pointer (some ⟨bw, 0, none⟩), .int .i64 c, .string n, .string d] w fun r w' => r = .returned (.tuple #[idV (lookupM m c n d).1, .int .i64 (lookupM m c n d).2]) ∧ Below w.heap.size w w' := by
  have HS := Lib.hid (IdAt.start w)
  obtain ⟨wa, hwa⟩ : ∃ wa, ((w.alloc (.cells #[.int .i64 0, .int .i64 0] 29)).alloc (.cells #[.func (.func 63) #[] #[]] 137)) = wa := ⟨_, rfl⟩
  have hba : Below (w.alloc (.cells #[.int .i64 0, .int .i64 0] 29)).heap.size (w.alloc (.cells #[.int .i64 0, .int .i64 0] 29)) wa := by rw [← hwa]; exact (Below.refl _ _).alloc (Nat.le_refl _) _
  have HSA := Lib.hid (HS.out.next hba)
  have hcell : wa.cell? ⟨w.heap.size + 1, 0, none⟩ = some (roadV 63) := by
    rw [← hwa]
    have := World.cell?_alloc_new (w.alloc (.cells #[.int .i64 0, .int .i64 0] 29)) #[.func (.func 63) #[] #[]] 137 0
    rw [World.size_alloc] at this
    exact this
  have h' := h.next HSA.out.bel
  have HL := Lib.hid (Look_in (bw := bw) (w := wa) (c := c) (ifc := false) (g := w.heap.size + 1) (k := 1) n d (by omega) [63] rfl (fun j hj => by
      obtain rfl : j = 0 := by simpa using hj
      exact hcell) (fun wr hr => Class2 (h'.next hr) hc) (fun wr hr => by rw [← hi]; exact (h'.next hr).isIface c)
      (fun j p e => (j = 0 ∧ (p, e) = chainR m c n d) ∨ (j = 1 ∧ (p, e) = oneM m c n d) ∨ (j = 2 ∧ (p, e) = someM m c n d))
      (fun j hj => by
        match j, hj with
        | 0, _ => exact .inl rfl
        | 1, _ => exact .inr (.inr (.inr (.inl rfl)))
        | 2, _ => exact .inr (.inr (.inr (.inr rfl))))
      (fun wr hr j hj => by
        match j, hj with
        | 0, _ => exact (ChainR (h'.next hr) hc n d).mono fun r w' ⟨h1, h2⟩ => ⟨_, _, h1, .inl ⟨rfl, rfl⟩, h2⟩
        | 1, _ => exact (One (h'.next hr) hc n d).mono fun r w' ⟨h1, h2⟩ => ⟨_, _, h1, .inr (.inl ⟨rfl, rfl⟩), h2⟩
        | 2, _ => exact (SomeR (h'.next hr) hc n d).mono fun r w' ⟨h1, h2⟩ => ⟨_, _, h1, .inr (.inr ⟨rfl, rfl⟩), h2⟩))
  have HQ : Hid (∀ p e, Along (fun j p e => (j = 0 ∧ (p, e) = chainR m c n d) ∨ (j = 1 ∧ (p, e) = oneM m c n d) ∨ (j = 2 ∧ (p, e) = someM m c n d)) (1 + 2) p e → lookupM m c n d = (p, e)) := Lib.hid fun p e ha => (along3 ha).symm
  unfold idV
  generalize lookupM m c n d = R at *
  clear h h' hba HS hcell
  go_enter Tryz.func43, Tryz.ntmps43
  go_wp2_with fail
  try rw [hwa]
  clear hwa
  refine HL.out.mono ?_
  rintro _ w1 ⟨p, e, rfl, ha, hb⟩
  have HR := Lib.hid (HQ.out p e ha)
  have HB := Lib.hid (HSA.out.next hb)
  have s0 := HB.out.s0
  have s1 := HB.out.s1
  have t0 := HB.out.t 0
  have t1 := HB.out.t 1
  clear ha hb HQ HL HSA
  unfold idV
  go_wp2
  refine bodyPost_ret (results_cells_tmp rfl _ _ w.heap.size [.int .i64 p.1, .int .i64 p.2] _ rfl (HB.out.two _ _) Tryz.underlying29 rfl id_info2) rfl ⟨by rw [HR.out]; rfl, HB.out.end _ _⟩
end Go.Proofs.YtmpphhkbjmjomaaGreatDoor.Hi
