/- The plain law of the most special methods; maxspec at numbers that are none. -/
import Derived.Test.YtmpphhkbjmjomaaGreatDoorKg
set_option maxRecDepth 100000
set_option maxHeartbeats 1000000
set_option linter.unusedVariables false
set_option linter.unusedSimpArgs false
namespace Go.Proofs.YtmpphhkbjmjomaaGreatDoor.Hi
open Go.RowKit Bs

theorem cand_sub (m : List EntM) (n d : ByteArray) : ∀ l : List Int, ((l.filterMap (candAt m n d)).map (·.1)).Sublist l
  | [] => by simp
  | i :: r => by
    rw [List.filterMap_cons]
    have ih := cand_sub m n d r
    split
    · exact ih.cons _
    · rename_i p hp
      have : p.1 = i := by
        unfold candAt at hp
        split at hp
        · cases hp
        · split at hp
          · injection hp with hp; rw [← hp]
          · cases hp
      rw [List.map_cons, this]
      exact ih.cons_cons _

section
variable {m : List EntM} (hw : WFm m) (ho : OrdM m)
include hw
theorem cand_nodup {c : Nat} (hc : c < m.length) (n d : ByteArray) : ((candM m c n d).map (·.1)).Nodup := by
  have hnd : (clo m c).Nodup := by rw [clo_at hc]; exact (hw.closed c hc).1
  exact hnd.sublist (cand_sub m n d _)
theorem max_nodup {c : Nat} (hc : c < m.length) (n d : ByteArray) : ((maxM m c n d).map (·.1)).Nodup :=
  (cand_nodup hw hc n d).sublist (List.filter_sublist.map _)
omit hw in
theorem max_cand {c : Nat} {n d : ByteArray} {p : Int × Int} (hp : p ∈ maxM m c n d) : p ∈ candM m c n d ∧ ∀ o ∈ candM m c n d, o.1 ≠ p.1 → extM m o.1 p.1 = false := by
  obtain ⟨h1, h2⟩ := List.mem_filter.1 hp
  refine ⟨h1, fun o ho hne => ?_⟩
  have h3 : hidM m (candM m c n d) p = false := by simpa using h2
  have h4 := List.any_eq_false.1 h3 o ho
  unfold hidE at h4
  have h5 : (o.1 != p.1) = true := by simpa using hne
  rw [h5, Bool.true_and] at h4
  simpa using h4
theorem max_apart {c : Nat} (hc : c < m.length) (n d : ByteArray) {i j : Nat} (hi : i < (maxM m c n d).length) (hj : j < (maxM m c n d).length) (hne : i ≠ j) : extM m (maxM m c n d)[i].1 (maxM m c n d)[j].1 = false := by
  refine (max_cand (List.getElem_mem hj)).2 _ (max_cand (List.getElem_mem hi)).1 fun e => hne ?_
  have hnd := max_nodup hw hc n d
  exact (List.getElem_inj (h₀ := by simpa using hi) (h₁ := by simpa using hj) hnd).1 (by simpa using e)
include ho
theorem max_below {c : Nat} (hc : c < m.length) (n d : ByteArray) : ∀ (f : Nat) (p : Int × Int), p ∈ candM m c n d → m.length - p.1.toNat ≤ f → ∃ q ∈ maxM m c n d, extM m q.1 p.1 = true
  | f, p, hp, hf => by
    obtain ⟨y, k, hy, hk, rfl, hyc, _, _⟩ := cand_mem hw ho hc hp
    cases hh : hidM m (candM m c n d) ((y : Int), (k : Int)) with
    | false => exact ⟨_, List.mem_filter.2 ⟨hp, by simp [hh]⟩, ext_refl hw ho hy⟩
    | true =>
      obtain ⟨o, ho1, ho2⟩ := List.any_eq_true.1 hh
      obtain ⟨z, k', hz, hk', rfl, _, _, _⟩ := cand_mem hw ho hc ho1
      unfold hidE at ho2
      rw [Bool.and_eq_true] at ho2
      have hne : z ≠ y := by have := ho2.1; simp at this; omega
      have hle := ext_le hw ho hz hy ho2.2
      cases f with
      | zero => simp at hf; omega
      | succ f =>
        obtain ⟨q, hq, he⟩ := max_below hc n d f _ ho1 (by simp at hf ⊢; omega)
        obtain ⟨x, k'', hx, hk'', rfl, _, _, _⟩ := cand_mem hw ho hc (max_cand hq).1
        exact ⟨_, hq, ext_trans hw ho hx hz hy he ho2.2⟩
theorem max_met {c : Nat} (hc : c < m.length) (n d : ByteArray) {p : Int × Int} (hp : p ∈ candM m c n d) : ((maxM m c n d).any fun q => extM m q.1 p.1) = true := by
  obtain ⟨q, h1, h2⟩ := max_below hw ho hc n d _ p hp (Nat.le_refl _)
  exact List.any_eq_true.2 ⟨q, h1, h2⟩
end

theorem Cand_out {B bw : Nat} {w0 w : World} {m : List EntM} (h : Built B bw w0 w m) {c : Int} (hc : entAt m c = none) (n d : ByteArray) :
    Calls Tryz.prog 95 #[.pointer (some ⟨bw, 0, none⟩), .int .i64 c, .string n, .string d] w fun r w' => r = .returned (.tuple #[.slice none 0 0, .int .i64 3]) ∧ Below w.heap.size w w' := by
  have HC := Lib.hid (Closure h.hw c)
  have e : closureM m c = ([], 3) := by unfold closureM; rw [hc]
  rw [e] at HC
  clear h e
  go_enter Tryz.func95, Tryz.ntmps95
  go_wp2_with fail
  refine HC.out.mono ?_
  rintro r w1 ⟨a, k, rfl, _, hb⟩
  have HB := Lib.hid hb
  clear hb HC
  go_wp2
  go_ret2
  exact ⟨rfl, HB.out⟩
theorem Max_out {B bw : Nat} {w0 w : World} {m : List EntM} (h : Built B bw w0 w m) {c : Int} (hc : entAt m c = none) (n d : ByteArray) :
    Calls Tryz.prog 92 #[.pointer (some ⟨bw, 0, none⟩), .int .i64 c, .string n, .string d] w fun r w' => r = .returned (.tuple #[.slice none 0 0, .int .i64 3]) ∧ Below w.heap.size w w' := by
  have hba : Below w.heap.size w (w.alloc (.cells #[.pointer (some ⟨bw, 0, none⟩)] 26)) := (Below.refl _ _).alloc (Nat.le_refl _) _
  have HC := Lib.hid (Cand_out (h.next hba) hc n d)
  have HBA := Lib.hid hba
  clear h hba
  go_enter Tryz.func92, Tryz.ntmps92
  go_wp2_with fail
  refine HC.out.mono ?_
  rintro r w1 ⟨rfl, hb⟩
  have HB := Lib.hid ((HBA.out.trans (hb.mono HBA.out.size)).alloc (HBA.out.trans (hb.mono HBA.out.size)).size (.cells #[.slice none 0 0] 146))
  clear hb HC HBA
  go_wp2
  go_ret2
  exact ⟨rfl, HB.out⟩

end Go.Proofs.YtmpphhkbjmjomaaGreatDoor.Hi
