/- Slices copied: methods, instructions. -/
import Derived.Test.YtmpkdgankficeaaDoorHu
import Derived.Deep.Slices
import Derived.Lib.SliceRun
set_option maxRecDepth 100000
set_option maxHeartbeats 2000000
set_option linter.unusedVariables false
set_option linter.unusedSimpArgs false
namespace Go.Proofs.YtmpkdgankficeaaDoor.Hi
open Go.RowKit Bs

theorem flat_len {α : Type} {k : Nat} : ∀ (css : List (List α)), (∀ cs ∈ css, cs.length = k) → css.flatten.length = css.length * k
  | [], _ => by simp
  | cs :: r, h => by
    have := flat_len r (fun c hc => h c (by simp [hc]))
    simp only [List.flatten_cons, List.length_append, List.length_cons, this, h cs (by simp), Nat.add_mul]
    omega

/-- The cells of a slice, element by element. -/
theorem Sl.rows {α : Type} {S : Nat → Prop} {k bytes : Nat} {R : World → List Value → α → Prop} {w : World} {a : Option Addr} {n c : Nat} {xs : List α} (h : Sl S k bytes R w (.slice a n c) xs) (hk0 : 0 < k) :
    n = xs.length ∧ n ≤ c ∧ n * bytes ≤ 140737488355328 ∧ ∃ css : List (List Value), ∃ hl : css.length = xs.length, (∀ cs ∈ css, cs.length = k) ∧ (∀ i (h : i < xs.length), R w (css[i]'(hl ▸ h)) xs[i]) ∧
      (xs = [] ∨ ∃ b o, a = some ⟨b, o, none⟩ ∧ S b ∧ ∀ j u, css.flatten[j]? = some u → w.cell? ⟨b, o + j, none⟩ = some u) := by
  obtain ⟨a', c', hf, h2, h3, h4⟩ := h
  injection hf with f1 f2 f3
  subst f1; subst f2; subst f3
  refine ⟨rfl, h2, h3, ?_⟩
  rcases h4 with rfl | ⟨b, o, rfl, hS, hc⟩
  · exact ⟨[], rfl, by simp, by simp, .inl rfl⟩
  · obtain ⟨f, hf⟩ := Go.Deep.choose_lt (α := List Value) (n := xs.length) (p := fun i cs => cs.length = k ∧ (∀ j (hj : j < cs.length), w.cell? ⟨b, o + i * k + j, none⟩ = some cs[j]) ∧ ∀ (hi : i < xs.length), R w cs xs[i]) (fun i hi => by
      obtain ⟨cs, g1, g2, g3⟩ := hc i hi
      exact ⟨cs, g1, g2, fun _ => g3⟩)
    have hlen : ∀ cs ∈ (List.range xs.length).map f, cs.length = k := fun cs hcs => by
      obtain ⟨i, hi, rfl⟩ := List.mem_map.1 hcs
      exact (hf i (List.mem_range.1 hi)).1
    refine ⟨(List.range xs.length).map f, by simp, hlen, fun i hi => ?_, .inr ⟨b, o, rfl, hS, fun j u hj => ?_⟩⟩
    · simpa using (hf i hi).2.2 hi
    · have hjl := (List.getElem?_eq_some_iff.1 hj).1
      rw [flat_len _ hlen] at hjl
      simp only [List.length_map, List.length_range] at hjl
      have hq : j / k < xs.length := (Nat.div_lt_iff_lt_mul hk0).2 hjl
      have hr : j % k < k := Nat.mod_lt _ hk0
      have e : j = j / k * k + j % k := by have := Nat.div_add_mod j k; rw [Nat.mul_comm] at this; omega
      have h1 := flat_at _ hlen (j / k) (by simpa using hq) (j % k) hr
      rw [← e, hj] at h1
      simp only [List.getElem_map, List.getElem_range] at h1
      obtain ⟨g1, g2, g3⟩ := hf _ hq
      rw [List.getElem?_eq_getElem (by omega)] at h1
      have := g2 (j % k) (by omega)
      rw [Nat.add_assoc, ← e] at this
      rw [this]
      exact h1.symm

/-- A slice out of a row of the call's own. -/
theorem Sl.of_own {α : Type} {k bytes : Nat} {R : World → List Value → α → Prop} {w : World} {B : Nat} {E : TypeId} {v : Value} {n : Nat} {css : List (List Value)} {xs : List α} (h : w.ownsRow B E k v n css.flatten) (hl : css.length = xs.length) (hn : n = xs.length) (hk : ∀ cs ∈ css, cs.length = k)
    (hR : ∀ i (h : i < xs.length), R w (css[i]'(hl ▸ h)) xs[i]) (hby : n * bytes ≤ 140737488355328) (S : Nat → Prop) (hS : ∀ b, v.ownBlock = some b → S b) : Sl S k bytes R w v xs := by
  obtain ⟨h1, h2⟩ := h
  subst hn
  rcases h2 with ⟨rfl, h2⟩ | ⟨g, cap, cur, rfl, hg, hh, hc, _, hcur, htake⟩
  · have : xs = [] := List.eq_nil_of_length_eq_zero h2
    subst this
    exact ⟨none, 0, rfl, Nat.le_refl _, by simp, .inl rfl⟩
  · refine Sl.of_block hh (hS g rfl) css hl hk (rest := cur.toList.drop (xs.length * k)) ?_ hR rfl hc hby
    rw [← htake, List.take_append_drop]

def zeroM : Value := .agg #[.string ⟨#[]⟩, .string ⟨#[]⟩, .int .i64 0, .int .i64 0, .int .i64 0, .slice none 0 0]
def zeroI : Value := .agg #[.int .i64 0, .int .i64 0, .string ⟨#[]⟩, .bool false, .string ⟨#[]⟩, .string ⟨#[]⟩, .string ⟨#[]⟩]
theorem info_M : (Tryd.prog.info? 57).map (fun i => (i.zero, i.size, i.bytes)) = some (some zeroM, 6, 80) := by kernel_rfl
theorem info_I : (Tryd.prog.info? 90).map (fun i => (i.zero, i.size, i.bytes)) = some (some zeroI, 7, 88) := by kernel_rfl

theorem CloneM (ad : Option Addr) (n c : Nat) (css : List (List Value)) (w : World) (hn : css.flatten.length = n * 6) (hby : n * 80 ≤ 140737488355328) (h0 : ad = none → n = 0)
    (hc : ∀ a, ad = some a → ∀ j u, css.flatten[j]? = some u → w.cell? (a.add j) = some u) (h1 : ∀ u ∈ css.flatten, u.oneCell' = true) :
    Calls Tryd.prog 58 #[.slice ad n c] w fun e w' => ∃ v', e = .returned v' ∧ w'.ownsRow w.heap.size 57 6 v' n css.flatten ∧ Below w.heap.size w w' := by
  obtain ⟨i0, hi, hz0, hz1, hz2⟩ := info_parts info_M
  have q22 : ∀ (w : World) (a : Option Addr) (n c n' c' : Nat), (binOp .eql 30 (.slice a n c) (.slice none n' c')).run Tryd.prog w = .ok (.bool a.isNone) w := fun w a n c n' c' => Lib.run_eql_slice_nil w _ _ a n c n' c' Tryd.underlying30
  cases ad with
  | none =>
    have hn0 := h0 rfl
    subst hn0
    have hf : css.flatten = [] := List.eq_nil_of_length_eq_zero (by omega)
    rw [hf]
    clear hc h1 hn h0
    go_enter Tryd.func58, Tryd.ntmps58
    go_wp2
    go_ret
    exact ⟨_, rfl, ⟨rfl, .inl ⟨rfl, rfl⟩⟩, Below.refl _ _⟩
  | some ad =>
    have HC := Lib.hid (hc ad rfl)
    have H1 := Lib.hid h1
    have HN := Lib.hid hn
    clear hc h1 hn h0
    generalize css.flatten = news at HC H1 HN
    go_enter Tryd.func58, Tryd.ntmps58
    go_wp2_with (at_builtin; refine wpList_append_own _ rfl _ _ 30 rfl w.heap.size 57 i0 zeroM 6 80 Tryd.underlying30 hi hz0 hz1 hz2 rfl (by decide) _ _ _ rfl (World.ownsRow_made w #[] 0 (Nat.le_refl _) (Nat.zero_le _) rfl) ad n c news rfl HN.out ?qc2 H1.out ?qc4 ?qc5 ?qc6 ?_)
    case qc2 => exact fun j u hj => Lib.cell?_alloc_some _ (HC.out j u hj)
    case qc4 => unfold maxLen; omega
    case qc5 => omega
    case qc6 => simp
    intro v' w1 hown hgrow hnil
    go_wp2
    go_ret
    exact ⟨v', rfl, by simpa using hown, ((Below.refl _ w).alloc (Nat.le_refl _) _).grown hgrow (by simp) (by intro k hk; simp [Value.ownBlock] at hk; omega)⟩

theorem CloneI (ad : Option Addr) (n c : Nat) (css : List (List Value)) (w : World) (hn : css.flatten.length = n * 7) (hby : n * 88 ≤ 140737488355328) (h0 : ad = none → n = 0)
    (hc : ∀ a, ad = some a → ∀ j u, css.flatten[j]? = some u → w.cell? (a.add j) = some u) (h1 : ∀ u ∈ css.flatten, u.oneCell' = true) :
    Calls Tryd.prog 50 #[.slice ad n c] w fun e w' => ∃ v', e = .returned v' ∧ w'.ownsRow w.heap.size 90 7 v' n css.flatten ∧ Below w.heap.size w w' := by
  obtain ⟨i0, hi, hz0, hz1, hz2⟩ := info_parts info_I
  have q22 : ∀ (w : World) (a : Option Addr) (n c n' c' : Nat), (binOp .eql 55 (.slice a n c) (.slice none n' c')).run Tryd.prog w = .ok (.bool a.isNone) w := fun w a n c n' c' => Lib.run_eql_slice_nil w _ _ a n c n' c' Tryd.underlying55
  cases ad with
  | none =>
    have hn0 := h0 rfl
    subst hn0
    have hf : css.flatten = [] := List.eq_nil_of_length_eq_zero (by omega)
    rw [hf]
    clear hc h1 hn h0
    go_enter Tryd.func50, Tryd.ntmps50
    go_wp2
    go_ret
    exact ⟨_, rfl, ⟨rfl, .inl ⟨rfl, rfl⟩⟩, Below.refl _ _⟩
  | some ad =>
    have HC := Lib.hid (hc ad rfl)
    have H1 := Lib.hid h1
    have HN := Lib.hid hn
    clear hc h1 hn h0
    generalize css.flatten = news at HC H1 HN
    go_enter Tryd.func50, Tryd.ntmps50
    go_wp2_with (at_builtin; refine wpList_append_own _ rfl _ _ 55 rfl w.heap.size 90 i0 zeroI 7 88 Tryd.underlying55 hi hz0 hz1 hz2 rfl (by decide) _ _ _ rfl (World.ownsRow_made w #[] 0 (Nat.le_refl _) (Nat.zero_le _) rfl) ad n c news rfl HN.out ?qc2 H1.out ?qc4 ?qc5 ?qc6 ?_)
    case qc2 => exact fun j u hj => Lib.cell?_alloc_some _ (HC.out j u hj)
    case qc4 => unfold maxLen; omega
    case qc5 => omega
    case qc6 => simp
    intro v' w1 hown hgrow hnil
    go_wp2
    go_ret
    exact ⟨v', rfl, by simpa using hown, ((Below.refl _ w).alloc (Nat.le_refl _) _).grown hgrow (by simp) (by intro k hk; simp [Value.ownBlock] at hk; omega)⟩

theorem info_S : (Tryd.prog.info? 9).map (fun i => (i.zero, i.size, i.bytes)) = some (some (.string ⟨#[]⟩), 1, 16) := by kernel_rfl
theorem CloneS (ad : Option Addr) (n c : Nat) (css : List (List Value)) (w : World) (hn : css.flatten.length = n * 1) (hby : n * 16 ≤ 140737488355328) (h0 : ad = none → n = 0)
    (hc : ∀ a, ad = some a → ∀ j u, css.flatten[j]? = some u → w.cell? (a.add j) = some u) (h1 : ∀ u ∈ css.flatten, u.oneCell' = true) :
    Calls Tryd.prog 57 #[.slice ad n c] w fun e w' => ∃ v', e = .returned v' ∧ w'.ownsRow w.heap.size 9 1 v' n css.flatten ∧ Below w.heap.size w w' := by
  obtain ⟨i0, hi, hz0, hz1, hz2⟩ := info_parts info_S
  have q22 : ∀ (w : World) (a : Option Addr) (n c n' c' : Nat), (binOp .eql 29 (.slice a n c) (.slice none n' c')).run Tryd.prog w = .ok (.bool a.isNone) w := fun w a n c n' c' => Lib.run_eql_slice_nil w _ _ a n c n' c' Tryd.underlying29
  cases ad with
  | none =>
    have hn0 := h0 rfl
    subst hn0
    have hf : css.flatten = [] := List.eq_nil_of_length_eq_zero (by omega)
    rw [hf]
    clear hc h1 hn h0
    go_enter Tryd.func57, Tryd.ntmps57
    go_wp2
    go_ret
    exact ⟨_, rfl, ⟨rfl, .inl ⟨rfl, rfl⟩⟩, Below.refl _ _⟩
  | some ad =>
    have HC := Lib.hid (hc ad rfl)
    have H1 := Lib.hid h1
    have HN := Lib.hid hn
    clear hc h1 hn h0
    generalize css.flatten = news at HC H1 HN
    go_enter Tryd.func57, Tryd.ntmps57
    go_wp2_with (at_builtin; refine wpList_append_own _ rfl _ _ 29 rfl w.heap.size 9 i0 (.string ⟨#[]⟩) 1 16 Tryd.underlying29 hi hz0 hz1 hz2 rfl (by decide) _ _ _ rfl (World.ownsRow_made w #[] 0 (Nat.le_refl _) (Nat.zero_le _) rfl) ad n c news rfl HN.out ?qc2 H1.out ?qc4 ?qc5 ?qc6 ?_)
    case qc2 => exact fun j u hj => Lib.cell?_alloc_some _ (HC.out j u hj)
    case qc4 => unfold maxLen; omega
    case qc5 => omega
    case qc6 => simp
    intro v' w1 hown hgrow hnil
    go_wp2
    go_ret
    exact ⟨v', rfl, by simpa using hown, ((Below.refl _ w).alloc (Nat.le_refl _) _).grown hgrow (by simp) (by intro k hk; simp [Value.ownBlock] at hk; omega)⟩
end Go.Proofs.YtmpkdgankficeaaDoor.Hi
