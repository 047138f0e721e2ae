/- Virtual tables: a table that grows: the walk. -/
import Derived.Test.YtipinmbpdgjalaaGreatDoorJe
import Derived.Deep.AppendLies
set_option maxRecDepth 100000
set_option maxHeartbeats 8000000
set_option linter.unusedVariables false
set_option linter.unusedSimpArgs false
namespace Go.Proofs.YtipinmbpdgjalaaGreatDoor.Hi
open Go.RowKit Go.Shelf Go.Sort Bs

def zeroV : Value := .agg #[.int .i64 0, .int .i64 0, .int .i64 0, .int .i64 0]
theorem info_V : (Tryz.prog.info? 40).map (fun i => (i.zero, i.size, i.bytes)) = some (some zeroV, 4, 32) := by kernel_rfl
def SlotIs (w : World) (cs : List Value) (s : Slt) : Prop := cs = slotCs s
abbrev SlotSl (S : Nat → Prop) := Sl S 4 32 SlotIs

theorem CloneV (ad : Option Addr) (n c : Nat) (css : List (List Value)) (w : World) (hn : css.flatten.length = n * 4) (hby : n * 32 ≤ 140737488355328) (h0 : ad = none → n = 0)
    (hc : ∀ a, ad = some a → ∀ j u, css.flatten[j]? = some u → w.cell? (a.add j) = some u) (h1 : ∀ u ∈ css.flatten, u.oneCell' = true) :
    Calls Tryz.prog 73 #[.slice ad n c] w fun e w' => ∃ v', e = .returned v' ∧ w'.ownsRow w.heap.size 40 4 v' n css.flatten ∧ Below w.heap.size w w' := by
  obtain ⟨i0, hi, hz0, hz1, hz2⟩ := info_parts info_V
  have q22 : ∀ (w : World) (a : Option Addr) (n c n' c' : Nat), (binOp .eql 30 (.slice a n c) (.slice none n' c')).run Tryz.prog w = .ok (.bool a.isNone) w := fun w a n c n' c' => Lib.run_eql_slice_nil w _ _ a n c n' c' Tryz.underlying30
  cases ad with
  | none =>
    have hn0 := h0 rfl
    subst hn0
    have hf : css.flatten = [] := List.eq_nil_of_length_eq_zero (by omega)
    rw [hf]
    clear hc h1 hn h0
    go_enter Tryz.func73, Tryz.ntmps73
    go_wp2
    go_ret
    exact ⟨_, rfl, ⟨rfl, .inl ⟨rfl, rfl⟩⟩, Below.refl _ _⟩
  | some ad =>
    have HC := Lib.hid (hc ad rfl)
    have H1 := Lib.hid h1
    have HN := Lib.hid hn
    clear hc h1 hn h0
    generalize css.flatten = news at HC H1 HN
    go_enter Tryz.func73, Tryz.ntmps73
    go_wp2_with (at_builtin; refine wpList_append_own _ rfl _ _ 30 rfl w.heap.size 40 i0 zeroV 4 32 Tryz.underlying30 hi hz0 hz1 hz2 rfl (by decide) _ _ _ rfl (World.ownsRow_made w #[] 0 (Nat.le_refl _) (Nat.zero_le _) rfl) ad n c news rfl HN.out ?qc2 H1.out ?qc4 ?qc5 ?qc6 ?_)
    case qc2 => exact fun j u hj => Lib.cell?_alloc_some _ (HC.out j u hj)
    case qc4 => unfold maxLen; omega
    case qc5 => omega
    case qc6 => simp
    intro v' w1 hown hgrow hnil
    go_wp2
    go_ret
    exact ⟨v', rfl, by simpa using hown, ((Below.refl _ w).alloc (Nat.le_refl _) _).grown hgrow (by simp) (by intro k hk; simp [Value.ownBlock] at hk; omega)⟩

theorem SlotSl.elem {S : Nat → Prop} {w : World} {a : Option Addr} {c : Nat} {xs : List Slt} (h : SlotSl S w (.slice a xs.length c) xs) {k : Nat} (hk : k < xs.length) : ∃ b o, a = some ⟨b, o, none⟩ ∧ S b ∧ w.cell? ⟨b, o + k * 4, none⟩ = some (.int .i64 xs[k].1.1) ∧ w.cell? ⟨b, o + k * 4 + 1, none⟩ = some (.int .i64 xs[k].1.2) ∧ w.cell? ⟨b, o + k * 4 + 2, none⟩ = some (.int .i64 xs[k].2.1) ∧ w.cell? ⟨b, o + k * 4 + 3, none⟩ = some (.int .i64 xs[k].2.2) := by
  obtain ⟨a', c', hf, h2, h3, h4⟩ := h
  injection hf with f1 f2 f3
  subst f1; subst f3
  rcases h4 with h4 | ⟨b, o, rfl, hS, h4⟩
  · rw [h4] at hk; simp at hk
  · obtain ⟨cs, g1, g2, rfl⟩ := h4 k hk
    exact ⟨b, o, rfl, hS, g2 0 (by simp [slotCs]), g2 1 (by simp [slotCs]), g2 2 (by simp [slotCs]), g2 3 (by simp [slotCs])⟩
theorem setS_len {m : List EntM} {q : Int × Int} {A T : List Slt} (h : A.length ≤ T.length) : (setS m q A T).length = T.length := by
  unfold setS
  rw [List.length_append, List.length_zipWith, List.length_drop]
  omega
theorem setS_succ {m : List EntM} {q : Int × Int} {A T : List Slt} {i : Nat} (hi : i < A.length) (hT : i < T.length) : setS m q (A.take (i + 1)) T = if hitB m q A[i].1 = true then (setS m q (A.take i) T).set i (T[i].1, q) else setS m q (A.take i) T := by
  have hz : ∀ (A T : List Slt) (i : Nat) (hi : i < A.length) (hT : i < T.length), setS m q (A.take (i + 1)) T = if hitB m q A[i].1 = true then (setS m q (A.take i) T).set i (T[i].1, q) else setS m q (A.take i) T := by
    intro A
    induction A with
    | nil => intro T i hi; cases hi
    | cons a A ih =>
      intro T i hi hT
      cases T with
      | nil => cases hT
      | cons t T =>
        cases i with
        | zero =>
          unfold setS
          simp only [List.take_succ_cons, List.take_zero, List.zipWith_cons_cons, List.zipWith_nil_left, List.length_cons, List.length_nil, List.drop_succ_cons, List.drop_zero, List.getElem_cons_zero, List.nil_append]
          split <;> simp
        | succ i =>
          have h1 := ih T i (by simpa using hi) (by simpa using hT)
          have hc : ∀ B : List Slt, setS m q (a :: B) (t :: T) = (if hitB m q a.1 = true then (t.1, q) else t) :: setS m q B T := fun B => by
            unfold setS
            simp only [List.zipWith_cons_cons, List.length_cons, List.drop_succ_cons, List.cons_append]
          rw [List.take_succ_cons, hc, h1, List.take_succ_cons, hc]
          simp only [List.getElem_cons_succ]
          cases hitB m q (A[i]'(by simpa using hi)).1 with
          | true => simp
          | false => simp
  exact hz A T i hi hT
theorem any_succ {m : List EntM} {q : Int × Int} {A : List Slt} {i : Nat} (hi : i < A.length) : (A.take (i + 1)).any (fun a => hitB m q a.1) = ((A.take i).any (fun a => hitB m q a.1) || hitB m q A[i].1) := by
  rw [List.take_succ_eq_append_getElem hi, List.any_append]
  simp
theorem setS_keeps {m : List EntM} {q : Int × Int} {A T : List Slt} (i : Nat) (hT : i < T.length) (hA : A.length ≤ i) (h : i < (setS m q A T).length) : (setS m q A T)[i] = T[i] := by
  have : (setS m q A T)[i]? = T[i]? := by
    unfold setS
    rw [List.getElem?_append_right (by rw [List.length_zipWith]; omega), List.length_zipWith, List.getElem?_drop]
    congr 1
    omega
  rw [List.getElem?_eq_getElem h, List.getElem?_eq_getElem hT] at this
  exact Option.some.inj this
end Go.Proofs.YtipinmbpdgjalaaGreatDoor.Hi
