/- What a class that arrives later leaves of a selection (plain; out of Uj and Wr). -/
import Derived.Test.YtipinmbpdgjalaaGreatDoorWC
import Derived.Test.YtipinmbpdgjalaaGreatDoorMG
import Derived.Test.YtipinmbpdgjalaaGreatDoorOj
set_option maxRecDepth 100000
set_option maxHeartbeats 1000000
set_option linter.unusedVariables false
set_option linter.unusedSimpArgs false
namespace Go.Proofs.YtipinmbpdgjalaaGreatDoor.Hi
open Go.RowKit Bs

section
variable {m : List EntM} {e : EntM}
theorem candAt_app {k : Nat} (hk : k < m.length) (n d : ByteArray) : candAt (m ++ [e]) n d (k : Int) = candAt m n d (k : Int) := by
  unfold candAt
  rw [entAt_app hk]
theorem flM_app {k : Nat} (hk : k < m.length) (b : Int) : flM (m ++ [e]) ((k : Int), b) = flM m ((k : Int), b) := by
  unfold flM
  simp only [entAt_app hk]
theorem cand_app (hw : WFm m) (ho : OrdM m) {c : Nat} (hc : c < m.length) (n d : ByteArray) : candM (m ++ [e]) c n d = candM m c n d := by
  unfold candM
  rw [clo_app hc]
  have key : ∀ l : List Int, (∀ x ∈ l, x ∈ clo m c) → l.filterMap (candAt (m ++ [e]) n d) = l.filterMap (candAt m n d) := fun l => by
    induction l with
    | nil => intro _; rfl
    | cons x r ih =>
      intro hl
      obtain ⟨k, rfl, hk, _⟩ := clo_mem hw ho hc x (hl x (List.mem_cons_self ..))
      rw [List.filterMap_cons, List.filterMap_cons, candAt_app (show k < m.length by omega), ih fun q hq => hl q (List.mem_cons_of_mem _ hq)]
  exact key _ fun x hx => hx
theorem max_app (hw : WFm m) (ho : OrdM m) {c : Nat} (hc : c < m.length) (n d : ByteArray) : maxM (m ++ [e]) c n d = maxM m c n d := by
  unfold maxM maxL
  rw [cand_app hw ho hc]
  refine List.filter_congr fun p hp => ?_
  obtain ⟨y, k, hy, hk, rfl, _⟩ := cand_mem hw ho hc hp
  have key : ∀ l : List (Int × Int), (∀ o ∈ l, o ∈ candM m c n d) → hidM (m ++ [e]) l ((y : Int), (k : Int)) = hidM m l ((y : Int), (k : Int)) := fun l => by
    induction l with
    | nil => intro _; rfl
    | cons o r ih =>
      intro hl
      have hi := ih fun q hq => hl q (List.mem_cons_of_mem _ hq)
      obtain ⟨z, j, hz, hj, rfl, _⟩ := cand_mem hw ho hc (hl o (List.mem_cons_self ..))
      unfold hidM at *
      rw [List.any_cons, List.any_cons, hi]
      unfold hidE
      rw [ext_app hw hz hy]
  rw [key _ fun o ho => ho]
theorem con_app (hw : WFm m) (ho : OrdM m) {c : Nat} (hc : c < m.length) (n d : ByteArray) : conM (m ++ [e]) c n d = conM m c n d := by
  unfold conM
  rw [max_app hw ho hc]
  refine List.filter_congr fun p hp => ?_
  have hp' : p ∈ candM m c n d := by
    unfold maxM maxL at hp
    exact (List.mem_filter.1 hp).1
  obtain ⟨y, k, hy, hk, rfl, _⟩ := cand_mem hw ho hc hp'
  unfold absM
  rw [flM_app hy]
theorem one_app (hw : WFm m) (ho : OrdM m) {c : Nat} (hc : c < m.length) (n d : ByteArray) : oneM (m ++ [e]) c n d = oneM m c n d := by
  unfold oneM
  rw [con_app hw ho hc]
theorem fnd_app {q : Int × Int} {y : MethM} (h : methAt m q = some y) : fndM (m ++ [e]) q = fndM m q := by
  unfold fndM
  have h2 : methAt (m ++ [e]) q = methAt m q := by
    obtain ⟨i, j, hi, _, rfl, _⟩ := methAt_some h
    exact methAt_app hi _
  rw [h2]
theorem meth_app {q : Int × Int} {y : MethM} (h : methAt m q = some y) : methAt (m ++ [e]) q = some y := by
  obtain ⟨i, j, hi, _, rfl, _⟩ := methAt_some h
  rw [methAt_app hi]
  exact h
theorem first_app12 (hw : WFm m) {x : MethM} {p : Int × Int} (hx : methAt m p = some x) {r : Nat} (hr : r < m.length) : firstE (m ++ [e]) x p r = firstE m x p r := by
  obtain ⟨i, j, hi, _, rfl, _⟩ := methAt_some hx
  unfold firstE firstL
  rw [down_app hw hi _ hr, ch_app hw hr]
theorem dec_app {n d : ByteArray} {c : Nat} (hc : c < m.length) : decM (m ++ [e]) n d (c : Int) = decM m n d (c : Int) := by
  unfold decM
  rw [findO_app hc, methAt_app hc]
theorem findSome_eq {α β : Type} {f g : α → Option β} : ∀ {l : List α}, (∀ a ∈ l, f a = g a) → l.findSome? f = l.findSome? g
  | [], _ => rfl
  | a :: l, h => by
    rw [List.findSome?_cons, List.findSome?_cons, h a (List.mem_cons_self ..), findSome_eq (fun b hb => h b (List.mem_cons_of_mem _ hb))]
theorem up_app (hw : WFm m) {n d : ByteArray} {r : Nat} (hr : r < m.length) : upE (m ++ [e]) n d r = upE m n d r := by
  unfold upE
  rw [ch_app hw hr]
  refine findSome_eq fun c hc => ?_
  obtain ⟨k, rfl, _, hk, _⟩ := ch_mem hw hr c hc
  exact dec_app hk
theorem vir_app (hw : WFm m) (ho : OrdM m) {x : MethM} {p : Int × Int} (hx : methAt m p = some x) {r : Nat} (hr : r < m.length) : virM (m ++ [e]) (r : Int) p = virM m (r : Int) p := by
  rw [(virM_some (m := m ++ [e]) (by simp; omega) (meth_app hx)).1, (virM_some hr hx).1]
  unfold virE
  rw [ifaceO_app hr, first_app12 hw hx hr, one_app hw ho hr]
  split
  · rfl
  split
  · rfl
  split
  · next h0 =>
    obtain ⟨y, hy⟩ := first_there hw ho hx hr h0
    exact fnd_app hy
  · rfl
theorem itf_app (hw : WFm m) (ho : OrdM m) {x : MethM} {p : Int × Int} (hx : methAt m p = some x) {r : Nat} (hr : r < m.length) : itfM (m ++ [e]) (r : Int) p = itfM m (r : Int) p := by
  rw [(virM_some (m := m ++ [e]) (by simp; omega) (meth_app hx)).2, (virM_some hr hx).2]
  unfold itfE
  rw [ifaceO_app hr, up_app hw hr, one_app hw ho hr]
  split
  · rfl
  split
  · rfl
  cases hu : upE m x.name x.desc r with
  | none => rfl
  | some q =>
    obtain ⟨_, y, hy, _⟩ := up_spec hw ho hr hu
    simp only
    rw [meth_app hy, fnd_app hy, hy]
end
end Go.Proofs.YtipinmbpdgjalaaGreatDoor.Hi
