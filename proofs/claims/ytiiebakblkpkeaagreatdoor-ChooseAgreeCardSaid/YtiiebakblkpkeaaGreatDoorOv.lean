/- A region that draws its order, in a round of a loop over a function; what a round keeps. -/
import Derived.Test.YtiiebakblkpkeaaGreatDoorOf
import Derived.Lib.QuietBelowIn
import Derived.RangeFuncNested
set_option maxRecDepth 100000
set_option maxHeartbeats 1000000
set_option linter.unusedVariables false
set_option linter.unusedSimpArgs false
namespace Go.Proofs.YtiiebakblkpkeaaGreatDoor.Hi
open Go.RowKit Go.Shelf Go.Sort Bs

theorem upon_round {n : Nat} {P : Program} {o : Oper} {a : Act} {next : Act → World → Prop} {Q : Exit → Act → World → Prop} {l : Nat} {r : Result Next} (h : o.uponIn Fence.wide n P a next Q r) : o.uponIn (Fence.wide.inRound l) n P a next Q r := by
  cases r with
  | ok x w' => cases x <;> exact h
  | halt x w' => cases x <;> exact h
theorem wpOps_round {n : Nat} {P : Program} {ops : Array Oper} {Q : Exit → Act → World → Prop} {l : Nat} (hd : ∀ (i : Nat) (o : Oper), ops[i]? = some o → ∀ c, o.op ≠ .defer c) : ∀ (is : List Nat) (a : Act) (w : World), wpOpsIn Fence.wide n P ops Q is a w → wpOpsIn (Fence.wide.inRound l) n P ops Q is a w
  | [], _, _, h => h
  | i :: rest, a, w, h => by
    simp only [wpOpsIn] at h ⊢
    cases ho : ops[i]? with
    | none =>
      simp only [ho] at h ⊢
      exact wpOps_round hd rest a w h
    | some o =>
      simp only [ho] at h ⊢
      by_cases hw : Region.wanted o (yielded ops a.tmps) = true
      · rw [if_pos hw] at h ⊢
        have h2 := Oper.wpIn_mono (fun a w hh => wpOps_round (l := l) hd rest a w hh) h
        refine ⟨h2.1, ?_⟩
        have h3 := h2.2
        rw [Oper.semAt_eq _ _ _ (hd i o ho)] at h3 ⊢
        exact upon_round h3
      · rw [if_neg hw] at h ⊢
        exact ⟨h.1, wpOps_round hd rest _ w h.2⟩
theorem asked_wide {P : Program} {o : Oper} {a : Act} {C : World → Prop} : o.askedIn Fence.wide P a C := fun _ _ _ _ => trivial
theorem wpIn_region_quiet_round {n : Nat} {P : Program} {id : Nat} {l : Nat} {ops : List Oper} {Q : Exit → Act → World → Prop} {a : Act} {w : World} (hd : ops.all (fun o => match o.op with | .defer _ => false | _ => true) = true) (hm : P.follows .mixedOrders = true) (hB : Region.lexB .any ops.toArray = true)
    (h : wpQuietIn Fence.wide n P ops.toArray (fun w' => ∃ p : Regrown, w' = grow (redrawn w p.d) p.os) (fun a' => ∀ w', (∃ p : Regrown, w' = grow (redrawn w p.d) p.os) → Q .normal a' w') ops a) : (Code.region id ops.toArray true).wpIn (Fence.wide.inRound l) n P Q a w := by
  have hC : (fun w' => ∃ p : Regrown, w' = grow (redrawn w p.d) p.os) { w with drawn := w.drawn + 1 } := ⟨⟨w.drawn + 1, #[]⟩, by rw [grow_empty]; rfl⟩
  simp only [Region.lexB, Bool.and_eq_true] at hB
  refine wpIn_region_draw fun t => ?_
  simp only [Region.schedule, hm, Bool.true_or, if_true]
  refine wpOps_round (fun i o ho c hc => by
    rw [List.getElem?_toArray] at ho
    have := List.all_eq_true.1 hd o (List.mem_of_getElem? ho)
    simp [hc] at this) _ _ _ (wpAnyIn_sound ops.toArray.size t _ a _ (wpAnyIn_of_quiet (C := fun w' => ∃ p : Regrown, w' = grow (redrawn w p.d) p.os) (Q := fun a' => ∀ w', (∃ p : Regrown, w' = grow (redrawn w p.d) p.os) → Q .normal a' w') rfl (fun _ w' hw' h => h w' hw') _ _ _ _ hC ?_))
  have := wpAnyQIn_lex (F := Fence.wide) (n := n) (P := P) (C := fun w' => ∃ p : Regrown, w' = grow (redrawn w p.d) p.os) (md := .any) hB.1 ops 0 (Array.replicate ops.toArray.size false) a (by simp) (by simpa using hB.2) h
  simpa using this

theorem keepsFrom_below {B : Nat} {W W' : World} (h : Below W.heap.size W W') : KeepsFrom B W W' := ⟨h.size, fun k o _ h0 _ => (h.block k (Array.getElem?_eq_some_iff.1 h0).1).trans h0⟩
theorem chg_below {F : Nat → Prop} {W W' : World} (h : Below W.heap.size W W') : Chg F W W' := ⟨h.os, h.tape, h.output, h.size, fun k hk _ => h.block k hk⟩
theorem chg_grown {F : Nat → Prop} {W W' : World} {row : Option Nat} (hg : W.grownBy W' row) (hr : ∀ k, row = some k → F k) : Chg F W W' :=
  ⟨hg.os, hg.tape, hg.output, hg.size, fun k hk hf => hg.block k hk (fun e => hf (hr k e.symm))⟩
theorem chg_putObj {F : Nat → Prop} {W : World} {l : Nat} {o' : Obj} (hl : F l) : Chg F W (W.putObj l o') :=
  ⟨rfl, rfl, rfl, by simp, fun k hk hf => World.putObj_heap_other (fun e => hf (by rw [e]; exact hl))⟩
theorem ownFrom_chg {β : Type} {B : Nat} {F : Nat → Prop} {w₀ : World} (hB : ∀ k, B ≤ k → F k) : OwnFrom B (fun (_ : β) W => Chg F w₀ W) :=
  fun _ X Y row hs hg hr => Chg.trans hs (chg_grown hg fun k e => hB k (hr k e).1) fun _ _ h => h
/-- The law of a range over a function with two loop variables, one of them boxed, no round of which leaves the loop. -/
theorem rangeFunc_own1 {α : Type} {g : Operand} {p1 p2 : Tmp} {assign body : Code} {Q : Exit → Act → World → Prop} {a : Act} {w : World} {n : Nat} {P : Program}
    (h1 : 1 ≤ n) {gf : Nat} {lb : Array Value} (hg : a.eval g = .func (.func gf) #[] lb) (eg : ∀ args w, (callFunc gf args).run P w = .ok (.enter gf args) w)
    {e1 e2 : α → Value} {Kp : World → World → Prop} {S Sp : List α → Prop} {N : Nat} (hseq : SeqStopsK Fence.wide (n - 1) P gf lb (fun x => #[e1 x, e2 x]) Kp S Sp N w)
    (hKt : ∀ {A B C : World}, Kp A B → Kp B C → Kp A C) (hKb : ∀ (W : World) (l : Nat) (o o' : Obj), w.heap.size ≤ l → Kp W (W.putObj l o'))
    (I : List α → World → Prop) (hI : OwnFrom w.heap.size I) (h0 : I [] w) (box : Nat) (T : TypeId) (enc2 : α → Value)
    (hassign : ∀ (l : Nat) (pre : List α) (x : α) (W : World) (K : Act → World → Prop), I pre W → (∀ Bx W', w.heap.size ≤ Bx → KeepsFrom w.heap.size W W' → Kp W W' → I pre W' → Boxed W' Bx T (enc2 x) → K { tmps := ((a.tmps.setIfInBounds p1 (e1 x)).setIfInBounds p2 (e2 x)).setIfInBounds box (.pointer (some ⟨Bx, 0, none⟩)), defers := [] } W') →
      assign.wpIn (Fence.wide.inRound l) (n - 1 - 1) P (Exit.then K (fun _ _ _ => False)) { tmps := (a.tmps.setIfInBounds p1 (e1 x)).setIfInBounds p2 (e2 x), defers := [] } W)
    (hbody : ∀ (l : Nat) (pre : List α) (x : α) (Bx : Nat) (W : World), I pre W → w.heap.size ≤ Bx → Boxed W Bx T (enc2 x) → pre.length < N → body.wpIn (Fence.wide.inRound l) (n - 1 - 1) P (ownPostG w.heap.size Kp I (fun _ _ _ => False) (pre ++ [x]) W) { tmps := ((a.tmps.setIfInBounds p1 (e1 x)).setIfInBounds p2 (e2 x)).setIfInBounds box (.pointer (some ⟨Bx, 0, none⟩)), defers := [] } W)
    (hdone : ∀ (D : Nat) (xs : List α) (W : World), w.heap.size ≤ D → S xs → I xs W → W.heap[D]? = some (.deferred (some [])) → Q .normal { a with defers := { target := .collected D, args := #[] } :: a.defers } W) :
    (Code.rangeFunc g #[p1, p2] assign body).wpIn Fence.wide n P Q a w := by
  have hz : ∀ x : α, (#[p1, p2].zip #[e1 x, e2 x]).foldl (fun t (p, v) => t.setIfInBounds p v) a.tmps = (a.tmps.setIfInBounds p1 (e1 x)).setIfInBounds p2 (e2 x) := fun x => by simp
  refine wpIn_rangeFunc_ownH rfl h1 hg trivial eg hseq hKt (fun W l o o' hl _ _ _ => hKb W l o o' hl) (Below.refl _ _) (fun _ => rfl) I (fun _ _ _ => False) hI (fun _ _ _ _ _ hs _ _ => hs) h0
    (fun x a' W => ∃ Bx, w.heap.size ≤ Bx ∧ Boxed W Bx T (enc2 x) ∧ a' = { tmps := ((a.tmps.setIfInBounds p1 (e1 x)).setIfInBounds p2 (e2 x)).setIfInBounds box (.pointer (some ⟨Bx, 0, none⟩)), defers := [] })
    (fun x a' _ X Y row hs hg hr => by obtain ⟨Bx, h1, h2, h3⟩ := hs; exact ⟨Bx, h1, boxed_own Bx T (fun (_ : Unit) => enc2 x) () X Y row h2 hg (fun r e => (hr r e).2), h3⟩)
    (fun l pre x W K hi hK => by
      rw [hz x]
      exact hassign l pre x W K hi fun Bx W' hB hk hp hi' hb => hK _ _ hk hp hi' ⟨Bx, hB, hb, rfl⟩)
    ?_ hdone (fun _ _ _ _ _ _ h _ => h.elim)
  rintro l pre x a' W _ _ hi ⟨Bx, hB, hb, rfl⟩ hlt
  exact hbody l pre x Bx W hi hB hb hlt
/-- What a walk of down may turn: the list's box, and whatever lies beyond n₀ but the chain's box. -/
def DnF (bl n₀ s : Nat) (k : Nat) : Prop := k = bl ∨ (n₀ ≤ k ∧ k ≠ s)
end Go.Proofs.YtiiebakblkpkeaaGreatDoor.Hi
