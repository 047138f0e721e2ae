/- A region that draws its order, in a round of a loop over a function; what a round keeps. -/
import Derived.Test.YtipinmbpdgjalaaGreatDoorOA
import Derived.Lib.QuietBelowIn
import Derived.RangeFuncNested
set_option maxRecDepth 100000
set_option maxHeartbeats 1000000
set_option linter.unusedVariables false
set_option linter.unusedSimpArgs false
namespace Go.Proofs.YtipinmbpdgjalaaGreatDoor.Hi
open Go.RowKit Go.Shelf Go.Sort Bs

theorem upon_round {n : Nat} {P : Program} {o : Oper} {a : Act} {next : Act → World → Prop} {Q : Exit → Act → World → Prop} {l : Nat} {r : Result Next} (h : o.uponIn Fence.wide n P a next Q r) : o.uponIn (Fence.wide.inRound l) n P a next Q r := by
  cases r with
  | ok x w' => cases x <;> exact h
  | halt x w' => cases x <;> exact h
theorem wpOps_round {n : Nat} {P : Program} {ops : Array Oper} {Q : Exit → Act → World → Prop} {l : Nat} (hd : ∀ (i : Nat) (o : Oper), ops[i]? = some o → ∀ c, o.op ≠ .defer c) : ∀ (is : List Nat) (a : Act) (w : World), wpOpsIn Fence.wide n P ops Q is a w → wpOpsIn (Fence.wide.inRound l) n P ops Q is a w
  | [], _, _, h => h
  | i :: rest, a, w, h => by
    simp only [wpOpsIn] at h ⊢
    cases ho : ops[i]? with
    | none =>
      simp only [ho] at h ⊢
      exact wpOps_round hd rest a w h
    | some o =>
      simp only [ho] at h ⊢
      by_cases hw : Region.wanted o (yielded ops a.tmps) = true
      · rw [if_pos hw] at h ⊢
        have h2 := Oper.wpIn_mono (fun a w hh => wpOps_round (l := l) hd rest a w hh) h
        refine ⟨h2.1, ?_⟩
        have h3 := h2.2
        rw [Oper.semAt_eq _ _ _ (hd i o ho)] at h3 ⊢
        exact upon_round h3
      · rw [if_neg hw] at h ⊢
        exact ⟨h.1, wpOps_round hd rest _ w h.2⟩
theorem asked_wide {P : Program} {o : Oper} {a : Act} {C : World → Prop} : o.askedIn Fence.wide P a C := fun _ _ _ _ => trivial
theorem wpIn_region_quiet_round {n : Nat} {P : Program} {id : Nat} {l : Nat} {ops : List Oper} {Q : Exit → Act → World → Prop} {a : Act} {w : World} (hd : ops.all (fun o => match o.op with | .defer _ => false | _ => true) = true) (hm : P.follows .mixedOrders = true) (hB : Region.lexB .any ops.toArray = true)
    (h : wpQuietIn Fence.wide n P ops.toArray (fun w' => ∃ p : Regrown, w' = grow (redrawn w p.d) p.os) (fun a' => ∀ w', (∃ p : Regrown, w' = grow (redrawn w p.d) p.os) → Q .normal a' w') ops a) : (Code.region id ops.toArray true).wpIn (Fence.wide.inRound l) n P Q a w := by
  have hC : (fun w' => ∃ p : Regrown, w' = grow (redrawn w p.d) p.os) { w with drawn := w.drawn + 1 } := ⟨⟨w.drawn + 1, #[]⟩, by rw [grow_empty]; rfl⟩
  simp only [Region.lexB, Bool.and_eq_true] at hB
  refine wpIn_region_draw fun t => ?_
  simp only [Region.schedule, hm, Bool.true_or, if_true]
  refine wpOps_round (fun i o ho c hc => by
    rw [List.getElem?_toArray] at ho
    have := List.all_eq_true.1 hd o (List.mem_of_getElem? ho)
    simp [hc] at this) _ _ _ (wpAnyIn_sound ops.toArray.size t _ a _ (wpAnyIn_of_quiet (C := fun w' => ∃ p : Regrown, w' = grow (redrawn w p.d) p.os) (Q := fun a' => ∀ w', (∃ p : Regrown, w' = grow (redrawn w p.d) p.os) → Q .normal a' w') rfl (fun _ w' hw' h => h w' hw') _ _ _ _ hC ?_))
  have := wpAnyQIn_lex (F := Fence.wide) (n := n) (P := P) (C := fun w' => ∃ p : Regrown, w' = grow (redrawn w p.d) p.os) (md := .any) hB.1 ops 0 (Array.replicate ops.toArray.size false) a (by simp) (by simpa using hB.2) h
  simpa using this

theorem keepsFrom_below {B : Nat} {W W' : World} (h : Below W.heap.size W W') : KeepsFrom B W W' := ⟨h.size, fun k o _ h0 _ => (h.block k (Array.getElem?_eq_some_iff.1 h0).1).trans h0⟩
theorem chg_below {F : Nat → Prop} {W W' : World} (h : Below W.heap.size W W') : Chg F W W' := ⟨h.os, h.tape, h.output, h.size, fun k hk _ => h.block k hk⟩
theorem chg_grown {F : Nat → Prop} {W W' : World} {row : Option Nat} (hg : W.grownBy W' row) (hr : ∀ k, row = some k → F k) : Chg F W W' :=
  ⟨hg.os, hg.tape, hg.output, hg.size, fun k hk hf => hg.block k hk (fun e => hf (hr k e.symm))⟩
theorem chg_putObj {F : Nat → Prop} {W : World} {l : Nat} {o' : Obj} (hl : F l) : Chg F W (W.putObj l o') :=
  ⟨rfl, rfl, rfl, by simp, fun k hk hf => World.putObj_heap_other (fun e => hf (by rw [e]; exact hl))⟩
theorem ownFrom_chg {β : Type} {B : Nat} {F : Nat → Prop} {w₀ : World} (hB : ∀ k, B ≤ k → F k) : OwnFrom B (fun (_ : β) W => Chg F w₀ W) :=
  fun _ X Y row hs hg hr => Chg.trans hs (chg_grown hg fun k e => hB k (hr k e).1) fun _ _ h => h
/-- The law of a range over a function with two loop variables, one of them boxed, no round of which leaves the loop. -/
theorem rangeFunc_own1 {α : Type} {g : Operand} {p1 p2 : Tmp} {assign body : Code} {Q : Exit → Act → World → Prop} {a : Act} {w : World} {n : Nat} {P : Program}
    (h1 : 1 ≤ n) {gf : Nat} {lb : Array Value} (hg : a.eval g = .func (.func gf) #[] lb) (eg : ∀ args w, (callFunc gf args).run P w = .ok (.enter gf args) w)
    {e1 e2 : α → Value} {Kp : World → World → Prop} {S Sp : List α → Prop} {N : Nat} (hseq : SeqStopsK Fence.wide (n - 1) P gf lb (fun x => #[e1 x, e2 x]) Kp S Sp N w)
    (hKt : ∀ {A B C : World}, Kp A B → Kp B C → Kp A C) (hKb : ∀ (W : World) (l : Nat) (o o' : Obj), w.heap.size ≤ l → Kp W (W.putObj l o'))
    (I : List α → World → Prop) (hI : OwnFrom w.heap.size I) (h0 : I [] w) (box : Nat) (T : TypeId) (enc2 : α → Value)
    (hassign : ∀ (l : Nat) (pre : List α) (x : α) (W : World) (K : Act → World → Prop), I pre W → (∀ Bx W', w.heap.size ≤ Bx → KeepsFrom w.heap.size W W' → Kp W W' → I pre W' → Boxed W' Bx T (enc2 x) → K { tmps := ((a.tmps.setIfInBounds p1 (e1 x)).setIfInBounds p2 (e2 x)).setIfInBounds box (.pointer (some ⟨Bx, 0, none⟩)), defers := [] } W') →
      assign.wpIn (Fence.wide.inRound l) (n - 1 - 1) P (Exit.then K (fun _ _ _ => False)) { tmps := (a.tmps.setIfInBounds p1 (e1 x)).setIfInBounds p2 (e2 x), defers := [] } W)
    (hbody : ∀ (l : Nat) (pre : List α) (x : α) (Bx : Nat) (W : World), I pre W → w.heap.size ≤ Bx → Boxed W Bx T (enc2 x) → pre.length < N → body.wpIn (Fence.wide.inRound l) (n - 1 - 1) P (ownPostG w.heap.size Kp I (fun _ _ _ => False) (pre ++ [x]) W) { tmps := ((a.tmps.setIfInBounds p1 (e1 x)).setIfInBounds p2 (e2 x)).setIfInBounds box (.pointer (some ⟨Bx, 0, none⟩)), defers := [] } W)
    (hdone : ∀ (D : Nat) (xs : List α) (W : World), w.heap.size ≤ D → S xs → I xs W → W.heap[D]? = some (.deferred (some [])) → Q .normal { a with defers := { target := .collected D, args := #[] } :: a.defers } W) :
    (Code.rangeFunc g #[p1, p2] assign body).wpIn Fence.wide n P Q a w := by
  have hz : ∀ x : α, (#[p1, p2].zip #[e1 x, e2 x]).foldl (fun t (p, v) => t.setIfInBounds p v) a.tmps = (a.tmps.setIfInBounds p1 (e1 x)).setIfInBounds p2 (e2 x) := fun x => by simp
  refine wpIn_rangeFunc_ownH rfl h1 hg trivial eg hseq hKt (fun W l o o' hl _ _ _ => hKb W l o o' hl) (Below.refl _ _) (fun _ => rfl) I (fun _ _ _ => False) hI (fun _ _ _ _ _ hs _ _ => hs) h0
    (fun x a' W => ∃ Bx, w.heap.size ≤ Bx ∧ Boxed W Bx T (enc2 x) ∧ a' = { tmps := ((a.tmps.setIfInBounds p1 (e1 x)).setIfInBounds p2 (e2 x)).setIfInBounds box (.pointer (some ⟨Bx, 0, none⟩)), defers := [] })
    (fun x a' _ X Y row hs hg hr => by obtain ⟨Bx, h1, h2, h3⟩ := hs; exact ⟨Bx, h1, boxed_own Bx T (fun (_ : Unit) => enc2 x) () X Y row h2 hg (fun r e => (hr r e).2), h3⟩)
    (fun l pre x W K hi hK => by
      rw [hz x]
      exact hassign l pre x W K hi fun Bx W' hB hk hp hi' hb => hK _ _ hk hp hi' ⟨Bx, hB, hb, rfl⟩)
    ?_ hdone (fun _ _ _ _ _ _ h _ => h.elim)
  rintro l pre x a' W _ _ hi ⟨Bx, hB, hb, rfl⟩ hlt
  exact hbody l pre x Bx W hi hB hb hlt
/-- What a walk of down may turn: the list's box, and whatever lies beyond n₀ but the chain's box. -/
def DnF (bl n₀ s : Nat) (k : Nat) : Prop := k = bl ∨ (n₀ ≤ k ∧ k ≠ s)
end Go.Proofs.YtipinmbpdgjalaaGreatDoor.Hi
/- Overriding: all that override one: the walk of down. -/
set_option maxRecDepth 100000
set_option maxHeartbeats 8000000
set_option linter.unusedVariables false
set_option linter.unusedSimpArgs false
namespace Go.Proofs.YtipinmbpdgjalaaGreatDoor.Hi
open Go.RowKit Go.Shelf Go.Sort Bs
attribute [local go_sem] Oper.semAt_some
attribute [local go_sem ↓] Go.wp_at_zero Go.wp_at_succ

/-- Methods that are there. -/
def InM (m : List EntM) (L : List (Int × Int)) : Prop := ∀ p ∈ L, ∃ x, methAt m p = some x
theorem step_inM {m : List EntM} {n d : ByteArray} {a : Int × Int} {L : List (Int × Int)} (c : Int) (h : InM m L) : InM m (stepM m n d a L c) := by
  unfold stepM
  cases ho : ownM m n d c with
  | none => exact h
  | some id =>
    simp only
    split
    · exact h
    · split
      · intro p hp
        rcases List.mem_append.1 hp with hp | hp
        · exact h p hp
        · obtain rfl := List.mem_singleton.1 hp
          obtain ⟨_, _, x, hx, _⟩ := own_spec ho
          exact ⟨x, hx⟩
      · exact h
theorem fold_inM {m : List EntM} {n d : ByteArray} {a : Int × Int} : ∀ (l : List Int) {L : List (Int × Int)}, InM m L → InM m (l.foldl (stepM m n d a) L)
  | [], _, h => h
  | c :: l, _, h => fold_inM l (step_inM c h)
theorem step_len {m : List EntM} {n d : ByteArray} {a : Int × Int} {L : List (Int × Int)} (c : Int) : (stepM m n d a L c).length ≤ L.length + 1 := by
  unfold stepM
  cases ownM m n d c with
  | none => simp
  | some id =>
    simp only
    split
    · omega
    · split
      · simp
      · omega
theorem fold_len {m : List EntM} {n d : ByteArray} {a : Int × Int} : ∀ (l : List Int) (L : List (Int × Int)), (l.foldl (stepM m n d a) L).length ≤ L.length + l.length
  | [], _ => Nat.le_refl _
  | c :: l, L => by
    have h1 := fold_len (m := m) (n := n) (d := d) (a := a) l (stepM m n d a L c)
    have h2 := step_len (m := m) (n := n) (d := d) (a := a) (L := L) c
    rw [List.foldl_cons, List.length_cons]
    omega
theorem ch_len_le {m : List EntM} (hw : WFm m) {r : Nat} (hr : r < m.length) : (ch m r).length ≤ 300 := by
  have h1 := ch_len hw hr
  have h2 := (hw.depth r hr).2.1
  have h3 := hw.len
  omega

theorem row_base {w : World} {n : Nat} {E : TypeId} {size : Nat} {v : Value} {k : Nat} {xs : List Value} (h : w.ownsRow n E size v k xs) : w.ownsRow 0 E size v k xs := by
  refine ⟨h.1, ?_⟩
  rcases h.2 with h | ⟨g, cap, cur, e, h1, h2⟩
  · exact .inl h
  · exact .inr ⟨g, cap, cur, e, Nat.zero_le _, h2⟩

theorem row_less {w : World} {n n' : Nat} {E : TypeId} {size : Nat} {v : Value} {k : Nat} {xs : List Value} (h : w.ownsRow n E size v k xs) (hn : n' ≤ n) : w.ownsRow n' E size v k xs := by
  refine ⟨h.1, ?_⟩
  rcases h.2 with h | ⟨g, cap, cur, e, h1, h2⟩
  · exact .inl h
  · exact .inr ⟨g, cap, cur, e, Nat.le_trans hn h1, h2⟩
/-- The walk of down: q's box, the list's box. -/
structure Dn (w W : World) (q : Nat) (v : Value) : Prop where
  bel : Below w.heap.size w W
  qb : W.cell? ⟨w.heap.size, 0, none⟩ = some (.pointer (some ⟨q, 0, none⟩))
  lb : Boxed W (w.heap.size + 1) 72 v
  lt : w.heap.size + 1 < W.heap.size
theorem Dn.next {w W W' : World} {q : Nat} {v : Value} (h : Dn w W q v) (hb : Below W.heap.size W W') : Dn w W' q v :=
  ⟨h.bel.trans (hb.mono h.bel.size), below_cell' hb h.qb, (hb.block _ h.lt).trans h.lb, Nat.lt_of_lt_of_le h.lt hb.size⟩
theorem Dn.set {w W : World} {q : Nat} {v : Value} (h : Dn w W q v) (v' : Value) : Dn w (W.setCell ⟨w.heap.size + 1, 0, none⟩ v') q v' :=
  ⟨h.bel.setCell (by simp only; omega) _, by rw [setCell_off (by omega)]; exact h.qb, h.lb.set _, by rw [show (W.setCell ⟨w.heap.size + 1, 0, none⟩ v').heap.size = W.heap.size by simp]; exact h.lt⟩
/-- A list grows: its box holds the longer one. -/
theorem dn_grow {w W w1 : World} {q n : Nat} {v v' : Value} {k j : Nat} {xs ys : List Value} {o : Obj} (h : Dn w W q v) (hrow : W.ownsRow n 38 2 v k xs) (hown : w1.ownsRow n 38 2 v' j ys) (hn : n ≤ W.heap.size) (hnw : w.heap.size + 1 < n) (hg : (W.alloc o).grownBy w1 v.ownBlock) :
    Dn w (w1.setCell ⟨w.heap.size + 1, 0, none⟩ v') q v' ∧ (w1.setCell ⟨w.heap.size + 1, 0, none⟩ v').ownsRow n 38 2 v' j ys ∧ KeepsOthers W (w1.setCell ⟨w.heap.size + 1, 0, none⟩ v') ∧ Boxed w1 (w.heap.size + 1) 72 v := by
  have hb : Below n W w1 := ((Below.refl n W).alloc hn o).grown hg (by simp; omega) (fun k hk => (own_live hrow hk).1)
  have hd : Dn w w1 q v := ⟨h.bel.trans (hb.mono (by omega)), (World.cell?_of_block (w := W) (a := ⟨w.heap.size, 0, none⟩) (hb.block _ (by show w.heap.size < n; omega))).trans h.qb, (hb.block _ hnw).trans h.lb, Nat.lt_of_lt_of_le h.lt hb.size⟩
  have hk := Boxed.appended (n₀ := 0) (t := 72) (e := 38) (tmp := o) h.lb (by decide) (row_base hrow) (Nat.zero_le _) (Nat.zero_le _) (row_base hown) hg
  exact ⟨hd.set _, hown.kept (grownBy_setCell' w1 (w.heap.size + 1) v') (.inr (hd.lb.not_row (by decide) hown).symm), hk.2.2.2.1, hd.lb⟩
theorem idSl_nil {S : Nat → Prop} {w : World} : IdSl S w (.slice none ([] : List (Int × Int)).length 0) [] := ⟨none, 0, rfl, Nat.le_refl _, by simp, .inl rfl⟩
theorem idSl_row {w : World} {n : Nat} {ra : Option Addr} {rc : Nat} {L : List (Int × Int)} (h : w.ownsRow n 38 2 (.slice ra L.length rc) L.length (L.map idCells).flatten) (hl : L.length ≤ 1000) : IdSl (fun b => n ≤ b ∧ b < w.heap.size) w (.slice ra L.length rc) L := by
  refine Sl.of_own h (css := L.map idCells) (by simp) rfl (fun cs hcs => ?_) (fun i hi => by simp [idCells, IdIs]) (by omega) _ (fun b hb => own_live h hb)
  obtain ⟨p, _, rfl⟩ := List.mem_map.1 hcs
  rfl
theorem IdSl.mono {S T : Nat → Prop} {w : World} {v : Value} {xs : List (Int × Int)} (h : IdSl S w v xs) (hS : ∀ k, S k → T k) : IdSl T w v xs := Sl.mono h hS fun _ _ h => h
/-- What the chain's cells hold. -/
def ChAt (W : World) (cb co : Nat) (zs : List Int) : Prop := ∀ j, j < zs.length → W.cell? ⟨cb, co + j, none⟩ = some (.int .i64 (zs[j]?.getD 0))

theorem own_id {m : List EntM} {n d : ByteArray} {c : Int} {id : Int × Int} (h : ownM m n d c = some id) : id = (c, (findH m c n d).1) := by
  unfold ownM at h
  split at h
  · split at h
    · cases h
    · split at h
      · exact (Option.some.inj h).symm
      · cases h
  · cases h
/-- The list behind the rounds of a part of the chain. -/
def llO (m : List EntM) (n d : ByteArray) (a : Int × Int) (L0 : List (Int × Int)) {P : Int → Prop} (pre : List (BkT P)) : List (Int × Int) := (pre.map fun y => y.1.2).foldl (stepM m n d a) L0
theorem llO_snoc {m : List EntM} {n d : ByteArray} {a : Int × Int} {L0 : List (Int × Int)} {P : Int → Prop} (pre : List (BkT P)) (y : BkT P) : llO m n d a L0 (pre ++ [y]) = stepM m n d a (llO m n d a L0 pre) y.1.2 := by
  unfold llO
  rw [List.map_append, List.foldl_append]
  rfl
theorem llO_len {m : List EntM} {n d : ByteArray} {a : Int × Int} {L0 : List (Int × Int)} {P : Int → Prop} (pre : List (BkT P)) : (llO m n d a L0 pre).length ≤ L0.length + pre.length := by
  have := fold_len (m := m) (n := n) (d := d) (a := a) (pre.map fun y => y.1.2) L0
  simpa [llO] using this
theorem llO_in {m : List EntM} {n d : ByteArray} {a : Int × Int} {L0 : List (Int × Int)} {P : Int → Prop} (pre : List (BkT P)) (h : InM m L0) : InM m (llO m n d a L0 pre) := fold_inM _ h

theorem ODownR {B bw : Nat} {w0 w : World} {m : List EntM} (h : Built B bw w0 w m) {q a b r : Nat} (ha : a < m.length) (hb : b < m[a].c.meths.length) (hr : r < m.length) (hq : AskAt w q bw ((a : Int), (b : Int)) m[a].c.meths[b]) :
    Calls Tryz.prog 46 #[.pointer (some ⟨q, 0, none⟩), .int .i64 r] w fun e w' => ∃ ad k, e = .returned (.slice ad (downM m m[a].c.meths[b] ((a : Int), (b : Int)) r).length k) ∧ w'.ownsRow w.heap.size 38 2 (.slice ad (downM m m[a].c.meths[b] ((a : Int), (b : Int)) r).length k) (downM m m[a].c.meths[b] ((a : Int), (b : Int)) r).length ((downM m m[a].c.meths[b] ((a : Int), (b : Int)) r).map idCells).flatten ∧ Below w.heap.size w w' := by
  obtain ⟨ws, hws⟩ : ∃ ws, ((w.alloc (.cells #[.pointer (some ⟨q, 0, none⟩)] 92)).alloc (.cells #[.slice none 0 0] 72)) = ws := ⟨_, rfl⟩
  have hbs : Below w.heap.size w ws := by rw [← hws]; exact ((Below.refl _ _).alloc (Nat.le_refl _) _).alloc (by simp) _
  have hqb : ws.cell? ⟨w.heap.size, 0, none⟩ = some (.pointer (some ⟨q, 0, none⟩)) := by rw [← hws]; exact alloc_old (World.cell?_alloc_new ..)
  have hlb : Boxed ws (w.heap.size + 1) 72 (.slice none 0 0) := by rw [← hws]; simpa using Boxed.new (w.alloc (.cells #[.pointer (some ⟨q, 0, none⟩)] 92)) 72 (.slice none 0 0)
  have hX : methAt m ((a : Int), (b : Int)) = some m[a].c.meths[b] := methAt_at ha hb
  have HH := Lib.hid h
  have HX := Lib.hid hX
  have HWF := Lib.hid h.wf
  have HQ := Lib.hid (hq.next hbs)
  have HQ0 := Lib.hid hq
  have HBS := Lib.hid hbs
  have HLB := Lib.hid hlb
  generalize m[a].c.meths[b] = x at *
  have hq0 := HQ.out.k0
  have hq1 := HQ.out.k1
  have hq2 := HQ.out.k2
  have hq3 := HQ.out.k3
  have hq4 := HQ.out.k4
  have hq5 := HQ.out.k5
  have hq6 := HQ.out.k6
  have hq7 := HQ.out.k7
  obtain ⟨xa, xl, xc, hq8⟩ := HQ.out.k8
  have HST := Lib.hid (OStatic x.name x.desc x.flags x.locals x.stack xa xl xc ws)
  obtain ⟨DD, hD⟩ : ∃ DD, downM m x ((a : Int), (b : Int)) r = DD := ⟨_, rfl⟩
  rw [hD]
  have HD := Lib.hid hD
  clear hq hbs hX h hD hb
  refine (callsIn_wide (n := 6)).1 ?_
  refine callsIn_of_wp_marks Tryz.func46 rfl trivial ?_ rfl
  simp only [Tryz.ntmps46, List.size_toArray, List.length_cons, List.length_nil, Nat.reduceAdd, Nat.reduceSub, Array.replicate_succ, Array.replicate_zero, List.push_toArray, List.append_toArray, List.nil_append, List.cons_append]
  refine wpIn_wide.2 ?_
  go_wp2_with fail
  try rw [hws]
  clear hws
  refine HST.out.mono ?_
  rintro _ w1 ⟨rfl, hb⟩
  have HD1 : Hid (Dn w w1 q (.slice none 0 0)) := Lib.hid (Dn.next ⟨HBS.out, hqb, hlb, HLB.out.lt⟩ hb)
  have HAQ := Lib.hid (HQ.out.next hb)
  clear hb HST hqb hlb HLB HBS hq0 hq1 hq2 hq3 hq4 hq5 hq6 hq7 hq8 HQ
  have b0 := HD1.out.qb
  have b1 := HAQ.out.k0
  cases hst : statF x.flags
  · have HC := Lib.hid (Chain (HH.out.next HD1.out.bel).hw (HH.out.next HD1.out.bel).live (r : Int))
    have HCE : Hid (chainM m r = (ch m r, 0)) := Lib.hid (by unfold ch chainM; rw [entAt_nat hr])
    rw [HCE.out] at HC
    clear HCE
    go_wp2_with fail
    refine HC.out.mono ?_
    rintro _ w2 ⟨ca, cc, rfl, hs, hb⟩
    have HD2 := Lib.hid (HD1.out.next hb)
    have HAQ2 := Lib.hid (HAQ.out.next hb)
    have HSZ : Hid (w.heap.size + 1 < w1.heap.size ∧ w1.heap.size ≤ w2.heap.size) := Lib.hid ⟨HD1.out.lt, hb.size⟩
    have HS2 := Lib.hid hs
    clear hb hs HC HAQ HD1 b0 b1
    have b0 := HD2.out.qb
    have b1 := HAQ2.out.k0
    have b2 := HAQ2.out.k1
    obtain ⟨hit, hhit⟩ : ∃ hit, (ch m r).contains (a : Int) = hit := ⟨_, rfl⟩
    obtain ⟨ifa, hifa⟩ : ∃ ifa, isIfaceM m a = ifa := ⟨_, rfl⟩
    have HDL : Hid (downL m ((a : Int), (b : Int)) r = if (hit || ifa) = true then [((a : Int), (b : Int))] else []) := Lib.hid (by unfold downL; rw [hhit, hifa])
    have cC : ∀ d os, Calls Tryz.prog 48 #[.slice ca (ch m r).length cc, .int .i64 a] (grow (redrawn w2 d) os) fun e w'' => e = .returned (.bool hit) ∧ ∃ p : Regrown, w'' = grow (redrawn w2 p.d) p.os := fun d os => (contains_ints (a : Int) (HS2.out.alike (Alike.of_below (below_regrown w2 d os) fun _ h => h.2))).mono fun e w' h => ⟨by rw [h.1, hhit], ⟨d, os⟩, h.2.symm⟩
    have cI : ∀ d os, Calls Tryz.prog 21 #[.pointer (some ⟨bw, 0, none⟩), .int .i64 a] (grow (redrawn w2 d) os) fun e w'' => e = .returned (.bool ifa) ∧ ∃ p : Regrown, w'' = grow (redrawn w2 p.d) p.os := fun d os => Calls.regrown_of (by rw [← hifa]; exact (HH.out.next (HD2.out.bel.trans ((below_regrown w2 d os).mono HD2.out.bel.size))).isIface a)
    clear hhit hifa
    go_wp2_with fail
    go_cut [44] from 26 to 43 (fun s44 wx => Hid (s44 = .bool (hit || ifa) ∧ Below w2.heap.size w2 wx))
    case first =>
      have k0 := cell_regrown b0
      have k1 := cell_regrown b1
      have k2 := cell_regrown b2
      clear b0 b1 b2
      cases hit
      all_goals
        refine wp_region_quiet_below (by kernel_rfl) (by kernel_rfl) ?_
        repeat (with_reducible refine wpQuiet_step (fun K hK => ?_); go_simp; first | (with_reducible refine hK _ ?_; clear hK K) | (apply Exists.intro; refine ⟨fun _ => ?_, hK _ ?_⟩; (first | (go_at_call 48; exact cC _ _) | (go_at_call 21; exact cI _ _)); clear hK K))
        with_reducible refine wpQuiet_nil ?_
        intro _ hw'
        obtain ⟨⟨dq, osq⟩, hw''⟩ := hw'
        subst hw''
        have HB := Lib.hid (below_regrown w2 dq osq)
        clear cC cI k0 k1 k2
        go_wp2_with fail
        go_meet
        exact Lib.hid ⟨rfl, HB.out⟩
    case rest =>
      obtain ⟨rfl, hbc⟩ := hcut.out
      have HD3 := Lib.hid (HD2.out.next hbc)
      have HAQ3 := Lib.hid (HAQ2.out.next hbc)
      have HK3 : Hid (Below w2.heap.size w2 wc) := Lib.hid hbc
      clear hcut hbc cC cI b0 b1 b2 HAQ2
      have HWB := Lib.hid (HH.out.next HD3.out.bel)
      have HFX := Lib.hid (fun wr => OFree x.name x.desc x.flags x.locals x.stack xa xl xc wr)
      have HFE : Hid ((!statF x.flags && !(x.name.toList == initN.toList)) = freeX x) := Lib.hid rfl
      rw [HFE.out] at HFX
      obtain ⟨L0, hL0⟩ : ∃ L0, downL m ((a : Int), (b : Int)) r = L0 := ⟨_, rfl⟩
      rw [hL0] at HDL
      have HL0 := Lib.hid hL0
      clear hL0 HFE
      obtain ⟨i0, hi0, hiz0, hiz1, hiz2⟩ := info_parts info_id
      obtain ⟨hv0, hhv⟩ : ∃ hv0, (hit || ifa) = hv0 := ⟨_, rfl⟩
      rw [hhv] at HDL ⊢
      clear hhv
      rename_i hK0
      with_reducible refine hK0 _ _ ?_
      clear hK0
      go_cut [] from 45 to 51 (fun wx => Hid (∃ v : Value, Dn w wx q v ∧ wx.ownsRow w2.heap.size 38 2 v L0.length (L0.map idCells).flatten ∧ Chg (fun k => k = w.heap.size + 1) w2 wx))
      case first =>
        cases hv0
        · have HL : Hid (L0 = []) := Lib.hid (by rw [HDL.out]; rfl)
          go_wp2_with fail
          go_meet
          exact Lib.hid ⟨_, HD3.out, by rw [HL.out]; exact World.ownsRow_nil _ _ _ _, Chg.of_below HK3.out⟩
        · have HL : Hid (L0 = [((a : Int), (b : Int))]) := Lib.hid (by rw [HDL.out]; rfl)
          have z1 := HAQ3.out.k1
          have z2 := HAQ3.out.k2
          have qb := HD3.out.qb
          have lb := HD3.out.lb.cell
          have lf := HD3.out.lb.frozen
          have HROW : Hid (wc.ownsRow w2.heap.size 38 2 (.slice none 0 0) 0 []) := Lib.hid (World.ownsRow_nil _ _ _ _)
          have HNEW : Hid (∀ j u, ([.int .i64 (a : Int), .int .i64 (b : Int)] : List Value)[j]? = some u → ((wc.alloc (.cells #[.int .i64 (a : Int), .int .i64 (b : Int)] 38)).drew).cell? ((⟨wc.heap.size, 0, none⟩ : Addr).add j) = some u) := Lib.hid (by
            intro j u hu
            rw [show (⟨wc.heap.size, 0, none⟩ : Addr).add j = ⟨wc.heap.size, j, none⟩ by unfold Addr.add; split <;> simp_all]
            show (wc.alloc _).cell? _ = _
            rw [World.cell?_alloc_new]
            rw [← Array.getElem?_toList]
            exact hu)
          have hsz := HK3.out.size
          have hwz : w.heap.size + 1 < wc.heap.size := HD3.out.lt
          have hqz : q < wc.heap.size := World.block_lt_of_cell? _ _ z1
          have HBX : Hid (∀ (v1 : Value) (w1 : World), w1.ownsRow w2.heap.size 38 2 v1 1 [.int .i64 (a : Int), .int .i64 (b : Int)] → (wc.alloc (.cells #[.int .i64 (a : Int), .int .i64 (b : Int)] 38)).drew.grownBy w1 (Value.slice none 0 0).ownBlock → (w1.cell? ⟨w.heap.size + 1, 0, none⟩ = some (.slice none 0 0) ∧ w1.frozen? ⟨w.heap.size + 1, 0, none⟩ = false) ∧ Dn w (w1.setCell ⟨w.heap.size + 1, 0, none⟩ v1) q v1 ∧ (w1.setCell ⟨w.heap.size + 1, 0, none⟩ v1).ownsRow w2.heap.size 38 2 v1 1 [.int .i64 (a : Int), .int .i64 (b : Int)] ∧ Chg (fun k => k = w.heap.size + 1) w2 (w1.setCell ⟨w.heap.size + 1, 0, none⟩ v1)) := Lib.hid (by
            intro v1 w1 ho hg
            have hg' : (wc.alloc (.cells #[.int .i64 (a : Int), .int .i64 (b : Int)] 38)).grownBy w1 (Value.slice none 0 0).ownBlock := ⟨hg.os, hg.tape, hg.output, hg.size, hg.block⟩
            obtain ⟨h1, h2, _, h4⟩ := dn_grow HD3.out HROW.out ho hsz (by have := HSZ.out; omega) hg'
            refine ⟨⟨h4.cell, h4.frozen⟩, h1, h2, ?_⟩
            exact Chg.setCell (F := fun k => k = w.heap.size + 1) (a := ⟨w.heap.size + 1, 0, none⟩) (Chg.grown ((Chg.of_below HK3.out).alloc _) hg' (fun k hk => by simp [Value.ownBlock] at hk)) (.inr rfl) _)
          go_wp2_with fail
          refine wp_region_noPanic ?_
          go_region_law (refine step_append_own rfl (.tmp 45) (.tmp 50) 72 rfl w2.heap.size 38 i0 (.agg #[.int .i64 0, .int .i64 0]) 2 16 Tryz.underlying72 hi0 hiz0 hiz1 hiz2 rfl (by decide) (.slice none 0 0) 0 [] (by simp [Act.eval, Act.put]) ((HROW.out.alloc _).drew) ⟨wc.heap.size, 0, none⟩ 1 1 [.int .i64 (a : Int), .int .i64 (b : Int)] (by simp [Act.eval, Act.put]) rfl HNEW.out (by intro u hu; simp at hu; rcases hu with rfl | rfl <;> rfl) (by unfold maxLen; omega) (by omega) (by simp; omega) ?_; intro v1 w1 hown1 hgrow1; (have HFN := Lib.hid (HBX.out v1 w1 (by simpa using hown1) hgrow1)); obtain ⟨g, cap, rfl⟩ := own_form hown1; obtain ⟨k1, k2⟩ := HFN.out.1)
          all_goals
            refine NoPanic.normal ?_
            go_wp2_with fail
            go_meet
            exact Lib.hid ⟨_, HFN.out.2.1, by rw [HL.out]; simpa [idCells] using HFN.out.2.2.1, HFN.out.2.2.2⟩
      case rest =>
        obtain ⟨v, hd5, hr5, hc5⟩ := hcut.out
        have HD5 := Lib.hid hd5
        have HR5 := Lib.hid hr5
        have HC5 := Lib.hid hc5
        have HA5 := Lib.hid (HQ0.out.next hd5.bel)
        clear hcut hd5 hr5 hc5 HFX HD3 HAQ3 HK3 HDL HWB hi0 hiz0 hiz1 hiz2 i0
        have z3 := HA5.out.k3
        have z4 := HA5.out.k4
        have z5 := HA5.out.k5
        have z6 := HA5.out.k6
        have z7 := HA5.out.k7
        obtain ⟨ya, yl, yc, z8⟩ := HA5.out.k8
        have HFX : Hid (Calls Tryz.prog 79 #[.agg #[.string x.name, .string x.desc, .int .i64 x.flags, .int .i64 x.locals, .int .i64 x.stack, .slice ya yl yc]] wc fun r w' => r = .returned (.bool (freeX x)) ∧ Below wc.heap.size wc w') := Lib.hid (OFree x.name x.desc x.flags x.locals x.stack ya yl yc wc)
        have qb := HD5.out.qb
        go_wp2_with fail
        refine HFX.out.mono ?_
        rintro _ w6 ⟨rfl, hb⟩
        have HD6 := Lib.hid (HD5.out.next hb)
        have HR6 : Hid (w6.ownsRow w2.heap.size 38 2 v L0.length (L0.map idCells).flatten) := Lib.hid (row_of_block HR5.out fun q hq => hb.block q (own_live HR5.out hq).2)
        have HC6 : Hid (Chg (fun k => k = w.heap.size + 1) w2 w6) := Lib.hid (HC5.out.trans (Chg.of_below hb) fun _ _ h => h)
        clear hb HFX HA5 HD5 HR5 HC5 z3 z4 z5 z6 z7 z8 qb
        have lb := HD6.out.lb.cell
        have HL0L : Hid (L0.length ≤ 1) := Lib.hid (by rw [← HL0.out]; unfold downL; split <;> simp)
        cases hfr : freeX x
        · have G : Hid (DD = L0) := Lib.hid (by rw [← HD.out, ← HL0.out]; unfold downM; rw [hst, hfr]; rfl)
          obtain ⟨ra, rc, rfl⟩ := own_slice HR6.out
          go_wp2
          exact ⟨_, results_tmp rfl _ _ _, ra, rc, by rw [G.out]; rfl, by rw [G.out]; exact row_less HR6.out (by have := HSZ.out; omega), HD6.out.bel⟩
        · have HBK := Lib.hid (Backward_in ca (ch m r).length cc w6)
          go_wp2_with fail
          refine HBK.out.mono ?_
          rintro _ w7 ⟨rfl, rfl⟩
          clear HBK
          go_wp2_with fail
          refine (wpIn_wide (n := 6)).1 ?_
          obtain ⟨W0, hW0⟩ : ∃ W0, (w6.alloc (.cells #[.slice ca (ch m r).length cc] 62)) = W0 := ⟨_, rfl⟩
          have hb7 : Below w6.heap.size w6 W0 := by rw [← hW0]; exact (Below.refl _ _).alloc (Nat.le_refl _) _
          have hz7 : W0.heap.size = w6.heap.size + 1 := by rw [← hW0]; simp
          have HD7 := Lib.hid (HD6.out.next hb7)
          have hsb : W0.cell? ⟨w6.heap.size, 0, none⟩ = some (.slice ca (ch m r).length cc) := by rw [← hW0]; exact World.cell?_alloc_new ..
          have HSB : Hid (Boxed W0 w6.heap.size 62 (.slice ca (ch m r).length cc)) := Lib.hid (by rw [← hW0]; exact Boxed.new _ _ _)
          have HR7 : Hid (W0.ownsRow w2.heap.size 38 2 v L0.length (L0.map idCells).flatten) := Lib.hid (by rw [← hW0]; exact HR6.out.alloc _)
          have HC7 : Hid (Chg (fun k => k = w.heap.size + 1) w2 W0) := Lib.hid (HC6.out.trans (Chg.of_below hb7) fun _ _ h => h)
          rw [hW0]
          have hz1 := HSZ.out.1
          have hz2 := HSZ.out.2
          have hz3 := HC6.out.size
          clear hW0 hb7 HR6 HC6 HD6 lb
          obtain ⟨_, _, e1, _, _, hcl⟩ := HS2.out.cells
          injection e1 with e2 _ e3
          subst e2; subst e3
          rcases hcl with hnil | ⟨cb, co, rfl, hS, hcells⟩
          · have := ch_head HWF.out hr
            rw [hnil] at this
            cases this
          have hcs : ∀ j, j < (ch m r).length → W0.cell? ⟨cb, co + j, none⟩ = some (.int .i64 ((ch m r)[j]?.getD 0)) := fun j hj => by
            rw [List.getElem?_eq_getElem hj]
            exact Chg.cell_eq HC7.out (hcells j hj).1 (by simp only; omega)
          have hP : ∀ j : Nat, (fun c : Int => ∃ k : Nat, c = k ∧ k < m.length) ((ch m r)[j]?.getD 0) := fun j => by
            by_cases hj : j < (ch m r).length
            · rw [List.getElem?_eq_getElem hj]
              obtain ⟨k, e, _, hk, _⟩ := ch_mem HWF.out hr _ (List.getElem_mem hj)
              exact ⟨k, e, hk⟩
            · rw [List.getElem?_eq_none (by omega)]
              exact ⟨0, rfl, by omega⟩
          have hFb : ¬ DnF (w.heap.size + 1) w2.heap.size w6.heap.size cb := by unfold DnF; omega
          have hFs : ¬ DnF (w.heap.size + 1) w2.heap.size w6.heap.size w6.heap.size := by unfold DnF; omega
          have hFq : ¬ DnF (w.heap.size + 1) w2.heap.size w6.heap.size w.heap.size := by unfold DnF; omega
          have hFl : ∀ k, W0.heap.size ≤ k → DnF (w.heap.size + 1) w2.heap.size w6.heap.size k := fun k hk => by unfold DnF; omega
          have hCL := ch_len_le HWF.out hr
          clear hcells
          refine rangeFunc_own1 (by omega) (gf := 72) (lb := #[.pointer (some ⟨w6.heap.size, 0, none⟩)]) (Kp := Chg (DnF (w.heap.size + 1) w2.heap.size w6.heap.size)) (e1 := fun y : BkT (fun c : Int => ∃ k : Nat, c = k ∧ k < m.length) => .int .i64 y.1.1) (e2 := fun y => .int .i64 y.1.2) rfl (enters_of Tryz.func72 (by kernel_rfl) rfl)
            (Backward_stops 5 (by omega) (DnF (w.heap.size + 1) w2.heap.size w6.heap.size) w6.heap.size cb co cc (fun c : Int => ∃ k : Nat, c = k ∧ k < m.length) (ch m r) hP (by omega) W0 hFb hFs hsb hcs)
            (fun h k => Chg.trans h k fun _ _ h => h) (fun W l o o' hl => chg_putObj (hFl l hl))
            (fun pre W => (∃ v, Boxed W (w.heap.size + 1) 72 v ∧ W.ownsRow w2.heap.size 38 2 v (llO m x.name x.desc ((a : Int), (b : Int)) L0 pre).length (((llO m x.name x.desc ((a : Int), (b : Int)) L0 pre)).map idCells).flatten ∧ True) ∧ (Below w.heap.size w W ∧ Chg (DnF (w.heap.size + 1) w2.heap.size w6.heap.size) W0 W))
            (OwnFrom.and (Own.from (holdsRow_own w2.heap.size (w.heap.size + 1) 72 38 2 (fun (pre : List (BkT (fun c : Int => ∃ k : Nat, c = k ∧ k < m.length))) => (llO m x.name x.desc ((a : Int), (b : Int)) L0 pre).length) (fun (pre : List (BkT (fun c : Int => ∃ k : Nat, c = k ∧ k < m.length))) => (((llO m x.name x.desc ((a : Int), (b : Int)) L0 pre)).map idCells).flatten) (fun _ _ => True)) _) (OwnFrom.and (ownFrom_below (Nat.le_refl _) (by omega)) (ownFrom_chg hFl)))
            ⟨⟨v, HD7.out.lb, HR7.out, trivial⟩, HD7.out.bel, Chg.refl _ _⟩ 9 3 (fun y => .int .i64 y.1.2) ?assign ?body ?done
          case assign =>
            rintro l pre y W K ⟨⟨v, hv, hrw, _⟩, hB, hC⟩ hK
            have hz := hC.size
            gi_wp2
            exact hK W.heap.size _ hz ((KeepsOthers.alloc _ _).from _) (Chg.of_below ((Below.refl _ _).alloc (Nat.le_refl _) _)) ⟨⟨v, hv.alloc _, hrw.alloc _, trivial⟩, hB.alloc hB.size _, hC.alloc _⟩ (Boxed.new W _ _)
          case body =>
            rintro l pre ⟨⟨yi, yc⟩, c, hyc, hcm⟩ Bx W ⟨⟨v, hv, hrw, _⟩, hB, hC⟩ hBx hbx hlt
            have hyc' : yc = (c : Int) := hyc
            subst hyc'
            have qb := Chg.cell_eq hC HD7.out.qb hFq
            have cb' := hbx.cell
            have HOW := Lib.hid (OOwn (HH.out.next hB) (HQ0.out.next hB) hcm)
            have SKIP : Hid (∀ W', Below W.heap.size W W' → stepM m x.name x.desc ((a : Int), (b : Int)) (llO m x.name x.desc ((a : Int), (b : Int)) L0 pre) c = llO m x.name x.desc ((a : Int), (b : Int)) L0 pre → KeepsFrom (w6.heap.size + 1) W W' ∧ Chg (DnF (w.heap.size + 1) w2.heap.size w6.heap.size) W W' ∧ (∃ v, Boxed W' (w.heap.size + 1) 72 v ∧ W'.ownsRow w2.heap.size 38 2 v (llO m x.name x.desc ((a : Int), (b : Int)) L0 (pre ++ [⟨(yi, (c : Int)), c, hyc, hcm⟩])).length ((llO m x.name x.desc ((a : Int), (b : Int)) L0 (pre ++ [⟨(yi, (c : Int)), c, hyc, hcm⟩])).map idCells).flatten) ∧ (Below w.heap.size w W' ∧ Chg (DnF (w.heap.size + 1) w2.heap.size w6.heap.size) W0 W')) := Lib.hid (by
              intro W' hb he
              rw [llO_snoc, he]
              refine ⟨keepsFrom_below hb, Chg.of_below hb, ⟨v, (hb.block _ hv.lt).trans hv, row_of_block hrw fun q hq => hb.block q (own_live hrw hq).2⟩, hB.trans (hb.mono hB.size), hC.trans (Chg.of_below hb) fun _ _ h => h⟩)
            have GROW : Hid (∀ (W3 W4 : World) (o' : Obj) (v1 : Value) (p : Int × Int), Below W.heap.size W W3 → stepM m x.name x.desc ((a : Int), (b : Int)) (llO m x.name x.desc ((a : Int), (b : Int)) L0 pre) c = llO m x.name x.desc ((a : Int), (b : Int)) L0 pre ++ [p] → (W3.alloc o').grownBy W4 v.ownBlock → W4.ownsRow w2.heap.size 38 2 v1 ((llO m x.name x.desc ((a : Int), (b : Int)) L0 pre) ++ [p]).length (((llO m x.name x.desc ((a : Int), (b : Int)) L0 pre) ++ [p]).map idCells).flatten → (W4.cell? ⟨w.heap.size + 1, 0, none⟩ = some v ∧ W4.frozen? ⟨w.heap.size + 1, 0, none⟩ = false) ∧ KeepsFrom (w6.heap.size + 1) W (W4.setCell ⟨w.heap.size + 1, 0, none⟩ v1) ∧ Chg (DnF (w.heap.size + 1) w2.heap.size w6.heap.size) W (W4.setCell ⟨w.heap.size + 1, 0, none⟩ v1) ∧ (∃ v, Boxed (W4.setCell ⟨w.heap.size + 1, 0, none⟩ v1) (w.heap.size + 1) 72 v ∧ (W4.setCell ⟨w.heap.size + 1, 0, none⟩ v1).ownsRow w2.heap.size 38 2 v (llO m x.name x.desc ((a : Int), (b : Int)) L0 (pre ++ [⟨(yi, (c : Int)), c, hyc, hcm⟩])).length ((llO m x.name x.desc ((a : Int), (b : Int)) L0 (pre ++ [⟨(yi, (c : Int)), c, hyc, hcm⟩])).map idCells).flatten) ∧ (Below w.heap.size w (W4.setCell ⟨w.heap.size + 1, 0, none⟩ v1) ∧ Chg (DnF (w.heap.size + 1) w2.heap.size w6.heap.size) W0 (W4.setCell ⟨w.heap.size + 1, 0, none⟩ v1))) := Lib.hid (by
              intro W3 W4 o' v1 p hb he hg ho
              have hz := hC.size
              have hd3 : Dn w W3 q v := Dn.next ⟨hB, qb, hv, by omega⟩ hb
              have hr3 : W3.ownsRow w2.heap.size 38 2 v (llO m x.name x.desc ((a : Int), (b : Int)) L0 pre).length ((llO m x.name x.desc ((a : Int), (b : Int)) L0 pre).map idCells).flatten := row_of_block hrw fun q hq => hb.block q (own_live hrw hq).2
              have hsb3 : Boxed W3 w6.heap.size 62 (.slice (some ⟨cb, co, none⟩) (ch m r).length cc) := (hb.block _ (by omega)).trans ((hC.block _ (by omega) hFs).trans HSB.out)
              have hbz := hb.size
              obtain ⟨h1, h2, h3, h4⟩ := dn_grow hd3 hr3 ho (by omega) (by omega) hg
              have hch : Chg (DnF (w.heap.size + 1) w2.heap.size w6.heap.size) W (W4.setCell ⟨w.heap.size + 1, 0, none⟩ v1) := by
                refine Chg.setCell (F := DnF (w.heap.size + 1) w2.heap.size w6.heap.size) (a := ⟨w.heap.size + 1, 0, none⟩) (Chg.grown ((Chg.of_below hb).alloc _) hg (fun k hk => .inr (.inr ⟨(own_live hr3 hk).1, ?_⟩))) (.inr (.inl rfl)) _
                rintro rfl
                exact hsb3.not_row (by decide) hr3 hk.symm
              rw [llO_snoc, he]
              refine ⟨⟨h4.cell, h4.frozen⟩, (keepsFrom_below hb).trans (h3.from _), hch, ⟨v1, h1.lb, h2⟩, h1.bel, hC.trans hch fun _ _ h => h⟩)
            have HIN : Hid (InM m (llO m x.name x.desc ((a : Int), (b : Int)) L0 pre)) := Lib.hid (llO_in pre (by
              rw [← HL0.out]
              intro p hp
              rw [downL_mem hp]
              exact ⟨x, HX.out⟩))
            have hLL : (llO m x.name x.desc ((a : Int), (b : Int)) L0 pre).length ≤ 400 := by
              have := llO_len (m := m) (n := x.name) (d := x.desc) (a := ((a : Int), (b : Int))) (L0 := L0) pre
              have := HL0L.out
              omega
            obtain ⟨ra, rc, rfl⟩ := own_slice hrw
            have HROW := Lib.hid hrw
            have HV := Lib.hid hv
            have HBW := Lib.hid hB
            have HCW := Lib.hid hC
            obtain ⟨L, hL⟩ : ∃ L, llO m x.name x.desc ((a : Int), (b : Int)) L0 pre = L := ⟨_, rfl⟩
            rw [hL] at SKIP GROW HIN hLL HROW HV
            have HLE := Lib.hid hL
            obtain ⟨f, hf⟩ : ∃ f, (findH m c x.name x.desc).1 = f := ⟨_, rfl⟩
            have HF := Lib.hid hf
            rw [hf] at HOW
            obtain ⟨o, ho⟩ : ∃ o, ownM m x.name x.desc c = o := ⟨_, rfl⟩
            have HO := Lib.hid ho
            rw [ho] at HOW
            clear hv hrw hB hC hL hf ho hbx
            gi_wp2_with fail
            refine ⟨trivial, ?_⟩
            refine (CallsIn.inRound l (callsIn_wide.2 HOW.out)).mono ?_
            rintro _ W1 ⟨rfl, hb⟩
            obtain ⟨wx, hwx⟩ : ∃ wx, (W1.alloc (.cells #[.int .i64 c, .int .i64 f] 38)) = wx := ⟨_, rfl⟩
            have hbx : Below W1.heap.size W1 wx := by rw [← hwx]; exact (Below.refl _ _).alloc (Nat.le_refl _) _
            have i0 : wx.cell? ⟨W1.heap.size, 0, none⟩ = some (.int .i64 c) := by rw [← hwx]; exact World.cell?_alloc_new ..
            have i1 : wx.cell? ⟨W1.heap.size, 1, none⟩ = some (.int .i64 f) := by rw [← hwx]; exact World.cell?_alloc_new ..
            have HB1 : Hid (Below W.heap.size W wx) := Lib.hid (hb.trans (hbx.mono hb.size))
            have qb1 := below_cell' HB1.out qb
            have cb1 := below_cell' HB1.out cb'
            have HA1 := Lib.hid (HQ0.out.next (HBW.out.trans (HB1.out.mono HBW.out.size)))
            clear hb hbx HOW qb cb'
            gi_wp2_with fail
            try rw [hwx]
            clear hwx
            have k0 := cell_regrown qb1
            have k1 := cell_regrown cb1
            have k2 := cell_regrown HA1.out.k0
            have k3 := cell_regrown HA1.out.k1
            obtain ⟨ex, hex⟩ : ∃ ex, extM m c a = ex := ⟨_, rfl⟩
            have HEX := Lib.hid hex
            have cE : ∀ d os, Calls Tryz.prog 15 #[.pointer (some ⟨bw, 0, none⟩), .int .i64 c, .int .i64 a] (grow (redrawn wx d) os) fun e w'' => e = .returned (.bool ex) ∧ ∃ p : Regrown, w'' = grow (redrawn wx p.d) p.os := fun d os => Calls.regrown_of (by rw [← hex]; exact (HH.out.next ((HBW.out.trans (HB1.out.mono HBW.out.size)).trans ((below_regrown wx d os).mono (HBW.out.trans (HB1.out.mono HBW.out.size)).size))).extends c a)
            clear hex
            cases o with
            | none =>
              have HS : Hid (stepM m x.name x.desc ((a : Int), (b : Int)) L c = L) := Lib.hid (by unfold stepM; rw [HO.out])
              refine wpIn_region_quiet_round (by kernel_rfl) (by kernel_rfl) (by kernel_rfl) ?_
              repeat (with_reducible refine wpQuietIn_step asked_wide (fun K hK => ?_); go_simp; first | (with_reducible refine hK _ ?_; clear hK K) | (apply Exists.intro; refine ⟨fun _ => ?_, hK _ ?_⟩; (exact callsIn_wide.2 (cE _ _)); clear hK K))
              with_reducible refine wpQuietIn_nil ?_
              intro _ hw'
              obtain ⟨⟨dq, osq⟩, hw''⟩ := hw'
              subst hw''
              have hb2 := below_regrown wx dq osq
              generalize grow (redrawn wx dq) osq = W2 at hb2 ⊢
              have HB2 := Lib.hid (HB1.out.trans (hb2.mono HB1.out.size))
              clear hb2 cE k0 k1 k2 k3
              gi_wp2
              exact SKIP.out W2 HB2.out HS.out
            | some id =>
              obtain rfl := own_id HO.out
              rw [HF.out] at HO
              by_cases hca : c = a
              · have HS : Hid (stepM m x.name x.desc ((a : Int), (b : Int)) L c = L) := Lib.hid (by unfold stepM; rw [HO.out]; simp [hca])
                have hca' : ((c : Int) == (a : Int)) = true := by simp [hca]
                clear hca
                refine wpIn_region_quiet_round (by kernel_rfl) (by kernel_rfl) (by kernel_rfl) ?_
                repeat (with_reducible refine wpQuietIn_step asked_wide (fun K hK => ?_); go_simp; first | (with_reducible refine hK _ ?_; clear hK K) | (apply Exists.intro; refine ⟨fun _ => ?_, hK _ ?_⟩; (exact callsIn_wide.2 (cE _ _)); clear hK K))
                with_reducible refine wpQuietIn_nil ?_
                intro _ hw'
                obtain ⟨⟨dq, osq⟩, hw''⟩ := hw'
                subst hw''
                have hb2 := below_regrown wx dq osq
                generalize grow (redrawn wx dq) osq = W2 at hb2 ⊢
                have HB2 := Lib.hid (HB1.out.trans (hb2.mono HB1.out.size))
                clear hb2 cE k0 k1 k2 k3
                gi_wp2
                exact SKIP.out W2 HB2.out HS.out
              · have hca' : ((c : Int) == (a : Int)) = false := by simp only [beq_eq_false_iff_ne]; omega
                cases ex
                · have HS : Hid (stepM m x.name x.desc ((a : Int), (b : Int)) L c = L) := Lib.hid (by unfold stepM; rw [HO.out]; simp [HEX.out])
                  refine wpIn_region_quiet_round (by kernel_rfl) (by kernel_rfl) (by kernel_rfl) ?_
                  repeat (with_reducible refine wpQuietIn_step asked_wide (fun K hK => ?_); go_simp; first | (with_reducible refine hK _ ?_; clear hK K) | (apply Exists.intro; refine ⟨fun _ => ?_, hK _ ?_⟩; (exact callsIn_wide.2 (cE _ _)); clear hK K))
                  with_reducible refine wpQuietIn_nil ?_
                  intro _ hw'
                  obtain ⟨⟨dq, osq⟩, hw''⟩ := hw'
                  subst hw''
                  have hb2 := below_regrown wx dq osq
                  generalize grow (redrawn wx dq) osq = W2 at hb2 ⊢
                  have HB2 := Lib.hid (HB1.out.trans (hb2.mono HB1.out.size))
                  clear hb2 cE k0 k1 k2 k3
                  gi_wp2
                  exact SKIP.out W2 HB2.out HS.out
                · have HS : Hid (stepM m x.name x.desc ((a : Int), (b : Int)) L c = if L.any (seenM m c) = true then L ++ [((c : Int), f)] else L) := Lib.hid (by
                    unfold stepM
                    rw [HO.out]
                    simp only [hca', HEX.out]
                    rfl)
                  refine wpIn_region_quiet_round (by kernel_rfl) (by kernel_rfl) (by kernel_rfl) ?_
                  repeat (with_reducible refine wpQuietIn_step asked_wide (fun K hK => ?_); go_simp; first | (with_reducible refine hK _ ?_; clear hK K) | (apply Exists.intro; refine ⟨fun _ => ?_, hK _ ?_⟩; (exact callsIn_wide.2 (cE _ _)); clear hK K))
                  with_reducible refine wpQuietIn_nil ?_
                  intro _ hw'
                  obtain ⟨⟨dq, osq⟩, hw''⟩ := hw'
                  subst hw''
                  have hb2 := below_regrown wx dq osq
                  generalize grow (redrawn wx dq) osq = W2 at hb2 ⊢
                  have HB2 := Lib.hid (HB1.out.trans (hb2.mono HB1.out.size))
                  have j0 := below_cell' hb2 i0
                  have j1 := below_cell' hb2 i1
                  have qb2 := below_cell' hb2 qb1
                  have cb2 := below_cell' hb2 cb1
                  clear hb2 cE k0 k1 k2 k3 i0 i1
                  have HROW2 : Hid (W2.ownsRow w2.heap.size 38 2 (.slice ra L.length rc) L.length (L.map idCells).flatten) := Lib.hid (row_of_block HROW.out fun q hq => HB2.out.block q (own_live HROW.out hq).2)
                  have lb2 : W2.cell? ⟨w.heap.size + 1, 0, none⟩ = some (.slice ra L.length rc) := below_cell' HB2.out HV.out.cell
                  have HCO := Lib.hid (ContO (w := W2) (a := ra) (cap := rc) (xs := L) (seenM m c) #[.pointer (some ⟨w.heap.size, 0, none⟩), .pointer (some ⟨Bx, 0, none⟩)] ((idSl_row HROW2.out (by omega)).mono fun _ hk => hk.2) (fun wr hwr k hk => by
                    obtain ⟨y, hy⟩ := HIN.out L[k] (List.getElem_mem hk)
                    obtain ⟨i, j, hi, hj, e, _⟩ := methAt_some hy
                    rw [e]
                    have hbw : Below w.heap.size w wr := (HBW.out.trans (HB2.out.mono HBW.out.size)).trans (hwr.mono (HBW.out.trans (HB2.out.mono HBW.out.size)).size)
                    exact ODown1 (HH.out.next hbw) (HQ0.out.next hbw) (below_cell' hwr qb2) (below_cell' hwr cb2) hcm hi hj))
                  gi_wp2_with fail
                  refine ⟨trivial, ?_⟩
                  refine (CallsIn.inRound l (callsIn_wide.2 HCO.out)).mono ?_
                  rintro _ W3 ⟨rfl, hb3⟩
                  have HB3 := Lib.hid (HB2.out.trans (hb3.mono HB2.out.size))
                  have i0 := below_cell' hb3 j0
                  have i1 := below_cell' hb3 j1
                  have lb3 := below_cell' hb3 lb2
                  clear hb3 HCO j0 j1 lb2 HROW2
                  cases hany : L.any (seenM m c)
                  · rw [hany] at HS
                    gi_wp2
                    exact SKIP.out W3 HB3.out HS.out
                  · rw [hany] at HS
                    have HROW3 : Hid (W3.ownsRow w2.heap.size 38 2 (.slice ra L.length rc) L.length (L.map idCells).flatten) := Lib.hid (row_of_block HROW.out fun q hq => HB3.out.block q (own_live HROW.out hq).2)
                    have HNEW : Hid (∀ j u, ([.int .i64 (c : Int), .int .i64 f] : List Value)[j]? = some u → (W3.alloc (.cells #[.int .i64 (c : Int), .int .i64 f] 38)).cell? ((⟨W3.heap.size, 0, none⟩ : Addr).add j) = some u) := Lib.hid (by
                      intro j u hu
                      rw [show (⟨W3.heap.size, 0, none⟩ : Addr).add j = ⟨W3.heap.size, j, none⟩ by unfold Addr.add; split <;> simp_all]
                      rw [World.cell?_alloc_new]
                      rw [← Array.getElem?_toList]
                      exact hu)
                    have hzW : w2.heap.size ≤ W3.heap.size := by
                      have := HCW.out.size
                      have := HB3.out.size
                      omega
                    obtain ⟨ii, hi0, hiz0, hiz1, hiz2⟩ := info_parts info_id
                    gi_wp2_with (gi_at_builtin; refine wpListIn_append_own _ rfl _ _ 72 rfl w2.heap.size 38 ii (.agg #[.int .i64 0, .int .i64 0]) 2 16 Tryz.underlying72 hi0 hiz0 hiz1 hiz2 rfl (by decide) _ _ _ rfl (HROW3.out.alloc _) ⟨W3.heap.size, 0, none⟩ 1 1 [.int .i64 (c : Int), .int .i64 f] rfl rfl HNEW.out (by intro u hu; simp at hu; rcases hu with rfl | rfl <;> rfl) (by unfold maxLen; omega) (by omega) (by simp; omega) ?_; intro v' w1 hown' hgrow _; (have HFN := Lib.hid (GROW.out W3 w1 _ v' ((c : Int), f) HB3.out (by rw [HS.out]; rfl) hgrow (by simpa [idCells] using hown'))); obtain ⟨g', cap', rfl⟩ := ownsRow_succ hown'; (have hc1 := HFN.out.1.1); (have hf1 := HFN.out.1.2))
                    exact HFN.out.2
          case done =>
            rintro D ys W hD rfl ⟨⟨v, hv, hrw, _⟩, hB, hC⟩ hK
            have G : Hid (DD = llO m x.name x.desc ((a : Int), (b : Int)) L0 (back (fun c : Int => ∃ k : Nat, c = k ∧ k < m.length) (ch m r) hP (ch m r).length)) := Lib.hid (by
              rw [← HD.out, ← HL0.out]
              unfold downM llO
              rw [hst, hfr, back_snd]
              rfl)
            have hlen := llO_len (m := m) (n := x.name) (d := x.desc) (a := ((a : Int), (b : Int))) (L0 := L0) (back (fun c : Int => ∃ k : Nat, c = k ∧ k < m.length) (ch m r) hP (ch m r).length)
            rw [back_length] at hlen
            have hl1 := HL0L.out
            obtain ⟨L, hL⟩ : ∃ L, llO m x.name x.desc ((a : Int), (b : Int)) L0 (back (fun c : Int => ∃ k : Nat, c = k ∧ k < m.length) (ch m r) hP (ch m r).length) = L := ⟨_, rfl⟩
            rw [hL] at G hrw hlen
            obtain ⟨ra, rc, rfl⟩ := own_slice hrw
            have lb := hv.cell
            go_wp2
            refine ⟨by simp, .inl ⟨_, _, rfl, run_takeDeferred hK, ?_⟩⟩
            exact ⟨_, results_tmp rfl _ _ _, ra, rc, by rw [G.out]; rfl, by rw [G.out]; exact row_less (ownsRow_putObj hrw _ hK rfl) (by omega), hB.trans (belowK_b (w := w) (Nat.le_refl _) W D _ _ (by omega) hK rfl rfl)⟩
  · have G : Hid (DD = []) := Lib.hid (by rw [← HD.out]; unfold downM; rw [hst]; rfl)
    go_wp2
    exact ⟨_, results_tmp rfl _ _ _, none, 0, by rw [G.out]; rfl, by rw [G.out]; exact World.ownsRow_nil _ _ _ _, HD1.out.bel⟩
theorem downLen {m : List EntM} (hw : WFm m) (x : MethM) (a : Int × Int) {r : Nat} (hr : r < m.length) : (downM m x a r).length ≤ 301 := by
  have h1 := ch_len_le hw hr
  have h2 : (downL m a r).length ≤ 1 := by unfold downL; split <;> simp
  have h3 := fold_len (m := m) (n := x.name) (d := x.desc) (a := a) (ch m r).reverse (downL m a r)
  rw [List.length_reverse] at h3
  unfold downM
  split
  · simp
  split
  · omega
  · omega
theorem ODown {B bw : Nat} {w0 w : World} {m : List EntM} (h : Built B bw w0 w m) {q a b r : Nat} (ha : a < m.length) (hb : b < m[a].c.meths.length) (hr : r < m.length) (hq : AskAt w q bw ((a : Int), (b : Int)) m[a].c.meths[b]) :
    Calls Tryz.prog 46 #[.pointer (some ⟨q, 0, none⟩), .int .i64 r] w fun e w' => ∃ ad k, e = .returned (.slice ad (downM m m[a].c.meths[b] ((a : Int), (b : Int)) r).length k) ∧ IdSl (fun b => w.heap.size ≤ b ∧ b < w'.heap.size) w' (.slice ad (downM m m[a].c.meths[b] ((a : Int), (b : Int)) r).length k) (downM m m[a].c.meths[b] ((a : Int), (b : Int)) r) ∧ Below w.heap.size w w' := by
  refine (ODownR h ha hb hr hq).mono ?_
  rintro e w' ⟨ad, k, rfl, ho, hB⟩
  exact ⟨ad, k, rfl, idSl_row ho (by have := downLen h.wf m[a].c.meths[b] ((a : Int), (b : Int)) hr; omega), hB⟩
end Go.Proofs.YtipinmbpdgjalaaGreatDoor.Hi
/- Overriding: Overrides and Plain, whatever is asked. -/
set_option maxRecDepth 100000
set_option maxHeartbeats 2000000
set_option linter.unusedVariables false
set_option linter.unusedSimpArgs false
namespace Go.Proofs.YtipinmbpdgjalaaGreatDoor.Hi
open Go.RowKit Bs

theorem OMethod_some {B bw : Nat} {w0 w : World} {m : List EntM} (h : Built B bw w0 w m) {p : Int × Int} {x : MethM} (hx : methAt m p = some x) :
    Calls Tryz.prog 28 #[.pointer (some ⟨bw, 0, none⟩), .agg #[.int .i64 p.1, .int .i64 p.2]] w fun r w' => ∃ (ad : Option Addr) (q c : Nat), r = .returned (.tuple #[.agg #[.string x.name, .string x.desc, .int .i64 x.flags, .int .i64 x.locals, .int .i64 x.stack, .slice ad q c], .int .i64 0]) ∧ Below w.heap.size w w' := by
  obtain ⟨i, j, hi, hj, rfl, rfl⟩ := methAt_some hx
  exact Method2 h hi hj
theorem OMethod_none {B bw : Nat} {w0 w : World} {m : List EntM} (h : Built B bw w0 w m) {p : Int × Int} (hx : methAt m p = none) :
    Calls Tryz.prog 28 #[.pointer (some ⟨bw, 0, none⟩), .agg #[.int .i64 p.1, .int .i64 p.2]] w fun r w' => r = .returned (.tuple #[zeroMeth, .int .i64 3]) ∧ Below w.heap.size w w' := by
  cases he : entAt m p.1 with
  | none => exact Method_far h.hw h.live he
  | some e =>
    refine Method_out h.hw h.live he ?_
    unfold methAt at hx
    rw [he] at hx
    simp only at hx
    split at hx
    · next h0 =>
      right
      have := List.getElem?_eq_none_iff.1 hx
      omega
    · next h0 => left; omega

theorem alloc_atO {w : World} {q : Nat} (hq : w.heap.size = q) (cs : Array Value) (t : TypeId) {j : Nat} {v : Value} (hv : cs[j]? = some v) : (w.alloc (.cells cs t)).cell? ⟨q, j, none⟩ = some v := by
  subst hq
  exact (World.cell?_alloc_new ..).trans hv
/-- The two methods' places. -/
structure TwoAt (w w1 : World) (c a : Int × Int) : Prop where
  c0 : w1.cell? ⟨w.heap.size, 0, none⟩ = some (.int .i64 c.1)
  c1 : w1.cell? ⟨w.heap.size, 1, none⟩ = some (.int .i64 c.2)
  a0 : w1.cell? ⟨w.heap.size + 1, 0, none⟩ = some (.int .i64 a.1)
  a1 : w1.cell? ⟨w.heap.size + 1, 1, none⟩ = some (.int .i64 a.2)
  bel : Below w.heap.size w w1
theorem TwoAt.start (w : World) (c a : Int × Int) : TwoAt w ((w.alloc (.cells #[.int .i64 c.1, .int .i64 c.2] 38)).alloc (.cells #[.int .i64 a.1, .int .i64 a.2] 38)) c a :=
  ⟨alloc_old (World.cell?_alloc_new ..), alloc_old (World.cell?_alloc_new ..), alloc_atO (by simp) _ _ rfl, alloc_atO (by simp) _ _ rfl, ((Below.refl _ _).alloc (Nat.le_refl _) _).alloc (by simp) _⟩
theorem TwoAt.next {w w1 w2 : World} {c a : Int × Int} (h : TwoAt w w1 c a) (hb : Below w1.heap.size w1 w2) : TwoAt w w2 c a :=
  ⟨below_cell' hb h.c0, below_cell' hb h.c1, below_cell' hb h.a0, below_cell' hb h.a1, h.bel.trans (hb.mono h.bel.size)⟩

theorem OOverrides {B bw : Nat} {w0 w : World} {m : List EntM} (h : Built B bw w0 w m) (c a : Int × Int) :
    Calls Tryz.prog 14 #[.pointer (some ⟨bw, 0, none⟩), .agg #[.int .i64 c.1, .int .i64 c.2], .agg #[.int .i64 a.1, .int .i64 a.2]] w fun r w' => r = .returned (.tuple #[.bool (ovR m c a).1, .int .i64 (ovR m c a).2]) ∧ Below w.heap.size w w' := by
  have HS := Lib.hid (TwoAt.start w c a)
  cases hx : methAt m a with
  | none =>
    have HR : Hid (ovR m c a = (false, 3)) := Lib.hid (by unfold ovR; rw [hx])
    have HA := Lib.hid (OAsk_bad (bw := bw) (a := a.1) (b := a.2) (w := ((w.alloc (.cells #[.int .i64 c.1, .int .i64 c.2] 38)).alloc (.cells #[.int .i64 a.1, .int .i64 a.2] 38))) fun wr hr => OMethod_none ((h.next HS.out.bel).next hr) hx)
    rw [HR.out]
    clear h hx HR
    go_enter Tryz.func14, Tryz.ntmps14
    go_wp2_with fail
    refine HA.out.mono ?_
    rintro _ w1 ⟨rfl, hb⟩
    have HB := Lib.hid (HS.out.next hb)
    clear hb HA HS
    go_wp2
    go_ret2
    exact ⟨rfl, HB.out.bel⟩
  | some x =>
    obtain ⟨i, j, hi, hj, rfl, rfl⟩ := methAt_some hx
    have HA := Lib.hid (OAsk (h.next HS.out.bel) hi hj)
    cases hc : methAt m c with
    | none =>
      have HR : Hid (ovR m c ((i : Int), (j : Int)) = (false, 3)) := Lib.hid (by unfold ovR; rw [hx, hc])
      have HM := Lib.hid (fun wr (hr : Below w.heap.size w wr) => OMethod_none (h.next hr) hc)
      rw [HR.out]
      unfold zeroMeth at HM
      clear h hx HR hc
      go_enter Tryz.func14, Tryz.ntmps14
      go_wp2_with fail
      refine HA.out.mono ?_
      rintro _ w1 ⟨q, rfl, _, hb⟩
      have HB := Lib.hid (HS.out.next hb)
      have HMX := Lib.hid (HM.out w1 HB.out.bel)
      have c0 := HB.out.c0
      have c1 := HB.out.c1
      clear hb HA HS HM
      go_wp2_with fail
      refine HMX.out.mono ?_
      rintro _ w2 ⟨rfl, hb⟩
      have HB2 := Lib.hid (HB.out.next (hb.alloc hb.size (.cells #[Value.string ⟨#[]⟩, .string ⟨#[]⟩, .int .i64 0, .int .i64 0, .int .i64 0, .slice none 0 0] 55)))
      clear hb HMX HB c0 c1
      go_wp2
      go_ret2
      exact ⟨rfl, HB2.out.bel⟩
    | some y =>
      have HR : Hid (ovR m c ((i : Int), (j : Int)) = (ovM m c ((i : Int), (j : Int)) m[i].c.meths[j], 0)) := Lib.hid (by unfold ovR; rw [hx, hc])
      have HM := Lib.hid (fun wr (hr : Below w.heap.size w wr) => OMethod_some (h.next hr) hc)
      obtain ⟨k, l, hk, hl, rfl, rfl⟩ := methAt_some hc
      have HD := Lib.hid (fun wr (hr : Below w.heap.size w wr) q (hq : AskAt wr q bw ((i : Int), (j : Int)) m[i].c.meths[j]) => ODown (h.next hr) hi hj hk hq)
      have HV : Hid (ovM m ((k : Int), (l : Int)) ((i : Int), (j : Int)) m[i].c.meths[j] = (downM m m[i].c.meths[j] ((i : Int), (j : Int)) k).contains ((k : Int), (l : Int))) := Lib.hid (by unfold ovM; rw [Int.toNat_natCast])
      rw [HR.out]
      simp only
      rw [HV.out]
      generalize m[k].c.meths[l] = y at *
      generalize m[i].c.meths[j] = x at *
      generalize downM m x ((i : Int), (j : Int)) k = L at *
      obtain ⟨bb, hbb⟩ : ∃ bb, L.contains ((k : Int), (l : Int)) = bb := ⟨_, rfl⟩
      rw [hbb]
      have HBB := Lib.hid hbb
      clear h hx HR hc HV hbb
      go_enter Tryz.func14, Tryz.ntmps14
      go_wp2_with fail
      refine HA.out.mono ?_
      rintro _ w1 ⟨q, rfl, hq, hb⟩
      have HB := Lib.hid (HS.out.next hb)
      have HMX := Lib.hid (HM.out w1 HB.out.bel)
      have HQ := Lib.hid hq
      have c0 := HB.out.c0
      have c1 := HB.out.c1
      clear hb HA HS HM hq
      go_wp2_with fail
      refine HMX.out.mono ?_
      rintro _ w2 ⟨ad, ql, qc, rfl, hb⟩
      obtain ⟨wx, hwx⟩ : ∃ wx, (w2.alloc (.cells #[.string y.name, .string y.desc, .int .i64 y.flags, .int .i64 y.locals, .int .i64 y.stack, .slice ad ql qc] 55)) = wx := ⟨_, rfl⟩
      have hbx : Below w2.heap.size w2 wx := by rw [← hwx]; exact (Below.refl _ _).alloc (Nat.le_refl _) _
      have hb2 := hb.trans (hbx.mono hb.size)
      have HB2 := Lib.hid (HB.out.next hb2)
      have HDX := Lib.hid (HD.out wx.drew HB2.out.bel.drew q ((HQ.out.next hb2).next (Below.refl _ _).drew))
      have d0 := HB2.out.c0
      have d1 := HB2.out.c1
      clear hb hbx hb2 HMX HB c0 c1 HQ HD
      go_wp2_with fail
      try rw [hwx]
      clear hwx
      go_region_with (first | (go_at_call 46; (with_reducible refine HDX.out.mono ?_); rintro _ w3 ⟨ad3, k3, rfl, hs, hb⟩; (have HB3 := Lib.hid (HB2.out.next ((Below.refl wx.heap.size wx).drew.trans hb))); (have HC := Lib.hid (ContV ((k : Int), (l : Int)) (hs.mono fun _ hk => hk.2))); (rw [HBB.out] at HC); (have e0 := below_cell' hb (show wx.drew.cell? _ = _ from d0)); (have e1 := below_cell' hb (show wx.drew.cell? _ = _ from d1))) | (go_at_call 45; (with_reducible refine HC.out.mono ?_); rintro _ w4 ⟨rfl, hb4⟩; (have HB4 := Lib.hid (HB3.out.next hb4))))
      all_goals
        go_wp2
        go_ret2
        exact ⟨rfl, HB4.out.bel⟩
end Go.Proofs.YtipinmbpdgjalaaGreatDoor.Hi
/- Overriding: a law's world. -/
set_option maxRecDepth 100000
set_option maxHeartbeats 2000000
set_option linter.unusedVariables false
set_option linter.unusedSimpArgs false
namespace Go.Proofs.YtipinmbpdgjalaaGreatDoor.Hi
open Go.RowKit Bs
attribute [local go_sem ↓] Go.wp_at_zero Go.wp_at_succ


theorem ClsSl.nextO {w w' : World} {v : Value} {xs : List ClsM} (h : ClsSl (fun b => b < w.heap.size) w v xs) (hb : Below w.heap.size w w') : ClsSl (fun b => b < w'.heap.size) w' v xs :=
  (ClsSl.alike h (Alike.of_below hb fun _ h => h)).mono (fun _ hk => Nat.lt_of_lt_of_le hk hb.size) fun _ _ h => h.mono fun _ hk => Nat.lt_of_lt_of_le hk hb.size

/-- A method, whatever is asked. -/
theorem MethodAny {B bw : Nat} {w0 w : World} {m : List EntM} (h : Built B bw w0 w m) (p : Int × Int) :
    Calls Tryz.prog 28 #[.pointer (some ⟨bw, 0, none⟩), .agg #[.int .i64 p.1, .int .i64 p.2]] w fun r w' => ∃ (nm ds : ByteArray) (f l s : Int) (ad : Option Addr) (q c : Nat) (er : Int), r = .returned (.tuple #[.agg #[.string nm, .string ds, .int .i64 f, .int .i64 l, .int .i64 s, .slice ad q c], .int .i64 er]) ∧ (er = 0 → ∃ x, methAt m p = some x ∧ nm = x.name ∧ ds = x.desc ∧ f = x.flags) ∧ (er ≠ 0 → methAt m p = none ∧ er = 3) ∧ Below w.heap.size w w' := by
  cases hx : methAt m p with
  | some x =>
    refine (OMethod_some h hx).mono ?_
    rintro r w' ⟨ad, q, c, rfl, hb⟩
    exact ⟨_, _, _, _, _, _, _, _, _, rfl, fun _ => ⟨x, rfl, rfl, rfl, rfl⟩, fun h => absurd rfl h, hb⟩
  | none =>
    refine (OMethod_none h hx).mono ?_
    rintro r w' ⟨rfl, hb⟩
    exact ⟨⟨#[]⟩, ⟨#[]⟩, 0, 0, 0, none, 0, 0, 3, rfl, fun h => absurd h (by decide), fun _ => ⟨rfl, rfl⟩, hb⟩
theorem ovR_err (m : List EntM) (c a : Int × Int) : (ovR m c a).2 = 0 ∨ (ovR m c a).2 = 3 := by
  unfold ovR
  split
  · exact .inl rfl
  · exact .inr rfl
theorem ovR_ok {m : List EntM} {c a : Int × Int} {x y : MethM} (hx : methAt m a = some x) (hy : methAt m c = some y) : ovR m c a = (ovM m c a x, 0) := by
  unfold ovR
  rw [hx, hy]
theorem awake_ov (hw : WFm startM) : ovR startM ((0 : Int), (1 : Int)) ((0 : Int), (1 : Int)) = (true, 0) := by
  have hx : methAt startM ((0 : Int), (1 : Int)) = some (startM[0]'(by decide)).c.meths[1] := rfl
  rw [ovR_ok hx hx, ov_refl hw hx]
  rfl
theorem awake_over {B bw : Nat} {w0 w : World} (h : Built B bw w0 w startM) :
    Calls Tryz.prog 14 #[.pointer (some ⟨bw, 0, none⟩), .agg #[.int .i64 0, .int .i64 1], .agg #[.int .i64 0, .int .i64 1]] w fun r w' => r = .returned (.tuple #[.bool true, .int .i64 0]) ∧ Below w.heap.size w w' := by
  have := OOverrides h ((0 : Int), (1 : Int)) ((0 : Int), (1 : Int))
  rw [awake_ov h.wf] at this
  exact this
end Go.Proofs.YtipinmbpdgjalaaGreatDoor.Hi
