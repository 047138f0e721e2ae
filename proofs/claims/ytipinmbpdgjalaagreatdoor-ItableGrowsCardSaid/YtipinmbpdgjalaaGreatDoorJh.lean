/- Virtual tables: Build: the walk. -/
import Derived.Test.YtipinmbpdgjalaaGreatDoorJg
set_option maxRecDepth 100000
set_option maxHeartbeats 8000000
set_option linter.unusedVariables false
set_option linter.unusedSimpArgs false
namespace Go.Proofs.YtipinmbpdgjalaaGreatDoor.Hi
open Go.RowKit Go.Shelf Go.Sort Bs
attribute [local go_sem] Oper.semAt_some
attribute [local go_sem ↓] Go.wp_at_zero Go.wp_at_succ

/-- The law of a range over a function with two loop variables, one of them kept in a slot, no round of which leaves the loop. -/
theorem rangeFunc_own0 {α : Type} {g : Operand} {p1 p2 : Tmp} {assign body : Code} {Q : Exit → Act → World → Prop} {a : Act} {w : World} {n : Nat} {P : Program}
    (h1 : 1 ≤ n) {gf : Nat} {lb : Array Value} (hg : a.eval g = .func (.func gf) #[] lb) (eg : ∀ args w, (callFunc gf args).run P w = .ok (.enter gf args) w)
    {e1 e2 : α → Value} {Kp : World → World → Prop} {S Sp : List α → Prop} {N : Nat} (hseq : SeqStopsK Fence.wide (n - 1) P gf lb (fun x => #[e1 x, e2 x]) Kp S Sp N w)
    (hKt : ∀ {A B C : World}, Kp A B → Kp B C → Kp A C) (hKr : ∀ A, Kp A A) (hKb : ∀ (W : World) (l : Nat) (o o' : Obj), w.heap.size ≤ l → Kp W (W.putObj l o'))
    (I : List α → World → Prop) (hI : OwnFrom w.heap.size I) (h0 : I [] w) (box : Nat) (enc2 : α → Value)
    (hassign : ∀ (l : Nat) (x : α) (W : World) (K : Act → World → Prop), K { tmps := ((a.tmps.setIfInBounds p1 (e1 x)).setIfInBounds p2 (e2 x)).setIfInBounds box (enc2 x), defers := [] } W →
      assign.wpIn (Fence.wide.inRound l) (n - 1 - 1) P (Exit.then K (fun _ _ _ => False)) { tmps := (a.tmps.setIfInBounds p1 (e1 x)).setIfInBounds p2 (e2 x), defers := [] } W)
    (hbody : ∀ (l : Nat) (pre : List α) (x : α) (W : World), I pre W → pre.length < N → body.wpIn (Fence.wide.inRound l) (n - 1 - 1) P (ownPostG w.heap.size Kp I (fun _ _ _ => False) (pre ++ [x]) W) { tmps := ((a.tmps.setIfInBounds p1 (e1 x)).setIfInBounds p2 (e2 x)).setIfInBounds box (enc2 x), defers := [] } W)
    (hdone : ∀ (D : Nat) (xs : List α) (W : World), w.heap.size ≤ D → S xs → I xs W → W.heap[D]? = some (.deferred (some [])) → Q .normal { a with defers := { target := .collected D, args := #[] } :: a.defers } W) :
    (Code.rangeFunc g #[p1, p2] assign body).wpIn Fence.wide n P Q a w := by
  have hz : ∀ x : α, (#[p1, p2].zip #[e1 x, e2 x]).foldl (fun t (p, v) => t.setIfInBounds p v) a.tmps = (a.tmps.setIfInBounds p1 (e1 x)).setIfInBounds p2 (e2 x) := fun x => by simp
  refine wpIn_rangeFunc_ownH rfl h1 hg trivial eg hseq hKt (fun W l o o' hl _ _ _ => hKb W l o o' hl) (Below.refl _ _) (fun _ => rfl) I (fun _ _ _ => False) hI (fun _ _ _ _ _ hs _ _ => hs) h0
    (fun x a' W => a' = { tmps := ((a.tmps.setIfInBounds p1 (e1 x)).setIfInBounds p2 (e2 x)).setIfInBounds box (enc2 x), defers := [] })
    (fun x a' _ X Y row hs hg hr => hs)
    (fun l pre x W K hi hK => by
      rw [hz x]
      exact hassign l x W K (hK _ W (KeepsFrom.refl _ _) (hKr W) hi rfl))
    ?_ hdone (fun _ _ _ _ _ _ h _ => h.elim)
  rintro l pre x a' W _ _ hi rfl hlt
  exact hbody l pre x W hi hlt

/-- In a world no class has more than forty methods. -/
def MlA (m : List EntM) : Prop := ∀ e ∈ m, e.c.meths.length ≤ 40
theorem mlA_step {m : List EntM} (h : MlA m) (c : ClsM) : MlA (defM m c) := by
  unfold defM
  split
  · next hd =>
    intro e he
    rcases List.mem_append.1 he with he | he
    · exact h e he
    · obtain rfl := List.mem_singleton.1 he
      have hkc : Pr.chk c = true := by
        unfold defE at hd
        cases hk : Pr.chk c with
        | true => rfl
        | false => rw [hk] at hd; simp at hd
      unfold Pr.chk at hkc
      simp only [Bool.and_eq_true, decide_eq_true_eq] at hkc
      exact hkc.1.1.1
  · exact h
theorem mlA_defs (l : List ClsM) : MlA (defs l) := by
  unfold defs
  have key : ∀ (l : List ClsM) (m : List EntM), MlA m → MlA (l.foldl defM m) := fun l => by
    induction l with
    | nil => intro m h; exact h
    | cons c r ih => intro m h; exact ih _ (mlA_step h c)
  refine key l _ ?_
  have h : (startM.all fun e => decide (e.c.meths.length ≤ 40)) = true := by decide +kernel
  intro e he
  simpa using List.all_eq_true.1 h e he
theorem own_len {m : List EntM} (h : MlA m) {c : Nat} (hc : c < m.length) : (ownV m c).length ≤ 40 := by
  unfold ownV idsC
  have h1 := List.length_filter_le (virB m) ((List.range (clsAt m c).meths.length).map fun (i : Nat) => (((c : Nat) : Int), (i : Int)))
  rw [List.length_map, List.length_range, clsAt_at hc] at h1
  rw [clsAt_at hc]
  have := h m[c] (List.getElem_mem hc)
  omega
def InT (m : List EntM) (T : List Slt) : Prop := ∀ s ∈ T, ∃ y, methAt m s.1 = some y
theorem grow_inT {m : List EntM} {c : Nat} (hc : c < m.length) {T : List Slt} (h : InT m T) : InT m (growM m c T) := by
  rw [grow_eq]
  intro s hs
  rcases mem_shape.1 hs with ⟨a, ha, rfl⟩ | ⟨q, hq, _, rfl⟩
  · exact h a ha
  · obtain ⟨_, _, y, hy, _⟩ := (mem_own hc).1 hq
    exact ⟨y, hy⟩
/-- The table after some of a chain's classes. -/
def tabO (m : List EntM) {P : Int → Prop} (pre : List (BkT P)) : List Slt := tabL m (pre.map (·.1.2))
theorem tabO_snoc (m : List EntM) {P : Int → Prop} (pre : List (BkT P)) (y : BkT P) : tabO m (pre ++ [y]) = growM m y.1.2.toNat (tabO m pre) := by
  unfold tabO tabL
  rw [List.map_append, List.foldl_append]
  rfl
theorem tabO_in {m : List EntM} (pre : List (BkT (fun c : Int => ∃ k : Nat, c = k ∧ k < m.length))) : InT m (tabO m pre) := by
  have key : ∀ (l : List Int) (T : List Slt), (∀ c ∈ l, ∃ k : Nat, c = k ∧ k < m.length) → InT m T → InT m (l.foldl (fun T c => growM m c.toNat T) T) := fun l => by
    induction l with
    | nil => intro T _ h; exact h
    | cons c l ih =>
      intro T hl h
      obtain ⟨k, e, hk⟩ := hl c (List.mem_cons_self ..)
      exact ih _ (fun c hc => hl c (List.mem_cons_of_mem _ hc)) (grow_inT (by rw [e, Int.toNat_natCast]; exact hk) h)
  refine key _ [] (fun c hc => ?_) (fun s hs => by cases hs)
  obtain ⟨y, _, rfl⟩ := List.mem_map.1 hc
  exact y.2
theorem tabO_len {m : List EntM} (hml : MlA m) (pre : List (BkT (fun c : Int => ∃ k : Nat, c = k ∧ k < m.length))) : (tabO m pre).length ≤ pre.length * 40 := by
  have key : ∀ (l : List Int) (T : List Slt), (∀ c ∈ l, ∃ k : Nat, c = k ∧ k < m.length) → (l.foldl (fun T c => growM m c.toNat T) T).length ≤ T.length + l.length * 40 := fun l => by
    induction l with
    | nil => intro T _; simp
    | cons c l ih =>
      intro T hl
      obtain ⟨k, e, hk⟩ := hl c (List.mem_cons_self ..)
      have h1 := ih (growM m c.toNat T) (fun c hc => hl c (List.mem_cons_of_mem _ hc))
      have h2 := (growL_len m T (ownV m k)).2
      have h3 := own_len hml hk
      have h4 : growM m c.toNat T = growL m T (ownV m k) := by rw [e, Int.toNat_natCast]; rfl
      rw [h4] at h1
      rw [List.foldl_cons, h4, List.length_cons]
      omega
  have := key (pre.map (·.1.2)) [] (fun c hc => by obtain ⟨y, _, rfl⟩ := List.mem_map.1 hc; exact y.2)
  rw [List.length_map] at this
  unfold tabO tabL
  simpa using this
theorem slotSl_row {w : World} {n : Nat} {ra : Option Addr} {rc : Nat} {T : List Slt} (h : w.ownsRow n 40 4 (.slice ra T.length rc) T.length (cellsS T)) (hl : T.length ≤ 100000) : SlotSl (fun b => n ≤ b ∧ b < w.heap.size) w (.slice ra T.length rc) T := by
  refine Sl.of_own h (css := T.map slotCs) (by simp) rfl (fun cs hcs => ?_) (fun i hi => by simp [SlotIs]) (by omega) _ (fun b hb => own_live h hb)
  obtain ⟨p, _, rfl⟩ := List.mem_map.1 hcs
  rfl
/-- Build's answer. -/
def bldM (m : List EntM) (r : Int) : List Slt × Int := match entAt m r with
  | none => ([], 3)
  | some _ => if isIfaceM m r = true then ([], 23) else (tabM m r.toNat, 0)

theorem VBuild {B bw : Nat} {w0 w : World} {m : List EntM} (h : Built B bw w0 w m) (hml : MlA m) (r : Int) :
    Calls Tryz.prog 11 #[.pointer (some ⟨bw, 0, none⟩), .int .i64 r] w fun e w' => ∃ v, e = .returned (.tuple #[v, .int .i64 (bldM m r).2]) ∧ w'.ownsRow w.heap.size 40 4 v (bldM m r).1.length (cellsS (bldM m r).1) ∧ Below w.heap.size w w' := by
  obtain ⟨wa, hwa⟩ : ∃ wa, (w.alloc (.cells #[.pointer (some ⟨bw, 0, none⟩)] 28)) = wa := ⟨_, rfl⟩
  have hba : Below w.heap.size w wa := by rw [← hwa]; exact (Below.refl _ _).alloc (Nat.le_refl _) _
  have qb : wa.cell? ⟨w.heap.size, 0, none⟩ = some (.pointer (some ⟨bw, 0, none⟩)) := by rw [← hwa]; exact World.cell?_alloc_new ..
  have HCH := Lib.hid (Chain (h.next hba).hw (h.next hba).live r)
  have HH := Lib.hid (fun wr (hr : Below w.heap.size w wr) => h.next hr)
  have HWF := Lib.hid h.wf
  have HB := Lib.hid hba
  have HQ := Lib.hid qb
  have HZA : Hid (w.heap.size < wa.heap.size) := Lib.hid (World.block_lt_of_cell? _ _ qb)
  clear h hba
  cases her : entAt m r with
  | none =>
    have HCM : Hid (chainM m r = ([], 3)) := Lib.hid (by unfold chainM; rw [her])
    have HBL : Hid (bldM m r = ([], 3)) := Lib.hid (by unfold bldM; rw [her])
    rw [HCM.out] at HCH
    rw [HBL.out]
    clear her
    go_enter Tryz.func11, Tryz.ntmps11
    go_wp2_with fail
    try rw [hwa]
    clear hwa
    refine HCH.out.mono ?_
    rintro _ w2 ⟨ca, cc, rfl, _, hb⟩
    have HB2 := Lib.hid (HB.out.trans (hb.mono HB.out.size))
    clear hb
    go_wp2
    go_ret2
    exact ⟨_, rfl, World.ownsRow_nil _ _ _ _, HB2.out⟩
  | some ee =>
    obtain ⟨r, rfl, hr, _⟩ := entAt_some her
    have HCM : Hid (chainM m (r : Int) = (ch m r, 0)) := Lib.hid (by unfold ch chainM; rw [her])
    rw [HCM.out] at HCH
    simp only at HCH
    have HRM := Lib.hid hr
    have HBL : Hid (bldM m (r : Int) = if isIfaceM m (r : Int) = true then ([], 23) else (tabM m r, 0)) := Lib.hid (by unfold bldM; rw [her]; rfl)
    obtain ⟨R, hR⟩ : ∃ R, bldM m (r : Int) = R := ⟨_, rfl⟩
    rw [hR] at HBL ⊢
    have HI := Lib.hid (fun wr (hr : Below w.heap.size w wr) => (HH.out wr hr).isIface (r : Int))
    clear her hR HCM
    refine (callsIn_wide (n := 6)).1 ?_
    refine callsIn_of_wp_marks Tryz.func11 rfl trivial ?_ rfl
    simp only [Tryz.ntmps11, List.size_toArray, List.length_cons, List.length_nil, Nat.reduceAdd, Nat.reduceSub, Array.replicate_succ, Array.replicate_zero, List.push_toArray, List.append_toArray, List.nil_append, List.cons_append]
    refine wpIn_wide.2 ?_
    go_wp2_with fail
    try rw [hwa]
    clear hwa
    refine HCH.out.mono ?_
    rintro _ w2 ⟨ca, cc, rfl, hs, hb⟩
    have qb := below_cell' hb HQ.out
    have HQ2 := Lib.hid qb
    have HS2 := Lib.hid hs
    have HB2 := Lib.hid (HB.out.trans (hb.mono HB.out.size))
    have HZ2 : Hid (w.heap.size < w2.heap.size) := Lib.hid (Nat.lt_of_lt_of_le HZA.out hb.size)
    have HIX := Lib.hid (HI.out w2 HB2.out)
    clear hb hs HCH HB HQ HI
    go_wp2_with fail
    refine HIX.out.mono ?_
    rintro _ w3 ⟨rfl, hb⟩
    have HB3 := Lib.hid (HB2.out.trans (hb.mono HB2.out.size))
    have HQ3 := Lib.hid (below_cell' hb HQ2.out)
    have HS3 : Hid (IntSl (fun b => wa.heap.size ≤ b ∧ b < w2.heap.size) w3 (.slice ca (ch m r).length cc) (ch m r)) := Lib.hid (HS2.out.alike (Alike.of_below hb fun k hk => hk.2))
    have HZ3 : Hid (w2.heap.size ≤ w3.heap.size ∧ w.heap.size < w3.heap.size) := Lib.hid ⟨hb.size, by have := HZ2.out; have := hb.size; omega⟩
    clear hb HIX HB2 HQ2 HS2 HZ2 qb
    cases hif : isIfaceM m (r : Int) with
    | true =>
      obtain rfl : R = ([], 23) := by rw [HBL.out, if_pos hif]
      clear HBL
      go_wp2
      exact ⟨_, results_tmp2 rfl _ _ _, _, rfl, World.ownsRow_nil _ _ _ _, HB3.out⟩
    | false =>
      obtain rfl : R = (tabM m r, 0) := by rw [HBL.out, if_neg (by rw [hif]; decide)]
      clear HBL hif
      obtain ⟨w4, hw4⟩ : ∃ w4, (w3.alloc (.cells #[.slice none 0 0] 30)) = w4 := ⟨_, rfl⟩
      have hb4 : Below w3.heap.size w3 w4 := by rw [← hw4]; exact (Below.refl _ _).alloc (Nat.le_refl _) _
      have hz4 : w4.heap.size = w3.heap.size + 1 := by rw [← hw4]; simp
      have HTB : Hid (Boxed w4 w3.heap.size 30 (.slice none 0 0)) := Lib.hid (by rw [← hw4]; exact Boxed.new _ _ _)
      have HQ4 := Lib.hid (below_cell' hb4 HQ3.out)
      have HB4 := Lib.hid (HB3.out.trans (hb4.mono HB3.out.size))
      have HS4 : Hid (IntSl (fun b => wa.heap.size ≤ b ∧ b < w2.heap.size) w4 (.slice ca (ch m r).length cc) (ch m r)) := Lib.hid (HS3.out.alike (Alike.of_below hb4 fun k hk => by have := HZ3.out; have := hk.2; omega))
      have HZ4 : Hid (w4.heap.size = w3.heap.size + 1) := Lib.hid hz4
      have HBK := Lib.hid (Backward_in ca (ch m r).length cc w4)
      clear hb4 hz4 HQ3 HS3
      go_wp2_with fail
      try rw [hw4]
      clear hw4
      refine HBK.out.mono ?_
      rintro _ w7 ⟨rfl, rfl⟩
      clear HBK
      go_wp2_with fail
      refine (wpIn_wide (n := 6)).1 ?_
      obtain ⟨W0, hW0⟩ : ∃ W0, (w4.alloc (.cells #[.slice ca (ch m r).length cc] 62)) = W0 := ⟨_, rfl⟩
      have hb7 : Below w4.heap.size w4 W0 := by rw [← hW0]; exact (Below.refl _ _).alloc (Nat.le_refl _) _
      have hz7 : W0.heap.size = w4.heap.size + 1 := by rw [← hW0]; simp
      have hsb : W0.cell? ⟨w4.heap.size, 0, none⟩ = some (.slice ca (ch m r).length cc) := by rw [← hW0]; exact World.cell?_alloc_new ..
      have HTB7 : Hid (Boxed W0 w3.heap.size 30 (.slice none 0 0)) := Lib.hid (by rw [← hW0]; exact HTB.out.alloc _)
      have HQ7 := Lib.hid (below_cell' hb7 HQ4.out)
      have HB7 := Lib.hid (HB4.out.trans (hb7.mono HB4.out.size))
      have HS7 : Hid (IntSl (fun b => wa.heap.size ≤ b ∧ b < w2.heap.size) W0 (.slice ca (ch m r).length cc) (ch m r)) := Lib.hid (HS4.out.alike (Alike.of_below hb7 fun k hk => by have := HZ3.out; have := HZ4.out; have := hk.2; omega))
      have hz4 := HZ4.out
      have hz3 := HZ3.out
      rw [hW0]
      clear hW0 hb7 HS4 HQ4 HTB HB4
      obtain ⟨_, _, e1, _, _, hcl⟩ := HS7.out.cells
      injection e1 with e2 _ e3
      subst e2; subst e3
      rcases hcl with hnil | ⟨cb, co, rfl, hS, hcells⟩
      · have := ch_head HWF.out HRM.out
        rw [hnil] at this
        cases this
      have hcs : ∀ j, j < (ch m r).length → W0.cell? ⟨cb, co + j, none⟩ = some (.int .i64 ((ch m r)[j]?.getD 0)) := fun j hj => by
        rw [List.getElem?_eq_getElem hj]
        exact (hcells j hj).1
      have hP : ∀ j : Nat, (fun c : Int => ∃ k : Nat, c = k ∧ k < m.length) ((ch m r)[j]?.getD 0) := fun j => by
        by_cases hj : j < (ch m r).length
        · rw [List.getElem?_eq_getElem hj]
          obtain ⟨k, e, _, hk, _⟩ := ch_mem HWF.out HRM.out _ (List.getElem_mem hj)
          exact ⟨k, e, hk⟩
        · rw [List.getElem?_eq_none (by omega)]
          exact ⟨0, rfl, by have := HRM.out; omega⟩
      have hFb : ¬ DnF w3.heap.size w4.heap.size w4.heap.size cb := by unfold DnF; have := hS.2; omega
      have hFs : ¬ DnF w3.heap.size w4.heap.size w4.heap.size w4.heap.size := by unfold DnF; omega
      have hFq : ¬ DnF w3.heap.size w4.heap.size w4.heap.size w.heap.size := by unfold DnF; omega
      have hFl : ∀ k, W0.heap.size ≤ k → DnF w3.heap.size w4.heap.size w4.heap.size k := fun k hk => by unfold DnF; omega
      have hCL := ch_len_le HWF.out HRM.out
      clear hcells
      refine rangeFunc_own0 (by omega) (gf := 72) (lb := #[.pointer (some ⟨w4.heap.size, 0, none⟩)]) (Kp := Chg (DnF w3.heap.size w4.heap.size w4.heap.size)) (e1 := fun y : BkT (fun c : Int => ∃ k : Nat, c = k ∧ k < m.length) => .int .i64 y.1.1) (e2 := fun y => .int .i64 y.1.2) rfl (enters_of Tryz.func72 (by kernel_rfl) rfl)
        (Backward_stops 5 (by omega) (DnF w3.heap.size w4.heap.size w4.heap.size) w4.heap.size cb co cc (fun c : Int => ∃ k : Nat, c = k ∧ k < m.length) (ch m r) hP (by omega) W0 hFb hFs hsb hcs)
        (fun h k => Chg.trans h k fun _ _ h => h) (fun A => Chg.refl _ A) (fun W l o o' hl => chg_putObj (hFl l hl))
        (fun pre W => (∃ v, Boxed W w3.heap.size 30 v ∧ W.ownsRow w4.heap.size 40 4 v (tabO m pre).length (cellsS (tabO m pre)) ∧ True) ∧ (Below w.heap.size w W ∧ Chg (DnF w3.heap.size w4.heap.size w4.heap.size) W0 W))
        (OwnFrom.and (Own.from (holdsRow_own w4.heap.size w3.heap.size 30 40 4 (fun (pre : List (BkT (fun c : Int => ∃ k : Nat, c = k ∧ k < m.length))) => (tabO m pre).length) (fun (pre : List (BkT (fun c : Int => ∃ k : Nat, c = k ∧ k < m.length))) => cellsS (tabO m pre)) (fun _ _ => True)) _) (OwnFrom.and (ownFrom_below (Nat.le_refl _) (by have := HB7.out.size; omega)) (ownFrom_chg hFl)))
        ⟨⟨_, HTB7.out, World.ownsRow_nil _ _ _ _, trivial⟩, HB7.out, Chg.refl _ _⟩ 10 (fun y => .int .i64 y.1.2) ?assign ?body ?done
      case assign =>
        rintro l y W K hK
        clear hz4 hz7 hz3 hFb hFs hFq hFl
        gi_wp2
        exact hK
      case body =>
        rintro l pre ⟨⟨yi, yc⟩, c, hyc, hcm⟩ W ⟨⟨v, hv, hrw, _⟩, hB, hC⟩ hlt
        have hyc' : yc = (c : Int) := hyc
        subst hyc'
        have qb := Chg.cell_eq hC HQ7.out hFq
        have tb := hv.cell
        have tf := hv.frozen
        obtain ⟨ra, rc, rfl⟩ := own_slice hrw
        have hTL := tabO_len hml pre
        have hWs := hC.size
        have HG := Lib.hid (VGrow (HH.out W hB) hcm (own_len hml hcm) (tabO m pre) ra rc (Sl.mono (slotSl_row hrw (by omega)) (fun b hb => hb.2) fun _ _ h => h) (tabO_in pre) (by omega))
        have HN := Lib.hid (tabO_snoc m pre ⟨(yi, (c : Int)), c, hyc, hcm⟩)
        have HV := Lib.hid hv
        have HBW := Lib.hid hB
        have HCW := Lib.hid hC
        have HZW : Hid (w4.heap.size ≤ W.heap.size) := Lib.hid (by omega)
        have HZB : Hid (w.heap.size ≤ w3.heap.size) := Lib.hid (by omega)
        obtain ⟨T, hT⟩ : ∃ T, tabO m pre = T := ⟨_, rfl⟩
        rw [hT] at HG HN HV tb
        clear hv hrw hB hC hT hz4 hz7 hz3 hFb hFs hFq hFl hTL hWs hlt
        generalize w3.heap.size = bt at *
        generalize w4.heap.size = bs at *
        gi_wp2_with fail
        refine ⟨trivial, ?_⟩
        refine (CallsIn.inRound l (callsIn_wide.2 HG.out)).mono ?_
        rintro _ W1 ⟨v1, rfl, hrow, hb⟩
        have hvb1 := (hb.block _ HV.out.lt).trans HV.out
        have tb1 := Boxed.cell hvb1
        have tf1 := Boxed.frozen hvb1
        obtain ⟨ra1, rc1, rfl⟩ := own_slice hrow
        have HB1 := Lib.hid hb
        have HR1 := Lib.hid hrow
        have HVB1 : Hid (Boxed W1 bt 30 (.slice ra T.length rc)) := Lib.hid hvb1
        clear hb hrow hvb1 tb tf
        gi_wp2
        refine ⟨(keepsFrom_below HB1.out).trans ((KeepsOthers.setCell _ _ _).from _), (Chg.of_below HB1.out).setCell (.inr (.inl rfl)) _, ⟨_, HVB1.out.set _, ?_⟩, (HBW.out.trans (HB1.out.mono HBW.out.size)).setCell HZB.out _, HCW.out.trans ((Chg.of_below HB1.out).setCell (.inr (.inl rfl)) _) fun _ _ h => h⟩
        rw [HN.out]
        exact row_less (HR1.out.kept (grownBy_setCell' W1 _ _) (.inr (HVB1.out.not_row (by decide) HR1.out).symm)) HZW.out
      case done =>
        rintro D ys W hD rfl ⟨⟨v, hv, hrw, _⟩, hB, hC⟩ hK
        have G : Hid (tabO m (back (fun c : Int => ∃ k : Nat, c = k ∧ k < m.length) (ch m r) hP (ch m r).length) = tabM m r) := Lib.hid (by
          unfold tabO tabM
          rw [back_snd])
        rw [G.out] at hrw
        have tb := hv.cell
        have HZB : Hid (w.heap.size ≤ w4.heap.size ∧ w.heap.size ≤ D) := Lib.hid (by omega)
        clear hz4 hz7 hz3 hFb hFs hFq hFl hC
        go_wp2
        refine ⟨by simp, .inl ⟨_, _, rfl, run_takeDeferred hK, ?_⟩⟩
        exact ⟨_, results_tmp2 rfl _ _ _, v, rfl, row_less (ownsRow_putObj hrw _ hK rfl) HZB.out.1, hB.trans (belowK_b (w := w) (Nat.le_refl _) W D _ _ HZB.out.2 hK rfl rfl)⟩
end Go.Proofs.YtipinmbpdgjalaaGreatDoor.Hi
