/- Caches: several sets, put. -/
import Derived.Test.YtonfmgdikgedfaaCz
import Derived.Deep.DeepCutAuto
set_option maxRecDepth 100000
set_option maxHeartbeats 2000000
set_option linter.unusedVariables false
set_option linter.unusedSimpArgs false
namespace Go.Proofs.Ytonfmgdikgedfaa.Cm
open Go.RowKit Bs Go.Lib Go.MuLone

/-- A struct's description. -/
def aggD : TypeDesc → Bool
  | .struct _ => true
  | .array _ _ => true
  | _ => false

theorem run_loadVar_cells {P : Program} (w : World) (g : Nat) (ty : TypeId) (cs : List Value) (d : TypeDesc) (hg : ∀ j (h : j < cs.length), w.cell? ⟨g, j, none⟩ = some cs[j])
    (hu : P.underlying ty = some d) (hd : aggD d = true) (hi : (P.info? ty).map (·.size) = some cs.length) :
    (loadVar ty ⟨g, 0, none⟩).run P w = .ok (.agg cs.toArray) w := by
  have hl : (loadCells ⟨g, 0, none⟩ cs.length).run P w = .ok cs.toArray w :=
    run_loadCells_list (P := P) w ⟨g, 0, none⟩ cs (fun j v hv => by
      obtain ⟨h, rfl⟩ := List.getElem?_eq_some_iff.1 hv
      have hadd : (⟨g, 0, none⟩ : Addr).add j = ⟨g, j, none⟩ := by unfold Addr.add; split <;> simp_all
      rw [hadd]
      exact hg j h)
  cases hq : P.info? ty with
  | none => rw [hq] at hi; cases hi
  | some q =>
    rw [hq] at hi
    have hs : q.size = cs.length := by simpa using hi
    have hagg : (isAgg ty).run P w = .ok true w := by
      unfold isAgg
      rw [Sem.run_bind, run_underlying hu w]
      cases d <;> simp_all [aggD]
    simp [loadVar, Sem.run_bind, hagg, sizeOf, typeInfo, hq, hs, hl]

/-- A struct and an error come back. -/
theorem results_cells_tmp {P : Program} {fn : Func} {p u : Tmp} {ty : TypeId} (h : fn.results = #[.cell p ty, .tmp u]) (tmps : Array Value) (w : World) (g : Nat) (cs : List Value) (d : TypeDesc)
    (hp : tmps.getD p undef = .pointer (some ⟨g, 0, none⟩)) (hg : ∀ j (h : j < cs.length), w.cell? ⟨g, j, none⟩ = some cs[j])
    (hu : P.underlying ty = some d) (hd : aggD d = true) (hi : (P.info? ty).map (·.size) = some cs.length) :
    (results fn tmps).run P w = .ok (.tuple #[.agg cs.toArray, tmps.getD u undef]) w := by
  rw [results_cell_tmp h, hp]
  simp [asAddr, Result.andThen, run_loadVar_cells w g ty cs d hg hu hd hi]
theorem two {w : World} {g : Nat} {v0 v1 : Value} (h0 : w.cell? ⟨g, 0, none⟩ = some v0) (h1 : w.cell? ⟨g, 1, none⟩ = some v1) : ∀ j (h : j < [v0, v1].length), w.cell? ⟨g, j, none⟩ = some [v0, v1][j]
  | 0, _ => h0
  | 1, _ => h1
theorem set2 {w : World} {g : Nat} {v0 v1 u0 u1 : Value} (h0 : w.cell? ⟨g, 0, none⟩ = some u0) (h1 : w.cell? ⟨g, 1, none⟩ = some u1) :
    ((w.setCell ⟨g, 0, none⟩ v0).setCell ⟨g, 1, none⟩ v1).cell? ⟨g, 0, none⟩ = some v0 ∧ ((w.setCell ⟨g, 0, none⟩ v0).setCell ⟨g, 1, none⟩ v1).cell? ⟨g, 1, none⟩ = some v1 := by
  refine ⟨?_, ?_⟩
  · rw [setCell_off (by omega)]; exact setCell_same h0
  · refine setCell_same (u := u1) ?_; rw [setCell_off (by omega)]; exact h1
theorem size_entry2 : (Try.prog.info? 113).map (·.size) = some 2 := by kernel_rfl

def dropV (o : Option KV) : KV × Bool := match o with | some d => (d, true) | none => ((0, 0), false)

/-- Within put: q the entry's box, q + 1 the result's. -/
structure PutIn (w0 w : World) (bs g n : Nat) (odd : Bool) (vs0 vs : List Value) (sets : List (List KV)) (e : KV) : Prop where
  sv : SevAt w 1 bs g n odd vs sets
  chg : Chg (Blk vs0 bs g) w0 w
  blk : ∀ k, Blk vs bs g k → Blk vs0 bs g k ∨ (w0.heap.size + 2 ≤ k ∧ k < w.heap.size)
  old : ∀ k, Blk vs0 bs g k → k < w0.heap.size
  q0 : w.cell? ⟨w0.heap.size, 0, none⟩ = some (.int .i64 e.1)
  q1 : w.cell? ⟨w0.heap.size, 1, none⟩ = some (.int .i64 e.2)
  r0 : w.cell? ⟨w0.heap.size + 1, 0, none⟩ = some (.int .i64 0)
  r1 : w.cell? ⟨w0.heap.size + 1, 1, none⟩ = some (.int .i64 0)
  fz : ∀ j, w.frozen? ⟨w0.heap.size + 1, j, none⟩ = false
section
variable {w0 w : World} {bs g n : Nat} {odd : Bool} {vs0 vs : List Value} {sets : List (List KV)} {e : KV}
theorem PutIn.size (h : PutIn w0 w bs g n odd vs0 vs sets e) : w0.heap.size + 2 ≤ w.heap.size := by
  have := World.block_lt_of_cell? _ _ h.r0
  simp at this
  omega
theorem PutIn.next {w' : World} (h : PutIn w0 w bs g n odd vs0 vs sets e) (hb : Below w.heap.size w w') : PutIn w0 w' bs g n odd vs0 vs sets e where
  sv := h.sv.below hb
  chg := h.chg.trans (Chg.of_below (F := Blk vs0 bs g) hb) fun k _ hk => hk
  blk := fun k hk => (h.blk k hk).elim .inl fun h' => .inr ⟨h'.1, Nat.lt_of_lt_of_le h'.2 hb.size⟩
  old := h.old
  q0 := below_cell' hb h.q0
  q1 := below_cell' hb h.q1
  r0 := below_cell' hb h.r0
  r1 := below_cell' hb h.r1
  fz := fun j => (hb.frozen (p := ⟨w0.heap.size + 1, j, none⟩) (by have := h.size; simp; omega)).trans (h.fz j)
theorem PutIn.start (h : SevAt w0 0 bs g n odd vs sets) (e : KV) : PutIn w0 (((w0.alloc (.cells #[.int .i64 e.1, .int .i64 e.2] 113)).alloc (.cells #[.int .i64 0, .int .i64 0] 113)).setCell ⟨bs, 0, none⟩ (.int .i32 1)) bs g n odd vs vs sets e := by
  have hl := h.live (.inl rfl)
  have hb : Below w0.heap.size w0 ((w0.alloc (.cells #[.int .i64 e.1, .int .i64 e.2] 113)).alloc (.cells #[.int .i64 0, .int .i64 0] 113)) := ((Below.refl _ _).alloc (Nat.le_refl _) _).alloc (by simp) _
  have hc : ∀ b j v, b ≠ bs → ((w0.alloc (.cells #[.int .i64 e.1, .int .i64 e.2] 113)).alloc (.cells #[.int .i64 0, .int .i64 0] 113)).cell? ⟨b, j, none⟩ = some v → (((w0.alloc (.cells #[.int .i64 e.1, .int .i64 e.2] 113)).alloc (.cells #[.int .i64 0, .int .i64 0] 113)).setCell ⟨bs, 0, none⟩ (.int .i32 1)).cell? ⟨b, j, none⟩ = some v := fun b j v hne hv => (setCell_off (.inl hne.symm)).trans hv
  have c1 : ∀ j v, (#[.int .i64 0, .int .i64 0] : Array Value)[j]? = some v → ((w0.alloc (.cells #[.int .i64 e.1, .int .i64 e.2] 113)).alloc (.cells #[.int .i64 0, .int .i64 0] 113)).cell? ⟨w0.heap.size + 1, j, none⟩ = some v := fun j v hj => by
    have := heap_alloc_new (w0.alloc (.cells #[.int .i64 e.1, .int .i64 e.2] 113)) (.cells #[.int .i64 0, .int .i64 0] 113)
    rw [World.size_alloc] at this
    simp only [World.cell?, this]
    simpa using hj
  have c0 : ∀ j v, (#[.int .i64 e.1, .int .i64 e.2] : Array Value)[j]? = some v → ((w0.alloc (.cells #[.int .i64 e.1, .int .i64 e.2] 113)).alloc (.cells #[.int .i64 0, .int .i64 0] 113)).cell? ⟨w0.heap.size, j, none⟩ = some v := fun j v hj => by
    refine alloc_old ?_
    have := heap_alloc_new w0 (.cells #[.int .i64 e.1, .int .i64 e.2] 113)
    simp only [World.cell?, this]
    simpa using hj
  exact
  { sv := (h.below hb).lock 1
    chg := ((Chg.of_below hb).setCell (a := ⟨bs, 0, none⟩) (.inr (.inl rfl)) _)
    blk := fun k hk => .inl hk
    old := fun k hk => h.live hk
    q0 := hc _ _ _ (by omega) (c0 0 _ rfl)
    q1 := hc _ _ _ (by omega) (c0 1 _ rfl)
    r0 := hc _ _ _ (by omega) (c1 0 _ rfl)
    r1 := hc _ _ _ (by omega) (c1 1 _ rfl)
    fz := fun j => by
      rw [World.frozen?_setCell]
      have := heap_alloc_new (w0.alloc (.cells #[.int .i64 e.1, .int .i64 e.2] 113)) (.cells #[.int .i64 0, .int .i64 0] 113)
      rw [World.size_alloc] at this
      exact frozen_of_row _ _ j _ _ this }
theorem PutIn.ne (h : PutIn w0 w bs g n odd vs0 vs sets e) {k : Nat} (hk : Blk vs bs g k) : k ≠ w0.heap.size ∧ k ≠ w0.heap.size + 1 := by
  rcases h.blk k hk with h1 | ⟨h1, _⟩
  · have := h.old k h1
    omega
  · omega
theorem PutIn.step {w1 : World} {i : Nat} {v v' : Value} {s' : List KV} (h : PutIn w0 w bs g n odd vs0 vs sets e) (hv : vs[i]? = some v) (ht : Turn w w1 v v') (hs : SetAt w1 v' s') :
    PutIn w0 (w1.setCell ⟨g, i, none⟩ v') bs g n odd vs0 (vs.set i v') (sets.set i s') e := by
  obtain ⟨h1, h2, h3⟩ := h.sv.step hv ht hs
  have hB := h.size
  have keep : ∀ b j u, b < w.heap.size → ¬ Blk vs bs g b → w.cell? ⟨b, j, none⟩ = some u → (w1.setCell ⟨g, i, none⟩ v').cell? ⟨b, j, none⟩ = some u := fun b j u hb hn hu => (h2.cell (a := ⟨b, j, none⟩) hb hn).trans hu
  have n0 : ¬ Blk vs bs g w0.heap.size := fun hk => (h.ne hk).1 rfl
  have n1 : ¬ Blk vs bs g (w0.heap.size + 1) := fun hk => (h.ne hk).2 rfl
  have hsz : (w1.setCell ⟨g, i, none⟩ v').heap.size = w1.heap.size := by simp
  exact
  { sv := h1
    chg := h.chg.trans h2 fun k hk hb => by
      rcases h.blk k hb with h4 | ⟨h4, _⟩
      · exact h4
      · omega
    blk := fun k hk => by
      rcases h3 k hk with h4 | ⟨h4, h5⟩
      · rcases h.blk k h4 with h6 | ⟨h6, h7⟩
        · exact .inl h6
        · exact .inr ⟨h6, by have := h2.size; omega⟩
      · exact .inr ⟨by omega, by omega⟩
    old := h.old
    q0 := keep _ _ _ (by omega) n0 h.q0
    q1 := keep _ _ _ (by omega) n0 h.q1
    r0 := keep _ _ _ (by omega) n1 h.r0
    r1 := keep _ _ _ (by omega) n1 h.r1
    fz := fun j => (h2.frozen (a := ⟨w0.heap.size + 1, j, none⟩) (by show w0.heap.size + 1 < w.heap.size; omega) n1).trans (h.fz j) }
end

theorem PutIn.done {w0 w : World} {bs g n : Nat} {odd : Bool} {vs0 vs : List Value} {sets : List (List KV)} {e : KV} (h : PutIn w0 w bs g n odd vs0 vs sets e) (x : KV) :
    (((w.setCell ⟨w0.heap.size + 1, 0, none⟩ (.int .i64 x.1)).setCell ⟨w0.heap.size + 1, 1, none⟩ (.int .i64 x.2)).cell? ⟨bs, 0, none⟩ = some (.int .i32 1) ∧ ((w.setCell ⟨w0.heap.size + 1, 0, none⟩ (.int .i64 x.1)).setCell ⟨w0.heap.size + 1, 1, none⟩ (.int .i64 x.2)).frozen? ⟨bs, 0, none⟩ = false) ∧
    Left w0 (((w.setCell ⟨w0.heap.size + 1, 0, none⟩ (.int .i64 x.1)).setCell ⟨w0.heap.size + 1, 1, none⟩ (.int .i64 x.2)).setCell ⟨bs, 0, none⟩ (.int .i32 0)) bs g n odd vs0 sets ∧
    ∀ j (h : j < [(Value.int .i64 x.1), (Value.int .i64 x.2)].length), (((w.setCell ⟨w0.heap.size + 1, 0, none⟩ (.int .i64 x.1)).setCell ⟨w0.heap.size + 1, 1, none⟩ (.int .i64 x.2)).setCell ⟨bs, 0, none⟩ (.int .i32 0)).cell? ⟨w0.heap.size + 1, j, none⟩ = some [(Value.int .i64 x.1), (Value.int .i64 x.2)][j] := by
  have hs : SevAt ((w.setCell ⟨w0.heap.size + 1, 0, none⟩ (.int .i64 x.1)).setCell ⟨w0.heap.size + 1, 1, none⟩ (.int .i64 x.2)) 1 bs g n odd vs sets := h.sv.alike fun k hk => by
    rw [heap_setCell_other _ _ _ _ (h.ne hk).2, heap_setCell_other _ _ _ _ (h.ne hk).2]
  have hbs := (h.ne (k := bs) (.inl rfl)).2
  obtain ⟨c0, c1⟩ := set2 (v0 := .int .i64 x.1) (v1 := .int .i64 x.2) h.r0 h.r1
  refine ⟨⟨hs.lck, hs.thaw 0⟩, ⟨vs, hs.lock 0, ?_, fun k hk => ?_⟩, two ((setCell_off (.inl hbs)).trans c0) ((setCell_off (.inl hbs)).trans c1)⟩
  · exact ((h.chg.setCell (a := ⟨w0.heap.size + 1, 0, none⟩) (.inl (by simp)) _).setCell (a := ⟨w0.heap.size + 1, 1, none⟩) (.inl (by simp)) _).setCell (a := ⟨bs, 0, none⟩) (.inr (h.blk bs (.inl rfl) |>.elim id fun hh => absurd (h.sv.live (.inl rfl)) (by
      have := h.chg.size
      exact absurd (h.old bs (.inl rfl)) (by omega)))) _
  · rcases h.blk k hk with h1 | ⟨h1, h2⟩
    · exact .inl h1
    · exact .inr ⟨by omega, by simp; exact h2⟩

theorem Row.take {w : World} {b cap : Nat} {s : List KV} (h : Row w b cap s) (r : Nat) : Row w b cap (s.take r) where
  len := by have := h.len; simp; omega
  lim := h.lim
  blk := h.blk
  cells := fun j v hj => h.cells j v (by
    rw [ents_take, List.getElem?_take] at hj
    split at hj
    · exact hj
    · cases hj)
theorem Turn.cut {w : World} (b n r cap : Nat) : Turn w w (.slice (some ⟨b, 0, none⟩) n cap) (.slice (some ⟨b, 0, none⟩) r cap) := ⟨Chg.refl _ _, fun k hk => .inl hk⟩

theorem wo_plc (s : List KV) (e : KV) : (e :: wo s e.1).length ≤ s.length + 1 := by
  have := wo_le s e.1
  simp; omega

/-- The room of a set. -/
def roomB (odd : Bool) (n i : Nat) : Nat := if odd = true ∧ i + 1 = n then 1 else 2

theorem SPut {w : World} {bs g n : Nat} {odd : Bool} {vs : List Value} {sets : List (List KV)} (h : SevAt w 0 bs g n odd vs sets) (e : KV) {s : List KV} (hs : sets[setNo n e.1]? = some s) (hl : s.length ≤ 2) (hn : (s.map (·.1)).Nodup) :
    Calls Try.prog 121 #[.pointer (some ⟨bs, 0, none⟩), .agg #[.int .i64 e.1, .int .i64 e.2]] w fun r w' =>
      r = .returned (.tuple #[.agg #[.int .i64 (dropV (putD (roomB odd n (setNo n e.1)) s e)).1.1, .int .i64 (dropV (putD (roomB odd n (setNo n e.1)) s e)).1.2], .bool (dropV (putD (roomB odd n (setNo n e.1)) s e)).2]) ∧
      Left w w' bs g n odd vs (sets.set (setNo n e.1) (putS (roomB odd n (setNo n e.1)) s e)) := by
  obtain ⟨v, hv⟩ : ∃ v, vs[setNo n e.1]? = some v := ⟨_, List.getElem?_eq_getElem (by rw [h.len]; exact (List.getElem?_eq_some_iff.1 hs).1)⟩
  obtain ⟨a, cap, rfl⟩ := (h.ss _ v s hv hs).slice
  have hil : setNo n e.1 < n := setNo_lt h.pos.1 e.1
  have hi0 : (0 : Int) ≤ (setNo n e.1 : Int) := by omega
  have hi1 : (setNo n e.1 : Int) < (n : Int) := by omega
  have HP := Lib.hid (PutIn.start h e)
  have HL : Hid (Calls Try.prog 122 #[.pointer (some ⟨bs, 0, none⟩)] ((w.alloc (.cells #[.int .i64 e.1, .int .i64 e.2] 113)).alloc (.cells #[.int .i64 0, .int .i64 0] 113)) fun r w' => r = .returned (.tuple #[]) ∧ PutIn w w' bs g n odd vs vs sets e) := Lib.hid (by
    have hb : Below w.heap.size w ((w.alloc (.cells #[.int .i64 e.1, .int .i64 e.2] 113)).alloc (.cells #[.int .i64 0, .int .i64 0] 113)) := ((Below.refl _ _).alloc (Nat.le_refl _) _).alloc (by simp) _
    refine (lock_free muLib ⟨bs, 0, none⟩ _ (h.below hb).lck ((h.below hb).thaw 0)).mono ?_
    rintro r w' ⟨rfl, rfl⟩
    exact ⟨rfl, HP.out⟩)
  have HN := Lib.hid (fun (wz : World) (hz : PutIn w wz bs g n odd vs vs sets e) => SetNo e.1 hz.sv.head hz.sv.pos.1 hz.sv.pos.2)
  have HV := Lib.hid (And.intro hv (And.intro hs (And.intro hl hn)))
  have HPOS := Lib.hid h.pos
  clear h hs hn hv HP
  generalize hi : setNo n e.1 = i at *
  clear hi
  go_enter_defers Try.func121, Try.ntmps121
  go_wp2_with fail
  refine HL.out.mono ?_
  rintro r w1 ⟨rfl, h1⟩
  have H1 := Lib.hid h1
  have g0 := h1.q0
  clear h1 HL
  go_wp2_with fail
  refine (HN.out _ H1.out).mono ?_
  rintro r w' ⟨rfl, rfl⟩
  have k0 := H1.out.sv.head
  have k1 := H1.out.sv.row _ _ HV.out.1
  have h1d : PutIn w w1.drew bs g n odd vs vs sets e := H1.out.next (Below.refl _ _).drew
  have HF := Lib.hid (FindE e.1 (h1d.sv.ss _ _ s HV.out.1 HV.out.2.1) hl)
  have H1D := Lib.hid h1d
  clear h1d H1
  go_wp2_with fail
  go_still_tail 9, (by kernel_rfl)
  change wpList _ _ _ _ _ w1.drew
  go_wp2_with fail
  refine HF.out.mono ?_
  rintro r w2 ⟨rfl, hb⟩
  have H2 := Lib.hid (H1D.out.next hb)
  clear hb HF H1D k0 k1 g0
  go_upto_region 5 with fail
  go_cut [] from 31 to 46 (fun wx => Hid (∃ vs' a' c', PutIn w wx bs g n odd vs vs' (sets.set i (e :: wo s e.1)) e ∧ vs'[i]? = some (.slice a' (e :: wo s e.1).length c')))
  case first =>
    have h2 := H2.out
    have h2d : PutIn w w2.drew bs g n odd vs vs sets e := h2.next (Below.refl _ _).drew
    have H2D := Lib.hid h2d
    have HF1 := Lib.hid (First e (h2d.sv.ss _ _ s HV.out.1 HV.out.2.1) HV.out.2.2.1 HV.out.2.2.2)
    have HB := Lib.hid (And.intro (h2.sv.live (.inl rfl)) (h2.sv.live (.inr (.inl rfl))))
    have HQ : Hid (∀ k, (Value.slice a s.length cap).ownBlock = some k → k ≠ w.heap.size ∧ k ≠ bs ∧ k ≠ g) := Lib.hid fun k hk => ⟨(h2.ne (.inr (.inr ⟨i, _, HV.out.1, hk⟩))).1, h2.sv.own i _ k HV.out.1 hk⟩
    have k0 := h2.sv.head
    have k1 := h2.sv.row _ _ HV.out.1
    have k2 := h2.q0
    have k3 := h2.q1
    clear h2 h2d
    refine wp_region_noPanic ?_
    go_region_with (go_at_call 127; refine (HF1.out).mono ?_; rintro r w' ⟨v', rfl, hq2, hq3⟩; obtain ⟨a', c', rfl⟩ := hq2.slice; (have l0 : w'.cell? ⟨bs, 2, none⟩ = _ := hq3.chg.cell_eq k0 (fun hk => (HQ.out _ hk).2.1 rfl)); (have l1 : w'.cell? ⟨g, i, none⟩ = _ := hq3.chg.cell_eq k1 (fun hk => (HQ.out _ hk).2.2 rfl)); (have l2 : w'.cell? ⟨w.heap.size, 0, none⟩ = _ := hq3.chg.cell_eq k2 (fun hk => (HQ.out _ hk).1 rfl)); (have l3 : w'.cell? ⟨w.heap.size, 1, none⟩ = _ := hq3.chg.cell_eq k3 (fun hk => (HQ.out _ hk).1 rfl)); (have l4 : w'.frozen? ⟨g, i, none⟩ = false := (hq3.chg.frozen (a := ⟨g, i, none⟩) HB.out.2 (fun hk => (HQ.out _ hk).2.2 rfl)).trans (H2.out.sv.thawg i)))
    all_goals
      have HST := Lib.hid (H2D.out.step HV.out.1 hq3 hq2)
      clear k0 k1 k2 k3 l0 l1 l2 l3 l4 hq2 hq3
      refine NoPanic.normal ?_
      go_wp2_with fail
      go_meet
      exact Lib.hid ⟨_, a', c', HST.out, List.getElem?_set_self (List.getElem?_eq_some_iff.1 HV.out.1).1⟩
  case rest =>
    obtain ⟨vs', a', c', h4, hv'⟩ := hcut.out
    clear hcut H2
    have HT : Hid (e :: wo s e.1 = e :: wo s e.1 ∧ (e :: wo s e.1).length ≤ 3) := Lib.hid ⟨rfl, by have := wo_plc s e; have := HV.out.2.2.1; omega⟩
    have HD : Hid (∀ r, (r < (e :: wo s e.1).length → dropV (putD r s e) = ((e :: wo s e.1).getD r (0, 0), true)) ∧ ((e :: wo s e.1).length ≤ r → dropV (putD r s e) = ((0, 0), false) ∧ putS r s e = e :: wo s e.1) ∧ putS r s e = (e :: wo s e.1).take r) := Lib.hid fun r => by
      refine ⟨fun h => ?_, fun h => ⟨?_, ?_⟩, rfl⟩
      · unfold putD
        rw [List.getElem?_eq_getElem h, List.getD_eq_getElem?_getD, List.getElem?_eq_getElem h]
        rfl
      · unfold putD
        rw [List.getElem?_eq_none h]
        rfl
      · exact List.take_of_length_le h
    generalize e :: wo s e.1 = T at h4 hv' HT HD
    have H4 := Lib.hid h4
    have HV' := Lib.hid hv'
    have g0 := h4.sv.head
    have g1 := h4.sv.row _ _ hv'
    have g2 := h4.sv.od
    have g3 := h4.fz 0
    have g4 := h4.fz 1
    have g5 := h4.r0
    have g6 := h4.r1
    have hT3 : (T.length : Int) ≤ 3 := by have := HT.out.2; omega
    clear h4 hv' HN HT
    have hn1 : (1 : Int) ≤ (n : Int) := by have := HPOS.out.1; omega
    have hn2 : (n : Int) ≤ 32 := by have := HPOS.out.2; omega
    by_cases ho : odd = true
    · by_cases hin : i + 1 = n
      · have HR : Hid (roomB odd n i = 1) := Lib.hid (by unfold roomB; rw [if_pos ⟨ho, hin⟩])
        have hb1 : ((i : Int) == (n : Int) - 1) = true := by simp; omega
        rw [ho] at g2
        clear hin ho
        by_cases hle : T.length ≤ 1
        · have hle' : (T.length : Int) ≤ 1 := by omega
          have HV2 := Lib.hid ((HD.out 1).2.1 hle).1
          have HS2 : Hid (sets.set i (putS 1 s e) = sets.set i T) := Lib.hid (by rw [((HD.out 1).2.1 hle).2])
          have HDN := Lib.hid (H4.out.done (0, 0))
          clear HD hle H4 HV'
          go_wp2
          refine leaves_cons (f := 123) (args := #[.pointer (some ⟨bs, 0, none⟩)]) (by simp) (by simp [go_sem]) ?_
          refine (unlock_deferred muLib ⟨bs, 0, none⟩ .returning _ HDN.out.1.1 HDN.out.1.2).mono ?_
          rintro e' u' w'' ⟨rfl, rfl, rfl⟩
          exact ⟨_, results_cells_tmp rfl _ _ _ _ _ rfl HDN.out.2.2 Try.underlying113 rfl size_entry2, by rw [HR.out, HV2.out]; rfl, by rw [HR.out, HS2.out]; exact HDN.out.2.1⟩
        · have hlt : 1 < T.length := by omega
          have hlt' : (1 : Int) < (T.length : Int) := by omega
          have hle' : ¬ ((T.length : Int) ≤ 1) := by omega
          have HV2 := Lib.hid ((HD.out 1).1 hlt)
          have hset := H4.out.sv.ss i _ T HV'.out (List.getElem?_set_self (List.getElem?_eq_some_iff.1 HV.out.2.1).1)
          obtain ⟨b', rfl, m0, m1⟩ := hset.elem hlt
          have HRW := Lib.hid hset.row.2
          have hc1 : (1 : Int) ≤ (c' : Int) := by have := HRW.out.len; omega
          have hc2 : (T.length : Int) ≤ (c' : Int) := by have := HRW.out.len; omega
          have hc3 : (c' : Int) ≤ 9223372036854775807 := by have := HRW.out.lim; unfold maxLen at this; omega
          have hc4 : 1 ≤ c' := by omega
          have HEL : Hid (T.getD 1 (0, 0) = T[1]) := Lib.hid (by rw [List.getD_eq_getElem?_getD, List.getElem?_eq_getElem hlt]; rfl)
          generalize T[1] = d at m0 m1 HEL
          rw [HEL.out] at HV2
          have HB : Hid (Below wc.heap.size wc (wc.alloc (.cells #[.int .i64 d.1, .int .i64 d.2] 113))) := Lib.hid ((Below.refl _ _).alloc (Nat.le_refl _) _)
          have h5 := H4.out.next HB.out
          have H5 : Hid (PutIn w (wc.alloc (.cells #[.int .i64 d.1, .int .i64 d.2] 113)).drew bs g n odd vs vs' (sets.set i T) e) := Lib.hid (h5.next (Below.refl _ _).drew)
          have HRW5 : Hid (Row (wc.alloc (.cells #[.int .i64 d.1, .int .i64 d.2] 113)).drew b' c' T) := Lib.hid (HRW.out.of_block (HB.out.block _ HRW.out.lt))
          have hmin : (T.take 1).length = 1 := by rw [List.length_take]; omega
          have hst := H5.out.step HV'.out (Turn.cut b' T.length 1 c') (by have := (HRW5.out.take 1).own; rwa [hmin] at this)
          rw [List.set_set, ← (HD.out 1).2.2] at hst
          have HST := Lib.hid hst
          have HK : Hid ((wc.alloc (.cells #[.int .i64 d.1, .int .i64 d.2] 113)).cell? ⟨bs, 2, none⟩ = some (.slice (some ⟨g, 0, none⟩) n n) ∧ (wc.alloc (.cells #[.int .i64 d.1, .int .i64 d.2] 113)).cell? ⟨g, i, none⟩ = some (.slice (some ⟨b', 0, none⟩) T.length c') ∧ (wc.alloc (.cells #[.int .i64 d.1, .int .i64 d.2] 113)).frozen? ⟨g, i, none⟩ = false) := Lib.hid ⟨h5.sv.head, h5.sv.row _ _ HV'.out, h5.sv.thawg i⟩
          have HNE : Hid (wc.heap.size ≠ g) := Lib.hid (by have := H4.out.sv.live (.inr (.inl rfl)); omega)
          have k3 : (wc.alloc (.cells #[.int .i64 d.1, .int .i64 d.2] 113)).cell? ⟨wc.heap.size, 0, none⟩ = some (.int .i64 d.1) := World.cell?_alloc_new ..
          have k4 : (wc.alloc (.cells #[.int .i64 d.1, .int .i64 d.2] 113)).cell? ⟨wc.heap.size, 1, none⟩ = some (.int .i64 d.2) := World.cell?_alloc_new ..
          have HL0 : Hid (((wc.alloc (.cells #[.int .i64 d.1, .int .i64 d.2] 113)).drew.setCell ⟨g, i, none⟩ (.slice (some ⟨b', 0, none⟩) 1 c')).cell? ⟨wc.heap.size, 0, none⟩ = some (.int .i64 d.1) ∧ ((wc.alloc (.cells #[.int .i64 d.1, .int .i64 d.2] 113)).drew.setCell ⟨g, i, none⟩ (.slice (some ⟨b', 0, none⟩) 1 c')).cell? ⟨wc.heap.size, 1, none⟩ = some (.int .i64 d.2)) := Lib.hid ⟨(setCell_off (.inl (fun h => HNE.out h.symm))).trans k3, (setCell_off (.inl (fun h => HNE.out h.symm))).trans k4⟩
          have HDN := Lib.hid (HST.out.done d)
          clear hst hset h5 hmin k3 k4 hle hlt HEL
          go_wp2_with fail
          clear g0 g1 m0 m1
          clear HB H5 HRW5
          generalize wc.alloc (.cells #[.int .i64 d.1, .int .i64 d.2] 113) = wd at *
          obtain ⟨k0, k1, k2⟩ := HK.out
          go_still_tail 15, (by kernel_rfl)
          change wpList _ _ _ _ _ wd.drew
          have l0 : (wd.setCell ⟨g, i, none⟩ (.slice (some ⟨b', 0, none⟩) 1 c')).cell? ⟨wc.heap.size, 0, none⟩ = some (.int .i64 d.1) := HL0.out.1
          have l1 : (wd.setCell ⟨g, i, none⟩ (.slice (some ⟨b', 0, none⟩) 1 c')).cell? ⟨wc.heap.size, 1, none⟩ = some (.int .i64 d.2) := HL0.out.2
          have l2 : (wd.setCell ⟨g, i, none⟩ (.slice (some ⟨b', 0, none⟩) 1 c')).cell? ⟨w.heap.size + 1, 0, none⟩ = some (.int .i64 0) := HST.out.r0
          have l3 : (wd.setCell ⟨g, i, none⟩ (.slice (some ⟨b', 0, none⟩) 1 c')).cell? ⟨w.heap.size + 1, 1, none⟩ = some (.int .i64 0) := HST.out.r1
          have l4 : (wd.setCell ⟨g, i, none⟩ (.slice (some ⟨b', 0, none⟩) 1 c')).frozen? ⟨w.heap.size + 1, 0, none⟩ = false := HST.out.fz 0
          have l5 : (wd.setCell ⟨g, i, none⟩ (.slice (some ⟨b', 0, none⟩) 1 c')).frozen? ⟨w.heap.size + 1, 1, none⟩ = false := HST.out.fz 1
          have hnx : ¬ (g = w.heap.size + 1) := (HST.out.ne (k := g) (.inr (.inl rfl))).2
          clear HST HL0
          go_wp2
          refine leaves_cons (f := 123) (args := #[.pointer (some ⟨bs, 0, none⟩)]) (by simp) (by simp [go_sem]) ?_
          refine (unlock_deferred muLib ⟨bs, 0, none⟩ .returning _ HDN.out.1.1 HDN.out.1.2).mono ?_
          rintro e' u' w'' ⟨rfl, rfl, rfl⟩
          exact ⟨_, results_cells_tmp rfl _ _ _ _ _ rfl HDN.out.2.2 Try.underlying113 rfl size_entry2, by rw [HR.out, HV2.out]; rfl, by rw [HR.out]; exact HDN.out.2.1⟩
      · have HR : Hid (roomB odd n i = 2) := Lib.hid (by unfold roomB; rw [if_neg (fun h => hin h.2)])
        have hb1 : ((i : Int) == (n : Int) - 1) = false := by simp; omega
        rw [ho] at g2
        clear hin ho
        by_cases hle : T.length ≤ 2
        · have hle' : (T.length : Int) ≤ 2 := by omega
          have HV2 := Lib.hid ((HD.out 2).2.1 hle).1
          have HS2 : Hid (sets.set i (putS 2 s e) = sets.set i T) := Lib.hid (by rw [((HD.out 2).2.1 hle).2])
          have HDN := Lib.hid (H4.out.done (0, 0))
          clear HD hle H4 HV'
          go_wp2
          refine leaves_cons (f := 123) (args := #[.pointer (some ⟨bs, 0, none⟩)]) (by simp) (by simp [go_sem]) ?_
          refine (unlock_deferred muLib ⟨bs, 0, none⟩ .returning _ HDN.out.1.1 HDN.out.1.2).mono ?_
          rintro e' u' w'' ⟨rfl, rfl, rfl⟩
          exact ⟨_, results_cells_tmp rfl _ _ _ _ _ rfl HDN.out.2.2 Try.underlying113 rfl size_entry2, by rw [HR.out, HV2.out]; rfl, by rw [HR.out, HS2.out]; exact HDN.out.2.1⟩
        · have hlt : 2 < T.length := by omega
          have hlt' : (2 : Int) < (T.length : Int) := by omega
          have hle' : ¬ ((T.length : Int) ≤ 2) := by omega
          have HV2 := Lib.hid ((HD.out 2).1 hlt)
          have hset := H4.out.sv.ss i _ T HV'.out (List.getElem?_set_self (List.getElem?_eq_some_iff.1 HV.out.2.1).1)
          obtain ⟨b', rfl, m0, m1⟩ := hset.elem hlt
          have HRW := Lib.hid hset.row.2
          have hc1 : (2 : Int) ≤ (c' : Int) := by have := HRW.out.len; omega
          have hc2 : (T.length : Int) ≤ (c' : Int) := by have := HRW.out.len; omega
          have hc3 : (c' : Int) ≤ 9223372036854775807 := by have := HRW.out.lim; unfold maxLen at this; omega
          have hc4 : 2 ≤ c' := by omega
          have HEL : Hid (T.getD 2 (0, 0) = T[2]) := Lib.hid (by rw [List.getD_eq_getElem?_getD, List.getElem?_eq_getElem hlt]; rfl)
          generalize T[2] = d at m0 m1 HEL
          rw [HEL.out] at HV2
          have HB : Hid (Below wc.heap.size wc (wc.alloc (.cells #[.int .i64 d.1, .int .i64 d.2] 113))) := Lib.hid ((Below.refl _ _).alloc (Nat.le_refl _) _)
          have h5 := H4.out.next HB.out
          have H5 : Hid (PutIn w (wc.alloc (.cells #[.int .i64 d.1, .int .i64 d.2] 113)).drew bs g n odd vs vs' (sets.set i T) e) := Lib.hid (h5.next (Below.refl _ _).drew)
          have HRW5 : Hid (Row (wc.alloc (.cells #[.int .i64 d.1, .int .i64 d.2] 113)).drew b' c' T) := Lib.hid (HRW.out.of_block (HB.out.block _ HRW.out.lt))
          have hmin : (T.take 2).length = 2 := by rw [List.length_take]; omega
          have hst := H5.out.step HV'.out (Turn.cut b' T.length 2 c') (by have := (HRW5.out.take 2).own; rwa [hmin] at this)
          rw [List.set_set, ← (HD.out 2).2.2] at hst
          have HST := Lib.hid hst
          have HK : Hid ((wc.alloc (.cells #[.int .i64 d.1, .int .i64 d.2] 113)).cell? ⟨bs, 2, none⟩ = some (.slice (some ⟨g, 0, none⟩) n n) ∧ (wc.alloc (.cells #[.int .i64 d.1, .int .i64 d.2] 113)).cell? ⟨g, i, none⟩ = some (.slice (some ⟨b', 0, none⟩) T.length c') ∧ (wc.alloc (.cells #[.int .i64 d.1, .int .i64 d.2] 113)).frozen? ⟨g, i, none⟩ = false) := Lib.hid ⟨h5.sv.head, h5.sv.row _ _ HV'.out, h5.sv.thawg i⟩
          have HNE : Hid (wc.heap.size ≠ g) := Lib.hid (by have := H4.out.sv.live (.inr (.inl rfl)); omega)
          have k3 : (wc.alloc (.cells #[.int .i64 d.1, .int .i64 d.2] 113)).cell? ⟨wc.heap.size, 0, none⟩ = some (.int .i64 d.1) := World.cell?_alloc_new ..
          have k4 : (wc.alloc (.cells #[.int .i64 d.1, .int .i64 d.2] 113)).cell? ⟨wc.heap.size, 1, none⟩ = some (.int .i64 d.2) := World.cell?_alloc_new ..
          have HL0 : Hid (((wc.alloc (.cells #[.int .i64 d.1, .int .i64 d.2] 113)).drew.setCell ⟨g, i, none⟩ (.slice (some ⟨b', 0, none⟩) 2 c')).cell? ⟨wc.heap.size, 0, none⟩ = some (.int .i64 d.1) ∧ ((wc.alloc (.cells #[.int .i64 d.1, .int .i64 d.2] 113)).drew.setCell ⟨g, i, none⟩ (.slice (some ⟨b', 0, none⟩) 2 c')).cell? ⟨wc.heap.size, 1, none⟩ = some (.int .i64 d.2)) := Lib.hid ⟨(setCell_off (.inl (fun h => HNE.out h.symm))).trans k3, (setCell_off (.inl (fun h => HNE.out h.symm))).trans k4⟩
          have HDN := Lib.hid (HST.out.done d)
          clear hst hset h5 hmin k3 k4 hle hlt HEL
          go_wp2_with fail
          clear g0 g1 m0 m1
          clear HB H5 HRW5
          generalize wc.alloc (.cells #[.int .i64 d.1, .int .i64 d.2] 113) = wd at *
          obtain ⟨k0, k1, k2⟩ := HK.out
          go_still_tail 15, (by kernel_rfl)
          change wpList _ _ _ _ _ wd.drew
          have l0 : (wd.setCell ⟨g, i, none⟩ (.slice (some ⟨b', 0, none⟩) 2 c')).cell? ⟨wc.heap.size, 0, none⟩ = some (.int .i64 d.1) := HL0.out.1
          have l1 : (wd.setCell ⟨g, i, none⟩ (.slice (some ⟨b', 0, none⟩) 2 c')).cell? ⟨wc.heap.size, 1, none⟩ = some (.int .i64 d.2) := HL0.out.2
          have l2 : (wd.setCell ⟨g, i, none⟩ (.slice (some ⟨b', 0, none⟩) 2 c')).cell? ⟨w.heap.size + 1, 0, none⟩ = some (.int .i64 0) := HST.out.r0
          have l3 : (wd.setCell ⟨g, i, none⟩ (.slice (some ⟨b', 0, none⟩) 2 c')).cell? ⟨w.heap.size + 1, 1, none⟩ = some (.int .i64 0) := HST.out.r1
          have l4 : (wd.setCell ⟨g, i, none⟩ (.slice (some ⟨b', 0, none⟩) 2 c')).frozen? ⟨w.heap.size + 1, 0, none⟩ = false := HST.out.fz 0
          have l5 : (wd.setCell ⟨g, i, none⟩ (.slice (some ⟨b', 0, none⟩) 2 c')).frozen? ⟨w.heap.size + 1, 1, none⟩ = false := HST.out.fz 1
          have hnx : ¬ (g = w.heap.size + 1) := (HST.out.ne (k := g) (.inr (.inl rfl))).2
          clear HST HL0
          go_wp2
          refine leaves_cons (f := 123) (args := #[.pointer (some ⟨bs, 0, none⟩)]) (by simp) (by simp [go_sem]) ?_
          refine (unlock_deferred muLib ⟨bs, 0, none⟩ .returning _ HDN.out.1.1 HDN.out.1.2).mono ?_
          rintro e' u' w'' ⟨rfl, rfl, rfl⟩
          exact ⟨_, results_cells_tmp rfl _ _ _ _ _ rfl HDN.out.2.2 Try.underlying113 rfl size_entry2, by rw [HR.out, HV2.out]; rfl, by rw [HR.out]; exact HDN.out.2.1⟩
    · have HR : Hid (roomB odd n i = 2) := Lib.hid (by unfold roomB; rw [if_neg (fun h => ho h.1)])
      rw [Bool.eq_false_iff.2 ho] at g2
      clear ho
      by_cases hle : T.length ≤ 2
      · have hle' : (T.length : Int) ≤ 2 := by omega
        have HV2 := Lib.hid ((HD.out 2).2.1 hle).1
        have HS2 : Hid (sets.set i (putS 2 s e) = sets.set i T) := Lib.hid (by rw [((HD.out 2).2.1 hle).2])
        have HDN := Lib.hid (H4.out.done (0, 0))
        clear HD hle H4 HV'
        go_wp2
        refine leaves_cons (f := 123) (args := #[.pointer (some ⟨bs, 0, none⟩)]) (by simp) (by simp [go_sem]) ?_
        refine (unlock_deferred muLib ⟨bs, 0, none⟩ .returning _ HDN.out.1.1 HDN.out.1.2).mono ?_
        rintro e' u' w'' ⟨rfl, rfl, rfl⟩
        exact ⟨_, results_cells_tmp rfl _ _ _ _ _ rfl HDN.out.2.2 Try.underlying113 rfl size_entry2, by rw [HR.out, HV2.out]; rfl, by rw [HR.out, HS2.out]; exact HDN.out.2.1⟩
      · have hlt : 2 < T.length := by omega
        have hlt' : (2 : Int) < (T.length : Int) := by omega
        have hle' : ¬ ((T.length : Int) ≤ 2) := by omega
        have HV2 := Lib.hid ((HD.out 2).1 hlt)
        have hset := H4.out.sv.ss i _ T HV'.out (List.getElem?_set_self (List.getElem?_eq_some_iff.1 HV.out.2.1).1)
        obtain ⟨b', rfl, m0, m1⟩ := hset.elem hlt
        have HRW := Lib.hid hset.row.2
        have hc1 : (2 : Int) ≤ (c' : Int) := by have := HRW.out.len; omega
        have hc2 : (T.length : Int) ≤ (c' : Int) := by have := HRW.out.len; omega
        have hc3 : (c' : Int) ≤ 9223372036854775807 := by have := HRW.out.lim; unfold maxLen at this; omega
        have hc4 : 2 ≤ c' := by omega
        have HEL : Hid (T.getD 2 (0, 0) = T[2]) := Lib.hid (by rw [List.getD_eq_getElem?_getD, List.getElem?_eq_getElem hlt]; rfl)
        generalize T[2] = d at m0 m1 HEL
        rw [HEL.out] at HV2
        have HB : Hid (Below wc.heap.size wc (wc.alloc (.cells #[.int .i64 d.1, .int .i64 d.2] 113))) := Lib.hid ((Below.refl _ _).alloc (Nat.le_refl _) _)
        have h5 := H4.out.next HB.out
        have H5 : Hid (PutIn w (wc.alloc (.cells #[.int .i64 d.1, .int .i64 d.2] 113)).drew bs g n odd vs vs' (sets.set i T) e) := Lib.hid (h5.next (Below.refl _ _).drew)
        have HRW5 : Hid (Row (wc.alloc (.cells #[.int .i64 d.1, .int .i64 d.2] 113)).drew b' c' T) := Lib.hid (HRW.out.of_block (HB.out.block _ HRW.out.lt))
        have hmin : (T.take 2).length = 2 := by rw [List.length_take]; omega
        have hst := H5.out.step HV'.out (Turn.cut b' T.length 2 c') (by have := (HRW5.out.take 2).own; rwa [hmin] at this)
        rw [List.set_set, ← (HD.out 2).2.2] at hst
        have HST := Lib.hid hst
        have HK : Hid ((wc.alloc (.cells #[.int .i64 d.1, .int .i64 d.2] 113)).cell? ⟨bs, 2, none⟩ = some (.slice (some ⟨g, 0, none⟩) n n) ∧ (wc.alloc (.cells #[.int .i64 d.1, .int .i64 d.2] 113)).cell? ⟨g, i, none⟩ = some (.slice (some ⟨b', 0, none⟩) T.length c') ∧ (wc.alloc (.cells #[.int .i64 d.1, .int .i64 d.2] 113)).frozen? ⟨g, i, none⟩ = false) := Lib.hid ⟨h5.sv.head, h5.sv.row _ _ HV'.out, h5.sv.thawg i⟩
        have HNE : Hid (wc.heap.size ≠ g) := Lib.hid (by have := H4.out.sv.live (.inr (.inl rfl)); omega)
        have k3 : (wc.alloc (.cells #[.int .i64 d.1, .int .i64 d.2] 113)).cell? ⟨wc.heap.size, 0, none⟩ = some (.int .i64 d.1) := World.cell?_alloc_new ..
        have k4 : (wc.alloc (.cells #[.int .i64 d.1, .int .i64 d.2] 113)).cell? ⟨wc.heap.size, 1, none⟩ = some (.int .i64 d.2) := World.cell?_alloc_new ..
        have HL0 : Hid (((wc.alloc (.cells #[.int .i64 d.1, .int .i64 d.2] 113)).drew.setCell ⟨g, i, none⟩ (.slice (some ⟨b', 0, none⟩) 2 c')).cell? ⟨wc.heap.size, 0, none⟩ = some (.int .i64 d.1) ∧ ((wc.alloc (.cells #[.int .i64 d.1, .int .i64 d.2] 113)).drew.setCell ⟨g, i, none⟩ (.slice (some ⟨b', 0, none⟩) 2 c')).cell? ⟨wc.heap.size, 1, none⟩ = some (.int .i64 d.2)) := Lib.hid ⟨(setCell_off (.inl (fun h => HNE.out h.symm))).trans k3, (setCell_off (.inl (fun h => HNE.out h.symm))).trans k4⟩
        have HDN := Lib.hid (HST.out.done d)
        clear hst hset h5 hmin k3 k4 hle hlt HEL
        go_wp2_with fail
        clear g0 g1 m0 m1
        clear HB H5 HRW5
        generalize wc.alloc (.cells #[.int .i64 d.1, .int .i64 d.2] 113) = wd at *
        obtain ⟨k0, k1, k2⟩ := HK.out
        go_still_tail 15, (by kernel_rfl)
        change wpList _ _ _ _ _ wd.drew
        have l0 : (wd.setCell ⟨g, i, none⟩ (.slice (some ⟨b', 0, none⟩) 2 c')).cell? ⟨wc.heap.size, 0, none⟩ = some (.int .i64 d.1) := HL0.out.1
        have l1 : (wd.setCell ⟨g, i, none⟩ (.slice (some ⟨b', 0, none⟩) 2 c')).cell? ⟨wc.heap.size, 1, none⟩ = some (.int .i64 d.2) := HL0.out.2
        have l2 : (wd.setCell ⟨g, i, none⟩ (.slice (some ⟨b', 0, none⟩) 2 c')).cell? ⟨w.heap.size + 1, 0, none⟩ = some (.int .i64 0) := HST.out.r0
        have l3 : (wd.setCell ⟨g, i, none⟩ (.slice (some ⟨b', 0, none⟩) 2 c')).cell? ⟨w.heap.size + 1, 1, none⟩ = some (.int .i64 0) := HST.out.r1
        have l4 : (wd.setCell ⟨g, i, none⟩ (.slice (some ⟨b', 0, none⟩) 2 c')).frozen? ⟨w.heap.size + 1, 0, none⟩ = false := HST.out.fz 0
        have l5 : (wd.setCell ⟨g, i, none⟩ (.slice (some ⟨b', 0, none⟩) 2 c')).frozen? ⟨w.heap.size + 1, 1, none⟩ = false := HST.out.fz 1
        have hnx : ¬ (g = w.heap.size + 1) := (HST.out.ne (k := g) (.inr (.inl rfl))).2
        clear HST HL0
        go_wp2
        refine leaves_cons (f := 123) (args := #[.pointer (some ⟨bs, 0, none⟩)]) (by simp) (by simp [go_sem]) ?_
        refine (unlock_deferred muLib ⟨bs, 0, none⟩ .returning _ HDN.out.1.1 HDN.out.1.2).mono ?_
        rintro e' u' w'' ⟨rfl, rfl, rfl⟩
        exact ⟨_, results_cells_tmp rfl _ _ _ _ _ rfl HDN.out.2.2 Try.underlying113 rfl size_entry2, by rw [HR.out, HV2.out]; rfl, by rw [HR.out]; exact HDN.out.2.1⟩
end Go.Proofs.Ytonfmgdikgedfaa.Cm
