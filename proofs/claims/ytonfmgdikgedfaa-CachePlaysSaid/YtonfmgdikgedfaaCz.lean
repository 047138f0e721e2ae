/- Caches: several sets, get. -/
import Derived.Test.YtonfmgdikgedfaaCy
import Derived.Test.YtonfmgdikgedfaaCl
set_option maxRecDepth 100000
set_option maxHeartbeats 2000000
set_option linter.unusedVariables false
set_option linter.unusedSimpArgs false
namespace Go.Proofs.Ytonfmgdikgedfaa.Cm
open Go.RowKit Bs Go.Lib Go.MuLone

/-- Sets in memory: their struct is block bs, the row of the sets block g; mu: the lock's state. -/
structure SevAt (w : World) (mu : Int) (bs g n : Nat) (odd : Bool) (vs : List Value) (sets : List (List KV)) : Prop where
  len : vs.length = sets.length
  cnt : sets.length = n
  pos : 0 < n ∧ n ≤ 32
  lck : w.cell? ⟨bs, 0, none⟩ = some (.int .i32 mu)
  head : w.cell? ⟨bs, 2, none⟩ = some (.slice (some ⟨g, 0, none⟩) n n)
  od : w.cell? ⟨bs, 3, none⟩ = some (.bool odd)
  thaw : ∀ j, w.frozen? ⟨bs, j, none⟩ = false
  thawg : ∀ j, w.frozen? ⟨g, j, none⟩ = false
  row : ∀ (i : Nat) v, vs[i]? = some v → w.cell? ⟨g, i, none⟩ = some v
  ss : ∀ (i : Nat) v s, vs[i]? = some v → sets[i]? = some s → SetAt w v s
  apart : ∀ (i j : Nat) v u, vs[i]? = some v → vs[j]? = some u → i ≠ j → ∀ k, v.ownBlock = some k → u.ownBlock ≠ some k
  own : ∀ (i : Nat) v k, vs[i]? = some v → v.ownBlock = some k → k ≠ bs ∧ k ≠ g
  ne : bs ≠ g

/-- The blocks of sets. -/
def Blk (vs : List Value) (bs g : Nat) (k : Nat) : Prop := k = bs ∨ k = g ∨ ∃ (i : Nat) (v : Value), vs[i]? = some v ∧ v.ownBlock = some k

section
variable {w : World} {mu : Int} {bs g n : Nat} {odd : Bool} {vs : List Value} {sets : List (List KV)}
theorem SevAt.live (h : SevAt w mu bs g n odd vs sets) {k : Nat} (hk : Blk vs bs g k) : k < w.heap.size := by
  rcases hk with rfl | rfl | ⟨i, v, hv, hk⟩
  · exact World.block_lt_of_cell? _ _ h.lck
  · have h0 : 0 < vs.length := by rw [h.len, h.cnt]; exact h.pos.1
    exact World.block_lt_of_cell? _ _ (h.row 0 _ (List.getElem?_eq_getElem h0))
  · have hi := (List.getElem?_eq_some_iff.1 hv).1
    exact (h.ss i v _ hv (List.getElem?_eq_getElem (by rw [← h.len]; exact hi))).lt hk
theorem SevAt.alike {w' : World} (h : SevAt w mu bs g n odd vs sets) (ha : ∀ k, Blk vs bs g k → w'.heap[k]? = w.heap[k]?) : SevAt w' mu bs g n odd vs sets where
  len := h.len
  cnt := h.cnt
  pos := h.pos
  lck := (World.cell?_of_block (w := w) (a := ⟨bs, 0, none⟩) (ha _ (.inl rfl))).trans h.lck
  head := (World.cell?_of_block (w := w) (a := ⟨bs, 2, none⟩) (ha _ (.inl rfl))).trans h.head
  od := (World.cell?_of_block (w := w) (a := ⟨bs, 3, none⟩) (ha _ (.inl rfl))).trans h.od
  thaw := fun j => (World.frozen?_of_block (w := w) (a := ⟨bs, j, none⟩) (ha _ (.inl rfl))).trans (h.thaw j)
  thawg := fun j => (World.frozen?_of_block (w := w) (a := ⟨g, j, none⟩) (ha _ (.inr (.inl rfl)))).trans (h.thawg j)
  row := fun i v hv => (World.cell?_of_block (w := w) (a := ⟨g, i, none⟩) (ha _ (.inr (.inl rfl)))).trans (h.row i v hv)
  ss := fun i v s hv hs => (h.ss i v s hv hs).of_block fun k hk => ha k (.inr (.inr ⟨i, v, hv, hk⟩))
  apart := h.apart
  own := h.own
  ne := h.ne
theorem SevAt.below {w' : World} (h : SevAt w mu bs g n odd vs sets) (hb : Below w.heap.size w w') : SevAt w' mu bs g n odd vs sets := h.alike fun k hk => hb.block k (h.live hk)
theorem SevAt.lock (h : SevAt w mu bs g n odd vs sets) (m : Int) : SevAt (w.setCell ⟨bs, 0, none⟩ (.int .i32 m)) m bs g n odd vs sets where
  len := h.len
  cnt := h.cnt
  pos := h.pos
  lck := setCell_same h.lck
  head := (setCell_off (by simp)).trans h.head
  od := (setCell_off (by simp)).trans h.od
  thaw := fun j => by rw [World.frozen?_setCell]; exact h.thaw j
  thawg := fun j => by rw [World.frozen?_setCell]; exact h.thawg j
  row := fun i v hv => (setCell_off (.inl h.ne)).trans (h.row i v hv)
  ss := fun i v s hv hs => (h.ss i v s hv hs).of_block fun k hk => heap_setCell_other _ _ _ _ (h.own i v k hv hk).1
  apart := h.apart
  own := h.own
  ne := h.ne
/-- A set is laid anew. -/
theorem SevAt.step {w1 : World} {i : Nat} {v v' : Value} {s' : List KV} (h : SevAt w mu bs g n odd vs sets) (hv : vs[i]? = some v) (ht : Turn w w1 v v') (hs : SetAt w1 v' s') :
    SevAt (w1.setCell ⟨g, i, none⟩ v') mu bs g n odd (vs.set i v') (sets.set i s') ∧ Chg (Blk vs bs g) w (w1.setCell ⟨g, i, none⟩ v') ∧ (∀ k, Blk (vs.set i v') bs g k → Blk vs bs g k ∨ (w.heap.size ≤ k ∧ k < w1.heap.size)) := by
  have hi := (List.getElem?_eq_some_iff.1 hv).1
  have hbs : ∀ j, w1.cell? ⟨bs, j, none⟩ = w.cell? ⟨bs, j, none⟩ := fun j => ht.chg.cell (a := ⟨bs, j, none⟩) (h.live (.inl rfl)) fun hk => (h.own i v bs hv hk).1 rfl
  have hg : ∀ j, w1.cell? ⟨g, j, none⟩ = w.cell? ⟨g, j, none⟩ := fun j => ht.chg.cell (a := ⟨g, j, none⟩) (h.live (.inr (.inl rfl))) fun hk => (h.own i v g hv hk).2 rfl
  have hset : ∀ (j : Nat) u, (vs.set i v')[j]? = some u → (j = i ∧ u = v') ∨ (j ≠ i ∧ vs[j]? = some u) := fun j u hu => by
    rw [List.getElem?_set] at hu
    by_cases e : i = j
    · rw [if_pos e, if_pos hi] at hu
      exact .inl ⟨e.symm, (Option.some.inj hu).symm⟩
    · rw [if_neg e] at hu
      exact .inr ⟨fun h => e h.symm, hu⟩
  have hnew : ∀ k, v'.ownBlock = some k → v.ownBlock = some k ∨ w.heap.size ≤ k := ht.blk
  have hv'g : ∀ k, v'.ownBlock = some k → k ≠ bs ∧ k ≠ g := fun k hk => (hnew k hk).elim (h.own i v k hv) fun hk => by
    have h1 := h.live (.inl rfl)
    have h2 := h.live (.inr (.inl rfl))
    omega
  have hcell : ∀ b j, b ≠ g → (w1.setCell ⟨g, i, none⟩ v').cell? ⟨b, j, none⟩ = w1.cell? ⟨b, j, none⟩ := fun b j hb => setCell_off (.inl hb.symm)
  refine ⟨⟨by simpa using h.len, by simpa using h.cnt, h.pos, ?_, ?_, ?_, fun j => ?_, fun j => ?_, fun j u hu => ?_, fun j u s hu hs' => ?_, fun a b u u' hu hu' hab k hk => ?_, fun j u k hu hk => ?_, h.ne⟩, ?_, fun k hk => ?_⟩
  · rw [hcell _ _ h.ne, hbs]; exact h.lck
  · rw [hcell _ _ h.ne, hbs]; exact h.head
  · rw [hcell _ _ h.ne, hbs]; exact h.od
  · rw [World.frozen?_setCell, ht.chg.frozen (a := ⟨bs, j, none⟩) (h.live (.inl rfl)) fun hk => (h.own i v bs hv hk).1 rfl]; exact h.thaw j
  · rw [World.frozen?_setCell, ht.chg.frozen (a := ⟨g, j, none⟩) (h.live (.inr (.inl rfl))) fun hk => (h.own i v g hv hk).2 rfl]; exact h.thawg j
  · rcases hset j u hu with ⟨rfl, rfl⟩ | ⟨hj, hu⟩
    · exact setCell_same ((hg j).trans (h.row j v hv))
    · rw [setCell_off (.inr (fun e => hj e.symm)), hg]; exact h.row j u hu
  · rcases hset j u hu with ⟨rfl, rfl⟩ | ⟨hj, hu⟩
    · rw [List.getElem?_set_self (by rw [← h.len]; exact hi)] at hs'
      obtain rfl := Option.some.inj hs'
      exact hs.of_block fun k hk => heap_setCell_other _ _ _ _ (hv'g k hk).2
    · rw [List.getElem?_set_ne (fun e => hj e.symm)] at hs'
      refine (h.ss j u s hu hs').of_block fun k hk => ?_
      rw [heap_setCell_other _ _ _ _ (h.own j u k hu hk).2]
      exact ht.chg.block k (h.live (.inr (.inr ⟨j, u, hu, hk⟩))) (h.apart j i u v hu hv hj k hk)
  · rcases hset a u hu with ⟨rfl, rfl⟩ | ⟨ha, hu2⟩ <;> rcases hset b u' hu' with ⟨rfl, rfl⟩ | ⟨hb, hu3⟩
    · exact absurd rfl hab
    · rcases hnew k hk with h1 | h1
      · exact h.apart a b v u' hv hu3 hab k h1
      · intro h2
        have := h.live (.inr (.inr ⟨b, u', hu3, h2⟩))
        omega
    · intro h2
      rcases hnew k h2 with h1 | h1
      · exact h.apart a b u v hu2 hv hab k hk h1
      · have := h.live (.inr (.inr ⟨a, u, hu2, hk⟩))
        omega
    · exact h.apart a b u u' hu2 hu3 hab k hk
  · rcases hset j u hu with ⟨rfl, rfl⟩ | ⟨hj, hu⟩
    · exact hv'g k hk
    · exact h.own j u k hu hk
  · exact (ht.chg.mono fun k _ hk => .inr (.inr ⟨i, v, hv, hk⟩)).setCell (a := ⟨g, i, none⟩) (.inr (.inr (.inl rfl))) _
  · rcases hk with rfl | rfl | ⟨j, u, hu, hk⟩
    · exact .inl (.inl rfl)
    · exact .inl (.inr (.inl rfl))
    · rcases hset j u hu with ⟨rfl, rfl⟩ | ⟨hj, hu⟩
      · exact (hnew k hk).elim (fun h1 => .inl (.inr (.inr ⟨_, v, hv, h1⟩))) fun h1 => .inr ⟨h1, hs.lt hk⟩
      · exact .inl (.inr (.inr ⟨j, u, hu, hk⟩))
end

theorem plc_none {s : List KV} {k : Int} (h : ent? s k = none) : plc s k = -1 := by
  unfold plc
  rw [List.findIdx?_eq_none_iff.2 (fun e he => by simpa using ent_none h e he)]
theorem plc_some {s : List KV} {k : Int} {e : KV} (h : ent? s k = some e) : ∃ j : Nat, plc s k = j ∧ ∃ hj : j < s.length, s[j] = e := by
  unfold ent? at h
  obtain ⟨h1, j, hj, h2, h3⟩ := List.find?_eq_some_iff_getElem.1 h
  refine ⟨j, ?_, hj, h2⟩
  unfold plc
  rw [List.findIdx?_eq_some_iff_getElem.2 ⟨hj, by rw [h2]; exact h1, fun i hi => by simpa using h3 i hi⟩]

/-- What a call on sets leaves. -/
def Left (w w' : World) (bs g n : Nat) (odd : Bool) (vs : List Value) (sets' : List (List KV)) : Prop :=
  ∃ vs', SevAt w' 0 bs g n odd vs' sets' ∧ Chg (Blk vs bs g) w w' ∧ ∀ k, Blk vs' bs g k → Blk vs bs g k ∨ (w.heap.size ≤ k ∧ k < w'.heap.size)

theorem SGet {w : World} {bs g n : Nat} {odd : Bool} {vs : List Value} {sets : List (List KV)} (h : SevAt w 0 bs g n odd vs sets) (key : Int) {s : List KV} (hs : sets[setNo n key]? = some s) (hl : s.length ≤ 2) (hn : (s.map (·.1)).Nodup) :
    Calls Try.prog 120 #[.pointer (some ⟨bs, 0, none⟩), .int .i64 key] w fun e w' => e = .returned (.tuple #[.int .i64 (getV s key).1, .bool (getV s key).2]) ∧ Left w w' bs g n odd vs (sets.set (setNo n key) (getS s key)) := by
  obtain ⟨v, hv⟩ : ∃ v, vs[setNo n key]? = some v := ⟨_, List.getElem?_eq_getElem (by rw [h.len]; exact (List.getElem?_eq_some_iff.1 hs).1)⟩
  have hset := h.ss _ v s hv hs
  obtain ⟨a, cap, rfl⟩ := hset.slice
  have h1 := h.lock 1
  have HC1 : Hid (Chg (Blk vs bs g) w (w.setCell ⟨bs, 0, none⟩ (.int .i32 1))) := Lib.hid ((Chg.refl _ _).setCell (a := ⟨bs, 0, none⟩) (.inr (.inl rfl)) _)
  have hil : setNo n key < n := setNo_lt h.pos.1 key
  have hi0 : (0 : Int) ≤ (setNo n key : Int) := by omega
  have hi1 : (setNo n key : Int) < (n : Int) := by omega
  have HN := Lib.hid (SetNo key h1.head h.pos.1 h.pos.2)
  have hset1 := h1.ss _ _ s hv hs
  have HF := Lib.hid (FindE key hset1 hl)
  have g0 := h1.head
  have g1 := h1.row _ _ hv
  have HL := Lib.hid (lock_free muLib ⟨bs, 0, none⟩ w h.lck (h.thaw 0))
  have H1 := Lib.hid h1
  have HV := Lib.hid hv
  have HSZ : Hid (w.heap.size = (w.setCell ⟨bs, 0, none⟩ (.int .i32 1)).heap.size) := Lib.hid (by simp)
  generalize hw1 : w.setCell ⟨bs, 0, none⟩ (.int .i32 1) = w1 at *
  clear h h1 hset hset1 hv
  generalize hi : setNo n key = i at *
  clear hi
  cases hE : ent? s key with
  | none =>
    have HP := Lib.hid (plc_none hE)
    have e1 : getV s key = (0, false) := by unfold getV; rw [hE]
    have e2 : getS s key = s := by unfold getS; rw [hE]
    rw [e1, e2]
    rw [HP.out] at HF
    have HSS : Hid (sets.set i s = sets) := Lib.hid (by
      obtain ⟨hi, rfl⟩ := List.getElem?_eq_some_iff.1 hs
      exact List.set_getElem_self _)
    clear hE e1 e2 hs
    go_enter_defers Try.func120, Try.ntmps120
    go_wp2_with fail
    refine HL.out.mono ?_
    rintro e w' ⟨rfl, rfl⟩
    clear HL
    go_wp2_with fail
    refine HN.out.mono ?_
    rintro e w' ⟨rfl, rfl⟩
    go_wp2_with fail
    refine HF.out.mono ?_
    rintro e w2 ⟨rfl, hb⟩
    have H2 := Lib.hid (H1.out.below hb)
    have HC2 : Hid (Chg (Blk vs bs g) w w2) := Lib.hid (HC1.out.trans (Chg.of_below hb) fun k _ hk => hk)
    clear hb HF g0 g1
    go_wp2
    refine leaves_cons (f := 123) (args := #[.pointer (some ⟨bs, 0, none⟩)]) (by simp) (by simp [go_sem]) ?_
    refine (unlock_deferred muLib ⟨bs, 0, none⟩ .returning _ H2.out.lck (H2.out.thaw 0)).mono ?_
    rintro e u' w'' ⟨rfl, rfl, rfl⟩
    refine ⟨_, results_tmp2 rfl _ _ _, rfl, vs, ?_, ?_, fun k hk => .inl hk⟩
    · rw [HSS.out]; exact H2.out.lock 0
    · exact HC2.out.setCell (a := ⟨bs, 0, none⟩) (.inr (.inl rfl)) _
  | some e =>
    obtain ⟨j, hP, hj, hje⟩ := plc_some hE
    have HP := Lib.hid hP
    have hk := (ent_some hE).2
    have e1 : getV s key = (e.2, true) := by unfold getV; rw [hE]
    have e2 : getS s key = e :: wo s e.1 := by unfold getS; rw [hE, hk]
    rw [e1, e2]
    rw [HP.out] at HF
    have HK := Lib.hid (And.intro hk hn)
    have HJ := Lib.hid hje
    have hj0 : (0 : Int) ≤ (j : Int) := by omega
    have hj1 : (j : Int) < (s.length : Int) := by omega
    have HS := Lib.hid hs
    have HL2 := Lib.hid hl
    have hj2 : ¬ ((j : Int) < 0) := by omega
    clear hE e1 e2 hs hk hn hP hje hl
    go_enter_defers Try.func120, Try.ntmps120
    go_wp2_with fail
    refine HL.out.mono ?_
    rintro e w' ⟨rfl, rfl⟩
    clear HL
    go_wp2_with fail
    refine HN.out.mono ?_
    rintro e w' ⟨rfl, rfl⟩
    go_wp2_with fail
    refine HF.out.mono ?_
    rintro e w2 ⟨rfl, hb⟩
    have h2 := H1.out.below hb
    have H2 := Lib.hid h2
    have HC2 : Hid (Chg (Blk vs bs g) w w2) := Lib.hid (HC1.out.trans (Chg.of_below hb) fun k _ hk => hk)
    clear hb HF g0 g1 H1 HN HC1
    have g0 := h2.head
    have g1 := h2.row _ _ HV.out
    obtain ⟨b, rfl, m0, m1⟩ := (h2.ss _ _ s HV.out HS.out).elem hj
    rw [HJ.out] at m0 m1
    clear h2
    have h3 := H2.out.below ((Below.refl w2.heap.size w2).alloc (Nat.le_refl _) (.cells #[.int .i64 e.1, .int .i64 e.2] 113))
    have h3d : SevAt (w2.alloc (.cells #[.int .i64 e.1, .int .i64 e.2] 113)).drew 1 bs g n odd vs sets := h3.alike fun _ _ => rfl
    have H3 := Lib.hid h3d
    have HC3 : Hid (Chg (Blk vs bs g) w (w2.alloc (.cells #[.int .i64 e.1, .int .i64 e.2] 113))) := Lib.hid (HC2.out.alloc _)
    have hpe : plc s e.1 = (j : Int) := by rw [HK.out.1]; exact HP.out
    have hf1 := First e (h3d.ss _ _ s HV.out HS.out) HL2.out HK.out.2
    rw [hpe] at hf1
    have HF1 := Lib.hid hf1
    have HB := Lib.hid (And.intro (h3.live (.inl rfl)) (h3.live (.inr (.inl rfl))))
    have HQ : Hid (w2.heap.size ≠ bs ∧ w2.heap.size ≠ g ∧ w2.heap.size ≠ b) := Lib.hid (by
      have h1 := H2.out.live (.inl rfl)
      have h2 := H2.out.live (.inr (.inl rfl))
      have h3 : b < w2.heap.size := World.block_lt_of_cell? _ _ m0
      exact ⟨by omega, by omega, by omega⟩)
    have HOW := Lib.hid (h3.own i _ b HV.out rfl)
    have k0 := h3.head
    have k1 := h3.row _ _ HV.out
    have k2 : (w2.alloc (.cells #[.int .i64 e.1, .int .i64 e.2] 113)).cell? ⟨w2.heap.size, 0, none⟩ = some (.int .i64 e.1) := World.cell?_alloc_new ..
    have k3 : (w2.alloc (.cells #[.int .i64 e.1, .int .i64 e.2] 113)).cell? ⟨w2.heap.size, 1, none⟩ = some (.int .i64 e.2) := World.cell?_alloc_new ..
    clear h3 h3d hf1 hpe
    have HKK := Lib.hid (And.intro k0 (And.intro k1 (And.intro k2 k3)))
    clear k0 k1 k2 k3
    go_wp2_with fail
    clear g0 g1 m0 m1
    obtain ⟨k0, k1, k2, k3⟩ := HKK.out
    refine wp_region_noPanic ?_
    go_region_with (go_at_call 127; refine (HF1.out).mono ?_; rintro e w' ⟨v', rfl, hq2, hq3⟩; obtain ⟨a', c', rfl⟩ := hq2.slice; (have l0 : w'.cell? ⟨bs, 2, none⟩ = _ := hq3.chg.cell_eq k0 (fun hk => HOW.out.1 (by injection hk))); (have l1 : w'.cell? ⟨g, i, none⟩ = _ := hq3.chg.cell_eq k1 (fun hk => HOW.out.2 (by injection hk))); (have l2 : w'.cell? ⟨w2.heap.size, 0, none⟩ = _ := hq3.chg.cell_eq k2 (fun hk => HQ.out.2.2 (by injection hk with hk; exact hk.symm))); (have l3 : w'.cell? ⟨w2.heap.size, 1, none⟩ = _ := hq3.chg.cell_eq k3 (fun hk => HQ.out.2.2 (by injection hk with hk; exact hk.symm))); (have l4 : w'.frozen? ⟨g, i, none⟩ = false := (hq3.chg.frozen (a := ⟨g, i, none⟩) HB.out.2 (fun hk => HOW.out.2 (by injection hk))).trans (H3.out.thawg i)))
    all_goals
      refine NoPanic.normal ?_
      have hst := H3.out.step HV.out hq3 hq2
      have HST := Lib.hid hst
      have HL3 : Hid ((w'.setCell ⟨g, i, none⟩ (.slice a' (e :: wo s e.1).length c')).cell? ⟨w2.heap.size, 1, none⟩ = some (.int .i64 e.2)) := Lib.hid ((setCell_off (by have := HQ.out; omega)).trans l3)
      have HSZ' : Hid (w'.heap.size = (w'.setCell ⟨g, i, none⟩ (.slice a' (e :: wo s e.1).length c')).heap.size) := Lib.hid (by simp)
      have HCW : Hid (w2.heap.size ≤ w'.heap.size) := Lib.hid (by have := hq3.chg.size; simp at this; omega)
      clear hst k0 k1 k2 k3 l0 l1 l2 l3 l4 hq2 hq3 HF1 HKK H3
      generalize hw4 : w'.setCell ⟨g, i, none⟩ (.slice a' (e :: wo s e.1).length c') = w4 at *
      have l3 := HL3.out
      go_wp2
      refine leaves_cons (f := 123) (args := #[.pointer (some ⟨bs, 0, none⟩)]) (by simp) (by simp [go_sem]) ?_
      refine (unlock_deferred muLib ⟨bs, 0, none⟩ .returning _ HST.out.1.lck (HST.out.1.thaw 0)).mono ?_
      rintro e' u' w'' ⟨rfl, rfl, rfl⟩
      refine ⟨_, results_tmp2 rfl _ _ _, rfl, _, HST.out.1.lock 0, ?_, fun k hk => ?_⟩
      · have h1 : Chg (Blk vs bs g) w (w2.alloc (.cells #[.int .i64 e.1, .int .i64 e.2] 113)).drew := HC3.out.drew
        exact (h1.trans HST.out.2.1 fun k _ hk => hk).setCell (a := ⟨bs, 0, none⟩) (.inr (.inl rfl)) _
      · rcases HST.out.2.2 k hk with h | ⟨h1, h2⟩
        · exact .inl h
        · have h3 := HC2.out.size
          have h4 := HSZ'.out
          simp at h1
          exact .inr ⟨by omega, by simp; omega⟩
end Go.Proofs.Ytonfmgdikgedfaa.Cm
