/- Caches: all entries; clearing; no entry. -/
import Derived.Test.YtonfmgdikgedfaaCs
set_option maxRecDepth 100000
set_option maxHeartbeats 1000000
set_option linter.unusedVariables false
set_option linter.unusedSimpArgs false
namespace Go.Proofs.Ytonfmgdikgedfaa.Cm
open Go.RowKit Bs Go.Lib Go.MuLone

theorem NGet (key : Int) (w : World) : Calls Try.prog 106 #[.agg #[], .int .i64 key] w fun e w' => e = .returned (.tuple #[.int .i64 0, .bool false]) ∧ Below w.heap.size w w' := by
  go_enter Try.func106, Try.ntmps106
  go_wp2
  go_ret2
  exact ⟨rfl, (Below.refl _ _).alloc (Nat.le_refl _) _⟩
theorem NAll (w : World) : Calls Try.prog 104 #[.agg #[]] w fun e w' => e = .returned (.slice none 0 0) ∧ Below w.heap.size w w' := by
  go_enter Try.func104, Try.ntmps104
  go_wp2
  go_ret
  exact ⟨rfl, (Below.refl _ _).alloc (Nat.le_refl _) _⟩
theorem NClear (w : World) : Calls Try.prog 105 #[.agg #[]] w fun e w' => e = .returned (.tuple #[]) ∧ Below w.heap.size w w' := by
  go_enter Try.func105, Try.ntmps105
  go_wp2
  go_end0
  exact ⟨rfl, (Below.refl _ _).alloc (Nat.le_refl _) _⟩
theorem NPut (e : KV) (w : World) : Calls Try.prog 107 #[.agg #[], .agg #[.int .i64 e.1, .int .i64 e.2]] w fun r w' => r = .returned (.tuple #[.agg #[.int .i64 0, .int .i64 0], .bool false]) ∧ Below w.heap.size w w' := by
  go_enter Try.func107, Try.ntmps107
  go_wp2
  have hn := heap_alloc_new ((w.alloc (.cells #[] 91)).alloc (.cells #[.int .i64 e.1, .int .i64 e.2] 113)) (.cells #[.int .i64 0, .int .i64 0] 113)
  simp only [World.size_alloc] at hn
  have hb : Below w.heap.size w (((w.alloc (.cells #[] 91)).alloc (.cells #[.int .i64 e.1, .int .i64 e.2] 113)).alloc (.cells #[.int .i64 0, .int .i64 0] 113)) := (((Below.refl _ _).alloc (Nat.le_refl _) _).alloc (by simp) _).alloc (by simp; omega) _
  exact bodyPost_ret (results_cells_tmp rfl _ _ _ _ _ rfl (two (EntIs.c0 (e := (0, 0)) hn) (EntIs.c1 (e := (0, 0)) hn)) Try.underlying113 rfl size_entry2) rfl ⟨rfl, hb⟩

theorem run_append_set {w : World} {B : Nat} {v u : Value} {s t : List KV} (hown : w.ownsRow B 113 2 v s.length (ents s)) (hu : SetAt w u t) (hl : s.length + t.length ≤ 1000) (hB : B ≤ w.heap.size) (ty : TypeId) :
    ∃ v' w', (Builtin.append_ #[116, 116] ty #[v, u]).run Try.prog w = .ok v' w' ∧ w'.ownsRow B 113 2 v' (s ++ t).length (ents (s ++ t)) ∧ w.grownBy w' v.ownBlock := by
  obtain ⟨i0, hi, hz0, hz1, hz2⟩ := info_parts info_entry
  rcases hu.form with ⟨rfl, rfl⟩ | ⟨b, cap, rfl, hr⟩
  · refine ⟨v, w, ?_, by simpa using hown, World.grownBy.refl w _⟩
    rcases hown.2 with ⟨rfl, _⟩ | ⟨g, c, cur, rfl, _, _, hnc, _⟩
    · simp [Builtin.append_, run_underlying Try.underlying116, sizeOf, typeInfo, hi, Builtin.lenOf, Builtin.firstCells]
    · simp [Builtin.append_, run_underlying Try.underlying116, sizeOf, typeInfo, hi, Builtin.lenOf, Builtin.firstCells, hnc, storeCells]
  · obtain ⟨v', w', hrun, h2, h3, _⟩ := run_append_own_at (P := Try.prog) w B 116 ty 113 i0 _ 2 16 Try.underlying116 hi hz0 hz1 hz2 rfl (by decide) v s.length (ents s) hown ⟨b, 0, none⟩ t.length cap (ents t) (ents_len t)
      (fun j x hj => by rw [Addr.add_lit, Nat.zero_add]; exact hr.cells j x hj) (ents_one t) (by unfold maxLen; omega) (by omega) hB
    refine ⟨v', w', hrun, ?_, h3⟩
    rw [List.length_append, ents_append]
    exact h2

theorem GrowE (k : Nat) (hk : k ≤ 64) (w : World) :
    Calls Try.prog 130 #[.slice none 0 0, .int .i64 k] w fun e w' => ∃ v, e = .returned v ∧ w'.ownsRow w.heap.size 113 2 v 0 [] ∧ Below w.heap.size w w' := by
  rcases Nat.eq_zero_or_pos k with rfl | h0
  · go_enter Try.func130, Try.ntmps130
    go_wp2
    go_ret
    exact ⟨_, rfl, World.ownsRow_nil _ _ _ _, Below.refl _ _⟩
  · obtain ⟨i0, hi0, hz0, hzs, hzb⟩ := info_parts info_entry
    have hold : (Builtin.firstCells i0.size 0 (.slice none 0 0)).run Try.prog w.drew = .ok ([] : List Value).toArray w.drew := by
      rw [hzs]
      exact run_firstCells_none w.drew 2 0 0 0
    have hrz : ∀ ty, _ := fun ty => Lib.run_append_grow_zeros (P := Try.prog) w 116 3 ty 113 i0 _ .i64 .i64 Try.underlying116 Try.underlying3 hi0 hz0 none 0 0 [] hold k (by omega) (by omega) (by omega) (by omega) (by rw [hzb]; omega) (by rw [hzb]; exact growslice_fits (by omega) (by omega))
    simp only [Nat.zero_add] at hrz
    have hge := grownCap_ge w k 0 113
    have hle := grownCap_le_maxLen w k 0 113 (by unfold maxLen; omega)
    have HB : ∀ G (ROW : Array Value), k ≤ G → G ≤ maxLen → ROW.size = G * 2 → Hid ((w.drew.alloc (.cells ROW 113)).ownsRow w.heap.size 113 2 (.slice (some ⟨w.heap.size, 0, none⟩) 0 G) 0 [] ∧ Below w.heap.size w (w.drew.alloc (.cells ROW 113))) := fun G ROW h1 h2 h3 => Lib.hid ⟨⟨rfl, .inr ⟨_, G, ROW, rfl, Nat.le_refl _, heap_alloc_new w.drew _, by omega, h2, h3, by simp⟩⟩, (Below.refl _ _).drew.alloc (Nat.le_refl _) _⟩
    have HBB := HB _ (([] : List Value).toArray ++ Builtin.zeroCells (Value.agg #[.int .i64 0, .int .i64 0]).cells k ++ Builtin.zeroCells (Value.agg #[.int .i64 0, .int .i64 0]).cells (grownCap w k 0 113 - k)) hge hle (by
      simp only [Array.size_append, List.size_toArray, List.length_nil, Builtin.zeroCells, Value.cells]
      simp
      omega)
    generalize ([] : List Value).toArray ++ Builtin.zeroCells (Value.agg #[.int .i64 0, .int .i64 0]).cells k ++ Builtin.zeroCells (Value.agg #[.int .i64 0, .int .i64 0]).cells (grownCap w k 0 113 - k) = ROW at hrz HBB
    generalize grownCap w k 0 113 = G at *
    have hG : G ≤ 9223372036854775807 := by unfold maxLen at hle; omega
    have hk0 : ¬ ((k : Int) ≤ 0) := by omega
    have hk1 : (0 : Int) < (k : Int) := by omega
    have hk2 : ¬ ((k : Int) < 0) := by omega
    clear hold HB hle hzb hzs hz0 hi0
    go_enter Try.func130, Try.ntmps130
    go_wp2_with (at_builtin; refine Lib.wpList_append_run _ rfl _ _ _ _ rfl _ _ rfl rfl _ _ (hrz _) ?_)
    go_ret
    exact ⟨_, rfl, HBB.out.1, HBB.out.2⟩

/-- The first k sets, one behind the other. -/
def cat (sets : List (List KV)) (k : Nat) : List KV := (sets.take k).flatten
theorem cat_succ (sets : List (List KV)) {k : Nat} (h : k < sets.length) : cat sets (k + 1) = cat sets k ++ sets[k] := by
  unfold cat
  rw [List.take_succ_eq_append_getElem h, List.flatten_append]
  simp
theorem cat_len (sets : List (List KV)) (hl : ∀ s ∈ sets, s.length ≤ 2) : ∀ k, k ≤ sets.length → (cat sets k).length ≤ 2 * k
  | 0, _ => by simp [cat]
  | k + 1, h => by
    have ih := cat_len sets hl k (by omega)
    have := hl sets[k] (List.getElem_mem _)
    rw [cat_succ sets (by omega), List.length_append]
    omega
theorem cat_all (sets : List (List KV)) : cat sets sets.length = sets.flatten := by unfold cat; rw [List.take_length]

theorem own_mono {w : World} {B B' : Nat} {e : TypeId} {size : Nat} {v : Value} {n : Nat} {xs : List Value} (h : w.ownsRow B e size v n xs) (hB : B' ≤ B) : w.ownsRow B' e size v n xs :=
  ⟨h.1, h.2.elim .inl fun ⟨q, c, cur, h1, h2, h3⟩ => .inr ⟨q, c, cur, h1, Nat.le_trans hB h2, h3⟩⟩

theorem ConcatE {w : World} {mu : Int} {bs g n : Nat} {odd : Bool} {vs : List Value} {sets : List (List KV)} (h : SevAt w mu bs g n odd vs sets) (hl : ∀ s ∈ sets, s.length ≤ 2) :
    Calls Try.prog 124 #[.slice (some ⟨g, 0, none⟩) n n] w fun e w' => ∃ v, e = .returned v ∧ w'.ownsRow w.heap.size 113 2 v sets.flatten.length (ents sets.flatten) ∧ Below w.heap.size w w' := by
  have H := Lib.hid h
  have HL := Lib.hid (cat_len sets hl)
  have HN := Lib.hid (And.intro h.cnt h.pos)
  have hn32 : n ≤ 32 := h.pos.2
  clear h hl
  go_enter Try.func124, Try.ntmps124
  go_wp2_with fail
  go_loopg [3, 5, 11] n (fun gk ul _ uk wr => ∃ k L : Nat, Hid (k + gk = n ∧ L = (cat sets k).length) ∧ ul = .int .i64 L ∧ uk = .int .i64 k ∧ L ≤ 64 ∧ Hid (Below w.heap.size w wr))
  case atStart => exact ⟨0, 0, Lib.hid ⟨Nat.zero_add _, rfl⟩, by go_num, by go_num, by omega, Lib.hid (Below.refl _ _)⟩
  case round =>
    obtain ⟨k, L, hk, rfl, rfl, hL, hB⟩ := hrel
    by_cases hlt : k < n
    · have hlt' : (k : Int) < (n : Int) := by omega
      have hks : k < sets.length := by rw [HN.out.1]; exact hlt
      have hkv : k < vs.length := by rw [H.out.len]; exact hks
      obtain ⟨a, cap, hv⟩ := (H.out.ss k _ _ (List.getElem?_eq_getElem hkv) (List.getElem?_eq_getElem hks)).slice
      have g0 := (H.out.below hB.out).row k _ (List.getElem?_eq_getElem hkv)
      rw [hv] at g0
      have HS : Hid (L + sets[k].length = (cat sets (k + 1)).length) := Lib.hid (by rw [cat_succ sets hks, List.length_append, ← hk.out.2])
      have hL2 : L + sets[k].length ≤ 64 := by rw [HS.out]; have := HL.out (k + 1) (by omega); omega
      clear hv
      generalize sets[k].length = m at g0 HS hL2
      go_wp2
      go_roundg (n - (k + 1))
      case measure => have := hk.out.1; omega
      case rel => exact ⟨k + 1, L + m, Lib.hid ⟨by have := hk.out.1; omega, HS.out⟩, by go_num, by go_num, hL2, hB⟩
    · have HLE : Hid (L = (cat sets n).length) := Lib.hid (by rw [hk.out.2]; congr 2; have := hk.out.1; omega)
      have HG := Lib.hid (GrowE L hL wr)
      clear hk
      go_wp2_with fail
      refine HG.out.mono ?_
      rintro e w1 ⟨v0, rfl, hown, hb⟩
      have HB1 := Lib.hid (hB.out.trans (hb.mono hB.out.size))
      have HOW : Hid (w1.ownsRow w.heap.size 113 2 v0 (cat sets 0).length (ents (cat sets 0))) := Lib.hid (own_mono hown hB.out.size)
      clear hown hb HG HLE hlt
      go_wp2_with fail
      go_loopg [6, 8, 27] n (fun gk uv _ uk wr => ∃ (k : Nat) (v : Value), Hid (k + gk = n) ∧ uv = v ∧ uk = .int .i64 k ∧ Hid (wr.ownsRow w.heap.size 113 2 v (cat sets k).length (ents (cat sets k)) ∧ Below w.heap.size w wr))
      case atStart => exact ⟨0, v0, Lib.hid (Nat.zero_add _), rfl, by go_num, Lib.hid ⟨HOW.out, HB1.out⟩⟩
      case round =>
        obtain ⟨k, v, hk, rfl, rfl, hB2⟩ := hrel
        by_cases hlt : k < n
        · have hlt' : (k : Int) < (n : Int) := by omega
          have hks : k < sets.length := by rw [HN.out.1]; exact hlt
          have hkv : k < vs.length := by rw [H.out.len]; exact hks
          have hset := (H.out.below hB2.out.2).ss k _ _ (List.getElem?_eq_getElem hkv) (List.getElem?_eq_getElem hks)
          have g0 := (H.out.below hB2.out.2).row k _ (List.getElem?_eq_getElem hkv)
          obtain ⟨a, cap, hv⟩ := hset.slice
          rw [hv] at g0 hset
          have hlen : (cat sets k).length + sets[k].length ≤ 1000 := by
            have h1 := HL.out (k + 1) (by omega)
            rw [cat_succ sets hks, List.length_append] at h1
            omega
          obtain ⟨v', w2, hrun, hown, hgrow⟩ := run_append_set hB2.out.1 hset hlen hB2.out.2.size 116
          rw [← cat_succ sets hks] at hown
          have HB3 : Hid (Below w.heap.size w w2) := Lib.hid (hB2.out.2.grown hgrow hB2.out.2.size (fun q hq => by
            rcases hB2.out.1.2 with ⟨h1, _⟩ | ⟨b, _, _, h1, h2, _⟩
            · rw [h1] at hq; cases hq
            · rw [h1] at hq
              simp [Value.ownBlock] at hq
              omega))
          have HO3 := Lib.hid hown
          clear hv hset hlen hown hgrow
          generalize sets[k].length = m at g0 hrun
          go_wp2_with (at_builtin; refine Lib.wpList_append_run _ rfl _ _ _ _ rfl _ _ rfl rfl _ _ hrun ?_)
          go_roundg (n - (k + 1))
          case measure => have := hk.out; omega
          case rel => exact ⟨k + 1, v', Lib.hid (by have := hk.out; omega), rfl, by go_num, Lib.hid ⟨HO3.out, HB3.out⟩⟩
        · have HE : Hid (cat sets k = sets.flatten) := Lib.hid (by rw [← cat_all]; congr 1; rw [HN.out.1]; have := hk.out; omega)
          have HR := Lib.hid hB2.out
          rw [HE.out] at HR
          clear hk hB2
          go_wp2
          go_ret
          exact ⟨_, rfl, HR.out.1, HR.out.2⟩

theorem own_new {w : World} {B : Nat} {e : TypeId} {size : Nat} {v : Value} {n : Nat} {xs : List Value} (h : w.ownsRow B e size v n xs) {k : Nat} (hk : v.ownBlock = some k) : B ≤ k := by
  rcases h.2 with ⟨rfl, _⟩ | ⟨q, c, cur, rfl, h2, _⟩
  · cases hk
  · simp [Value.ownBlock] at hk
    omega
theorem own_same {w w' : World} {B : Nat} {e : TypeId} {size : Nat} {v : Value} {n : Nat} {xs : List Value} (h : w.ownsRow B e size v n xs) (hb : ∀ k, v.ownBlock = some k → w'.heap[k]? = w.heap[k]?) : w'.ownsRow B e size v n xs :=
  ⟨h.1, h.2.elim .inl fun ⟨q, c, cur, h1, h2, h3, h4⟩ => .inr ⟨q, c, cur, h1, h2, (hb q (by rw [h1]; rfl)).trans h3, h4⟩⟩

theorem SAll {w : World} {bs g n : Nat} {odd : Bool} {vs : List Value} {sets : List (List KV)} (h : SevAt w 0 bs g n odd vs sets) (hl : ∀ s ∈ sets, s.length ≤ 2) :
    Calls Try.prog 118 #[.pointer (some ⟨bs, 0, none⟩)] w fun e w' => ∃ v, e = .returned v ∧ w'.ownsRow w.heap.size 113 2 v sets.flatten.length (ents sets.flatten) ∧ SevAt w' 0 bs g n odd vs sets ∧ Chg (Blk vs bs g) w w' := by
  have hlive := h.live (.inl rfl)
  have HL : Hid (Calls Try.prog 122 #[.pointer (some ⟨bs, 0, none⟩)] w fun r w1 => r = .returned (.tuple #[]) ∧ SevAt w1 1 bs g n odd vs sets ∧ Chg (Blk vs bs g) w w1) := Lib.hid ((lock_free muLib ⟨bs, 0, none⟩ w h.lck (h.thaw 0)).mono fun r w1 ⟨h1, h2⟩ => ⟨h1, by rw [h2]; exact ⟨h.lock 1, (Chg.refl _ _).setCell (a := ⟨bs, 0, none⟩) (.inr (.inl rfl)) _⟩⟩)
  have HLL := Lib.hid (And.intro hl hlive)
  clear h hl hlive
  go_enter_defers Try.func118, Try.ntmps118
  go_wp2_with fail
  refine HL.out.mono ?_
  rintro r w1 ⟨rfl, h1, hc⟩
  have H1 := Lib.hid (And.intro h1 hc)
  have g0 := h1.head
  have HC := Lib.hid (ConcatE h1 HLL.out.1)
  clear h1 hc HL
  go_wp2_with fail
  refine HC.out.mono ?_
  rintro r w2 ⟨v, rfl, hv, hb⟩
  have H2 := Lib.hid (H1.out.1.below hb)
  have HV := Lib.hid (own_mono hv H1.out.2.size)
  have HC2 : Hid (Chg (Blk vs bs g) w w2) := Lib.hid (H1.out.2.trans (Chg.of_below hb) fun k _ hk => hk)
  clear hb hv HC g0
  go_wp2
  refine leaves_cons (f := 123) (args := #[.pointer (some ⟨bs, 0, none⟩)]) (by simp) (by simp [go_sem]) ?_
  refine (unlock_deferred muLib ⟨bs, 0, none⟩ .returning _ H2.out.lck (H2.out.thaw 0)).mono ?_
  rintro e' u' w'' ⟨rfl, rfl, rfl⟩
  exact ⟨_, results_tmp rfl _ _ _, _, rfl, own_same HV.out (fun k hk => heap_setCell_other _ _ _ _ (fun e => by have h1 := own_new HV.out hk; have h2 := HLL.out.2; simp at e; omega)), H2.out.lock 0, HC2.out.setCell (a := ⟨bs, 0, none⟩) (.inr (.inl rfl)) _⟩

theorem SClear {w : World} {bs g n : Nat} {odd : Bool} {vs : List Value} {sets : List (List KV)} (h : SevAt w 0 bs g n odd vs sets) :
    Calls Try.prog 119 #[.pointer (some ⟨bs, 0, none⟩)] w fun e w' => e = .returned (.tuple #[]) ∧ Left w w' bs g n odd vs (List.replicate n []) := by
  have HL : Hid (Calls Try.prog 122 #[.pointer (some ⟨bs, 0, none⟩)] w fun r w1 => r = .returned (.tuple #[]) ∧ SevAt w1 1 bs g n odd vs sets ∧ Chg (Blk vs bs g) w w1) := Lib.hid ((lock_free muLib ⟨bs, 0, none⟩ w h.lck (h.thaw 0)).mono fun r w1 ⟨h1, h2⟩ => ⟨h1, by rw [h2]; exact ⟨h.lock 1, (Chg.refl _ _).setCell (a := ⟨bs, 0, none⟩) (.inr (.inl rfl)) _⟩⟩)
  have HN := Lib.hid (And.intro h.cnt (And.intro h.pos h.len))
  have hn32 : n ≤ 32 := h.pos.2
  clear h
  go_enter_defers Try.func119, Try.ntmps119
  go_wp2_with fail
  refine HL.out.mono ?_
  rintro r w1 ⟨rfl, h1, hc⟩
  have g0 := h1.head
  have H1 : Hid (SevAt w1 1 bs g n odd vs (List.replicate 0 [] ++ sets.drop 0) ∧ Chg (Blk vs bs g) w w1 ∧ ∀ k, Blk vs bs g k → Blk vs bs g k ∨ (w.heap.size ≤ k ∧ k < w1.heap.size)) := Lib.hid ⟨by simpa using h1, hc, fun k hk => .inl hk⟩
  clear h1 hc HL
  go_wp2_with fail
  clear g0
  go_loopg [2, 15] n (fun gk _ uk wr => ∃ (k : Nat), Hid (k + gk = n) ∧ uk = .int .i64 k ∧ Hid (∃ vs', SevAt wr 1 bs g n odd vs' (List.replicate k [] ++ sets.drop k) ∧ Chg (Blk vs bs g) w wr ∧ ∀ k, Blk vs' bs g k → Blk vs bs g k ∨ (w.heap.size ≤ k ∧ k < wr.heap.size)))
  case atStart => exact ⟨0, Lib.hid (Nat.zero_add _), by go_num, Lib.hid ⟨vs, H1.out⟩⟩
  case round =>
    obtain ⟨k, hk, rfl, hB⟩ := hrel
    obtain ⟨vs', h1, h2, h3⟩ := hB.out
    have H2 := Lib.hid (And.intro h1 (And.intro h2 h3))
    by_cases hlt : k < n
    · have hlt' : (k : Int) < (n : Int) := by omega
      have hks : k < sets.length := by rw [HN.out.1]; exact hlt
      have hkv : k < vs'.length := by rw [h1.len]; simp; omega
      have hv := List.getElem?_eq_getElem hkv
      have HS := Lib.hid (h1.step (v' := .slice none 0 0) (s' := []) hv ⟨Chg.refl _ _, fun k hk => by cases hk⟩ (World.ownsRow_nil _ _ _ _))
      have HE : Hid ((List.replicate k [] ++ sets.drop k).set k [] = List.replicate (k + 1) [] ++ sets.drop (k + 1)) := Lib.hid (by
        rw [List.set_append_right _ _ (by simp), List.length_replicate, Nat.sub_self, List.drop_eq_getElem_cons hks, List.set_cons_zero, List.replicate_succ', List.append_assoc]
        rfl)
      have g0 := h1.head
      have g1 := h1.row _ _ hv
      have g2 := h1.thawg k
      clear h1 h2 h3 hv
      generalize vs'[k] = u at g1
      go_wp2
      go_roundg (n - (k + 1))
      case measure => have := hk.out; omega
      case rel =>
        refine ⟨k + 1, Lib.hid (by have := hk.out; omega), by go_num, Lib.hid ⟨_, by rw [← HE.out]; exact HS.out.1, H2.out.2.1.trans HS.out.2.1 fun q hq hb => (H2.out.2.2 q hb).elim id fun h => by omega, fun q hq => ?_⟩⟩
        rcases HS.out.2.2 q hq with h | ⟨h4, h5⟩
        · rcases H2.out.2.2 q h with h | ⟨h4, h5⟩
          · exact .inl h
          · exact .inr ⟨h4, by simp; omega⟩
        · exact absurd h5 (by omega)
    · have HE : Hid (List.replicate k [] ++ sets.drop k = List.replicate n []) := Lib.hid (by
        have hkn : k = n := by have := hk.out; omega
        rw [hkn, List.drop_of_length_le (by rw [HN.out.1]; omega), List.append_nil])
      clear h1 h2 h3 hk
      go_wp2
      refine leaves_cons (f := 123) (args := #[.pointer (some ⟨bs, 0, none⟩)]) (by simp) (by simp [go_sem]) ?_
      refine (unlock_deferred muLib ⟨bs, 0, none⟩ .returning _ H2.out.1.lck (H2.out.1.thaw 0)).mono ?_
      rintro e' u' w'' ⟨rfl, rfl, rfl⟩
      refine ⟨_, results_none rfl _ _ _, rfl, vs', by rw [← HE.out]; exact H2.out.1.lock 0, H2.out.2.1.setCell (a := ⟨bs, 0, none⟩) (.inr (.inl rfl)) _, fun q hq => ?_⟩
      rcases H2.out.2.2 q hq with h | ⟨h4, h5⟩
      · exact .inl h
      · exact .inr ⟨h4, by simpa using h5⟩
end Go.Proofs.Ytonfmgdikgedfaa.Cm
