/- Caches: a cache in memory; its methods. -/
import Derived.Test.YtonfmgdikgedfaaCc
set_option maxRecDepth 100000
set_option maxHeartbeats 1000000
set_option linter.unusedVariables false
set_option linter.unusedSimpArgs false
namespace Go.Proofs.Ytonfmgdikgedfaa.Cm
open Go.RowKit Bs Go.Lib Go.MuLone

/-- What keeps the entries, in memory; S: the blocks that it may turn. -/
def StoreAt (S : Nat → Prop) (w : World) (iv : Value) (c : CM) : Prop :=
  (c.n = 0 ∧ iv = .iface 91 (.agg #[])) ∨
  (c.n = 1 ∧ ∃ b s q, iv = .iface 96 (.pointer (some ⟨b, 0, none⟩)) ∧ c.sets = [s] ∧ SingleAt w b s q ∧ ∀ k, Blk1 b q k → S k) ∨
  (2 ≤ c.n ∧ ∃ bs g vs, iv = .iface 104 (.pointer (some ⟨bs, 0, none⟩)) ∧ SevAt w 0 bs g (nSets c.n) (decide (c.n % 2 = 1)) vs c.sets ∧ ∀ k, Blk vs bs g k → S k)
theorem StoreAt.alike {S T : Nat → Prop} {w w' : World} {iv : Value} {c : CM} (h : StoreAt S w iv c) (ha : ∀ k, S k → w'.heap[k]? = w.heap[k]?) (hT : ∀ k, S k → T k) : StoreAt T w' iv c := by
  rcases h with h | ⟨h, b, s, q, h1, h2, h3, h4⟩ | ⟨h, bs, g, vs, h1, h2, h3⟩
  · exact .inl h
  · exact .inr (.inl ⟨h, b, s, q, h1, h2, h3.alike fun k hk => ha k (h4 k hk), fun k hk => hT k (h4 k hk)⟩)
  · exact .inr (.inr ⟨h, bs, g, vs, h1, h2.alike fun k hk => ha k (h3 k hk), fun k hk => hT k (h3 k hk)⟩)
theorem StoreAt.live {S : Nat → Prop} {w : World} {iv : Value} {c : CM} (h : StoreAt S w iv c) : True := trivial

/-- A cache in memory: block bc; S: all blocks that it may turn. -/
structure CacheAt (S : Nat → Prop) (w : World) (bc : Nat) (c : CM) : Prop where
  wf : c.WF
  iv : ∃ iv, w.cell? ⟨bc, 0, none⟩ = some iv ∧ StoreAt (fun k => S k ∧ k ≠ bc) w iv c
  ht : w.cell? ⟨bc, 1, none⟩ = some (.int .i64 c.hit)
  ms : w.cell? ⟨bc, 2, none⟩ = some (.int .i64 c.miss)
  thaw : ∀ j, w.frozen? ⟨bc, j, none⟩ = false
  own : S bc
  live : ∀ k, S k → k < w.heap.size
theorem CacheAt.alike {S : Nat → Prop} {w w' : World} {bc : Nat} {c : CM} (h : CacheAt S w bc c) (ha : ∀ k, S k → w'.heap[k]? = w.heap[k]?) (hs : w.heap.size ≤ w'.heap.size) : CacheAt S w' bc c where
  wf := h.wf
  iv := by
    obtain ⟨iv, h1, h2⟩ := h.iv
    exact ⟨iv, (World.cell?_of_block (w := w) (a := ⟨bc, 0, none⟩) (ha _ h.own)).trans h1, h2.alike (fun k hk => ha k hk.1) fun k hk => hk⟩
  ht := (World.cell?_of_block (w := w) (a := ⟨bc, 1, none⟩) (ha _ h.own)).trans h.ht
  ms := (World.cell?_of_block (w := w) (a := ⟨bc, 2, none⟩) (ha _ h.own)).trans h.ms
  thaw := fun j => (World.frozen?_of_block (w := w) (a := ⟨bc, j, none⟩) (ha _ h.own)).trans (h.thaw j)
  own := h.own
  live := fun k hk => Nat.lt_of_lt_of_le (h.live k hk) hs
theorem CacheAt.below {S : Nat → Prop} {w w' : World} {bc : Nat} {c : CM} (h : CacheAt S w bc c) (hb : Below w.heap.size w w') : CacheAt S w' bc c := h.alike (fun k hk => hb.block k (h.live k hk)) hb.size

/-- What a call on a cache leaves. -/
def Next (S : Nat → Prop) (w w' : World) (bc : Nat) (c : CM) : Prop := ∃ S', CacheAt S' w' bc c ∧ Chg S w w' ∧ ∀ k, S' k → S k ∨ w.heap.size ≤ k

theorem roomB_eq (n i : Nat) : roomB (decide (n % 2 = 1)) (nSets n) i = roomAt n i := by
  unfold roomB roomAt
  by_cases h : n % 2 = 1 <;> simp [h]
theorem getS_one {s : List KV} (h : s.length ≤ 1) (k : Int) : getS s k = s := by
  rcases s with _ | ⟨e, _ | ⟨f, r⟩⟩
  · rfl
  · unfold getS
    by_cases hk : e.1 = k <;> simp [ent?, wo, hk]
  · simp at h

theorem add64 (x y : Int) (w : World) : (Op.intArith .add .i64 x y).run Try.prog w = .ok (.int .i64 (wrap64 (x + y))) w := by
  simp [go_sem, wrap64, IntKind.wrap_i64]
theorem I64Load (a : Addr) (x : Int) (w : World) (h : w.cell? a = some (.int .i64 x)) :
    Calls Try.prog 35 #[.pointer (some a)] w fun e w' => e = .returned (.int .i64 x) ∧ w = w' := by
  have hl := run_call_load (P := Try.prog) Try.func53 (by kernel_rfl) (by kernel_rfl) (by kernel_rfl) .i64 (by kernel_rfl) h
  go_enter Try.func35, Try.ntmps35
  go_wp2
  go_ret
  exact ⟨rfl, rfl⟩
theorem I64LoadQ (a : Addr) (x : Int) (w : World) (h : w.cell? a = some (.int .i64 x)) :
    Calls Try.prog 35 #[.pointer (some a)] w fun e w' => e = .returned (.int .i64 x) ∧ w' = w := (I64Load a x w h).mono fun _ _ ⟨a, b⟩ => ⟨a, b.symm⟩
theorem I64Add (a : Addr) (x y : Int) (w : World) (h : w.cell? a = some (.int .i64 x)) (hz : w.frozen? a = false) :
    Calls Try.prog 34 #[.pointer (some a), .int .i64 y] w fun e w' => e = .returned (.int .i64 (wrap64 (x + y))) ∧ w' = w.setCell a (.int .i64 (wrap64 (x + y))) := by
  have hl := run_call_add (P := Try.prog) Try.func52 (by kernel_rfl) (by kernel_rfl) (by kernel_rfl) .i64 (by kernel_rfl) h hz (add64 x y w)
  go_enter Try.func34, Try.ntmps34
  go_wp2
  go_ret
  exact ⟨rfl, rfl⟩

theorem m_get0 (w : World) : (method 293 91 (.agg #[]) "arbiter/cache.get").run Try.prog w = .ok (106, .agg #[]) w := by kernel_rfl
theorem m_get1 (b : Nat) (w : World) : (method 293 96 (.pointer (some ⟨b, 0, none⟩)) "arbiter/cache.get").run Try.prog w = .ok (110, .pointer (some ⟨b, 0, none⟩)) w := by kernel_rfl
theorem m_get2 (b : Nat) (w : World) : (method 293 104 (.pointer (some ⟨b, 0, none⟩)) "arbiter/cache.get").run Try.prog w = .ok (120, .pointer (some ⟨b, 0, none⟩)) w := by kernel_rfl
theorem m_put0 (w : World) : (method 293 91 (.agg #[]) "arbiter/cache.put").run Try.prog w = .ok (107, .agg #[]) w := by kernel_rfl
theorem m_put1 (b : Nat) (w : World) : (method 293 96 (.pointer (some ⟨b, 0, none⟩)) "arbiter/cache.put").run Try.prog w = .ok (111, .pointer (some ⟨b, 0, none⟩)) w := by kernel_rfl
theorem m_put2 (b : Nat) (w : World) : (method 293 104 (.pointer (some ⟨b, 0, none⟩)) "arbiter/cache.put").run Try.prog w = .ok (121, .pointer (some ⟨b, 0, none⟩)) w := by kernel_rfl
theorem m_all0 (w : World) : (method 293 91 (.agg #[]) "arbiter/cache.all").run Try.prog w = .ok (104, .agg #[]) w := by kernel_rfl
theorem m_all1 (b : Nat) (w : World) : (method 293 96 (.pointer (some ⟨b, 0, none⟩)) "arbiter/cache.all").run Try.prog w = .ok (108, .pointer (some ⟨b, 0, none⟩)) w := by kernel_rfl
theorem m_all2 (b : Nat) (w : World) : (method 293 104 (.pointer (some ⟨b, 0, none⟩)) "arbiter/cache.all").run Try.prog w = .ok (118, .pointer (some ⟨b, 0, none⟩)) w := by kernel_rfl
theorem m_clear0 (w : World) : (method 293 91 (.agg #[]) "arbiter/cache.clear").run Try.prog w = .ok (105, .agg #[]) w := by kernel_rfl
theorem m_clear1 (b : Nat) (w : World) : (method 293 96 (.pointer (some ⟨b, 0, none⟩)) "arbiter/cache.clear").run Try.prog w = .ok (109, .pointer (some ⟨b, 0, none⟩)) w := by kernel_rfl
theorem m_clear2 (b : Nat) (w : World) : (method 293 104 (.pointer (some ⟨b, 0, none⟩)) "arbiter/cache.clear").run Try.prog w = .ok (119, .pointer (some ⟨b, 0, none⟩)) w := by kernel_rfl

/-- What a call on what keeps the entries leaves. -/
def SNext (S : Nat → Prop) (w w' : World) (iv : Value) (c : CM) : Prop := ∃ S', StoreAt S' w' iv c ∧ Chg S w w' ∧ ∀ k, S' k → S k ∨ (w.heap.size ≤ k ∧ k < w'.heap.size)
theorem SNext.of_left {S : Nat → Prop} {w w' : World} {bs g : Nat} {vs : List Value} {c : CM} (hn : 2 ≤ c.n) (hS : ∀ k, Blk vs bs g k → S k) (h : Left w w' bs g (nSets c.n) (decide (c.n % 2 = 1)) vs c.sets) : SNext S w w' (.iface 104 (.pointer (some ⟨bs, 0, none⟩))) c := by
  obtain ⟨vs', h1, h2, h3⟩ := h
  exact ⟨Blk vs' bs g, .inr (.inr ⟨hn, bs, g, vs', rfl, h1, fun k hk => hk⟩), h2.mono fun k _ hk => hS k hk, fun k hk => (h3 k hk).imp (hS k) id⟩

/-- The store's methods, of whatever kind. -/
theorem store_get {S : Nat → Prop} {w : World} {iv : Value} {c : CM} (h : StoreAt S w iv c) (hc : c.WF) (key : Int) :
    ∃ (t : Nat) (x : Value) (f : Nat), iv = .iface t x ∧ (∀ w, (method 293 t x "arbiter/cache.get").run Try.prog w = .ok (f, x) w) ∧ (∀ args w, (callFunc f args).run Try.prog w = .ok (.enter f args) w) ∧
      Calls Try.prog f #[x, .int .i64 key] w fun e w' => e = .returned (.tuple #[.int .i64 (c.get key).1, .bool (c.get key).2]) ∧ SNext S w w' iv (c.got key) := by
  rcases h with ⟨h0, rfl⟩ | ⟨h1, b, s, q, rfl, hs, hA, hS⟩ | ⟨h2, bs, g, vs, rfl, hA, hS⟩
  · refine ⟨_, _, _, rfl, m_get0, run_callFunc_enter Try.func106 (by kernel_rfl) rfl, (NGet key w).mono ?_⟩
    rintro e w' ⟨rfl, hb⟩
    have e1 : c.get key = (0, false) := by unfold CM.get; rw [hc.at_zero h0]; rfl
    rw [e1]
    exact ⟨rfl, fun _ => False, .inl ⟨h0, rfl⟩, Chg.of_below hb, fun k hk => hk.elim⟩
  · refine ⟨_, _, _, rfl, m_get1 b, run_callFunc_enter Try.func110 (by kernel_rfl) rfl, (SgGet hA key).mono ?_⟩
    rintro e w' ⟨rfl, rfl⟩
    have hno : c.no key = 0 := by have := hc.no_lt (by omega) key; rw [hs] at this; simpa using this
    have hat : c.at key = s := by unfold CM.at; rw [hno, hs]; rfl
    have e1 : c.get key = getV s key := by unfold CM.get; rw [hat]
    have hl := hc.at_len key
    rw [hat, hno, h1] at hl
    have e2 : (c.got key).sets = [s] := by
      show c.sets.set (c.no key) (getS (c.at key) key) = _
      rw [hno, hat, hs, getS_one (show s.length ≤ 1 from hl)]
      rfl
    rw [e1]
    exact ⟨rfl, S, .inr (.inl ⟨h1, b, s, q, rfl, e2, hA, hS⟩), Chg.refl _ _, fun k hk => .inl hk⟩
  · have hp : 0 < c.n := by omega
    have hat := hc.at_eq hp key
    have hl : (c.at key).length ≤ 2 := Nat.le_trans (hc.at_len key) (by unfold roomAt; split <;> omega)
    refine ⟨_, _, _, rfl, m_get2 bs, run_callFunc_enter Try.func120 (by kernel_rfl) rfl, (SGet hA key (s := c.at key) (by rw [hat]; exact List.getElem?_eq_getElem _) hl (hc.at_nodup key)).mono ?_⟩
    rintro e w' ⟨rfl, hL⟩
    exact ⟨rfl, SNext.of_left (c := c.got key) h2 hS hL⟩
theorem store_put {S : Nat → Prop} {w : World} {iv : Value} {c : CM} (h : StoreAt S w iv c) (hc : c.WF) (x : KV) :
    ∃ (t : Nat) (y : Value) (f : Nat), iv = .iface t y ∧ (∀ w, (method 293 t y "arbiter/cache.put").run Try.prog w = .ok (f, y) w) ∧ (∀ args w, (callFunc f args).run Try.prog w = .ok (.enter f args) w) ∧
      Calls Try.prog f #[y, .agg #[.int .i64 x.1, .int .i64 x.2]] w fun e w' => e = .returned (.tuple #[.agg #[.int .i64 (dropV (c.drop x)).1.1, .int .i64 (dropV (c.drop x)).1.2], .bool (dropV (c.drop x)).2]) ∧ SNext S w w' iv (c.put x) := by
  rcases h with ⟨h0, rfl⟩ | ⟨h1, b, s, q, rfl, hs, hA, hS⟩ | ⟨h2, bs, g, vs, rfl, hA, hS⟩
  · refine ⟨_, _, _, rfl, m_put0, run_callFunc_enter Try.func107 (by kernel_rfl) rfl, (NPut x w).mono ?_⟩
    rintro e w' ⟨rfl, hb⟩
    have e1 : c.drop x = none := by unfold CM.drop; rw [if_pos h0]
    rw [e1]
    exact ⟨rfl, fun _ => False, .inl ⟨h0, rfl⟩, Chg.of_below hb, fun k hk => hk.elim⟩
  · refine ⟨_, _, _, rfl, m_put1 b, run_callFunc_enter Try.func111 (by kernel_rfl) rfl, (SgPut hA x).mono ?_⟩
    rintro e w' ⟨rfl, hA', hch, hlt⟩
    have hno : c.no x.1 = 0 := by have := hc.no_lt (by omega) x.1; rw [hs] at this; simpa using this
    have hat : c.at x.1 = s := by unfold CM.at; rw [hno, hs]; rfl
    have hr : roomAt c.n 0 = 1 := by rw [h1]; rfl
    have e1 : c.drop x = putD 1 s x := by unfold CM.drop; rw [if_neg (by omega), hat, hno, hr]
    have e2 : (c.put x).sets = [putS 1 s x] := by
      show c.sets.set (c.no x.1) (putS (roomAt c.n (c.no x.1)) (c.at x.1) x) = _
      rw [hno, hat, hs, hr]
      rfl
    rw [e1]
    refine ⟨rfl, Blk1 b (some w.heap.size), .inr (.inl ⟨h1, b, _, _, rfl, e2, hA', fun k hk => hk⟩), hch.mono fun k _ hk => hS k hk, fun k hk => ?_⟩
    rcases hk with rfl | hk
    · exact .inl (hS _ (.inl rfl))
    · obtain rfl := Option.some.inj hk
      exact .inr ⟨Nat.le_refl _, hlt⟩
  · have hp : 0 < c.n := by omega
    have hat := hc.at_eq hp x.1
    have hl : (c.at x.1).length ≤ 2 := Nat.le_trans (hc.at_len x.1) (by unfold roomAt; split <;> omega)
    have := SPut hA x (s := c.at x.1) (by rw [hat]; exact List.getElem?_eq_getElem _) hl (hc.at_nodup x.1)
    rw [roomB_eq] at this
    refine ⟨_, _, _, rfl, m_put2 bs, run_callFunc_enter Try.func121 (by kernel_rfl) rfl, this.mono ?_⟩
    rintro e w' ⟨rfl, hL⟩
    have e1 : c.drop x = putD (roomAt c.n (c.no x.1)) (c.at x.1) x := by unfold CM.drop; rw [if_neg (by omega)]
    rw [e1]
    exact ⟨rfl, SNext.of_left (c := c.put x) h2 hS hL⟩
theorem store_all {S : Nat → Prop} {w : World} {iv : Value} {c : CM} (h : StoreAt S w iv c) (hc : c.WF) :
    ∃ (t : Nat) (x : Value) (f : Nat), iv = .iface t x ∧ (∀ w, (method 293 t x "arbiter/cache.all").run Try.prog w = .ok (f, x) w) ∧ (∀ args w, (callFunc f args).run Try.prog w = .ok (.enter f args) w) ∧
      Calls Try.prog f #[x] w fun e w' => ∃ v, e = .returned v ∧ w'.ownsRow w.heap.size 113 2 v c.all.length (ents c.all) ∧ StoreAt S w' iv c ∧ Chg S w w' := by
  rcases h with ⟨h0, rfl⟩ | ⟨h1, b, s, q, rfl, hs, hA, hS⟩ | ⟨h2, bs, g, vs, rfl, hA, hS⟩
  · refine ⟨_, _, _, rfl, m_all0, run_callFunc_enter Try.func104 (by kernel_rfl) rfl, (NAll w).mono ?_⟩
    rintro e w' ⟨rfl, hb⟩
    have e1 : c.all = [] := by unfold CM.all; rw [hc.zero h0]; rfl
    rw [e1]
    exact ⟨_, rfl, World.ownsRow_nil _ _ _ _, .inl ⟨h0, rfl⟩, Chg.of_below hb⟩
  · refine ⟨_, _, _, rfl, m_all1 b, run_callFunc_enter Try.func108 (by kernel_rfl) rfl, (SgAll hA).mono ?_⟩
    rintro e w' ⟨v, rfl, hv, hb⟩
    have e1 : c.all = s := by unfold CM.all; rw [hs]; simp
    rw [e1]
    exact ⟨v, rfl, hv, .inr (.inl ⟨h1, b, s, q, rfl, hs, hA.alike fun k hk => hb.block k (hA.live hk), hS⟩), Chg.of_below hb⟩
  · refine ⟨_, _, _, rfl, m_all2 bs, run_callFunc_enter Try.func118 (by kernel_rfl) rfl, (SAll hA (fun s hs => ?_)).mono ?_⟩
    · obtain ⟨i, hi, rfl⟩ := List.getElem_of_mem hs
      exact Nat.le_trans (hc.room i hi) (by unfold roomAt; split <;> omega)
    · rintro e w' ⟨v, rfl, hv, hA', hch⟩
      exact ⟨v, rfl, hv, .inr (.inr ⟨h2, bs, g, vs, rfl, hA', hS⟩), hch.mono fun k _ hk => hS k hk⟩
theorem store_clear {S : Nat → Prop} {w : World} {iv : Value} {c : CM} (h : StoreAt S w iv c) (hc : c.WF) :
    ∃ (t : Nat) (x : Value) (f : Nat), iv = .iface t x ∧ (∀ w, (method 293 t x "arbiter/cache.clear").run Try.prog w = .ok (f, x) w) ∧ (∀ args w, (callFunc f args).run Try.prog w = .ok (.enter f args) w) ∧
      Calls Try.prog f #[x] w fun e w' => e = .returned (.tuple #[]) ∧ SNext S w w' iv c.clear := by
  rcases h with ⟨h0, rfl⟩ | ⟨h1, b, s, q, rfl, hs, hA, hS⟩ | ⟨h2, bs, g, vs, rfl, hA, hS⟩
  · refine ⟨_, _, _, rfl, m_clear0, run_callFunc_enter Try.func105 (by kernel_rfl) rfl, (NClear w).mono ?_⟩
    rintro e w' ⟨rfl, hb⟩
    exact ⟨rfl, fun _ => False, .inl ⟨h0, rfl⟩, Chg.of_below hb, fun k hk => hk.elim⟩
  · refine ⟨_, _, _, rfl, m_clear1 b, run_callFunc_enter Try.func109 (by kernel_rfl) rfl, (SgClear hA).mono ?_⟩
    rintro e w' ⟨rfl, hA', hch⟩
    refine ⟨rfl, Blk1 b none, .inr (.inl ⟨h1, b, [], none, rfl, ?_, hA', fun k hk => hk⟩), hch.mono fun k _ hk => hS k hk, fun k hk => ?_⟩
    · show List.replicate (nSets c.n) [] = _
      rw [h1]; rfl
    · rcases hk with rfl | hk
      · exact .inl (hS _ (.inl rfl))
      · cases hk
  · refine ⟨_, _, _, rfl, m_clear2 bs, run_callFunc_enter Try.func119 (by kernel_rfl) rfl, (SClear hA).mono ?_⟩
    rintro e w' ⟨rfl, hL⟩
    exact ⟨rfl, SNext.of_left (c := c.clear) h2 hS hL⟩

theorem CacheAt.next {S : Nat → Prop} {w w' : World} {bc : Nat} {c c' : CM} {iv : Value} (h : CacheAt S w bc c) (hiv : w.cell? ⟨bc, 0, none⟩ = some iv) (hn : SNext (fun k => S k ∧ k ≠ bc) w w' iv c') (hc' : c'.WF) (e1 : c'.hit = c.hit) (e2 : c'.miss = c.miss) :
    Next S w w' bc c' := by
  obtain ⟨S', h1, h2, h3⟩ := hn
  have hb : w'.heap[bc]? = w.heap[bc]? := h2.block bc (h.live bc h.own) fun hk => hk.2 rfl
  have hne : ∀ k, S' k → k ≠ bc := fun k hk => (h3 k hk).elim (fun h => h.2) fun h4 => by have := h.live bc h.own; omega
  refine ⟨fun k => S' k ∨ k = bc, ⟨hc', ⟨iv, (World.cell?_of_block (w := w) (a := ⟨bc, 0, none⟩) hb).trans hiv, h1.alike (fun _ _ => rfl) fun k hk => ⟨.inl hk, hne k hk⟩⟩, ?_, ?_, fun j => ?_, .inr rfl, fun k hk => ?_⟩, h2.mono fun k _ hk => hk.1, fun k hk => ?_⟩
  · rw [e1]; exact (World.cell?_of_block (w := w) (a := ⟨bc, 1, none⟩) hb).trans h.ht
  · rw [e2]; exact (World.cell?_of_block (w := w) (a := ⟨bc, 2, none⟩) hb).trans h.ms
  · exact (World.frozen?_of_block (w := w) (a := ⟨bc, j, none⟩) hb).trans (h.thaw j)
  · rcases hk with hk | rfl
    · rcases h3 k hk with h4 | h4
      · exact Nat.lt_of_lt_of_le (h.live k h4.1) h2.size
      · exact h4.2
    · exact Nat.lt_of_lt_of_le (h.live _ h.own) h2.size
  · rcases hk with hk | rfl
    · exact (h3 k hk).imp (fun h => h.1) fun h => h.1
    · exact .inl h.own
/-- A count turns. -/
theorem CacheAt.count {S : Nat → Prop} {w : World} {bc : Nat} {c c' : CM} (h : CacheAt S w bc c) (j : Nat) (x : Int) (hj : j = 1 ∨ j = 2) (hn : c'.n = c.n) (hs : c'.sets = c.sets) (e1 : c'.hit = if j = 1 then x else c.hit) (e2 : c'.miss = if j = 2 then x else c.miss) :
    CacheAt S (w.setCell ⟨bc, j, none⟩ (.int .i64 x)) bc c' ∧ Chg S w (w.setCell ⟨bc, j, none⟩ (.int .i64 x)) := by
  have hwf : c'.WF := ⟨by rw [hn]; exact h.wf.cap, by rw [hs, hn]; exact h.wf.len, fun i hi => by simp only [hs, hn]; exact h.wf.room i (by rw [← hs]; exact hi), fun i hi => by simp only [hs, hn]; exact h.wf.keys i (by rw [← hs]; exact hi)⟩
  refine ⟨⟨hwf, ?_, ?_, ?_, fun i => ?_, h.own, fun k hk => by simpa using h.live k hk⟩, (Chg.refl _ _).setCell (a := ⟨bc, j, none⟩) (.inr h.own) _⟩
  · obtain ⟨iv, h1, h2⟩ := h.iv
    refine ⟨iv, (setCell_off (by omega)).trans h1, ?_⟩
    have h3 : StoreAt (fun k => S k ∧ k ≠ bc) (w.setCell ⟨bc, j, none⟩ (.int .i64 x)) iv c := h2.alike (fun k hk => heap_setCell_other _ _ _ _ hk.2) fun k hk => hk
    unfold StoreAt at h3 ⊢
    rw [hn, hs]
    exact h3
  · rcases hj with rfl | rfl
    · rw [e1]; exact setCell_same h.ht
    · rw [e1]; exact (setCell_off (by omega)).trans h.ht
  · rcases hj with rfl | rfl
    · rw [e2]; exact (setCell_off (by omega)).trans h.ms
    · rw [e2]; exact setCell_same h.ms
  · rw [World.frozen?_setCell]; exact h.thaw i
theorem Next.trans {S : Nat → Prop} {w w1 w2 : World} {bc : Nat} {c c' : CM} (h : Next S w w1 bc c) (h' : ∀ S', CacheAt S' w1 bc c → (∀ k, S' k → S k ∨ w.heap.size ≤ k) → Next S' w1 w2 bc c') : Next S w w2 bc c' := by
  obtain ⟨S', h1, h2, h3⟩ := h
  obtain ⟨S'', h4, h5, h6⟩ := h' S' h1 h3
  exact ⟨S'', h4, h2.trans h5 fun k hk hs => (h3 k hs).elim id fun h => by omega, fun k hk => (h6 k hk).elim (h3 k) fun h => .inr (Nat.le_trans h2.size h)⟩

theorem CGet {S : Nat → Prop} {w : World} {bc : Nat} {c : CM} (h : CacheAt S w bc c) (key : Int) :
    Calls Try.prog 27 #[.pointer (some ⟨bc, 0, none⟩), .int .i64 key] w fun e w' => e = .returned (.tuple #[.int .i64 (c.get key).1, .bool (c.get key).2]) ∧ Next S w w' bc (c.got key) := by
  obtain ⟨iv, g0, hst⟩ := h.iv
  obtain ⟨t, x, f, rfl, hm, hce, hcall⟩ := store_get hst h.wf key
  have HC := Lib.hid hcall
  have HN : Hid (∀ w1, SNext (fun k => S k ∧ k ≠ bc) w w1 (.iface t x) (c.got key) → Next S w w1 bc { c.got key with hit := c.hit, miss := c.miss }) := Lib.hid fun w1 hn => by
    refine h.next g0 ?_ ?_ rfl rfl
    · obtain ⟨S', h1, h2⟩ := hn
      exact ⟨S', h1, h2⟩
    · have := h.wf.got key
      exact ⟨this.cap, this.len, this.room, this.keys⟩
  have hm' := hm w
  have hce' := hce #[x, .int .i64 key] w
  clear h hst hcall hm hce
  have hgot : c.got key = { c.got key with hit := if (c.get key).2 = true then wrap64 (c.hit + 1) else c.hit, miss := if (c.get key).2 = true then c.miss else wrap64 (c.miss + 1) } := rfl
  have HG := Lib.hid hgot
  clear hgot
  generalize c.get key = r at *
  obtain ⟨rv, rb⟩ := r
  go_enter Try.func27, Try.ntmps27
  go_wp2_with fail
  refine HC.out.mono ?_
  rintro e w1 ⟨rfl, hn⟩
  have hnx := HN.out w1 hn
  have HNX := Lib.hid hnx
  obtain ⟨S1, h1, h2, h3⟩ := hnx
  have g1 := h1.ht
  have g2 := h1.ms
  have g3 := h1.thaw 1
  have g4 := h1.thaw 2
  have H1 := Lib.hid (And.intro h1 (And.intro h2 h3))
  clear hn h1 h2 h3 HN HC hm' hce' g0
  cases rb
  · have HA := Lib.hid (I64Add ⟨bc, 2, none⟩ c.miss 1 w1 g2 g4)
    go_wp2_with fail
    refine HA.out.mono ?_
    rintro e w2 ⟨rfl, rfl⟩
    clear g1 g2 g3 g4
    go_wp2
    go_ret2
    refine ⟨rfl, HNX.out.trans fun S' hc hs => ?_⟩
    obtain ⟨k1, k2⟩ := hc.count (c' := c.got key) 2 (wrap64 (c.miss + 1)) (.inr rfl) rfl rfl (by rw [HG.out]; rfl) (by rw [HG.out]; rfl)
    exact ⟨S', k1, k2, fun k hk => .inl hk⟩
  · have HA := Lib.hid (I64Add ⟨bc, 1, none⟩ c.hit 1 w1 g1 g3)
    go_wp2_with fail
    refine HA.out.mono ?_
    rintro e w2 ⟨rfl, rfl⟩
    clear g1 g2 g3 g4
    go_wp2
    go_ret2
    refine ⟨rfl, HNX.out.trans fun S' hc hs => ?_⟩
    obtain ⟨k1, k2⟩ := hc.count (c' := c.got key) 1 (wrap64 (c.hit + 1)) (.inl rfl) rfl rfl (by rw [HG.out]; rfl) (by rw [HG.out]; rfl)
    exact ⟨S', k1, k2, fun k hk => .inl hk⟩

theorem CPut {S : Nat → Prop} {w : World} {bc : Nat} {c : CM} (h : CacheAt S w bc c) (x : KV) :
    Calls Try.prog 25 #[.pointer (some ⟨bc, 0, none⟩), .int .i64 x.1, .int .i64 x.2] w fun e w' => e = .returned (.tuple #[.int .i64 (dropV (c.drop x)).1.1, .int .i64 (dropV (c.drop x)).1.2, .bool (dropV (c.drop x)).2]) ∧ Next S w w' bc (c.put x) := by
  obtain ⟨iv, g0, hst⟩ := h.iv
  obtain ⟨t, y, f, rfl, hm, hce, hcall⟩ := store_put hst h.wf x
  have HC := Lib.hid hcall
  have HN : Hid (∀ w1, SNext (fun k => S k ∧ k ≠ bc) w w1 (.iface t y) (c.put x) → Next S w w1 bc (c.put x)) := Lib.hid fun w1 hn => h.next g0 hn (h.wf.put x) rfl rfl
  have hm' := hm w
  have hce' := hce #[y, .agg #[.int .i64 x.1, .int .i64 x.2]] w
  clear h hst hcall hm hce
  generalize dropV (c.drop x) = d at *
  obtain ⟨⟨d1, d2⟩, db⟩ := d
  go_enter Try.func25, Try.ntmps25
  go_wp2_with fail
  refine HC.out.mono ?_
  rintro e w1 ⟨rfl, hn⟩
  have HNX := Lib.hid (HN.out w1 hn)
  clear hn HN HC hm' hce' g0
  go_wp2_with fail
  go_quiet (fail)
  go_wp2
  go_ret3
  refine ⟨rfl, HNX.out.trans fun S' hc hs => ⟨S', ?_, ?_, fun k hk => .inl hk⟩⟩
  · exact (hc.below ((Below.refl _ _).alloc (Nat.le_refl _) _)).alike (fun _ _ => rfl) (Nat.le_refl _)
  · exact (Chg.of_below ((Below.refl _ _).alloc (Nat.le_refl _) _)).drewN _

theorem CClear {S : Nat → Prop} {w : World} {bc : Nat} {c : CM} (h : CacheAt S w bc c) :
    Calls Try.prog 26 #[.pointer (some ⟨bc, 0, none⟩)] w fun e w' => e = .returned (.tuple #[]) ∧ Next S w w' bc c.clear := by
  obtain ⟨iv, g0, hst⟩ := h.iv
  obtain ⟨t, y, f, rfl, hm, hce, hcall⟩ := store_clear hst h.wf
  have HC := Lib.hid hcall
  have HN : Hid (∀ w1, SNext (fun k => S k ∧ k ≠ bc) w w1 (.iface t y) c.clear → Next S w w1 bc c.clear) := Lib.hid fun w1 hn => h.next g0 hn h.wf.clear rfl rfl
  have hm' := hm w
  have hce' := hce #[y] w
  clear h hst hcall hm hce
  go_enter Try.func26, Try.ntmps26
  go_wp2_with fail
  refine HC.out.mono ?_
  rintro e w1 ⟨rfl, hn⟩
  have HNX := Lib.hid (HN.out w1 hn)
  clear hn HN HC hm' hce' g0
  go_wp2
  go_end0
  exact ⟨rfl, HNX.out⟩

theorem CHits {S : Nat → Prop} {w : World} {bc : Nat} {c : CM} (h : CacheAt S w bc c) :
    Calls Try.prog 30 #[.pointer (some ⟨bc, 0, none⟩)] w fun e w' => e = .returned (.tuple #[.int .i64 c.hit, .int .i64 c.miss]) ∧ ∃ n, w' = w.drewN n := by
  have g1 := h.ht
  have g2 := h.ms
  clear h
  go_enter Try.func30, Try.ntmps30
  go_wp2_with fail
  go_quiet ((go_at_call 35; exact Calls.quiet_of_same (I64LoadQ _ _ _ (by assumption))))
  go_wp2
  go_ret2
  exact ⟨rfl, _, rfl⟩
end Go.Proofs.Ytonfmgdikgedfaa.Cm
