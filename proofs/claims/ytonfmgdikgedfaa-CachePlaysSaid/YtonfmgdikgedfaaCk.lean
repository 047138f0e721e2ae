/- Caches: one thing done to a cache and to the document's. -/
import Derived.Test.YtonfmgdikgedfaaCf
import Derived.Test.YtonfmgdikgedfaaCj
import Derived.Test.YtonfmgdikgedfaaCo
set_option maxRecDepth 100000
set_option maxHeartbeats 2000000
set_option linter.unusedVariables false
set_option linter.unusedSimpArgs false
namespace Go.Proofs.Ytonfmgdikgedfaa.Cm
open Go.RowKit Bs Go.Lib

theorem filt_split (f : KV → Nat) (m : Nat) (L : List KV) : (L.filter fun e => decide (f e < m + 1)).length = (L.filter fun e => decide (f e < m)).length + (L.filter fun e => f e == m).length := by
  induction L with
  | nil => rfl
  | cons y r ih =>
    rw [List.filter_cons, List.filter_cons, List.filter_cons]
    by_cases h1 : f y < m
    · rw [if_pos (by simp; omega), if_pos (by simp; omega), if_neg (by simp; omega), List.length_cons, List.length_cons, ih]
      omega
    · by_cases h2 : f y = m
      · rw [if_pos (by simp; omega), if_neg (by simp; omega), if_pos (by simp; omega), List.length_cons, List.length_cons, ih]
        omega
      · rw [if_neg (by simp; omega), if_neg (by simp; omega), if_neg (by simp; omega), ih]
theorem filt_all (f : KV → Nat) (L : List KV) (m : Nat) : (((List.range m).map fun i => (L.filter fun e => f e == i).map (·.1)).flatten).length = (L.filter fun e => decide (f e < m)).length := by
  induction m with
  | zero =>
    have : L.filter (fun e => decide (f e < 0)) = [] := List.filter_eq_nil_iff.2 fun e _ => by simp
    rw [this]; rfl
  | succ m ih =>
    rw [List.range_succ, List.map_append, List.flatten_append, List.length_append, ih, filt_split]
    simp
theorem Tell.len {c : CM} {x : RM} (h : Tell c x) : x.L.length ≤ 64 := by
  by_cases hn : c.n = 0
  · rw [h.zero hn]; simp
  · have h1 := h.all
    have h2 := h.wf.keys_len
    have h3 := h.wf.cap
    have h4 := filt_all (fun e => setNo (nSets x.n) e.1) x.L (nSets x.n)
    have h5 : x.L.filter (fun e => decide (setNo (nSets x.n) e.1 < nSets x.n)) = x.L := by
      rw [List.filter_eq_self]
      intro e _
      rw [decide_eq_true_iff]
      exact setNo_lt (nSets_pos (by rw [h.n]; omega)) _
    rw [h5] at h4
    have h6 : x.all.length = x.L.length := h4
    rw [h1] at h6
    omega

/-- The two caches beside each other. -/
structure Duo (B : Nat) (S T : Nat → Prop) (w : World) (bc bx : Nat) (c : CM) (x : RM) : Prop where
  l : CacheAt S w bc c
  r : RefAt T w bx x
  apart : ∀ k, S k → ¬ T k
  lb : ∀ k, S k → B ≤ k
  rb : ∀ k, T k → B ≤ k
  base : B ≤ w.heap.size
theorem Duo.left {B : Nat} {S T : Nat → Prop} {w w' : World} {bc bx : Nat} {c c' : CM} {x : RM} (h : Duo B S T w bc bx c x) (hn : Next S w w' bc c') : ∃ S', Duo B S' T w' bc bx c' x ∧ Chg S w w' := by
  obtain ⟨S', h1, h2, h3⟩ := hn
  exact ⟨S', ⟨h1, h.r.alike (fun k hk => h2.block k (h.r.live k hk) fun hs => h.apart k hs hk) h2.size, fun k hk ht => (h3 k hk).elim (fun hs => h.apart k hs ht) fun hs => by have := h.r.live k ht; omega, fun k hk => (h3 k hk).elim (h.lb k) fun hs => Nat.le_trans h.base hs, h.rb, Nat.le_trans h.base h2.size⟩, h2⟩
theorem Duo.right {B : Nat} {S T : Nat → Prop} {w w' : World} {bc bx : Nat} {c : CM} {x x' : RM} (h : Duo B S T w bc bx c x) (hn : RNext T w w' bx x') : ∃ T', Duo B S T' w' bc bx c x' ∧ Chg T w w' := by
  obtain ⟨T', h1, h2, h3⟩ := hn
  exact ⟨T', ⟨h.l.alike (fun k hk => h2.block k (h.l.live k hk) fun ht => h.apart k hk ht) h2.size, h1, fun k hs hk => (h3 k hk).elim (fun ht => h.apart k hs ht) fun ht => by have := h.l.live k hs; omega, h.lb, fun k hk => (h3 k hk).elim (h.rb k) fun ht => Nat.le_trans h.base ht, Nat.le_trans h.base h2.size⟩, h2⟩
theorem Duo.below {B : Nat} {S T : Nat → Prop} {w w' : World} {bc bx : Nat} {c : CM} {x : RM} (h : Duo B S T w bc bx c x) (hb : Below w.heap.size w w') : Duo B S T w' bc bx c x :=
  ⟨h.l.below hb, h.r.below hb, h.apart, h.lb, h.rb, Nat.le_trans h.base hb.size⟩
/-- What stands between two things done. -/
def Play (B : Nat) (w : World) (bc bx : Nat) : Prop := ∃ S T c x, Duo B S T w bc bx c x ∧ Tell c x

theorem RSameN {w : World} {u v : Value} {L : List Int} (hu : Num w u L) (hv : Num w v L) (hl : L.length ≤ 1000) :
    Calls Try.prog 18 #[u, v] w fun e w' => e = .returned (.bool true) ∧ ∃ n, w' = w.drewN n := by
  obtain ⟨a, c, rfl⟩ := hu.slice
  obtain ⟨a', c', rfl⟩ := hv.slice
  have HU := Lib.hid hu
  have HV := Lib.hid hv
  clear hu hv
  go_enter Try.func18, Try.ntmps18
  go_wp2_with fail
  go_loopg [5] L.length (fun gk uj wr => ∃ k : Nat, Hid (k + gk = L.length) ∧ uj = .int .i64 k ∧ Hid (∃ n, wr = w.drewN n))
  case atStart => exact ⟨0, Lib.hid (Nat.zero_add _), by go_num, Lib.hid ⟨0, rfl⟩⟩
  case round =>
    obtain ⟨k, hk, rfl, hw⟩ := hrel
    have cw : ∀ p : Addr, wr.cell? p = w.cell? p := fun p => by obtain ⟨n, e⟩ := hw.out; rw [e]; rfl
    have hnx : ∀ m, ∃ n, wr.drewN m = w.drewN n := fun m => by obtain ⟨n, e⟩ := hw.out; exact ⟨n + m, by rw [e]; simp only [World.drewN, Nat.add_assoc]⟩
    have HNX := Lib.hid hnx
    clear hnx
    by_cases hlt : k < L.length
    · have hlt' : (k : Int) < (L.length : Int) := by omega
      have hk0 : (0 : Int) ≤ (k : Int) := by omega
      obtain ⟨g, rfl, m0⟩ := HU.out.elem hlt
      obtain ⟨g', rfl, m1⟩ := HV.out.elem hlt
      have q0 := (cw _).trans m0
      have q1 := (cw _).trans m1
      generalize L[k] = y at q0 q1 m0 m1
      clear cw m0 m1
      go_wp2_with fail
      go_quiet (fail)
      go_wp2
      go_roundg (L.length - (k + 1))
      case measure => have := hk.out; omega
      case rel => exact ⟨k + 1, Lib.hid (by have := hk.out; omega), by go_num, Lib.hid (HNX.out _)⟩
    · clear hk cw
      go_wp2
      go_ret
      exact ⟨rfl, hw.out⟩

theorem Duo.same {B : Nat} {S T : Nat → Prop} {w w' : World} {bc bx : Nat} {c : CM} {x : RM} (h : Duo B S T w bc bx c x) (hs : CacheAt S w' bc c) (hc : Chg S w w') : Duo B S T w' bc bx c x :=
  ⟨hs, h.r.alike (fun k hk => hc.block k (h.r.live k hk) fun hs => h.apart k hs hk) hc.size, h.apart, h.lb, h.rb, Nat.le_trans h.base hc.size⟩

theorem Agrees_get {B : Nat} {w : World} {bc bx : Nat} (h : Play B w bc bx) (k v : Int) :
    Calls Try.prog 32 #[.agg #[.int .i64 1, .int .i64 k, .int .i64 v], .pointer (some ⟨bc, 0, none⟩), .pointer (some ⟨bx, 0, none⟩)] w fun e w' => e = .returned (.bool true) ∧ Play B w' bc bx ∧ Below B w w' := by
  obtain ⟨S, T, c, x, hd, ht⟩ := h
  have hb : Below w.heap.size w (w.alloc (.cells #[.int .i64 1, .int .i64 k, .int .i64 v] 49)) := (Below.refl _ _).alloc (Nat.le_refl _) _
  have HNB := heap_alloc_new w (.cells #[.int .i64 1, .int .i64 k, .int .i64 v] 49)
  have q1 : (w.alloc (.cells #[.int .i64 1, .int .i64 k, .int .i64 v] 49)).cell? ⟨w.heap.size, 1, none⟩ = some (.int .i64 k) := cell_blk HNB rfl
  have hob : ¬ S w.heap.size := fun h => by have := hd.l.live _ h; omega
  have HD := Lib.hid (hd.below hb)
  have HB := Lib.hid (hb.mono hd.base)
  have HT := Lib.hid ht
  have HG := Lib.hid (CGet HD.out.l k)
  have HE := Lib.hid (ht.get k)
  generalize c.get k = r at HG HE
  obtain ⟨rv, rb⟩ := r
  clear hd ht hb HNB
  go_enter Try.func32, Try.ntmps32
  go_wp2_with fail
  refine HG.out.mono ?_
  rintro e w2 ⟨rfl, hn⟩
  obtain ⟨S', hd2, hc2⟩ := HD.out.left hn
  have q1' := hc2.cell_eq q1 hob
  have HD2 := Lib.hid hd2
  have HB2 : Hid (Below B w w2) := Lib.hid (HB.out.trans (hc2.below HD.out.base fun k hk hs => by have := HD.out.lb k hs; omega))
  have HX := Lib.hid (RGet hd2.r HT.out.keys HT.out.len k)
  rw [HE.out] at HX
  clear hn hd2 hc2 q1 hob HG
  go_wp2_with fail
  refine HX.out.mono ?_
  rintro e w3 ⟨rfl, hn⟩
  obtain ⟨T', hd3, hc3⟩ := HD2.out.right hn
  have HP : Hid (Play B w3 bc bx) := Lib.hid ⟨S', T', c.got k, x.got k, hd3, HT.out.got k⟩
  have HB3 : Hid (Below B w w3) := Lib.hid (HB2.out.trans (hc3.below HD2.out.base fun k hk hs => by have := HD2.out.rb k hs; omega))
  clear hn hd3 hc3 HX q1'
  go_wp2
  go_ret
  exact ⟨rfl, HP.out, HB3.out⟩

theorem Agrees_put (RP : ∀ {T : Nat → Prop} {w : World} {bx : Nat} {x : RM} (_ : RefAt T w bx x) (_ : (x.L.map (·.1)).Nodup) (_ : x.L.length ≤ 64) (e : KV), Calls Try.prog 49 #[.pointer (some ⟨bx, 0, none⟩), .int .i64 e.1, .int .i64 e.2] w fun r w' => r = .returned (.tuple #[.int .i64 (dropV (x.drop e)).1.1, .int .i64 (dropV (x.drop e)).1.2, .bool (dropV (x.drop e)).2]) ∧ RNext T w w' bx (x.put e))
    {B : Nat} {w : World} {bc bx : Nat} (h : Play B w bc bx) (k v : Int) :
    Calls Try.prog 32 #[.agg #[.int .i64 2, .int .i64 k, .int .i64 v], .pointer (some ⟨bc, 0, none⟩), .pointer (some ⟨bx, 0, none⟩)] w fun e w' => e = .returned (.bool true) ∧ Play B w' bc bx ∧ Below B w w' := by
  obtain ⟨S, T, c, x, hd, ht⟩ := h
  have hb : Below w.heap.size w (w.alloc (.cells #[.int .i64 2, .int .i64 k, .int .i64 v] 49)) := (Below.refl _ _).alloc (Nat.le_refl _) _
  have HNB := heap_alloc_new w (.cells #[.int .i64 2, .int .i64 k, .int .i64 v] 49)
  have q1 : (w.alloc (.cells #[.int .i64 2, .int .i64 k, .int .i64 v] 49)).cell? ⟨w.heap.size, 1, none⟩ = some (.int .i64 k) := cell_blk HNB rfl
  have q2 : (w.alloc (.cells #[.int .i64 2, .int .i64 k, .int .i64 v] 49)).cell? ⟨w.heap.size, 2, none⟩ = some (.int .i64 v) := cell_blk HNB rfl
  have hob : ¬ S w.heap.size := fun h => by have := hd.l.live _ h; omega
  have HD := Lib.hid (hd.below hb)
  have HB := Lib.hid (hb.mono hd.base)
  have HT := Lib.hid ht
  have HG := Lib.hid (CPut HD.out.l (k, v))
  have HE := Lib.hid (ht.put (k, v))
  rw [← HE.out.2] at HG
  obtain ⟨dv, hdv⟩ : ∃ dv, dropV (x.drop (k, v)) = dv := ⟨_, rfl⟩
  rw [hdv] at HG
  have HDV := Lib.hid hdv
  obtain ⟨⟨d1, d2⟩, d3⟩ := dv
  clear hd ht hb HNB hdv
  go_enter Try.func32, Try.ntmps32
  go_wp2_with fail
  refine HG.out.mono ?_
  rintro e w2 ⟨rfl, hn⟩
  obtain ⟨S', hd2, hc2⟩ := HD.out.left hn
  have q1' := hc2.cell_eq q1 hob
  have q2' := hc2.cell_eq q2 hob
  have HD2 := Lib.hid hd2
  have HB2 : Hid (Below B w w2) := Lib.hid (HB.out.trans (hc2.below HD.out.base fun k hk hs => by have := HD.out.lb k hs; omega))
  have HX := Lib.hid (RP hd2.r HT.out.keys HT.out.len (k, v))
  rw [HDV.out] at HX
  clear hn hd2 hc2 q1 q2 hob HG
  go_wp2_with fail
  refine HX.out.mono ?_
  rintro e w3 ⟨rfl, hn⟩
  obtain ⟨T', hd3, hc3⟩ := HD2.out.right hn
  have HP : Hid (Play B w3 bc bx) := Lib.hid ⟨S', T', c.put (k, v), x.put (k, v), hd3, HE.out.1⟩
  have HB3 : Hid (Below B w w3) := Lib.hid (HB2.out.trans (hc3.below HD2.out.base fun k hk hs => by have := HD2.out.rb k hs; omega))
  clear hn hd3 hc3 HX q1' q2'
  go_wp2
  go_ret
  exact ⟨rfl, HP.out, HB3.out⟩

theorem Agrees_clear {B : Nat} {w : World} {bc bx : Nat} (h : Play B w bc bx) (k v : Int) :
    Calls Try.prog 32 #[.agg #[.int .i64 4, .int .i64 k, .int .i64 v], .pointer (some ⟨bc, 0, none⟩), .pointer (some ⟨bx, 0, none⟩)] w fun e w' => e = .returned (.bool true) ∧ Play B w' bc bx ∧ Below B w w' := by
  obtain ⟨S, T, c, x, hd, ht⟩ := h
  have hb : Below w.heap.size w (w.alloc (.cells #[.int .i64 4, .int .i64 k, .int .i64 v] 49)) := (Below.refl _ _).alloc (Nat.le_refl _) _
  have HD := Lib.hid (hd.below hb)
  have HB := Lib.hid (hb.mono hd.base)
  have HT := Lib.hid ht
  have HG := Lib.hid (CClear HD.out.l)
  clear hd ht hb
  go_enter Try.func32, Try.ntmps32
  go_wp2_with fail
  refine HG.out.mono ?_
  rintro e w2 ⟨rfl, hn⟩
  obtain ⟨S', hd2, hc2⟩ := HD.out.left hn
  have HD2 := Lib.hid hd2
  have HB2 : Hid (Below B w w2) := Lib.hid (HB.out.trans (hc2.below HD.out.base fun k hk hs => by have := HD.out.lb k hs; omega))
  have HX := Lib.hid (RClear hd2.r)
  clear hn hd2 hc2 HG
  go_wp2_with fail
  refine HX.out.mono ?_
  rintro e w3 ⟨rfl, hn⟩
  obtain ⟨T', hd3, hc3⟩ := HD2.out.right hn
  have HP : Hid (Play B w3 bc bx) := Lib.hid ⟨S', T', c.clear, x.clear, hd3, HT.out.clear⟩
  have HB3 : Hid (Below B w w3) := Lib.hid (HB2.out.trans (hc3.below HD2.out.base fun k hk hs => by have := HD2.out.rb k hs; omega))
  clear hn hd3 hc3 HX
  go_wp2
  go_ret
  exact ⟨rfl, HP.out, HB3.out⟩

theorem Agrees_other {B : Nat} {w : World} {bc bx : Nat} (h : Play B w bc bx) (o k v : Int) (h1 : o ≠ 1) (h2 : o ≠ 2) (h3 : o ≠ 3) (h4 : o ≠ 4) :
    Calls Try.prog 32 #[.agg #[.int .i64 o, .int .i64 k, .int .i64 v], .pointer (some ⟨bc, 0, none⟩), .pointer (some ⟨bx, 0, none⟩)] w fun e w' => e = .returned (.bool true) ∧ Play B w' bc bx ∧ Below B w w' := by
  obtain ⟨S, T, c, x, hd, ht⟩ := h
  have hb : Below w.heap.size w (w.alloc (.cells #[.int .i64 o, .int .i64 k, .int .i64 v] 49)) := (Below.refl _ _).alloc (Nat.le_refl _) _
  have HP : Hid (Play B (w.alloc (.cells #[.int .i64 o, .int .i64 k, .int .i64 v] 49)) bc bx) := Lib.hid ⟨S, T, c, x, hd.below hb, ht⟩
  have HB := Lib.hid (hb.mono hd.base)
  have e1 : (o == 1) = false := by simpa using h1
  have e2 : (o == 2) = false := by simpa using h2
  have e3 : (o == 3) = false := by simpa using h3
  have e4 : (o == 4) = false := by simpa using h4
  clear hd ht hb
  go_enter Try.func32, Try.ntmps32
  go_wp2
  go_ret
  exact ⟨rfl, HP.out, HB.out⟩
end Go.Proofs.Ytonfmgdikgedfaa.Cm
