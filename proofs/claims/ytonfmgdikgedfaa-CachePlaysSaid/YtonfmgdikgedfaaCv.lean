/- Caches: Keys, Len and Hits of a cache against the document's. -/
import Derived.Test.YtonfmgdikgedfaaCk
set_option maxRecDepth 100000
set_option maxHeartbeats 1000000
set_option linter.unusedVariables false
set_option linter.unusedSimpArgs false
namespace Go.Proofs.Ytonfmgdikgedfaa.Cm
open Go.RowKit Bs Go.Lib

/-- The two caches, and the lists that were answered. -/
structure Ans (B : Nat) (S T : Nat → Prop) (w0 w : World) (bc bx : Nat) (c : CM) (x : RM) (va vb vw : Value) : Prop where
  duo : Duo B S T w bc bx c x
  bel : Below B w0 w
  na : Num w va c.keys
  nb : Num w vb c.keys
  nw : Num w vw c.keys
  oa : ∀ b, va.ownBlock = some b → ¬ S b ∧ ¬ T b ∧ B ≤ b
  ob : ∀ b, vb.ownBlock = some b → ¬ S b ∧ ¬ T b ∧ B ≤ b
  ow : ∀ b, vw.ownBlock = some b → ¬ S b
  ab : ∀ b, va.ownBlock = some b → vb.ownBlock ≠ some b
theorem Ans.below {B : Nat} {S T : Nat → Prop} {w0 w w' : World} {bc bx : Nat} {c : CM} {x : RM} {va vb vw : Value} (h : Ans B S T w0 w bc bx c x va vb vw) (hb : Below w.heap.size w w') : Ans B S T w0 w' bc bx c x va vb vw :=
  ⟨h.duo.below hb, h.bel.trans (hb.mono h.duo.base), h.na.below hb, h.nb.below hb, h.nw.below hb, h.oa, h.ob, h.ow, h.ab⟩
theorem Ans.same {B : Nat} {S T : Nat → Prop} {w0 w w' : World} {bc bx : Nat} {c : CM} {x : RM} {va vb vw : Value} (h : Ans B S T w0 w bc bx c x va vb vw) (hs : CacheAt S w' bc c) (hc : Chg S w w') : Ans B S T w0 w' bc bx c x va vb vw :=
  ⟨h.duo.same hs hc, h.bel.trans (hc.below h.duo.base fun k hk hs => by have := h.duo.lb k hs; omega), h.na.same fun k hk => hc.block k (h.na.lt hk) (h.oa k hk).1, h.nb.same fun k hk => hc.block k (h.nb.lt hk) (h.ob k hk).1, h.nw.same fun k hk => hc.block k (h.nw.lt hk) (h.ow k hk), h.oa, h.ob, h.ow, h.ab⟩
theorem bel_drewN {B : Nat} {w w1 : World} (h : Below B w w1) (n : Nat) : Below B w (w1.drewN n) := ⟨h.os, h.tape, h.output, h.size, h.block⟩
theorem Num.of_own {w : World} {B : Nat} {v : Value} {L : List Int} (h : w.ownsRow B 3 1 v L.length (L.map (Value.int .i64))) : Num w v L ∧ ∀ b, v.ownBlock = some b → B ≤ b := ⟨own_mono h (Nat.zero_le _), fun b hb => (h.lt b hb).1⟩

/-- The lists that were answered, in a list of their own. -/
theorem Ans.lists {B : Nat} {S T : Nat → Prop} {w0 w : World} {bc bx : Nat} {c : CM} {x : RM} {va vb vw : Value} (h : Ans B S T w0 w bc bx c x va vb vw) (hl : c.keys.length ≤ 64) (ty : TypeId) :
    Lists (w.alloc (.cells #[va, vb] ty)) w.heap.size (fun q => if q = 0 then va else vb) (fun _ => c.keys.length) ∧ ∀ q, q < 2 → Num (w.alloc (.cells #[va, vb] ty)) (if q = 0 then va else vb) c.keys ∧ c.keys.length = c.keys.length := by
  have hn := heap_alloc_new w (.cells #[va, vb] ty)
  have hb : Below w.heap.size w (w.alloc (.cells #[va, vb] ty)) := (Below.refl _ _).alloc (Nat.le_refl _) _
  refine ⟨⟨fun q hq => ?_, fun p q k hp hq hpq h1 h2 => ?_, fun q k hq h1 => ?_, fun _ => hl⟩, fun q hq => ⟨?_, rfl⟩⟩
  · rcases q with _ | _ | q
    · exact cell_blk hn rfl
    · exact cell_blk hn rfl
    · omega
  · rcases p with _ | _ | p
    · rcases q with _ | _ | q
      · exact hpq rfl
      · exact h.ab k h1 h2
      · omega
    · rcases q with _ | _ | q
      · exact h.ab k h2 h1
      · exact hpq rfl
      · omega
    · omega
  · rcases q with _ | _ | q
    · have := h.na.lt h1; omega
    · have := h.nb.lt h1; omega
    · omega
  · rcases q with _ | _ | q
    · exact h.na.below hb
    · exact h.nb.below hb
    · omega
theorem Ans.end {B : Nat} {S T : Nat → Prop} {w0 w w' : World} {bc bx : Nat} {c : CM} {x : RM} {va vb vw : Value} (h : Ans B S T w0 w bc bx c x va vb vw) (ht : Tell c x) (ty : TypeId) (hc : Chg (Tb fun q => if q = 0 then va else vb) (w.alloc (.cells #[va, vb] ty)) w') :
    Play B w' bc bx ∧ Below B w0 w' := by
  have hb : Below w.heap.size w (w.alloc (.cells #[va, vb] ty)) := (Below.refl _ _).alloc (Nat.le_refl _) _
  have hd := h.duo.below hb
  have hT : ∀ k, Tb (fun q => if q = 0 then va else vb) k → ¬ S k ∧ ¬ T k ∧ B ≤ k := fun k ⟨q, hq, e⟩ => by
    rcases q with _ | _ | q
    · exact h.oa k e
    · exact h.ob k e
    · omega
  exact ⟨⟨S, T, c, x, ⟨hd.l.alike (fun k hk => hc.block k (hd.l.live k hk) fun e => (hT k e).1 hk) hc.size, hd.r.alike (fun k hk => hc.block k (hd.r.live k hk) fun e => (hT k e).2.1 hk) hc.size, hd.apart, hd.lb, hd.rb, Nat.le_trans hd.base hc.size⟩, ht⟩,
    (h.bel.trans (hb.mono h.duo.base)).trans (hc.below hd.base fun k hk e => by have := (hT k e).2.2; omega)⟩

theorem Agrees_keys {B : Nat} {w : World} {bc bx : Nat} (h : Play B w bc bx) (k v : Int) :
    Calls Try.prog 32 #[.agg #[.int .i64 3, .int .i64 k, .int .i64 v], .pointer (some ⟨bc, 0, none⟩), .pointer (some ⟨bx, 0, none⟩)] w fun e w' => e = .returned (.bool true) ∧ Play B w' bc bx ∧ Below B w w' := by
  obtain ⟨S, T, c, x, hd, ht⟩ := h
  have hb : Below w.heap.size w (w.alloc (.cells #[.int .i64 3, .int .i64 k, .int .i64 v] 49)) := (Below.refl _ _).alloc (Nat.le_refl _) _
  have HD := Lib.hid (hd.below hb)
  have HB := Lib.hid (hb.mono hd.base)
  have HT := Lib.hid ht
  have HK := Lib.hid (CKeys HD.out.l)
  have HKL : Hid (c.keys.length ≤ 64) := Lib.hid (by have := ht.wf.keys_len; have := ht.wf.cap; omega)
  clear hd ht hb
  go_enter Try.func32, Try.ntmps32
  go_wp2_with fail
  refine HK.out.mono ?_
  rintro e w2 ⟨va, rfl, hv, hs, hc⟩
  obtain ⟨hva, hvb⟩ := Num.of_own hv
  have HD2 := Lib.hid (HD.out.same hs hc)
  have HB2 : Hid (Below B w w2) := Lib.hid (HB.out.trans (hc.below HD.out.base fun k hk hs => by have := HD.out.lb k hs; omega))
  have HVA : Hid (Num w2 va c.keys ∧ ∀ b, va.ownBlock = some b → ¬ S b ∧ ¬ T b ∧ B ≤ b) := Lib.hid ⟨hva, fun b hb => ⟨fun h => by have := HD.out.l.live b h; have := hvb b hb; omega, fun h => by have := HD.out.r.live b h; have := hvb b hb; omega, Nat.le_trans HD.out.base (hvb b hb)⟩⟩
  have HK2 := Lib.hid (CKeys HD2.out.l)
  clear hv hs hc hva hvb HK HD HB
  go_wp2_with fail
  refine HK2.out.mono ?_
  rintro e w3 ⟨vb, rfl, hv, hs, hc⟩
  obtain ⟨hvb, hbb⟩ := Num.of_own hv
  have HD3 := Lib.hid (HD2.out.same hs hc)
  have HB3 : Hid (Below B w w3) := Lib.hid (HB2.out.trans (hc.below HD2.out.base fun k hk hs => by have := HD2.out.lb k hs; omega))
  have HVB : Hid (Num w3 vb c.keys ∧ ∀ b, vb.ownBlock = some b → ¬ S b ∧ ¬ T b ∧ B ≤ b) := Lib.hid ⟨hvb, fun b hb => ⟨fun h => by have := HD2.out.l.live b h; have := hbb b hb; omega, fun h => by have := HD2.out.r.live b h; have := hbb b hb; omega, Nat.le_trans HD2.out.base (hbb b hb)⟩⟩
  have HVA3 : Hid (Num w3 va c.keys ∧ ∀ b, va.ownBlock = some b → vb.ownBlock ≠ some b) := Lib.hid ⟨HVA.out.1.same fun k hk => hc.block k (HVA.out.1.lt hk) (HVA.out.2 k hk).1, fun b h1 h2 => by have := HVA.out.1.lt h1; have := hbb b h2; omega⟩
  have HX := Lib.hid (RAll HD3.out.r)
  clear hv hs hc hvb hbb HK2 HD2 HB2
  go_wp2_with fail
  refine HX.out.mono ?_
  rintro e w4 ⟨vw, rfl, hn, ho, hb⟩
  rw [HT.out.all] at hn
  have HA : Hid (Ans B S T w w4 bc bx c x va vb vw) := Lib.hid ⟨HD3.out.below hb, HB3.out.trans (hb.mono HD3.out.base), HVA3.out.1.below hb, HVB.out.1.below hb, hn, HVA.out.2, HVB.out.2, fun b h1 h2 => by have := HD3.out.l.live b h2; have := ho b h1; omega, HVA3.out.2⟩
  clear hn ho hb HX HD3 HB3 HVA3 HVB HVA
  obtain ⟨aa, ca, rfl⟩ := HA.out.na.slice
  obtain ⟨ab, cb, rfl⟩ := HA.out.nb.slice
  obtain ⟨aw, cw, rfl⟩ := HA.out.nw.slice
  have HH := Lib.hid (CHits HA.out.duo.l)
  go_wp2_with fail
  refine HH.out.mono ?_
  rintro e w5 ⟨rfl, m5, e5⟩
  have HA5 : Hid (Ans B S T w w5 bc bx c x (.slice aa c.keys.length ca) (.slice ab c.keys.length cb) (.slice aw c.keys.length cw)) := Lib.hid (by rw [e5]; exact HA.out.below (bel_drewN (Below.refl _ _) _))
  clear HH HA e5
  have HS := Lib.hid (RSameN HA5.out.na HA5.out.nw (by have := HKL.out; omega))
  go_wp2_with fail
  refine HS.out.mono ?_
  rintro e w6 ⟨rfl, m6, e6⟩
  have HA6 : Hid (Ans B S T w w6 bc bx c x (.slice aa c.keys.length ca) (.slice ab c.keys.length cb) (.slice aw c.keys.length cw)) := Lib.hid (by rw [e6]; exact HA5.out.below (bel_drewN (Below.refl _ _) _))
  clear HS HA5 e6
  have HS := Lib.hid (RSameN HA6.out.nb HA6.out.nw (by have := HKL.out; omega))
  go_wp2_with fail
  refine HS.out.mono ?_
  rintro e w7 ⟨rfl, m7, e7⟩
  have HA7 : Hid (Ans B S T w w7 bc bx c x (.slice aa c.keys.length ca) (.slice ab c.keys.length cb) (.slice aw c.keys.length cw)) := Lib.hid (by rw [e7]; exact HA6.out.below (bel_drewN (Below.refl _ _) _))
  clear HS HA6 e7
  have HLN := Lib.hid (CLen HA7.out.duo.l)
  go_wp2_with fail
  refine HLN.out.mono ?_
  rintro e w8 ⟨rfl, hs, hc⟩
  have HA8 := Lib.hid (HA7.out.same hs hc)
  clear HLN HA7 hs hc
  have k3 := HA8.out.duo.r.ht
  have k4 := HA8.out.duo.r.ms
  rw [HT.out.hit] at k3
  rw [HT.out.miss] at k4
  obtain ⟨hl1, hl2⟩ := HA8.out.lists HKL.out 31
  have HR := Lib.hid (RApart hl1 hl2)
  have HFIN : Hid (∀ w', Chg (Tb fun q => if q = 0 then (.slice aa c.keys.length ca) else (.slice ab c.keys.length cb)) (w8.alloc (.cells #[.slice aa c.keys.length ca, .slice ab c.keys.length cb] 31)) w' → Play B w' bc bx ∧ Below B w w') := Lib.hid fun w' hc => HA8.out.end HT.out 31 hc
  clear hl1 hl2 HA8 HT
  go_wp2_with fail
  refine HR.out.mono ?_
  rintro e w9 ⟨rfl, hc⟩
  have HF := Lib.hid (HFIN.out w9 hc)
  clear hc HFIN HR k3 k4
  go_wp2
  go_ret
  exact ⟨rfl, HF.out⟩
end Go.Proofs.Ytonfmgdikgedfaa.Cm
