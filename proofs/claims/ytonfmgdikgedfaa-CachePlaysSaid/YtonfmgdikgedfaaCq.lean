/- The walk of CachePlays. -/
import Derived.Test.YtonfmgdikgedfaaCv
import Derived.Test.YtonfmgdikgedfaaCg
set_option maxRecDepth 100000
set_option maxHeartbeats 1000000
set_option linter.unusedVariables false
set_option linter.unusedSimpArgs false
namespace Go.Proofs.Ytonfmgdikgedfaa.Cm
open Go.RowKit Bs Hi Go.Lib

theorem OpSl.elemP {S : Nat → Prop} {w : World} {a : Option Addr} {c : Nat} {xs : List OpM} (h : OpSl S w (.slice a xs.length c) xs) {k : Nat} (hk : k < xs.length) : ∃ b o, a = some ⟨b, o, none⟩ ∧ S b ∧ w.cell? ⟨b, o + k * 3, none⟩ = some (.int .i64 xs[k].kind) ∧ w.cell? ⟨b, o + k * 3 + 1, none⟩ = some (.int .i64 xs[k].k) ∧ w.cell? ⟨b, o + k * 3 + 2, none⟩ = some (.int .i64 xs[k].v) := by
  obtain ⟨a', c', e, _, _, h4⟩ := h
  injection e with e1 e2 e3
  subst e1
  rcases h4 with h4 | ⟨b, o, rfl, hS, h4⟩
  · rw [h4] at hk; simp at hk
  · obtain ⟨cs, g1, g2, rfl⟩ := h4 k hk
    have h0 := g2 0 (by simp)
    have h1 := g2 1 (by simp)
    have h2 := g2 2 (by simp)
    exact ⟨b, o, rfl, hS, by simpa using h0, by simpa using h1, by simpa using h2⟩

theorem Agrees {B : Nat} {w : World} {bc bx : Nat} (h : Play B w bc bx) (o k v : Int) :
    Calls Try.prog 32 #[.agg #[.int .i64 o, .int .i64 k, .int .i64 v], .pointer (some ⟨bc, 0, none⟩), .pointer (some ⟨bx, 0, none⟩)] w fun e w' => e = .returned (.bool true) ∧ Play B w' bc bx ∧ Below B w w' := by
  by_cases h1 : o = 1
  · subst h1; exact Agrees_get h k v
  by_cases h2 : o = 2
  · subst h2; exact Agrees_put (fun a b c e => RPut a b c e) h k v
  by_cases h3 : o = 3
  · subst h3; exact Agrees_keys h k v
  by_cases h4 : o = 4
  · subst h4; exact Agrees_clear h k v
  exact Agrees_other h o k v h1 h2 h3 h4

theorem CachePlays_bad (n : Int) (hn : n < 0 ∨ 64 < n) (sv : Value) (w : World) : Calls Try.prog 9 #[.int .i64 n, sv] w fun e w' => e = .returned (.bool true) ∧ Below w.heap.size w w' := by
  go_enter Try.func9, Try.ntmps9
  go_wp2_with fail
  refine (awake18 _).mono ?_
  rintro e w1 ⟨rfl, hb1⟩
  have HB1 := Lib.hid hb1
  clear hb1
  go_wp2_with fail
  refine (New_bad hn _).mono ?_
  rintro e w2 ⟨rfl, rfl⟩
  go_wp2_with fail
  refine (RNew_bad hn _).mono ?_
  rintro e w2 ⟨rfl, rfl⟩
  go_wp2
  go_ret
  exact ⟨rfl, HB1.out⟩

theorem play_new {w w2 w3 : World} {bc bx n : Nat} (hn : n ≤ 64) (hc : CacheAt (fun k => w.heap.size ≤ k ∧ k < w2.heap.size) w2 bc (newM n)) (hb : Below w.heap.size w w2) (hx : RefAt (fun k => k = w2.heap.size) w3 bx { n := n, L := [], hit := 0, miss := 0 }) (hb2 : Below w2.heap.size w2 w3) :
    Play w.heap.size w3 bc bx := by
  have h1 := hb.size
  have h2 := hb2.size
  exact ⟨_, _, _, _, ⟨hc.below hb2, hx, fun k hk e => by have := hk.2; have e' : k = w2.heap.size := e; omega, fun k hk => hk.1, fun k hk => by have e' : k = w2.heap.size := hk; omega, by omega⟩, tell_new hn⟩

theorem CachePlays_ok (n : Nat) (hn : n ≤ 64) (a : Option Addr) (cp : Nat) (xs : List OpM) (w : World) (hx : OpSl (fun b => b < w.heap.size) w (.slice a xs.length cp) xs) :
    Calls Try.prog 9 #[.int .i64 n, .slice a xs.length cp] w fun e w' => e = .returned (.bool true) ∧ Below w.heap.size w w' := by
  have hby : xs.length * 24 ≤ 140737488355328 := by obtain ⟨_, _, _, _, h, _⟩ := hx; exact h
  have HX := Lib.hid hx
  clear hx
  go_enter Try.func9, Try.ntmps9
  go_wp2_with fail
  refine (awake18 _).mono ?_
  rintro e w1 ⟨rfl, hb1⟩
  have HB1 := Lib.hid hb1
  clear hb1
  go_wp2_with fail
  refine (CNew n hn w1).mono ?_
  rintro e w2 ⟨bc, rfl, hc, hb⟩
  have HC := Lib.hid (And.intro hc hb)
  clear hc hb
  go_wp2_with fail
  refine (RNew n hn w2).mono ?_
  rintro e w3 ⟨bx, rfl, hbx, hr, hb⟩
  clear hbx
  have HP : Hid (Play w1.heap.size w3 bc bx) := Lib.hid (play_new hn HC.out.1 HC.out.2 hr hb)
  have HL : Hid (Play w.heap.size w3 bc bx ∧ Below w.heap.size w w3) := Lib.hid ⟨by
    obtain ⟨S, T, c, x, h, ht⟩ := HP.out
    exact ⟨S, T, c, x, ⟨h.l, h.r, h.apart, fun k hk => Nat.le_trans HB1.out.size (h.lb k hk), fun k hk => Nat.le_trans HB1.out.size (h.rb k hk), Nat.le_trans HB1.out.size h.base⟩, ht⟩, HB1.out.trans ((HC.out.2.trans (hb.mono HC.out.2.size)).mono HB1.out.size)⟩
  clear hr hb HP HC HB1
  go_wp2_with fail
  go_loopg [9] xs.length (fun gk ui wr => ∃ i : Nat, Hid (i + gk = xs.length) ∧ ui = .int .i64 i ∧ Hid (Play w.heap.size wr bc bx ∧ Below w.heap.size w wr))
  case atStart => exact ⟨0, Lib.hid (Nat.zero_add _), by go_num, HL⟩
  case round =>
    clear HL
    obtain ⟨i, hi, rfl, HL⟩ := hrel
    by_cases hlt : i < xs.length
    · have hlt' : (i : Int) < (xs.length : Int) := by omega
      have hi0 : (0 : Int) ≤ (i : Int) := by omega
      obtain ⟨b, o, rfl, hbb, m0, m1, m2⟩ := HX.out.elemP hlt
      have g0 := below_cell' HL.out.2 m0
      have g1 := below_cell' HL.out.2 m1
      have g2 := below_cell' HL.out.2 m2
      clear m0 m1 m2
      generalize xs[i] = x at g0 g1 g2
      obtain ⟨xk, xkey, xv⟩ := x
      simp only at g0 g1 g2
      have HA := Lib.hid (Agrees HL.out.1 xk xkey xv)
      go_wp2_with fail
      refine HA.out.mono ?_
      rintro e w4 ⟨rfl, hp, hb⟩
      have HL4 : Hid (Play w.heap.size w4 bc bx ∧ Below w.heap.size w w4) := Lib.hid ⟨hp, HL.out.2.trans hb⟩
      clear HA HL hp hb g0 g1 g2
      go_wp2
      go_roundg (xs.length - (i + 1))
      case measure => have := hi.out; omega
      case rel => exact ⟨i + 1, Lib.hid (by have := hi.out; omega), by go_num, HL4⟩
    · clear hi
      have HA := Lib.hid (Agrees HL.out.1 3 0 0)
      go_wp2_with fail
      refine HA.out.mono ?_
      rintro e w4 ⟨rfl, hp, hb⟩
      have HL4 : Hid (Below w.heap.size w w4) := Lib.hid (HL.out.2.trans hb)
      clear HA HL hp hb
      go_wp2
      go_ret
      exact ⟨rfl, HL4.out⟩

theorem CachePlays_all (n : Int) (hw : (Lit.int .i64 n).wf = true) (a : Option Addr) (cp : Nat) (xs : List OpM) (w : World) (hx : OpSl (fun b => b < w.heap.size) w (.slice a xs.length cp) xs) :
    Calls Try.prog 9 #[.int .i64 n, .slice a xs.length cp] w fun e w' => e = .returned (.bool true) ∧ Below w.heap.size w w' := by
  by_cases h : n < 0 ∨ 64 < n
  · exact CachePlays_bad n h _ w
  · obtain ⟨k, rfl⟩ := Int.eq_ofNat_of_zero_le (show 0 ≤ n by omega)
    exact CachePlays_ok k (by omega) a cp xs w hx
end Go.Proofs.Ytonfmgdikgedfaa.Cm
