/- The walk of CacheLike. -/
import Derived.Test.YtonfmgdikgedfaaCo
set_option maxRecDepth 100000
set_option maxHeartbeats 2000000
set_option linter.unusedVariables false
set_option linter.unusedSimpArgs false
namespace Go.Proofs.Ytonfmgdikgedfaa.Cm
open Go.RowKit Bs Hi Go.Lib

/-- Is the j-th thing a Put of this key? -/
def isPut (xs : List OpM) (key : Int) (j : Nat) : Bool := match xs[j]? with | some o => o.kind == 2 && o.k == key | none => false
/-- The last place below n at which p holds, or -1. -/
def lastP (p : Nat → Bool) : Nat → Int
  | 0 => -1
  | n + 1 => if p n then n else lastP p n
theorem lastP_lt (p : Nat → Bool) : ∀ n, lastP p n < n
  | 0 => by simp [lastP]
  | n + 1 => by
    unfold lastP
    have := lastP_lt p n
    split <;> omega
/-- What is kept was put last. -/
def InvL (xs : List OpM) (c : CM) (i : Nat) : Prop := ∀ e ∈ c.all, ∃ (j : Nat) (o : OpM), lastP (isPut xs e.1) i = j ∧ xs[j]? = some o ∧ o.v = e.2
theorem InvL.stay {xs : List OpM} {c c' : CM} {i : Nat} {o : OpM} (h : InvL xs c i) (ho : xs[i]? = some o) (hk : o.kind ≠ 2) (hc : ∀ e ∈ c'.all, e ∈ c.all) : InvL xs c' (i + 1) := by
  intro e he
  obtain ⟨j, o', h1, h2, h3⟩ := h e (hc e he)
  refine ⟨j, o', ?_, h2, h3⟩
  unfold lastP
  rw [if_neg]
  · exact h1
  · simp [isPut, ho, hk]
theorem InvL.put {xs : List OpM} {c : CM} {i : Nat} {o : OpM} (hw : c.WF) (h : InvL xs c i) (ho : xs[i]? = some o) (hk : o.kind = 2) : InvL xs (c.put (o.k, o.v)) (i + 1) := by
  intro e he
  rcases hw.put_mem _ he with rfl | ⟨h1, h2⟩
  · refine ⟨i, o, ?_, ho, rfl⟩
    unfold lastP
    rw [if_pos]
    simp [isPut, ho, hk]
  · obtain ⟨j, o', h3, h4, h5⟩ := h e h1
    refine ⟨j, o', ?_, h4, h5⟩
    unfold lastP
    rw [if_neg]
    · exact h3
    · have h2' : ¬ o.k = e.1 := fun h => h2 h.symm
      simp [isPut, ho, hk, h2']
theorem OpSl.elem {S : Nat → Prop} {w : World} {a : Option Addr} {c : Nat} {xs : List OpM} (h : OpSl S w (.slice a xs.length c) xs) {k : Nat} (hk : k < xs.length) : ∃ b o, a = some ⟨b, o, none⟩ ∧ S b ∧ w.cell? ⟨b, o + k * 3, none⟩ = some (.int .i64 xs[k].kind) ∧ w.cell? ⟨b, o + k * 3 + 1, none⟩ = some (.int .i64 xs[k].k) ∧ w.cell? ⟨b, o + k * 3 + 2, none⟩ = some (.int .i64 xs[k].v) := by
  obtain ⟨a', c', e, _, _, h4⟩ := h
  injection e with e1 e2 e3
  subst e1
  rcases h4 with h4 | ⟨b, o, rfl, hS, h4⟩
  · rw [h4] at hk; simp at hk
  · obtain ⟨cs, g1, g2, rfl⟩ := h4 k hk
    have h0 := g2 0 (by simp)
    have h1 := g2 1 (by simp)
    have h2 := g2 2 (by simp)
    exact ⟨b, o, rfl, hS, by simpa using h0, by simpa using h1, by simpa using h2⟩

theorem below_drewN {B : Nat} {w w1 : World} (h : Below B w w1) (n : Nat) : Below B w (w1.drewN n) := ⟨h.os, h.tape, h.output, h.size, h.block⟩
/-- The invariant of the loop over the script. -/
def LikeAt (w wr : World) (bc n : Nat) (xs : List OpM) (i : Nat) : Prop := ∃ (S : Nat → Prop) (c : CM), CacheAt S wr bc c ∧ c.n = n ∧ InvL xs c i ∧ (∀ k, S k → w.heap.size ≤ k) ∧ Below w.heap.size w wr
theorem CacheAt.keep {S : Nat → Prop} {w w' : World} {bc : Nat} {c : CM} (h : CacheAt S w bc c) {q j : Nat} {v : Value} (hq : ¬ S q) (hv : w.cell? ⟨q, j, none⟩ = some v) (hc : Chg S w w') : w'.cell? ⟨q, j, none⟩ = some v := hc.cell_eq hv hq

theorem CacheLike_bad (n : Int) (hn : n < 0 ∨ 64 < n) (sv : Value) (w : World) : Calls Try.prog 7 #[.int .i64 n, sv] w fun e w' => e = .returned (.bool true) ∧ Below w.heap.size w w' := by
  go_enter Try.func7, Try.ntmps7
  go_wp2_with fail
  refine (awake18 _).mono ?_
  rintro e w1 ⟨rfl, hb1⟩
  have HB1 := Lib.hid hb1
  clear hb1
  go_wp2_with fail
  refine (New_bad hn _).mono ?_
  rintro e w2 ⟨rfl, rfl⟩
  go_wp2
  go_ret
  exact ⟨rfl, HB1.out⟩

theorem CacheLike_ok (n : Nat) (hn : n ≤ 64) (a : Option Addr) (cp : Nat) (xs : List OpM) (w : World) (hx : OpSl (fun b => b < w.heap.size) w (.slice a xs.length cp) xs) :
    Calls Try.prog 7 #[.int .i64 n, .slice a xs.length cp] w fun e w' => e = .returned (.bool true) ∧ Below w.heap.size w w' := by
  have hby : xs.length * 24 ≤ 140737488355328 := by obtain ⟨_, _, _, _, h, _⟩ := hx; exact h
  have HX := Lib.hid hx
  clear hx
  go_enter Try.func7, Try.ntmps7
  go_wp2_with fail
  refine (awake18 _).mono ?_
  rintro e w1 ⟨rfl, hb1⟩
  have HB1 := Lib.hid hb1
  clear hb1
  go_wp2_with fail
  refine (CNew n hn w1).mono ?_
  rintro e w2 ⟨bc, rfl, hc, hb⟩
  have HL : Hid (LikeAt w w2 bc n xs 0) := Lib.hid ⟨_, _, hc, rfl, (by intro e he; rw [new_all] at he; cases he), fun k hk => Nat.le_trans HB1.out.size hk.1, HB1.out.trans (hb.mono HB1.out.size)⟩
  clear hc hb HB1
  go_wp2_with fail
  go_loopg [7] xs.length (fun gk ui wr => ∃ i : Nat, Hid (i + gk = xs.length) ∧ ui = .int .i64 i ∧ Hid (LikeAt w wr bc n xs i))
  case atStart => exact ⟨0, Lib.hid (Nat.zero_add _), by go_num, HL⟩
  case round =>
    clear HL
    obtain ⟨i, hi, rfl, HL⟩ := hrel
    by_cases hlt : i < xs.length
    · have hlt' : (i : Int) < (xs.length : Int) := by omega
      have hi0 : (0 : Int) ≤ (i : Int) := by omega
      obtain ⟨S, c, hca, hcn, hinv, hS, hbw⟩ := HL.out
      obtain ⟨b, o, rfl, hbb, m0, m1, m2⟩ := HX.out.elem hlt
      have g0 := below_cell' hbw m0
      have g1 := below_cell' hbw m1
      have g2 := below_cell' hbw m2
      have HO : Hid (xs[i]? = some xs[i]) := Lib.hid (List.getElem?_eq_getElem hlt)
      clear m0 m1 m2
      generalize xs[i] = x at g0 g1 g2 HO
      have hba : Below wr.heap.size wr (wr.alloc (.cells #[.int .i64 x.kind, .int .i64 x.k, .int .i64 x.v] 49)) := (Below.refl _ _).alloc (Nat.le_refl _) _
      have HQ : Hid (∀ k, S k → k ≠ wr.heap.size) := Lib.hid fun k hk => by have := hca.live k hk; omega
      have HCA := Lib.hid (And.intro (hca.below hba) (And.intro hcn (And.intro hinv (And.intro hS (hbw.trans (hba.mono hbw.size))))))
      have HNB := Lib.hid (heap_alloc_new wr (.cells #[.int .i64 x.kind, .int .i64 x.k, .int .i64 x.v] 49))
      clear hca hcn hinv hS hbw hba HL
      obtain ⟨xk, xkey, xv⟩ := x
      simp only at g0 g1 g2 HCA HNB HO
      by_cases hk2 : xk = 2
      · subst hk2
        have q0 : (wr.alloc (.cells #[.int .i64 2, .int .i64 xkey, .int .i64 xv] 49)).cell? ⟨wr.heap.size, 0, none⟩ = some (.int .i64 2) := cell_blk HNB.out rfl
        have q1 : (wr.alloc (.cells #[.int .i64 2, .int .i64 xkey, .int .i64 xv] 49)).cell? ⟨wr.heap.size, 1, none⟩ = some (.int .i64 xkey) := cell_blk HNB.out rfl
        have q2 : (wr.alloc (.cells #[.int .i64 2, .int .i64 xkey, .int .i64 xv] 49)).cell? ⟨wr.heap.size, 2, none⟩ = some (.int .i64 xv) := cell_blk HNB.out rfl
        have HPT := Lib.hid (CPut HCA.out.1 (xkey, xv))
        obtain ⟨c', hcc⟩ : ∃ c', c.put (xkey, xv) = c' := ⟨_, rfl⟩
        have HCC := Lib.hid hcc
        clear hcc
        rw [HCC.out] at HPT
        generalize dropV (c.drop (xkey, xv)) = dv at HPT
        go_wp2_with fail
        refine HPT.out.mono ?_
        rintro e w4 ⟨rfl, S4, h4, hc4, hS4⟩
        have hcc := HCC.out
        clear HPT
        have hq : ¬ S wr.heap.size := fun h => HQ.out _ h rfl
        have q0' := HCA.out.1.keep hq q0 hc4
        have q1' := HCA.out.1.keep hq q1 hc4
        have q2' := HCA.out.1.keep hq q2 hc4
        have HK : Hid (CacheAt S4 w4 bc c' ∧ c'.n = n ∧ InvL xs c' (i + 1) ∧ (∀ k, S4 k → w.heap.size ≤ k) ∧ Below w.heap.size w w4 ∧ ¬ S4 wr.heap.size) := Lib.hid (by
          subst hcc
          refine ⟨h4, HCA.out.2.1, HCA.out.2.2.1.put HCA.out.1.wf HO.out rfl, fun k hk => (hS4 k hk).elim (HCA.out.2.2.2.1 k) fun h => Nat.le_trans HCA.out.2.2.2.2.size h, HCA.out.2.2.2.2.trans (hc4.below HCA.out.2.2.2.2.size fun k hk h => by have := HCA.out.2.2.2.1 k h; omega), fun h => (hS4 _ h).elim hq fun h => by simp at h; omega⟩)
        clear h4 hc4 hS4 q0 q1 q2 hq
        have q0 := q0'
        have q1 := q1'
        have q2 := q2'
        clear q0' q1' q2' hcc
        have HG := Lib.hid (CGet HK.out.1 xkey)
        have HGM := Lib.hid (fun h => HK.out.1.wf.get_mem (k := xkey) h)
        generalize c'.get xkey = r at HG HGM
        obtain ⟨rv, rb⟩ := r
        go_wp2_with fail
        refine HG.out.mono ?_
        rintro e w5 ⟨rfl, S2, h5, hc5, hS5⟩
        have HL5 : Hid (LikeAt w w5 bc n xs (i + 1)) := Lib.hid ⟨S2, _, h5, HK.out.2.1, fun e he => HK.out.2.2.1 e (HK.out.1.wf.got_mem xkey he), fun k hk => (hS5 k hk).elim (HK.out.2.2.2.1 k) fun h => Nat.le_trans HK.out.2.2.2.2.1.size h, HK.out.2.2.2.2.1.trans (hc5.below HK.out.2.2.2.2.1.size fun k hk h => by have := HK.out.2.2.2.1 k h; omega)⟩
        have q0' := HK.out.1.keep HK.out.2.2.2.2.2 q0 hc5
        have q1' := HK.out.1.keep HK.out.2.2.2.2.2 q1 hc5
        have q2' := HK.out.1.keep HK.out.2.2.2.2.2 q2 hc5
        clear h5 hc5 hS5 HG q0 q1 q2
        cases rb
        · go_wp2
          go_roundg (xs.length - (i + 1))
          case measure => have := hi.out; omega
          case rel => exact ⟨i + 1, Lib.hid (by have := hi.out; omega), by go_num, HL5⟩
        · obtain ⟨jl, ol, hj1, hj2, hj3⟩ := HK.out.2.2.1 (xkey, rv) (HGM.out rfl)
          have HJ : Hid (lastP (isPut xs xkey) (i + 1) = (jl : Int) ∧ xs[jl]? = some ol ∧ ol.v = rv) := Lib.hid ⟨hj1, hj2, hj3⟩
          have hn0 : ((n : Int) == 0) = false := by
            have hne : n ≠ 0 := fun h0 => by
              have h1 := HGM.out rfl
              unfold CM.all at h1
              rw [HK.out.1.wf.zero (HK.out.2.1.trans h0)] at h1
              simp at h1
            simp; omega
          have HB5 : Hid (Below w.heap.size w w5) := Lib.hid (by obtain ⟨_, _, _, _, _, _, h⟩ := HL5.out; exact h)
          clear hj1 hj2 hj3 HGM g0 g1 g2
          have HQ1 := Lib.hid q1'
          clear q0' q1' q2'
          go_wp2_with fail
          go_loopg [11, 12] (i + 1) (fun gk ul uj wz => ∃ (j : Nat) (L : Int), Hid (j + gk = i + 1 ∧ L = lastP (isPut xs xkey) j) ∧ ul = .int .i64 L ∧ uj = .int .i64 j ∧ -1 ≤ L ∧ L ≤ 9223372036854775807 ∧ Hid (Below w5.heap.size w5 wz))
          case atStart => exact ⟨0, -1, Lib.hid ⟨Nat.zero_add _, rfl⟩, rfl, by go_num, by omega, by omega, Lib.hid (Below.refl _ _)⟩
          case round =>
            obtain ⟨j, L, hj, rfl, rfl, hL1, hL2, hBz⟩ := hrel
            by_cases hji : j ≤ i
            · have hji' : (j : Int) ≤ (i : Int) := by omega
              have hjx : j < xs.length := by omega
              have hj0 : (0 : Int) ≤ (j : Int) := by omega
              have hjx' : (j : Int) < (xs.length : Int) := by omega
              obtain ⟨b', o', e, hbb', m0, m1, m2⟩ := HX.out.elem hjx
              injection e with e
              injection e with e1 e2
              subst e1; subst e2
              have k0 := below_cell' hBz.out (below_cell' HB5.out m0)
              have k1 := below_cell' hBz.out (below_cell' HB5.out m1)
              have k2 := below_cell' hBz.out HQ1.out
              have HP : Hid (isPut xs xkey j = (xs[j].kind == 2 && xs[j].k == xkey)) := Lib.hid (by unfold isPut; rw [List.getElem?_eq_getElem hjx])
              have HLS : Hid (lastP (isPut xs xkey) (j + 1) = if isPut xs xkey j = true then (j : Int) else lastP (isPut xs xkey) j) := Lib.hid rfl
              clear m0 m1 m2
              generalize xs[j].kind = kd at k0 HP
              generalize xs[j].k = ky at k1 HP
              cases p1 : (kd == 2)
              · have HN : Hid (L = lastP (isPut xs xkey) (j + 1)) := Lib.hid (by rw [HLS.out, HP.out, p1, hj.out.2]; rfl)
                clear HP HLS
                go_wp2_with fail
                go_quiet (fail)
                go_wp2
                go_roundg (i + 1 - (j + 1))
                case measure => have := hj.out.1; omega
                case rel => exact ⟨j + 1, L, Lib.hid ⟨by have := hj.out.1; omega, HN.out⟩, rfl, by go_num, hL1, hL2, Lib.hid (below_drewN hBz.out _)⟩
              · cases p2 : (ky == xkey)
                · have HN : Hid (L = lastP (isPut xs xkey) (j + 1)) := Lib.hid (by rw [HLS.out, HP.out, p1, p2, hj.out.2]; rfl)
                  clear HP HLS
                  go_wp2_with fail
                  go_quiet (fail)
                  go_wp2
                  go_roundg (i + 1 - (j + 1))
                  case measure => have := hj.out.1; omega
                  case rel => exact ⟨j + 1, L, Lib.hid ⟨by have := hj.out.1; omega, HN.out⟩, rfl, by go_num, hL1, hL2, Lib.hid (below_drewN hBz.out _)⟩
                · have HN : Hid ((j : Int) = lastP (isPut xs xkey) (j + 1)) := Lib.hid (by rw [HLS.out, HP.out, p1, p2]; rfl)
                  clear HP HLS
                  go_wp2_with fail
                  go_quiet (fail)
                  go_wp2
                  go_roundg (i + 1 - (j + 1))
                  case measure => have := hj.out.1; omega
                  case rel => exact ⟨j + 1, (j : Int), Lib.hid ⟨by have := hj.out.1; omega, HN.out⟩, rfl, by go_num, by omega, by omega, Lib.hid (below_drewN hBz.out _)⟩
            · have hLj : L = (jl : Int) := by
                rw [hj.out.2, ← HJ.out.1]
                congr 1
                have := hj.out.1; omega
              subst hLj
              have hjx : jl < xs.length := (List.getElem?_eq_some_iff.1 HJ.out.2.1).1
              have hj0 : (0 : Int) ≤ (jl : Int) := by omega
              have hjx' : (jl : Int) < (xs.length : Int) := by omega
              obtain ⟨b', o', e, hbb', m0, m1, m2⟩ := HX.out.elem hjx
              injection e with e
              injection e with e1 e2
              subst e1; subst e2
              have hv : xs[jl].v = rv := by
                have h1 := HJ.out.2.1
                rw [List.getElem?_eq_getElem hjx] at h1
                rw [Option.some.inj h1]
                exact HJ.out.2.2
              rw [hv] at m2
              have k0 := below_cell' hBz.out (below_cell' HB5.out m2)
              have HL6 : Hid (LikeAt w wr bc n xs (i + 1)) := Lib.hid (by
                obtain ⟨S3, c3, h1, h2, h3, h4, h5⟩ := HL5.out
                exact ⟨S3, c3, h1.below hBz.out, h2, h3, h4, h5.trans (hBz.out.mono h5.size)⟩)
              clear m0 m1 m2 hv hj
              go_wp2
              go_roundg (xs.length - (i + 1))
              case measure => have := hi.out; omega
              case rel => exact ⟨i + 1, Lib.hid (by have := hi.out; omega), by go_num, HL6⟩
      · by_cases hk4 : xk = 4
        · subst hk4
          clear hk2
          have q0 : (wr.alloc (.cells #[.int .i64 4, .int .i64 xkey, .int .i64 xv] 49)).cell? ⟨wr.heap.size, 0, none⟩ = some (.int .i64 4) := cell_blk HNB.out rfl
          have q1 : (wr.alloc (.cells #[.int .i64 4, .int .i64 xkey, .int .i64 xv] 49)).cell? ⟨wr.heap.size, 1, none⟩ = some (.int .i64 xkey) := cell_blk HNB.out rfl
          have q2 : (wr.alloc (.cells #[.int .i64 4, .int .i64 xkey, .int .i64 xv] 49)).cell? ⟨wr.heap.size, 2, none⟩ = some (.int .i64 xv) := cell_blk HNB.out rfl
          have HPT := Lib.hid (CClear HCA.out.1)
          obtain ⟨c', hcc⟩ : ∃ c', c.clear = c' := ⟨_, rfl⟩
          have HCC := Lib.hid hcc
          clear hcc
          rw [HCC.out] at HPT
          go_wp2_with fail
          refine HPT.out.mono ?_
          rintro e w4 ⟨rfl, S4, h4, hc4, hS4⟩
          have hcc := HCC.out
          clear HPT
          have hq : ¬ S wr.heap.size := fun h => HQ.out _ h rfl
          have q0' := HCA.out.1.keep hq q0 hc4
          have q1' := HCA.out.1.keep hq q1 hc4
          have q2' := HCA.out.1.keep hq q2 hc4
          have HK : Hid (CacheAt S4 w4 bc c' ∧ c'.n = n ∧ InvL xs c' (i + 1) ∧ (∀ k, S4 k → w.heap.size ≤ k) ∧ Below w.heap.size w w4 ∧ ¬ S4 wr.heap.size) := Lib.hid (by
            subst hcc
            refine ⟨h4, HCA.out.2.1, HCA.out.2.2.1.stay HO.out (by simp) (fun e he => by rw [clear_all] at he; cases he), fun k hk => (hS4 k hk).elim (HCA.out.2.2.2.1 k) fun h => Nat.le_trans HCA.out.2.2.2.2.size h, HCA.out.2.2.2.2.trans (hc4.below HCA.out.2.2.2.2.size fun k hk h => by have := HCA.out.2.2.2.1 k h; omega), fun h => (hS4 _ h).elim hq fun h => by simp at h; omega⟩)
          clear h4 hc4 hS4 q0 q1 q2 hq
          have q0 := q0'
          have q1 := q1'
          have q2 := q2'
          clear q0' q1' q2' hcc
          have HG := Lib.hid (CGet HK.out.1 xkey)
          have HGM := Lib.hid (fun h => HK.out.1.wf.get_mem (k := xkey) h)
          generalize c'.get xkey = r at HG HGM
          obtain ⟨rv, rb⟩ := r
          go_wp2_with fail
          refine HG.out.mono ?_
          rintro e w5 ⟨rfl, S2, h5, hc5, hS5⟩
          have HL5 : Hid (LikeAt w w5 bc n xs (i + 1)) := Lib.hid ⟨S2, _, h5, HK.out.2.1, fun e he => HK.out.2.2.1 e (HK.out.1.wf.got_mem xkey he), fun k hk => (hS5 k hk).elim (HK.out.2.2.2.1 k) fun h => Nat.le_trans HK.out.2.2.2.2.1.size h, HK.out.2.2.2.2.1.trans (hc5.below HK.out.2.2.2.2.1.size fun k hk h => by have := HK.out.2.2.2.1 k h; omega)⟩
          have q0' := HK.out.1.keep HK.out.2.2.2.2.2 q0 hc5
          have q1' := HK.out.1.keep HK.out.2.2.2.2.2 q1 hc5
          have q2' := HK.out.1.keep HK.out.2.2.2.2.2 q2 hc5
          clear h5 hc5 hS5 HG q0 q1 q2
          cases rb
          · go_wp2
            go_roundg (xs.length - (i + 1))
            case measure => have := hi.out; omega
            case rel => exact ⟨i + 1, Lib.hid (by have := hi.out; omega), by go_num, HL5⟩
          · obtain ⟨jl, ol, hj1, hj2, hj3⟩ := HK.out.2.2.1 (xkey, rv) (HGM.out rfl)
            have HJ : Hid (lastP (isPut xs xkey) (i + 1) = (jl : Int) ∧ xs[jl]? = some ol ∧ ol.v = rv) := Lib.hid ⟨hj1, hj2, hj3⟩
            have hn0 : ((n : Int) == 0) = false := by
              have hne : n ≠ 0 := fun h0 => by
                have h1 := HGM.out rfl
                unfold CM.all at h1
                rw [HK.out.1.wf.zero (HK.out.2.1.trans h0)] at h1
                simp at h1
              simp; omega
            have HB5 : Hid (Below w.heap.size w w5) := Lib.hid (by obtain ⟨_, _, _, _, _, _, h⟩ := HL5.out; exact h)
            clear hj1 hj2 hj3 HGM g0 g1 g2
            have HQ1 := Lib.hid q1'
            clear q0' q1' q2'
            go_wp2_with fail
            go_loopg [11, 12] (i + 1) (fun gk ul uj wz => ∃ (j : Nat) (L : Int), Hid (j + gk = i + 1 ∧ L = lastP (isPut xs xkey) j) ∧ ul = .int .i64 L ∧ uj = .int .i64 j ∧ -1 ≤ L ∧ L ≤ 9223372036854775807 ∧ Hid (Below w5.heap.size w5 wz))
            case atStart => exact ⟨0, -1, Lib.hid ⟨Nat.zero_add _, rfl⟩, rfl, by go_num, by omega, by omega, Lib.hid (Below.refl _ _)⟩
            case round =>
              obtain ⟨j, L, hj, rfl, rfl, hL1, hL2, hBz⟩ := hrel
              by_cases hji : j ≤ i
              · have hji' : (j : Int) ≤ (i : Int) := by omega
                have hjx : j < xs.length := by omega
                have hj0 : (0 : Int) ≤ (j : Int) := by omega
                have hjx' : (j : Int) < (xs.length : Int) := by omega
                obtain ⟨b', o', e, hbb', m0, m1, m2⟩ := HX.out.elem hjx
                injection e with e
                injection e with e1 e2
                subst e1; subst e2
                have k0 := below_cell' hBz.out (below_cell' HB5.out m0)
                have k1 := below_cell' hBz.out (below_cell' HB5.out m1)
                have k2 := below_cell' hBz.out HQ1.out
                have HP : Hid (isPut xs xkey j = (xs[j].kind == 2 && xs[j].k == xkey)) := Lib.hid (by unfold isPut; rw [List.getElem?_eq_getElem hjx])
                have HLS : Hid (lastP (isPut xs xkey) (j + 1) = if isPut xs xkey j = true then (j : Int) else lastP (isPut xs xkey) j) := Lib.hid rfl
                clear m0 m1 m2
                generalize xs[j].kind = kd at k0 HP
                generalize xs[j].k = ky at k1 HP
                cases p1 : (kd == 2)
                · have HN : Hid (L = lastP (isPut xs xkey) (j + 1)) := Lib.hid (by rw [HLS.out, HP.out, p1, hj.out.2]; rfl)
                  clear HP HLS
                  go_wp2_with fail
                  go_quiet (fail)
                  go_wp2
                  go_roundg (i + 1 - (j + 1))
                  case measure => have := hj.out.1; omega
                  case rel => exact ⟨j + 1, L, Lib.hid ⟨by have := hj.out.1; omega, HN.out⟩, rfl, by go_num, hL1, hL2, Lib.hid (below_drewN hBz.out _)⟩
                · cases p2 : (ky == xkey)
                  · have HN : Hid (L = lastP (isPut xs xkey) (j + 1)) := Lib.hid (by rw [HLS.out, HP.out, p1, p2, hj.out.2]; rfl)
                    clear HP HLS
                    go_wp2_with fail
                    go_quiet (fail)
                    go_wp2
                    go_roundg (i + 1 - (j + 1))
                    case measure => have := hj.out.1; omega
                    case rel => exact ⟨j + 1, L, Lib.hid ⟨by have := hj.out.1; omega, HN.out⟩, rfl, by go_num, hL1, hL2, Lib.hid (below_drewN hBz.out _)⟩
                  · have HN : Hid ((j : Int) = lastP (isPut xs xkey) (j + 1)) := Lib.hid (by rw [HLS.out, HP.out, p1, p2]; rfl)
                    clear HP HLS
                    go_wp2_with fail
                    go_quiet (fail)
                    go_wp2
                    go_roundg (i + 1 - (j + 1))
                    case measure => have := hj.out.1; omega
                    case rel => exact ⟨j + 1, (j : Int), Lib.hid ⟨by have := hj.out.1; omega, HN.out⟩, rfl, by go_num, by omega, by omega, Lib.hid (below_drewN hBz.out _)⟩
              · have hLj : L = (jl : Int) := by
                  rw [hj.out.2, ← HJ.out.1]
                  congr 1
                  have := hj.out.1; omega
                subst hLj
                have hjx : jl < xs.length := (List.getElem?_eq_some_iff.1 HJ.out.2.1).1
                have hj0 : (0 : Int) ≤ (jl : Int) := by omega
                have hjx' : (jl : Int) < (xs.length : Int) := by omega
                obtain ⟨b', o', e, hbb', m0, m1, m2⟩ := HX.out.elem hjx
                injection e with e
                injection e with e1 e2
                subst e1; subst e2
                have hv : xs[jl].v = rv := by
                  have h1 := HJ.out.2.1
                  rw [List.getElem?_eq_getElem hjx] at h1
                  rw [Option.some.inj h1]
                  exact HJ.out.2.2
                rw [hv] at m2
                have k0 := below_cell' hBz.out (below_cell' HB5.out m2)
                have HL6 : Hid (LikeAt w wr bc n xs (i + 1)) := Lib.hid (by
                  obtain ⟨S3, c3, h1, h2, h3, h4, h5⟩ := HL5.out
                  exact ⟨S3, c3, h1.below hBz.out, h2, h3, h4, h5.trans (hBz.out.mono h5.size)⟩)
                clear m0 m1 m2 hv hj
                go_wp2
                go_roundg (xs.length - (i + 1))
                case measure => have := hi.out; omega
                case rel => exact ⟨i + 1, Lib.hid (by have := hi.out; omega), by go_num, HL6⟩
        · obtain ⟨c', hc'⟩ : ∃ c', c' = c := ⟨_, rfl⟩
          have hb2 : (xk == 2) = false := by simpa using hk2
          have hb4 : (xk == 4) = false := by simpa using hk4
          have q0 : (wr.alloc (.cells #[.int .i64 xk, .int .i64 xkey, .int .i64 xv] 49)).cell? ⟨wr.heap.size, 0, none⟩ = some (.int .i64 xk) := cell_blk HNB.out rfl
          have q1 : (wr.alloc (.cells #[.int .i64 xk, .int .i64 xkey, .int .i64 xv] 49)).cell? ⟨wr.heap.size, 1, none⟩ = some (.int .i64 xkey) := cell_blk HNB.out rfl
          have q2 : (wr.alloc (.cells #[.int .i64 xk, .int .i64 xkey, .int .i64 xv] 49)).cell? ⟨wr.heap.size, 2, none⟩ = some (.int .i64 xv) := cell_blk HNB.out rfl
          have HK : Hid (CacheAt S (wr.alloc (.cells #[.int .i64 xk, .int .i64 xkey, .int .i64 xv] 49)) bc c' ∧ c'.n = n ∧ InvL xs c' (i + 1) ∧ (∀ k, S k → w.heap.size ≤ k) ∧ Below w.heap.size w (wr.alloc (.cells #[.int .i64 xk, .int .i64 xkey, .int .i64 xv] 49)) ∧ ¬ S wr.heap.size) := Lib.hid (by
            subst hc'
            exact ⟨HCA.out.1, HCA.out.2.1, HCA.out.2.2.1.stay HO.out hk2 (fun _ h => h), HCA.out.2.2.2.1, HCA.out.2.2.2.2, fun h => HQ.out _ h rfl⟩)
          clear hc' hk2 hk4
          have HG := Lib.hid (CGet HK.out.1 xkey)
          have HGM := Lib.hid (fun h => HK.out.1.wf.get_mem (k := xkey) h)
          generalize c'.get xkey = r at HG HGM
          obtain ⟨rv, rb⟩ := r
          go_wp2_with fail
          refine HG.out.mono ?_
          rintro e w5 ⟨rfl, S2, h5, hc5, hS5⟩
          have HL5 : Hid (LikeAt w w5 bc n xs (i + 1)) := Lib.hid ⟨S2, _, h5, HK.out.2.1, fun e he => HK.out.2.2.1 e (HK.out.1.wf.got_mem xkey he), fun k hk => (hS5 k hk).elim (HK.out.2.2.2.1 k) fun h => Nat.le_trans HK.out.2.2.2.2.1.size h, HK.out.2.2.2.2.1.trans (hc5.below HK.out.2.2.2.2.1.size fun k hk h => by have := HK.out.2.2.2.1 k h; omega)⟩
          have q0' := HK.out.1.keep HK.out.2.2.2.2.2 q0 hc5
          have q1' := HK.out.1.keep HK.out.2.2.2.2.2 q1 hc5
          have q2' := HK.out.1.keep HK.out.2.2.2.2.2 q2 hc5
          clear h5 hc5 hS5 HG q0 q1 q2
          cases rb
          · go_wp2
            go_roundg (xs.length - (i + 1))
            case measure => have := hi.out; omega
            case rel => exact ⟨i + 1, Lib.hid (by have := hi.out; omega), by go_num, HL5⟩
          · obtain ⟨jl, ol, hj1, hj2, hj3⟩ := HK.out.2.2.1 (xkey, rv) (HGM.out rfl)
            have HJ : Hid (lastP (isPut xs xkey) (i + 1) = (jl : Int) ∧ xs[jl]? = some ol ∧ ol.v = rv) := Lib.hid ⟨hj1, hj2, hj3⟩
            have hn0 : ((n : Int) == 0) = false := by
              have hne : n ≠ 0 := fun h0 => by
                have h1 := HGM.out rfl
                unfold CM.all at h1
                rw [HK.out.1.wf.zero (HK.out.2.1.trans h0)] at h1
                simp at h1
              simp; omega
            have HB5 : Hid (Below w.heap.size w w5) := Lib.hid (by obtain ⟨_, _, _, _, _, _, h⟩ := HL5.out; exact h)
            clear hj1 hj2 hj3 HGM g0 g1 g2
            have HQ1 := Lib.hid q1'
            clear q0' q1' q2'
            go_wp2_with fail
            go_loopg [11, 12] (i + 1) (fun gk ul uj wz => ∃ (j : Nat) (L : Int), Hid (j + gk = i + 1 ∧ L = lastP (isPut xs xkey) j) ∧ ul = .int .i64 L ∧ uj = .int .i64 j ∧ -1 ≤ L ∧ L ≤ 9223372036854775807 ∧ Hid (Below w5.heap.size w5 wz))
            case atStart => exact ⟨0, -1, Lib.hid ⟨Nat.zero_add _, rfl⟩, rfl, by go_num, by omega, by omega, Lib.hid (Below.refl _ _)⟩
            case round =>
              obtain ⟨j, L, hj, rfl, rfl, hL1, hL2, hBz⟩ := hrel
              by_cases hji : j ≤ i
              · have hji' : (j : Int) ≤ (i : Int) := by omega
                have hjx : j < xs.length := by omega
                have hj0 : (0 : Int) ≤ (j : Int) := by omega
                have hjx' : (j : Int) < (xs.length : Int) := by omega
                obtain ⟨b', o', e, hbb', m0, m1, m2⟩ := HX.out.elem hjx
                injection e with e
                injection e with e1 e2
                subst e1; subst e2
                have k0 := below_cell' hBz.out (below_cell' HB5.out m0)
                have k1 := below_cell' hBz.out (below_cell' HB5.out m1)
                have k2 := below_cell' hBz.out HQ1.out
                have HP : Hid (isPut xs xkey j = (xs[j].kind == 2 && xs[j].k == xkey)) := Lib.hid (by unfold isPut; rw [List.getElem?_eq_getElem hjx])
                have HLS : Hid (lastP (isPut xs xkey) (j + 1) = if isPut xs xkey j = true then (j : Int) else lastP (isPut xs xkey) j) := Lib.hid rfl
                clear m0 m1 m2
                generalize xs[j].kind = kd at k0 HP
                generalize xs[j].k = ky at k1 HP
                cases p1 : (kd == 2)
                · have HN : Hid (L = lastP (isPut xs xkey) (j + 1)) := Lib.hid (by rw [HLS.out, HP.out, p1, hj.out.2]; rfl)
                  clear HP HLS
                  go_wp2_with fail
                  go_quiet (fail)
                  go_wp2
                  go_roundg (i + 1 - (j + 1))
                  case measure => have := hj.out.1; omega
                  case rel => exact ⟨j + 1, L, Lib.hid ⟨by have := hj.out.1; omega, HN.out⟩, rfl, by go_num, hL1, hL2, Lib.hid (below_drewN hBz.out _)⟩
                · cases p2 : (ky == xkey)
                  · have HN : Hid (L = lastP (isPut xs xkey) (j + 1)) := Lib.hid (by rw [HLS.out, HP.out, p1, p2, hj.out.2]; rfl)
                    clear HP HLS
                    go_wp2_with fail
                    go_quiet (fail)
                    go_wp2
                    go_roundg (i + 1 - (j + 1))
                    case measure => have := hj.out.1; omega
                    case rel => exact ⟨j + 1, L, Lib.hid ⟨by have := hj.out.1; omega, HN.out⟩, rfl, by go_num, hL1, hL2, Lib.hid (below_drewN hBz.out _)⟩
                  · have HN : Hid ((j : Int) = lastP (isPut xs xkey) (j + 1)) := Lib.hid (by rw [HLS.out, HP.out, p1, p2]; rfl)
                    clear HP HLS
                    go_wp2_with fail
                    go_quiet (fail)
                    go_wp2
                    go_roundg (i + 1 - (j + 1))
                    case measure => have := hj.out.1; omega
                    case rel => exact ⟨j + 1, (j : Int), Lib.hid ⟨by have := hj.out.1; omega, HN.out⟩, rfl, by go_num, by omega, by omega, Lib.hid (below_drewN hBz.out _)⟩
              · have hLj : L = (jl : Int) := by
                  rw [hj.out.2, ← HJ.out.1]
                  congr 1
                  have := hj.out.1; omega
                subst hLj
                have hjx : jl < xs.length := (List.getElem?_eq_some_iff.1 HJ.out.2.1).1
                have hj0 : (0 : Int) ≤ (jl : Int) := by omega
                have hjx' : (jl : Int) < (xs.length : Int) := by omega
                obtain ⟨b', o', e, hbb', m0, m1, m2⟩ := HX.out.elem hjx
                injection e with e
                injection e with e1 e2
                subst e1; subst e2
                have hv : xs[jl].v = rv := by
                  have h1 := HJ.out.2.1
                  rw [List.getElem?_eq_getElem hjx] at h1
                  rw [Option.some.inj h1]
                  exact HJ.out.2.2
                rw [hv] at m2
                have k0 := below_cell' hBz.out (below_cell' HB5.out m2)
                have HL6 : Hid (LikeAt w wr bc n xs (i + 1)) := Lib.hid (by
                  obtain ⟨S3, c3, h1, h2, h3, h4, h5⟩ := HL5.out
                  exact ⟨S3, c3, h1.below hBz.out, h2, h3, h4, h5.trans (hBz.out.mono h5.size)⟩)
                clear m0 m1 m2 hv hj
                go_wp2
                go_roundg (xs.length - (i + 1))
                case measure => have := hi.out; omega
                case rel => exact ⟨i + 1, Lib.hid (by have := hi.out; omega), by go_num, HL6⟩
    · have HR : Hid (Below w.heap.size w wr) := Lib.hid (by obtain ⟨_, _, _, _, _, _, h⟩ := HL.out; exact h)
      clear HL
      go_wp2
      go_ret
      exact ⟨rfl, HR.out⟩

theorem CacheLike_all (n : Int) (hw : (Lit.int .i64 n).wf = true) (a : Option Addr) (cp : Nat) (xs : List OpM) (w : World) (hx : OpSl (fun b => b < w.heap.size) w (.slice a xs.length cp) xs) :
    Calls Try.prog 7 #[.int .i64 n, .slice a xs.length cp] w fun e w' => e = .returned (.bool true) ∧ Below w.heap.size w w' := by
  by_cases h : n < 0 ∨ 64 < n
  · exact CacheLike_bad n h _ w
  · obtain ⟨k, rfl⟩ := Int.eq_ofNat_of_zero_le (show 0 ≤ n by omega)
    exact CacheLike_ok k (by omega) a cp xs w hx
end Go.Proofs.Ytonfmgdikgedfaa.Cm
