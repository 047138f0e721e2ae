/- The walk of CacheRoom. -/
import Derived.Test.YtonfmgdikgedfaaLk
set_option maxRecDepth 100000
set_option maxHeartbeats 4000000
set_option linter.unusedVariables false
set_option linter.unusedSimpArgs false
namespace Go.Proofs.Ytonfmgdikgedfaa.Cm
open Go.RowKit Bs Hi Go.Lib

theorem own_num {w : World} {B : Nat} {v : Value} {L : List Int} (h : w.ownsRow B 3 1 v L.length (L.map (Value.int .i64))) : ∃ a c, v = .slice a L.length c ∧ ∀ j (hj : j < L.length), ∃ g, a = some ⟨g, 0, none⟩ ∧ w.cell? ⟨g, j, none⟩ = some (.int .i64 L[j]) := by
  obtain ⟨h1, h2⟩ := h
  rcases h2 with ⟨rfl, h2⟩ | ⟨g, cap, cur, rfl, _, hg, hn, _, hs, ht⟩
  · exact ⟨none, 0, by rw [h2], fun j hj => by omega⟩
  · refine ⟨_, cap, rfl, fun j hj => ⟨g, rfl, cell_blk hg ?_⟩⟩
    have h3 : (cur.toList.take (L.length * 1))[j]? = some (.int .i64 L[j]) := by rw [ht]; simp [hj]
    rw [List.getElem?_take_of_lt (by omega)] at h3
    simpa using h3

/-- What is kept was put under its number. -/
def InvR (xs : List Int) (c : CM) (i : Nat) : Prop := ∀ e ∈ c.all, ∃ j : Nat, e.2 = j ∧ j < i ∧ xs[j]? = some e.1
theorem InvR.put {xs : List Int} {c : CM} {i : Nat} {x : Int} (hw : c.WF) (h : InvR xs c i) (hx : xs[i]? = some x) : InvR xs (c.put (x, (i : Int))) (i + 1) := by
  intro e he
  rcases hw.put_mem _ he with rfl | ⟨h1, _⟩
  · exact ⟨i, rfl, by omega, hx⟩
  · obtain ⟨j, h2, h3, h4⟩ := h e h1
    exact ⟨j, h2, by omega, h4⟩
theorem InvR.got {xs : List Int} {c : CM} {i : Nat} (hw : c.WF) (h : InvR xs c i) (k : Int) : InvR xs (c.got k) i := fun e he => h e (hw.got_mem k he)
def RoomAt (w wr : World) (bc n : Nat) (xs : List Int) (i : Nat) : Prop := ∃ (S : Nat → Prop) (c : CM), CacheAt S wr bc c ∧ c.n = n ∧ InvR xs c i ∧ (∀ k, S k → w.heap.size ≤ k) ∧ Below w.heap.size w wr ∧ c.hit = (if n = 0 then 0 else (i : Int)) ∧ c.miss = (if n = 0 then (i : Int) else 0)

theorem CacheRoom_bad (n : Int) (hn : n < 0 ∨ 64 < n) (sv : Value) (w : World) : Calls Try.prog 8 #[.int .i64 n, sv] w fun e w' => e = .returned (.bool true) ∧ Below w.heap.size w w' := by
  rcases hn with hn | hn
  all_goals
    first | have hn' : n < 0 := hn | have hn' : ¬ n < 0 := by omega
    go_enter Try.func8, Try.ntmps8
    go_wp2_with fail
    refine (awake18 _).mono ?_
    rintro e w1 ⟨rfl, hb1⟩
    have HB1 := Lib.hid hb1
    clear hb1
    go_wp2_with fail
    refine (New_bad (by omega) _).mono ?_
    rintro e w2 ⟨rfl, rfl⟩
    go_wp2
    go_ret
    exact ⟨rfl, HB1.out⟩

theorem IntSl.elemC {S : Nat → Prop} {w : World} {a : Option Addr} {c : Nat} {xs : List Int} (h : IntSl S w (.slice a xs.length c) xs) {k : Nat} (hk : k < xs.length) : ∃ b o, a = some ⟨b, o, none⟩ ∧ w.cell? ⟨b, o + k, none⟩ = some (.int .i64 xs[k]) := by
  obtain ⟨a', c', e, _, _, h4⟩ := IntSl.cells h
  injection e with e1 e2 e3
  subst e1
  rcases h4 with h4 | ⟨b, o, rfl, hS, h4⟩
  · rw [h4] at hk; simp at hk
  · exact ⟨b, o, rfl, (h4 k hk).1⟩

theorem CacheRoom_ok (n : Nat) (hn : n ≤ 64) (hp : 0 < n) (a : Option Addr) (cp : Nat) (xs : List Int) (w : World) (hx : IntSl (fun b => b < w.heap.size) w (.slice a xs.length cp) xs) :
    Calls Try.prog 8 #[.int .i64 n, .slice a xs.length cp] w fun e w' => e = .returned (.bool true) ∧ Below w.heap.size w w' := by
  have hby : xs.length * 8 ≤ 140737488355328 := by obtain ⟨_, _, _, _, h, _⟩ := hx; exact h
  have HX := Lib.hid hx
  clear hx
  have hp0 : (0 : Int) < (n : Int) := by omega
  go_enter Try.func8, Try.ntmps8
  go_wp2_with fail
  refine (awake18 _).mono ?_
  rintro e w1 ⟨rfl, hb1⟩
  have HB1 := Lib.hid hb1
  clear hb1
  go_wp2_with fail
  refine (CNew n hn w1).mono ?_
  rintro e w2 ⟨bc, rfl, hc, hb⟩
  have HL : Hid (RoomAt w w2 bc n xs 0) := Lib.hid ⟨_, _, hc, rfl, (by intro e he; rw [new_all] at he; cases he), fun k hk => Nat.le_trans HB1.out.size hk.1, HB1.out.trans (hb.mono HB1.out.size), by simp [newM], by simp [newM]⟩
  clear hc hb HB1
  go_wp2_with fail
  go_loopg [7] xs.length (fun gk ui wr => ∃ i : Nat, Hid (i + gk = xs.length) ∧ ui = .int .i64 i ∧ Hid (RoomAt w wr bc n xs i))
  case atStart => exact ⟨0, Lib.hid (Nat.zero_add _), by go_num, HL⟩
  case round =>
    clear HL
    obtain ⟨i, hi, rfl, HL⟩ := hrel
    by_cases hlt : i < xs.length
    · have hlt' : (i : Int) < (xs.length : Int) := by omega
      have hi0 : (0 : Int) ≤ (i : Int) := by omega
      obtain ⟨S, c, hca, hcn, hinv, hS, hbw, hht, hms⟩ := HL.out
      obtain ⟨b, o, rfl, m0⟩ := IntSl.elemC HX.out hlt
      have g0 := below_cell' hbw m0
      have HO : Hid (xs[i]? = some xs[i]) := Lib.hid (List.getElem?_eq_getElem hlt)
      have HM0 := Lib.hid m0
      clear m0
      generalize xs[i] = x at g0 HO HM0
      have HCA := Lib.hid (And.intro hca (And.intro hcn (And.intro hinv (And.intro hS (And.intro hbw (And.intro hht hms))))))
      have HPT := Lib.hid (CPut hca (x, (i : Int)))
      have HDR := Lib.hid (fun y (h : c.drop (x, (i : Int)) = some y) => hca.wf.drop_some h)
      have HGV : Hid ((c.put (x, (i : Int))).get x = if n = 0 then (0, false) else ((i : Int), true)) := Lib.hid (by
        have hwf := hca.wf.put (x, (i : Int))
        by_cases h0 : n = 0
        · rw [if_pos h0]
          unfold CM.get
          rw [hwf.at_zero (hcn.trans h0)]
          rfl
        · rw [if_neg h0]
          exact hwf.mem_get (hca.wf.put_has (by omega) (x, (i : Int))))
      have HIN := Lib.hid (hinv.put hca.wf HO.out)
      have HWF := Lib.hid (hca.wf.put (x, (i : Int)))
      have HCN : Hid ((c.put (x, (i : Int))).n = n ∧ (c.put (x, (i : Int))).hit = c.hit ∧ (c.put (x, (i : Int))).miss = c.miss) := Lib.hid ⟨hcn, rfl, rfl⟩
      generalize c.put (x, (i : Int)) = c' at HPT HDR HGV HIN HWF HCN
      clear hca hcn hinv hS hbw hht hms HL
      have hnn : (0 : Int) ≤ (n : Int) := by omega
      cases hd : c.drop (x, (i : Int)) with
      | none =>
        rw [hd] at HPT
        have HDV : Hid (dropV none = ((0, 0), false)) := Lib.hid rfl
        rw [HDV.out] at HPT
        clear hd HDR HDV
        go_wp2_with fail
        refine HPT.out.mono ?_
        rintro e w3 ⟨rfl, S3, h3, hc3, hS3⟩
        have HB3 : Hid (Below w.heap.size w w3) := Lib.hid (HCA.out.2.2.2.2.1.trans (hc3.below HCA.out.2.2.2.2.1.size fun k hk h => by have := HCA.out.2.2.2.1 k h; omega))
        have HS3 : Hid (∀ k, S3 k → w.heap.size ≤ k) := Lib.hid fun k hk => (hS3 k hk).elim (HCA.out.2.2.2.1 k) fun h => Nat.le_trans HCA.out.2.2.2.2.1.size h
        have HLN := Lib.hid (CLen h3)
        have hkl : (c'.keys.length : Int) ≤ (n : Int) := by have := HWF.out.keys_len; rw [HCN.out.1] at this; omega
        clear h3 hc3 hS3 HPT g0
        go_wp2_with fail
        refine HLN.out.mono ?_
        rintro e w4 ⟨rfl, h4, hc4⟩
        have HB4 : Hid (Below w.heap.size w w4) := Lib.hid (HB3.out.trans (hc4.below HB3.out.size fun k hk h => by have := HS3.out k h; omega))
        have HKY := Lib.hid (CKeys h4)
        clear h4 hc4 HLN HB3
        go_wp2_with fail
        refine HKY.out.mono ?_
        rintro e w5 ⟨v, rfl, hv, h5, hc5⟩
        have HB5 : Hid (Below w.heap.size w w5) := Lib.hid (HB4.out.trans (hc5.below HB4.out.size fun k hk h => by have := HS3.out k h; omega))
        have H5 := Lib.hid h5
        obtain ⟨ka, kc, rfl, hcells⟩ := own_num hv
        have HV := Lib.hid hcells
        have HND := Lib.hid HWF.out.keys_nodup
        clear hv h5 hc5 hcells HKY HB4
        generalize c'.keys = L at *
        have hL64 : (L.length : Int) ≤ 64 := by omega
        go_wp2_with fail
        go_loopg [12, 13] L.length (fun gk ua _ wr => ∃ q : Nat, Hid (q + gk = L.length) ∧ ua = .int .i64 q ∧ Hid (Below w5.heap.size w5 wr))
        case atStart => exact ⟨0, Lib.hid (Nat.zero_add _), by go_num, Lib.hid (Below.refl _ _)⟩
        case round =>
          obtain ⟨q, hq, rfl, hBz⟩ := hrel
          by_cases hql : q < L.length
          · have hql' : (q : Int) < (L.length : Int) := by omega
            have hq0 : (0 : Int) ≤ (q : Int) := by omega
            obtain ⟨g, rfl, m0⟩ := HV.out q hql
            have k0 := below_cell' hBz.out m0
            have HMQ := Lib.hid m0
            have HNQ := Lib.hid (fun p (hp : p < q) => (List.pairwise_iff_getElem.1 (List.nodup_iff_pairwise_ne.1 HND.out)) p q (by omega) hql hp)
            clear m0
            generalize L[q] = z at k0 HMQ HNQ
            go_wp2_with fail
            clear k0
            go_loopg [13] q (fun gk ub wr => ∃ p : Nat, Hid (p + gk = q) ∧ ub = .int .i64 p ∧ Hid (Below w5.heap.size w5 wr))
            case atStart => exact ⟨0, Lib.hid (Nat.zero_add _), by go_num, hBz⟩
            case round =>
              clear hBz
              obtain ⟨p, hp, rfl, hBz⟩ := hrel
              by_cases hpq : p < q
              · have hpq' : (p : Int) < (q : Int) := by omega
                have hp0 : (0 : Int) ≤ (p : Int) := by omega
                have hpl : (p : Int) < (L.length : Int) := by omega
                obtain ⟨g', e, m0⟩ := HV.out p (by omega)
                injection e with e
                injection e with e
                subst e
                have k0 := below_cell' hBz.out HMQ.out
                have k1 := below_cell' hBz.out m0
                have hz : (z == L[p]) = false := by
                  simp only [beq_eq_false_iff_ne]
                  exact fun h => HNQ.out p hpq h.symm
                clear m0
                generalize L[p] = zp at k1 hz
                go_wp2_with fail
                go_quiet (fail)
                go_wp2
                go_roundg (q - (p + 1))
                case measure => have := hp.out; omega
                case rel => exact ⟨p + 1, Lib.hid (by have := hp.out; omega), by go_num, Lib.hid (below_drewN hBz.out _)⟩
              · clear hp
                go_wp2
                go_roundg (L.length - (q + 1))
                case measure => have := hq.out; omega
                case rel => exact ⟨q + 1, Lib.hid (by have := hq.out; omega), by go_num, hBz⟩
          · clear hq
            have HBW : Hid (Below w.heap.size w wr) := Lib.hid (HB5.out.trans (hBz.out.mono HB5.out.size))
            have k9 := below_cell' HBW.out HM0.out
            have HG := Lib.hid (CGet (H5.out.below hBz.out) x)
            rw [HGV.out] at HG
            have HNX : Hid (∀ (w6 : World), Next S3 wr w6 bc (c'.got x) → RoomAt w w6 bc n xs (i + 1)) := Lib.hid fun w6 ⟨S6, h6, hc6, hS6⟩ => by
              refine ⟨S6, _, h6, HCN.out.1, HIN.out.got HWF.out x, fun k hk => (hS6 k hk).elim (HS3.out k) fun h => Nat.le_trans HBW.out.size h, HBW.out.trans (hc6.below HBW.out.size fun k hk h => by have := HS3.out k h; omega), ?_, ?_⟩
              · show (if (c'.get x).2 = true then wrap64 (c'.hit + 1) else c'.hit) = _
                rw [HGV.out, HCN.out.2.1, HCA.out.2.2.2.2.2.1]
                by_cases h0 : n = 0
                · simp [h0]
                · simp only [h0, if_false, if_true]
                  rw [show wrap64 ((i : Int) + 1) = (i : Int) + 1 from IntWalk.wrap64_in _ ⟨by omega, by omega⟩]
                  simp
              · show (if (c'.get x).2 = true then c'.miss else wrap64 (c'.miss + 1)) = _
                rw [HGV.out, HCN.out.2.2, HCA.out.2.2.2.2.2.2]
                by_cases h0 : n = 0
                · simp only [h0, if_true]
                  rw [if_neg (by simp), show wrap64 ((i : Int) + 1) = (i : Int) + 1 from IntWalk.wrap64_in _ ⟨by omega, by omega⟩]
                  simp
                · simp [h0]
            clear HV HND H5 HGV
            rw [if_neg (by omega : ¬ n = 0)] at HG
            go_wp2_with fail
            refine HG.out.mono ?_
            rintro e w6 ⟨rfl, hn6⟩
            have H6 := Lib.hid (HNX.out w6 hn6)
            clear hn6 HNX HG k9
            go_wp2
            go_roundg (xs.length - (i + 1))
            case measure => have := hi.out; omega
            case rel => exact ⟨i + 1, Lib.hid (by have := hi.out; omega), by go_num, H6⟩
      | some y =>
        rw [hd] at HPT
        have HY := Lib.hid (HDR.out _ hd)
        obtain ⟨y1, y2⟩ := y
        have HYI := Lib.hid (HCA.out.2.2.1 _ HY.out.1)
        have HDV : Hid (dropV (some (y1, y2)) = ((y1, y2), true)) := Lib.hid rfl
        rw [HDV.out] at HPT
        clear hd HDR HDV
        go_wp2_with fail
        refine HPT.out.mono ?_
        rintro e w3 ⟨rfl, S3, h3, hc3, hS3⟩
        have HB3 : Hid (Below w.heap.size w w3) := Lib.hid (HCA.out.2.2.2.2.1.trans (hc3.below HCA.out.2.2.2.2.1.size fun k hk h => by have := HCA.out.2.2.2.1 k h; omega))
        have HS3 : Hid (∀ k, S3 k → w.heap.size ≤ k) := Lib.hid fun k hk => (hS3 k hk).elim (HCA.out.2.2.2.1 k) fun h => Nat.le_trans HCA.out.2.2.2.2.1.size h
        have HLN := Lib.hid (CLen h3)
        have hkl : (c'.keys.length : Int) ≤ (n : Int) := by have := HWF.out.keys_len; rw [HCN.out.1] at this; omega
        clear h3 hc3 hS3 HPT g0
        go_wp2_with fail
        refine HLN.out.mono ?_
        rintro e w4 ⟨rfl, h4, hc4⟩
        have HB4 : Hid (Below w.heap.size w w4) := Lib.hid (HB3.out.trans (hc4.below HB3.out.size fun k hk h => by have := HS3.out k h; omega))
        have HKY := Lib.hid (CKeys h4)
        clear h4 hc4 HLN HB3
        go_wp2_with fail
        refine HKY.out.mono ?_
        rintro e w5 ⟨v, rfl, hv, h5, hc5⟩
        have HB5 : Hid (Below w.heap.size w w5) := Lib.hid (HB4.out.trans (hc5.below HB4.out.size fun k hk h => by have := HS3.out k h; omega))
        have H5 := Lib.hid h5
        obtain ⟨ka, kc, rfl, hcells⟩ := own_num hv
        have HV := Lib.hid hcells
        have HND := Lib.hid HWF.out.keys_nodup
        have HNE : Hid (∀ q (hq : q < c'.keys.length), (c'.keys[q] == y1) = false) := Lib.hid fun q hq => by
          have h1 := List.getElem_mem hq
          unfold CM.keys at h1
          obtain ⟨z, hz1, hz2⟩ := List.mem_map.1 h1
          have h2 := HY.out.2.2 z hz1
          simp only [beq_eq_false_iff_ne]
          exact fun h => h2 (hz2.trans h)
        clear hv h5 hc5 hcells HKY HB4
        generalize c'.keys = L at *
        have hL64 : (L.length : Int) ≤ 64 := by omega
        go_wp2_with fail
        go_loopg [12, 13] L.length (fun gk ua _ wr => ∃ q : Nat, Hid (q + gk = L.length) ∧ ua = .int .i64 q ∧ Hid (Below w5.heap.size w5 wr))
        case atStart => exact ⟨0, Lib.hid (Nat.zero_add _), by go_num, Lib.hid (Below.refl _ _)⟩
        case round =>
          obtain ⟨q, hq, rfl, hBz⟩ := hrel
          by_cases hql : q < L.length
          · have hql' : (q : Int) < (L.length : Int) := by omega
            have hq0 : (0 : Int) ≤ (q : Int) := by omega
            obtain ⟨g, rfl, m0⟩ := HV.out q hql
            have k0 := below_cell' hBz.out m0
            have HMQ := Lib.hid m0
            have HNQ := Lib.hid (fun p (hp : p < q) => (List.pairwise_iff_getElem.1 (List.nodup_iff_pairwise_ne.1 HND.out)) p q (by omega) hql hp)
            have hzy := HNE.out q hql
            clear m0
            generalize L[q] = z at k0 HMQ HNQ hzy
            go_wp2_with fail
            clear k0
            go_loopg [13] q (fun gk ub wr => ∃ p : Nat, Hid (p + gk = q) ∧ ub = .int .i64 p ∧ Hid (Below w5.heap.size w5 wr))
            case atStart => exact ⟨0, Lib.hid (Nat.zero_add _), by go_num, hBz⟩
            case round =>
              clear hBz
              obtain ⟨p, hp, rfl, hBz⟩ := hrel
              by_cases hpq : p < q
              · have hpq' : (p : Int) < (q : Int) := by omega
                have hp0 : (0 : Int) ≤ (p : Int) := by omega
                have hpl : (p : Int) < (L.length : Int) := by omega
                obtain ⟨g', e, m0⟩ := HV.out p (by omega)
                injection e with e
                injection e with e
                subst e
                have k0 := below_cell' hBz.out HMQ.out
                have k1 := below_cell' hBz.out m0
                have hz : (z == L[p]) = false := by
                  simp only [beq_eq_false_iff_ne]
                  exact fun h => HNQ.out p hpq h.symm
                clear m0
                generalize L[p] = zp at k1 hz
                go_wp2_with fail
                go_quiet (fail)
                go_wp2
                go_roundg (q - (p + 1))
                case measure => have := hp.out; omega
                case rel => exact ⟨p + 1, Lib.hid (by have := hp.out; omega), by go_num, Lib.hid (below_drewN hBz.out _)⟩
              · clear hp
                go_wp2
                go_roundg (L.length - (q + 1))
                case measure => have := hq.out; omega
                case rel => exact ⟨q + 1, Lib.hid (by have := hq.out; omega), by go_num, hBz⟩
          · clear hq
            have HBW : Hid (Below w.heap.size w wr) := Lib.hid (HB5.out.trans (hBz.out.mono HB5.out.size))
            have k9 := below_cell' HBW.out HM0.out
            have HG := Lib.hid (CGet (H5.out.below hBz.out) x)
            rw [HGV.out] at HG
            obtain ⟨jd, hj1, hj2, hj3⟩ := HYI.out
            subst hj1
            have hjx : jd < xs.length := (List.getElem?_eq_some_iff.1 hj3).1
            have hj0 : (0 : Int) ≤ (jd : Int) := by omega
            have hji : (jd : Int) < (i : Int) := by omega
            have hjx' : (jd : Int) < (xs.length : Int) := by omega
            obtain ⟨b', o', e, m1⟩ := IntSl.elemC HX.out hjx
            injection e with e
            injection e with e1 e2
            subst e1; subst e2
            have hk8 := below_cell' HBW.out m1
            have hxy : xs[jd] = y1 := by rw [List.getElem?_eq_getElem hjx] at hj3; exact Option.some.inj hj3
            rw [hxy] at hk8
            clear m1 hxy hj3
            have HNX : Hid (∀ (w6 : World), Next S3 wr w6 bc (c'.got x) → RoomAt w w6 bc n xs (i + 1)) := Lib.hid fun w6 ⟨S6, h6, hc6, hS6⟩ => by
              refine ⟨S6, _, h6, HCN.out.1, HIN.out.got HWF.out x, fun k hk => (hS6 k hk).elim (HS3.out k) fun h => Nat.le_trans HBW.out.size h, HBW.out.trans (hc6.below HBW.out.size fun k hk h => by have := HS3.out k h; omega), ?_, ?_⟩
              · show (if (c'.get x).2 = true then wrap64 (c'.hit + 1) else c'.hit) = _
                rw [HGV.out, HCN.out.2.1, HCA.out.2.2.2.2.2.1]
                by_cases h0 : n = 0
                · simp [h0]
                · simp only [h0, if_false, if_true]
                  rw [show wrap64 ((i : Int) + 1) = (i : Int) + 1 from IntWalk.wrap64_in _ ⟨by omega, by omega⟩]
                  simp
              · show (if (c'.get x).2 = true then c'.miss else wrap64 (c'.miss + 1)) = _
                rw [HGV.out, HCN.out.2.2, HCA.out.2.2.2.2.2.2]
                by_cases h0 : n = 0
                · simp only [h0, if_true]
                  rw [if_neg (by simp), show wrap64 ((i : Int) + 1) = (i : Int) + 1 from IntWalk.wrap64_in _ ⟨by omega, by omega⟩]
                  simp
                · simp [h0]
            clear HV HND H5 HGV
            rw [if_neg (by omega : ¬ n = 0)] at HG
            go_wp2_with fail
            refine HG.out.mono ?_
            rintro e w6 ⟨rfl, hn6⟩
            have H6 := Lib.hid (HNX.out w6 hn6)
            clear hn6 HNX HG k9 hk8
            go_wp2
            go_roundg (xs.length - (i + 1))
            case measure => have := hi.out; omega
            case rel => exact ⟨i + 1, Lib.hid (by have := hi.out; omega), by go_num, H6⟩
    · obtain ⟨S, c, hca, hcn, hinv, hS, hbw, hht, hms⟩ := HL.out
      have HR := Lib.hid hbw
      have HH := Lib.hid (CHits hca)
      rw [hht, hms, if_neg (by omega : ¬ n = 0), if_neg (by omega : ¬ n = 0)] at HH
      have hil : i = xs.length := by have := hi.out; omega
      clear hca hcn hinv hS hbw hht hms HL hi
      subst hil
      by_cases hz : xs.length = 0
      · rw [hz] at HH ⊢
        go_wp2_with fail
        refine HH.out.mono ?_
        rintro e w3 ⟨rfl, nd, rfl⟩
        go_wp2
        go_ret
        exact ⟨rfl, below_drewN HR.out _⟩
      · have hz' : ¬ (xs.length : Int) = 0 := by omega
        have hzn : ((xs.length : Int) == 0) = false := by simp only [beq_eq_false_iff_ne]; exact hz'
        go_wp2_with fail
        refine HH.out.mono ?_
        rintro e w3 ⟨rfl, nd, rfl⟩
        go_wp2
        go_ret
        exact ⟨rfl, below_drewN HR.out _⟩

theorem CacheRoom_ok0 (a : Option Addr) (cp : Nat) (xs : List Int) (w : World) (hx : IntSl (fun b => b < w.heap.size) w (.slice a xs.length cp) xs) :
    Calls Try.prog 8 #[.int .i64 0, .slice a xs.length cp] w fun e w' => e = .returned (.bool true) ∧ Below w.heap.size w w' := by
  have hby : xs.length * 8 ≤ 140737488355328 := by obtain ⟨_, _, _, _, h, _⟩ := hx; exact h
  have HX := Lib.hid hx
  clear hx
  go_enter Try.func8, Try.ntmps8
  go_wp2_with fail
  refine (awake18 _).mono ?_
  rintro e w1 ⟨rfl, hb1⟩
  have HB1 := Lib.hid hb1
  clear hb1
  go_wp2_with fail
  refine (CNew 0 (by omega) w1).mono ?_
  rintro e w2 ⟨bc, rfl, hc, hb⟩
  have HL : Hid (RoomAt w w2 bc 0 xs 0) := Lib.hid ⟨_, _, hc, rfl, (by intro e he; rw [new_all] at he; cases he), fun k hk => Nat.le_trans HB1.out.size hk.1, HB1.out.trans (hb.mono HB1.out.size), by simp [newM], by simp [newM]⟩
  clear hc hb HB1
  go_wp2_with fail
  go_loopg [7] xs.length (fun gk ui wr => ∃ i : Nat, Hid (i + gk = xs.length) ∧ ui = .int .i64 i ∧ Hid (RoomAt w wr bc 0 xs i))
  case atStart => exact ⟨0, Lib.hid (Nat.zero_add _), by go_num, HL⟩
  case round =>
    clear HL
    obtain ⟨i, hi, rfl, HL⟩ := hrel
    by_cases hlt : i < xs.length
    · have hlt' : (i : Int) < (xs.length : Int) := by omega
      have hi0 : (0 : Int) ≤ (i : Int) := by omega
      obtain ⟨S, c, hca, hcn, hinv, hS, hbw, hht, hms⟩ := HL.out
      obtain ⟨b, o, rfl, m0⟩ := IntSl.elemC HX.out hlt
      have g0 := below_cell' hbw m0
      have HO : Hid (xs[i]? = some xs[i]) := Lib.hid (List.getElem?_eq_getElem hlt)
      have HM0 := Lib.hid m0
      clear m0
      generalize xs[i] = x at g0 HO HM0
      have HCA := Lib.hid (And.intro hca (And.intro hcn (And.intro hinv (And.intro hS (And.intro hbw (And.intro hht hms))))))
      have HPT := Lib.hid (CPut hca (x, (i : Int)))
      have hd : c.drop (x, (i : Int)) = none := by unfold CM.drop; rw [if_pos hcn]
      have HWF := Lib.hid (hca.wf.put (x, (i : Int)))
      have HCN : Hid ((c.put (x, (i : Int))).n = 0 ∧ (c.put (x, (i : Int))).hit = c.hit ∧ (c.put (x, (i : Int))).miss = c.miss) := Lib.hid ⟨hcn, rfl, rfl⟩
      have HGV : Hid ((c.put (x, (i : Int))).get x = (0, false)) := Lib.hid (by
        unfold CM.get
        rw [HWF.out.at_zero hcn]
        rfl)
      have HIN := Lib.hid (hinv.put hca.wf HO.out)
      generalize c.put (x, (i : Int)) = c' at HPT HGV HIN HWF HCN
      clear hca hcn hinv hS hbw hht hms HL
      rw [hd] at HPT
      have HDV : Hid (dropV none = ((0, 0), false)) := Lib.hid rfl
      rw [HDV.out] at HPT
      clear hd HDV
      go_wp2_with fail
      refine HPT.out.mono ?_
      rintro e w3 ⟨rfl, S3, h3, hc3, hS3⟩
      have HB3 : Hid (Below w.heap.size w w3) := Lib.hid (HCA.out.2.2.2.2.1.trans (hc3.below HCA.out.2.2.2.2.1.size fun k hk h => by have := HCA.out.2.2.2.1 k h; omega))
      have HS3 : Hid (∀ k, S3 k → w.heap.size ≤ k) := Lib.hid fun k hk => (hS3 k hk).elim (HCA.out.2.2.2.1 k) fun h => Nat.le_trans HCA.out.2.2.2.2.1.size h
      have HLN := Lib.hid (CLen h3)
      have hkl : c'.keys.length = 0 := by have := HWF.out.keys_len; rw [HCN.out.1] at this; omega
      rw [hkl] at HLN
      clear h3 hc3 hS3 HPT g0
      go_wp2_with fail
      refine HLN.out.mono ?_
      rintro e w4 ⟨rfl, h4, hc4⟩
      have HB4 : Hid (Below w.heap.size w w4) := Lib.hid (HB3.out.trans (hc4.below HB3.out.size fun k hk h => by have := HS3.out k h; omega))
      have HKY := Lib.hid (CKeys h4)
      clear h4 hc4 HLN HB3
      go_wp2_with fail
      refine HKY.out.mono ?_
      rintro e w5 ⟨v, rfl, hv, h5, hc5⟩
      have HB5 : Hid (Below w.heap.size w w5) := Lib.hid (HB4.out.trans (hc5.below HB4.out.size fun k hk h => by have := HS3.out k h; omega))
      have H5 := Lib.hid h5
      obtain ⟨ka, kc, rfl, hcells⟩ := own_num hv
      rw [hkl]
      clear hv h5 hc5 hcells HKY HB4 hkl
      go_wp2_with fail
      go_loopg [12, 13] 0 (fun gk ua _ wr => ua = .int .i64 0 ∧ Hid (Below w5.heap.size w5 wr))
      case atStart => exact ⟨by go_num, Lib.hid (Below.refl _ _)⟩
      case round =>
        obtain ⟨rfl, hBz⟩ := hrel
        have HBW : Hid (Below w.heap.size w wr) := Lib.hid (HB5.out.trans (hBz.out.mono HB5.out.size))
        have k9 := below_cell' HBW.out HM0.out
        have HG := Lib.hid (CGet (H5.out.below hBz.out) x)
        rw [HGV.out] at HG
        have HNX : Hid (∀ (w6 : World), Next S3 wr w6 bc (c'.got x) → RoomAt w w6 bc 0 xs (i + 1)) := Lib.hid fun w6 ⟨S6, h6, hc6, hS6⟩ => by
          refine ⟨S6, _, h6, HCN.out.1, HIN.out.got HWF.out x, fun k hk => (hS6 k hk).elim (HS3.out k) fun h => Nat.le_trans HBW.out.size h, HBW.out.trans (hc6.below HBW.out.size fun k hk h => by have := HS3.out k h; omega), ?_, ?_⟩
          · show (if (c'.get x).2 = true then wrap64 (c'.hit + 1) else c'.hit) = _
            rw [HGV.out, HCN.out.2.1, HCA.out.2.2.2.2.2.1]
            simp only [eq_self, if_true, Bool.false_eq_true, if_false]
          · show (if (c'.get x).2 = true then c'.miss else wrap64 (c'.miss + 1)) = _
            rw [HGV.out, HCN.out.2.2, HCA.out.2.2.2.2.2.2]
            simp only [eq_self, if_true, Bool.false_eq_true, if_false]
            rw [show wrap64 ((i : Int) + 1) = (i : Int) + 1 from IntWalk.wrap64_in _ ⟨by omega, by omega⟩]
            simp
        clear H5 HGV
        go_wp2_with fail
        refine HG.out.mono ?_
        rintro e w6 ⟨rfl, hn6⟩
        have H6 := Lib.hid (HNX.out w6 hn6)
        clear hn6 HNX HG k9
        go_wp2
        go_roundg (xs.length - (i + 1))
        case measure => have := hi.out; omega
        case rel => exact ⟨i + 1, Lib.hid (by have := hi.out; omega), by go_num, H6⟩
    · obtain ⟨S, c, hca, hcn, hinv, hS, hbw, hht, hms⟩ := HL.out
      have HR := Lib.hid hbw
      have HH := Lib.hid (CHits hca)
      rw [hht, hms, if_pos rfl, if_pos rfl] at HH
      have hil : i = xs.length := by have := hi.out; omega
      clear hca hcn hinv hS hbw hht hms HL hi
      subst hil
      go_wp2_with fail
      refine HH.out.mono ?_
      rintro e w3 ⟨rfl, nd, rfl⟩
      go_wp2
      go_ret
      exact ⟨rfl, below_drewN HR.out _⟩

theorem CacheRoom_all (n : Int) (hw : (Lit.int .i64 n).wf = true) (a : Option Addr) (cp : Nat) (xs : List Int) (w : World) (hx : IntSl (fun b => b < w.heap.size) w (.slice a xs.length cp) xs) :
    Calls Try.prog 8 #[.int .i64 n, .slice a xs.length cp] w fun e w' => e = .returned (.bool true) ∧ Below w.heap.size w w' := by
  by_cases h : n < 0 ∨ 64 < n
  · exact CacheRoom_bad n h _ w
  · obtain ⟨k, rfl⟩ := Int.eq_ofNat_of_zero_le (show 0 ≤ n by omega)
    rcases Nat.eq_zero_or_pos k with rfl | hk
    · exact CacheRoom_ok0 a cp xs w hx
    · exact CacheRoom_ok k (by omega) hk a cp xs w hx
end Go.Proofs.Ytonfmgdikgedfaa.Cm
