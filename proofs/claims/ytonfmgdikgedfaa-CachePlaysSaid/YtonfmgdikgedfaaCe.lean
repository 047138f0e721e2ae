/- Caches: the document's cache: New, Clear, Get, All. -/
import Derived.Test.YtonfmgdikgedfaaCd
set_option maxRecDepth 100000
set_option maxHeartbeats 1000000
set_option linter.unusedVariables false
set_option linter.unusedSimpArgs false
namespace Go.Proofs.Ytonfmgdikgedfaa.Cm
open Go.RowKit Bs Go.Lib

theorem RNew_bad {n : Int} (h : n < 0 ∨ 64 < n) (w : World) : Calls Try.prog 31 #[.int .i64 n] w fun e w' => e = .returned (.tuple #[.pointer none, .int .i64 7]) ∧ w = w' := by
  rcases h with h | h
  · go_enter Try.func31, Try.ntmps31
    go_wp2
    go_ret2
    exact ⟨rfl, rfl⟩
  · have h' : ¬ n < 0 := by omega
    go_enter Try.func31, Try.ntmps31
    go_wp2
    go_ret2
    exact ⟨rfl, rfl⟩
theorem ref_new {w : World} {n : Nat} (hn : n ≤ 64) (ty : TypeId) : RefAt (fun k => k = w.heap.size) (w.alloc (.cells #[.int .i64 n, .slice none 0 0, .slice none 0 0, .int .i64 0, .int .i64 0] ty)) w.heap.size { n := n, L := [], hit := 0, miss := 0 } := by
  have h := heap_alloc_new w (.cells #[.int .i64 n, .slice none 0 0, .slice none 0 0, .int .i64 0, .int .i64 0] ty)
  exact ⟨⟨.slice none 0 0, .slice none 0 0, cell_blk h rfl, cell_blk h rfl, Num.nil _, Num.nil _, (by intro k hk; cases hk), (by intro k hk; cases hk)⟩, cell_blk h rfl, cell_blk h rfl, cell_blk h rfl, fun j => frozen_of_row _ _ j _ _ h, rfl, fun k hk => by simp [hk], hn, by simp⟩
theorem RNew (n : Nat) (hn : n ≤ 64) (w : World) : Calls Try.prog 31 #[.int .i64 n] w fun e w' => ∃ bx, e = .returned (.tuple #[.pointer (some ⟨bx, 0, none⟩), .int .i64 0]) ∧ bx = w.heap.size ∧ RefAt (fun k => k = w.heap.size) w' bx { n := n, L := [], hit := 0, miss := 0 } ∧ Below w.heap.size w w' := by
  have hnb : ¬ ((n : Int) < 0) := by omega
  have hnc : ¬ ((64 : Int) < (n : Int)) := by omega
  go_enter Try.func31, Try.ntmps31
  go_wp2
  go_ret2
  exact ⟨_, rfl, rfl, ref_new hn _, (Below.refl _ _).alloc (Nat.le_refl _) _⟩

theorem RClear {T : Nat → Prop} {w : World} {bx : Nat} {x : RM} (h : RefAt T w bx x) :
    Calls Try.prog 51 #[.pointer (some ⟨bx, 0, none⟩)] w fun e w' => e = .returned (.tuple #[]) ∧ RNext T w w' bx x.clear := by
  have HH := Lib.hid h
  obtain ⟨kv, vv, g1, g2, hk, hv, _, _⟩ := h.vs
  obtain ⟨ka, kc, rfl⟩ := hk.slice
  obtain ⟨va, vc, rfl⟩ := hv.slice
  rw [List.length_map] at g1 g2
  have z1 := h.thaw 1
  have z2 := h.thaw 2
  clear hk hv h
  go_enter Try.func51, Try.ntmps51
  go_wp2
  go_end0
  exact ⟨rfl, HH.out.turn (L := []) ⟨Num.nil _, Num.nil _, (by intro q hq; cases hq), (by intro q hq; cases hq), (by intro q hq; cases hq), Below.refl _ _⟩ (by simp)⟩

theorem RefAt.count {T : Nat → Prop} {w : World} {bx : Nat} {x x' : RM} (h : RefAt T w bx x) (j : Nat) (v : Int) (hj : j = 3 ∨ j = 4) (hn : x'.n = x.n) (hL : x'.L = x.L) (e1 : x'.hit = if j = 3 then v else x.hit) (e2 : x'.miss = if j = 4 then v else x.miss) :
    RefAt T (w.setCell ⟨bx, j, none⟩ (.int .i64 v)) bx x' ∧ Chg T w (w.setCell ⟨bx, j, none⟩ (.int .i64 v)) := by
  refine ⟨⟨?_, ?_, ?_, ?_, fun i => ?_, h.own, fun k hk => by simpa using h.live k hk, by rw [hn]; exact h.small, by rw [hL]; exact h.len⟩, (Chg.refl _ _).setCell (a := ⟨bx, j, none⟩) (.inr h.own) _⟩
  · obtain ⟨kv, vv, h1, h2, h3, h4, h5, h6⟩ := h.vs
    rw [hL]
    exact ⟨kv, vv, (setCell_off (by omega)).trans h1, (setCell_off (by omega)).trans h2, h3.same fun q hq => heap_setCell_other _ _ _ _ (h5 q hq).2, h4.same fun q hq => heap_setCell_other _ _ _ _ (h6 q hq).2, h5, h6⟩
  · rw [hn]; exact (setCell_off (by omega)).trans h.cap
  · rcases hj with rfl | rfl
    · rw [e1]; exact setCell_same h.ht
    · rw [e1]; exact (setCell_off (by omega)).trans h.ht
  · rcases hj with rfl | rfl
    · rw [e2]; exact (setCell_off (by omega)).trans h.ms
    · rw [e2]; exact setCell_same h.ms
  · rw [World.frozen?_setCell]; exact h.thaw i

theorem getV_place {L : List KV} {k : Int} (h : place L k < L.length) : getV L k = (L[place L k].2, true) := by
  unfold getV
  rw [place_ent, List.getElem?_eq_getElem h]
theorem getV_none {L : List KV} {k : Int} (h : ¬ place L k < L.length) : getV L k = (0, false) := by
  unfold getV
  rw [place_ent, List.getElem?_eq_none (by omega)]
theorem getS_place {L : List KV} {k : Int} (h : place L k < L.length) : getS L k = (k, L[place L k].2) :: wo L k := by
  unfold getS
  rw [place_ent, List.getElem?_eq_getElem h]
  have : L[place L k].1 = k := beq_iff_eq.1 (place_at h)
  show L[place L k] :: wo L k = _
  rw [show L[place L k] = (k, L[place L k].2) from Prod.ext this rfl]
theorem getS_none {L : List KV} {k : Int} (h : ¬ place L k < L.length) : getS L k = L := by
  unfold getS
  rw [place_ent, List.getElem?_eq_none (by omega)]

theorem RGet {T : Nat → Prop} {w : World} {bx : Nat} {x : RM} (h : RefAt T w bx x) (hnd : (x.L.map (·.1)).Nodup) (hl : x.L.length ≤ 64) (key : Int) :
    Calls Try.prog 48 #[.pointer (some ⟨bx, 0, none⟩), .int .i64 key] w fun e w' => e = .returned (.tuple #[.int .i64 (getV x.L key).1, .bool (getV x.L key).2]) ∧ RNext T w w' bx (x.got key) := by
  have HP := Lib.hid (RPlace h key)
  have HV : Hid (placeV x.L key = if place x.L key < x.L.length then (place x.L key : Int) else -1) := Lib.hid rfl
  by_cases hp : place x.L key < x.L.length
  · rw [if_pos hp] at HV
    rw [HV.out] at HP
    have hge : ¬ ((place x.L key : Int) < 0) := by omega
    have h3 := h.ht
    have z3 := h.thaw 3
    obtain ⟨ha, hc⟩ := h.count (x' := { x with hit := wrap64 (x.hit + 1) }) 3 (wrap64 (x.hit + 1)) (.inl rfl) rfl rfl (by simp) (by simp)
    have HT := Lib.hid (fun v => RTake ha (place x.L key) key v (by have := off_len (place x.L key : Int) x.L; show (off _ x.L).length ≤ 64; omega))
    have HC := Lib.hid hc
    have HE : Hid (x.got key = { x with L := (key, x.L[place x.L key].2) :: wo x.L key, hit := wrap64 (x.hit + 1) }) := Lib.hid (by
      unfold RM.got
      rw [getV_place hp, getS_place hp]
      rfl)
    have HF : Hid (off (place x.L key) x.L = wo x.L key) := Lib.hid (by rw [← off_place hnd key, HV.out])
    rw [getV_place hp]
    obtain ⟨kv, vv, g1, g2, hk, hv, _, h6⟩ := h.vs
    obtain ⟨ka, kc, rfl⟩ := hk.slice
    obtain ⟨va, vc, rfl⟩ := hv.slice
    rw [List.length_map] at g1 g2 hk hv
    obtain ⟨g, rfl, m0⟩ := hv.elem (j := place x.L key) (by simpa using hp)
    rw [List.getElem_map] at m0
    have hgb : g ≠ bx := (h6 g rfl).2
    generalize x.L[place x.L key] = y at *
    have hp' : (place x.L key : Int) < (x.L.length : Int) := by omega
    have hp0 : (0 : Int) ≤ (place x.L key : Int) := by omega
    generalize place x.L key = p at *
    clear hk hv HV ha hc h h6 g1 hnd
    go_enter Try.func48, Try.ntmps48
    go_wp2_with fail
    refine HP.out.mono ?_
    rintro e w1 ⟨rfl, rfl⟩
    go_wp2_with fail
    refine (HT.out y.2).mono ?_
    rintro e w2 ⟨rfl, T', h1, h2, h3⟩
    rw [HF.out] at h1
    have HR : Hid (RNext T w w2 bx (x.got key)) := Lib.hid ⟨T', by rw [HE.out]; exact h1, HC.out.trans h2 fun k _ hk => hk, fun k hk => (h3 k hk).imp id fun h => by simpa using h⟩
    clear h1 h2 h3 HT HC HE HF
    go_wp2
    go_ret2
    exact ⟨rfl, HR.out⟩
  · rw [if_neg hp] at HV
    rw [HV.out] at HP
    have h3 := h.ms
    have z3 := h.thaw 4
    obtain ⟨ha, hc⟩ := h.count (x' := { x with miss := wrap64 (x.miss + 1) }) 4 (wrap64 (x.miss + 1)) (.inr rfl) rfl rfl (by simp) (by simp)
    have HE : Hid (x.got key = { x with miss := wrap64 (x.miss + 1) }) := Lib.hid (by
      unfold RM.got
      rw [getV_none hp, getS_none hp]
      rfl)
    have HA := Lib.hid (And.intro ha hc)
    rw [getV_none hp]
    clear HV ha hc h hp
    go_enter Try.func48, Try.ntmps48
    go_wp2_with fail
    refine HP.out.mono ?_
    rintro e w1 ⟨rfl, rfl⟩
    go_wp2
    go_ret2
    refine ⟨rfl, T, ?_, ?_, fun k hk => .inl hk⟩
    · rw [HE.out]; exact HA.out.1
    · exact HA.out.2
end Go.Proofs.Ytonfmgdikgedfaa.Cm
