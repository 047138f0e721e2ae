/- Caches: keys; a new cache. -/
import Derived.Test.YtonfmgdikgedfaaCt
import Derived.OwnWalk
set_option maxRecDepth 100000
set_option maxHeartbeats 1000000
set_option linter.unusedVariables false
set_option linter.unusedSimpArgs false
namespace Go.Proofs.Ytonfmgdikgedfaa.Cm
open Go.RowKit Bs Go.Lib Go.MuLone

theorem info_intC : (Try.prog.info? 3).map (fun i => (i.zero, i.size, i.bytes)) = some (some (.int .i64 0), 1, 8) := by kernel_rfl

theorem CKeys {S : Nat → Prop} {w : World} {bc : Nat} {c : CM} (h : CacheAt S w bc c) :
    Calls Try.prog 29 #[.pointer (some ⟨bc, 0, none⟩)] w fun e w' => ∃ v, e = .returned v ∧ w'.ownsRow w.heap.size 3 1 v c.keys.length (c.keys.map (Value.int .i64)) ∧ CacheAt S w' bc c ∧ Chg S w w' := by
  obtain ⟨iv, g0, hst⟩ := h.iv
  obtain ⟨t, y, f, rfl, hm, hce, hcall⟩ := store_all hst h.wf
  have hkl : c.all.length ≤ 64 := by have := h.wf.keys_len; have := h.wf.cap; unfold CM.keys at *; simp at *; omega
  have HC := Lib.hid hcall
  have HN : Hid (∀ w1, StoreAt (fun k => S k ∧ k ≠ bc) w1 (.iface t y) c → Chg (fun k => S k ∧ k ≠ bc) w w1 → CacheAt S w1 bc c ∧ Chg S w w1) := Lib.hid fun w1 h1 h2 => by
    have hb : w1.heap[bc]? = w.heap[bc]? := h2.block bc (h.live bc h.own) fun hk => hk.2 rfl
    exact ⟨⟨h.wf, ⟨_, (World.cell?_of_block (w := w) (a := ⟨bc, 0, none⟩) hb).trans g0, h1⟩, (World.cell?_of_block (w := w) (a := ⟨bc, 1, none⟩) hb).trans h.ht, (World.cell?_of_block (w := w) (a := ⟨bc, 2, none⟩) hb).trans h.ms, fun j => (World.frozen?_of_block (w := w) (a := ⟨bc, j, none⟩) hb).trans (h.thaw j), h.own, fun k hk => Nat.lt_of_lt_of_le (h.live k hk) h2.size⟩, h2.mono fun k _ hk => hk.1⟩
  have hm' := hm w
  have hce' := hce #[y] w
  obtain ⟨i0, hi0, hiz0, hiz1, hiz2⟩ := info_parts info_intC
  have HKE : Hid (c.keys = c.all.map (·.1)) := Lib.hid rfl
  clear h hst hcall hm hce
  rw [HKE.out]
  generalize c.all = L at *
  go_enter Try.func29, Try.ntmps29
  go_wp2_with fail
  refine HC.out.mono ?_
  rintro e w1 ⟨v, rfl, hv, hs, hc⟩
  have HCA := Lib.hid (HN.out w1 hs hc)
  have HV : Hid (SetAt w1 v L) := Lib.hid (own_mono hv (Nat.zero_le _))
  obtain ⟨a, cap, rfl⟩ := HV.out.slice
  have HSZ : Hid (w.heap.size ≤ w1.heap.size) := Lib.hid hc.size
  clear hv hs hc HN HC hm' hce' g0 HKE
  go_wp2_with fail
  go_loopg [3, 5, 14] L.length (fun gk ul _ uk wr => ∃ (k : Nat) (u : Value), Hid (k + gk = L.length) ∧ u = ul ∧ uk = .int .i64 k ∧ Hid (wr.ownsRow w1.heap.size 3 1 u k ((L.take k).map fun e => Value.int .i64 e.1) ∧ Below w1.heap.size w1 wr))
  case atStart => exact ⟨0, _, Lib.hid (Nat.zero_add _), rfl, by go_num, Lib.hid ⟨World.ownsRow_nil _ _ _ _, Below.refl _ _⟩⟩
  case round =>
    obtain ⟨k, u, hk, rfl, rfl, hB⟩ := hrel
    by_cases hlt : k < L.length
    · have hlt' : (k : Int) < (L.length : Int) := by omega
      have hk0 : (0 : Int) ≤ (k : Int) := by omega
      obtain ⟨b, rfl, m0, m1⟩ := (HV.out.below hB.out.2).elem hlt
      have HT : Hid ((L.take (k + 1)).map (fun e => Value.int .i64 e.1) = (L.take k).map (fun e => Value.int .i64 e.1) ++ [.int .i64 L[k].1]) := Lib.hid (by rw [List.take_succ_eq_append_getElem hlt, List.map_append]; rfl)
      generalize L[k] = x at m0 m1 HT
      have HO : Hid (((wr.alloc (.cells #[.int .i64 x.1, .int .i64 x.2] 113)).alloc (.cells #[.int .i64 x.1] 3)).ownsRow w1.heap.size 3 1 u k ((L.take k).map fun e => Value.int .i64 e.1)) := Lib.hid ((hB.out.1.alloc _).alloc _)
      have HNEW : Hid (∀ j u, [Value.int .i64 x.1][j]? = some u → ((wr.alloc (.cells #[.int .i64 x.1, .int .i64 x.2] 113)).alloc (.cells #[.int .i64 x.1] 3)).cell? ((⟨wr.heap.size + 1, 0, none⟩ : Addr).add j) = some u) := Lib.hid (fun j u hj => by
        have hn := heap_alloc_new (wr.alloc (.cells #[.int .i64 x.1, .int .i64 x.2] 113)) (.cells #[.int .i64 x.1] 3)
        rw [World.size_alloc] at hn
        rw [Addr.add_lit, Nat.zero_add]
        simp only [World.cell?, hn]
        simpa using hj)
      have hsz := hB.out.2.size
      go_wp2_with (at_builtin; refine wpList_append_own _ rfl _ _ 31 rfl w1.heap.size 3 i0 (.int .i64 0) 1 8 Try.underlying31 hi0 hiz0 hiz1 hiz2 rfl (by decide) _ k _ rfl HO.out ⟨wr.heap.size + 1, 0, none⟩ 1 1 [.int .i64 x.1] rfl rfl HNEW.out (by intro u hu; simp at hu; subst hu; rfl) (by unfold maxLen; omega) (by omega) (by simp; omega) ?_; intro v' w2 hown hgrow _)
      have HB2 : Hid (Below w1.heap.size w1 w2) := Lib.hid (((hB.out.2.alloc hB.out.2.size _).alloc (by simp; omega) _).grown hgrow (by simp; omega) (fun q hq => own_new hB.out.1 hq))
      have HO2 : Hid (w2.ownsRow w1.heap.size 3 1 v' (k + 1) ((L.take (k + 1)).map fun e => Value.int .i64 e.1)) := Lib.hid (by rw [HT.out]; exact hown)
      clear hown hgrow m0 m1 HO HNEW HT hsz
      go_roundg (L.length - (k + 1))
      case measure => have := hk.out; omega
      case rel => exact ⟨k + 1, v', Lib.hid (by have := hk.out; omega), rfl, by go_num, Lib.hid ⟨HO2.out, HB2.out⟩⟩
    · have HE : Hid (k = L.length) := Lib.hid (by have := hk.out; omega)
      clear hk
      go_wp2
      go_ret
      refine ⟨_, rfl, ?_, HCA.out.1.below hB.out.2, HCA.out.2.trans (Chg.of_below (F := S) hB.out.2) fun q _ hq => hq⟩
      have h1 := own_mono hB.out.1 HSZ.out
      rw [HE.out, List.take_length] at h1
      rw [List.length_map, List.map_map]
      exact h1

theorem CLen {S : Nat → Prop} {w : World} {bc : Nat} {c : CM} (h : CacheAt S w bc c) :
    Calls Try.prog 28 #[.pointer (some ⟨bc, 0, none⟩)] w fun e w' => e = .returned (.int .i64 c.keys.length) ∧ CacheAt S w' bc c ∧ Chg S w w' := by
  have HK := Lib.hid (CKeys h)
  clear h
  go_enter Try.func28, Try.ntmps28
  go_wp2_with fail
  refine HK.out.mono ?_
  rintro e w1 ⟨v, rfl, hv, hc⟩
  have HC := Lib.hid hc
  obtain ⟨a, cap, rfl⟩ : ∃ a cap, v = .slice a c.keys.length cap := by
    rcases hv.2 with ⟨rfl, h0⟩ | ⟨q, cp, cur, rfl, _⟩
    · exact ⟨none, 0, by rw [h0]⟩
    · exact ⟨_, _, rfl⟩
  clear hv hc HK
  go_wp2
  go_ret
  exact ⟨rfl, HC.out⟩

theorem New_bad {n : Int} (h : n < 0 ∨ 64 < n) (w : World) : Calls Try.prog 24 #[.int .i64 n] w fun e w' => e = .returned (.tuple #[.pointer none, .int .i64 7]) ∧ w = w' := by
  rcases h with h | h
  · go_enter Try.func24, Try.ntmps24
    go_wp2
    go_ret2
    exact ⟨rfl, rfl⟩
  · have h' : ¬ n < 0 := by omega
    go_enter Try.func24, Try.ntmps24
    go_wp2
    go_ret2
    exact ⟨rfl, rfl⟩

theorem cell_blk {w : World} {b j : Nat} {C : Array Value} {t : TypeId} {v : Value} (h : w.heap[b]? = some (.cells C t (0, 0))) (hj : C[j]? = some v) : w.cell? ⟨b, j, none⟩ = some v := by
  simp only [World.cell?, h]
  simpa using hj
/-- A cache whose struct is the last block. -/
theorem new_at {w w1 : World} {iv : Value} {n : Nat} (hn : n ≤ 64) (hb : Below w.heap.size w w1) (hst : StoreAt (fun k => w.heap.size ≤ k ∧ k < w1.heap.size) w1 iv (newM n)) (ty : TypeId) :
    CacheAt (fun k => w.heap.size ≤ k ∧ k < (w1.alloc (.cells #[iv, .int .i64 0, .int .i64 0] ty)).heap.size) (w1.alloc (.cells #[iv, .int .i64 0, .int .i64 0] ty)) w1.heap.size (newM n) ∧ Below w.heap.size w (w1.alloc (.cells #[iv, .int .i64 0, .int .i64 0] ty)) := by
  have hn1 := heap_alloc_new w1 (.cells #[iv, .int .i64 0, .int .i64 0] ty)
  have hs := hb.size
  refine ⟨⟨new_wf hn, ⟨iv, cell_blk hn1 rfl, hst.alike (fun k hk => Below.heap_alloc _ _ _ hk.2) fun k hk => ⟨⟨hk.1, by simp; omega⟩, by omega⟩⟩, cell_blk hn1 rfl, cell_blk hn1 rfl, fun j => frozen_of_row _ _ j _ _ hn1, ⟨hs, by simp⟩, fun k hk => hk.2⟩, hb.alloc hs _⟩

theorem New0 (w : World) : Calls Try.prog 24 #[.int .i64 (0 : Nat)] w fun e w' => ∃ bc, e = .returned (.tuple #[.pointer (some ⟨bc, 0, none⟩), .int .i64 0]) ∧ CacheAt (fun k => w.heap.size ≤ k ∧ k < w'.heap.size) w' bc (newM 0) ∧ Below w.heap.size w w' := by
  have H := Lib.hid (new_at (w := w) (w1 := w) (n := 0) (by omega) (Below.refl _ _) (.inl ⟨rfl, rfl⟩) 95)
  go_enter Try.func24, Try.ntmps24
  go_wp2
  go_ret2
  exact ⟨_, rfl, H.out⟩
theorem New1 (w : World) : Calls Try.prog 24 #[.int .i64 (1 : Nat)] w fun e w' => ∃ bc, e = .returned (.tuple #[.pointer (some ⟨bc, 0, none⟩), .int .i64 0]) ∧ CacheAt (fun k => w.heap.size ≤ k ∧ k < w'.heap.size) w' bc (newM 1) ∧ Below w.heap.size w w' := by
  have hn1 := heap_alloc_new w (.cells #[.pointer none] 103)
  have hb : Below w.heap.size w (w.alloc (.cells #[.pointer none] 103)) := (Below.refl _ _).alloc (Nat.le_refl _) _
  have H := Lib.hid (new_at (n := 1) (by omega) hb (.inr (.inl ⟨rfl, w.heap.size, [], none, rfl, rfl, ⟨fun j => frozen_of_row _ _ j _ _ hn1, cell_blk hn1 rfl, .inl ⟨rfl, rfl⟩⟩, fun k hk => by
    rcases hk with rfl | hk
    · exact ⟨Nat.le_refl _, by simp⟩
    · cases hk⟩)) 95)
  clear hn1 hb
  go_enter Try.func24, Try.ntmps24
  go_wp2
  go_ret2
  refine ⟨_, rfl, ?_⟩
  have h := H.out
  simp only [World.size_alloc] at h ⊢
  exact h

theorem info_entries : (Try.prog.info? 116).map (fun i => (i.zero, i.size, i.bytes)) = some (some (.slice none 0 0), 1, 24) := by kernel_rfl
theorem New2 (n : Nat) (h2 : 2 ≤ n) (h64 : n ≤ 64) (w : World) : Calls Try.prog 24 #[.int .i64 n] w fun e w' => ∃ bc, e = .returned (.tuple #[.pointer (some ⟨bc, 0, none⟩), .int .i64 0]) ∧ CacheAt (fun k => w.heap.size ≤ k ∧ k < w'.heap.size) w' bc (newM n) ∧ Below w.heap.size w w' := by
  obtain ⟨i0, hi, hz0, hz1, hz2⟩ := info_parts info_entries
  have hq : ((n : Int) + 1) / 2 = (nSets n : Int) := by unfold nSets; omega
  have hm : 0 < nSets n ∧ nSets n ≤ 32 := by unfold nSets; omega
  have HF : ∀ (w1 : World) (odd : Bool), w1.ownsRow w.heap.size 116 1 (Value.slice (some ⟨w.heap.size, 0, none⟩) (nSets n) (nSets n)) (nSets n) (madeCells (Value.slice none 0 0).cells (nSets n * 1)).toList → w.grownBy w1 none → odd = decide (n % 2 = 1) →
      CacheAt (fun k => w.heap.size ≤ k ∧ k < ((w1.alloc (.cells #[.int .i32 0, .int .u32 0, .slice (some ⟨w.heap.size, 0, none⟩) (nSets n) (nSets n), .bool odd] 111)).alloc (.cells #[.iface 104 (.pointer (some ⟨w1.heap.size, 0, none⟩)), .int .i64 0, .int .i64 0] 95)).heap.size) ((w1.alloc (.cells #[.int .i32 0, .int .u32 0, .slice (some ⟨w.heap.size, 0, none⟩) (nSets n) (nSets n), .bool odd] 111)).alloc (.cells #[.iface 104 (.pointer (some ⟨w1.heap.size, 0, none⟩)), .int .i64 0, .int .i64 0] 95)) (w1.heap.size + 1) (newM n) ∧
      Below w.heap.size w ((w1.alloc (.cells #[.int .i32 0, .int .u32 0, .slice (some ⟨w.heap.size, 0, none⟩) (nSets n) (nSets n), .bool odd] 111)).alloc (.cells #[.iface 104 (.pointer (some ⟨w1.heap.size, 0, none⟩)), .int .i64 0, .int .i64 0] 95)) := by
    rintro w1 odd hown hgrow rfl
    have hb1 : Below w.heap.size w w1 := (Below.refl _ _).grown hgrow (Nat.le_refl _) (fun k hk => by cases hk)
    rcases hown.2 with ⟨hv, _⟩ | ⟨g, cap, cur, hv, hg, hh, hcap, _, hcur, htake⟩
    · cases hv
    · obtain ⟨rfl, rfl⟩ : w.heap.size = g ∧ nSets n = cap := by
        injection hv with e1 _ e2
        injection e1 with e1
        injection e1 with e1
        exact ⟨e1, e2⟩
      have hlt : w.heap.size < w1.heap.size := by
        rcases Nat.lt_or_ge w.heap.size w1.heap.size with h | h
        · exact h
        · simp [Array.getElem?_eq_none h] at hh
      have hcur' : ∀ i, i < nSets n → cur[i]? = some (.slice none 0 0) := fun i hi' => by
        have h1 : cur.toList[i]? = some (.slice none 0 0) := by
          have : (cur.toList.take (nSets n * 1))[i]? = some (.slice none 0 0) := by
            rw [htake]
            simp [madeCells, Value.cells, hi', Nat.mod_one]
          rwa [List.getElem?_take_of_lt (by omega)] at this
        simpa using h1
      have hn1 := heap_alloc_new w1 (.cells #[.int .i32 0, .int .u32 0, .slice (some ⟨w.heap.size, 0, none⟩) (nSets n) (nSets n), .bool (decide (n % 2 = 1))] 111)
      have hb2 : Below w.heap.size w (w1.alloc (.cells #[.int .i32 0, .int .u32 0, .slice (some ⟨w.heap.size, 0, none⟩) (nSets n) (nSets n), .bool (decide (n % 2 = 1))] 111)) := hb1.alloc hb1.size _
      have hh2 : (w1.alloc (.cells #[.int .i32 0, .int .u32 0, .slice (some ⟨w.heap.size, 0, none⟩) (nSets n) (nSets n), .bool (decide (n % 2 = 1))] 111)).heap[w.heap.size]? = some (.cells cur 116 (0, 0)) := (Below.heap_alloc _ _ _ hlt).trans hh
      have hrep : ∀ (i : Nat) v, (List.replicate (nSets n) (Value.slice none 0 0))[i]? = some v → i < nSets n ∧ v = .slice none 0 0 := fun i v hv => by
        rw [List.getElem?_replicate] at hv
        split at hv
        · exact ⟨by assumption, (Option.some.inj hv).symm⟩
        · cases hv
      have hsv : SevAt (w1.alloc (.cells #[.int .i32 0, .int .u32 0, .slice (some ⟨w.heap.size, 0, none⟩) (nSets n) (nSets n), .bool (decide (n % 2 = 1))] 111)) 0 w1.heap.size w.heap.size (nSets n) (decide (n % 2 = 1)) (List.replicate (nSets n) (.slice none 0 0)) (newM n).sets :=
      { len := by simp [newM]
        cnt := by simp [newM]
        pos := hm
        lck := cell_blk hn1 rfl
        head := cell_blk hn1 rfl
        od := cell_blk hn1 rfl
        thaw := fun j => frozen_of_row _ _ j _ _ hn1
        thawg := fun j => frozen_of_row _ _ j _ _ hh2
        row := fun i v hv => by
          obtain ⟨h1, rfl⟩ := hrep i v hv
          exact cell_blk hh2 (hcur' i h1)
        ss := fun i v s hv hs => by
          obtain ⟨h1, rfl⟩ := hrep i v hv
          have hs' : (List.replicate (nSets n) ([] : List KV))[i]? = some s := hs
          rw [List.getElem?_replicate, if_pos h1] at hs'
          obtain rfl := Option.some.inj hs'
          exact World.ownsRow_nil _ _ _ _
        apart := fun i j v u hv hu hij k hk => by
          obtain ⟨_, rfl⟩ := hrep i v hv
          cases hk
        own := fun i v k hv hk => by
          obtain ⟨_, rfl⟩ := hrep i v hv
          cases hk
        ne := by omega }
      have := new_at (n := n) h64 hb2 (iv := .iface 104 (.pointer (some ⟨w1.heap.size, 0, none⟩))) (.inr (.inr ⟨h2, w1.heap.size, w.heap.size, _, rfl, hsv, fun k hk => by
        rcases hk with rfl | rfl | ⟨i, v, hv, hk⟩
        · exact ⟨hb1.size, by simp⟩
        · exact ⟨Nat.le_refl _, by simp; omega⟩
        · obtain ⟨_, rfl⟩ := hrep i v hv
          cases hk⟩)) 95
      simp only [World.size_alloc] at this ⊢
      exact this
  have HFF := Lib.hid HF
  have hnb : ¬ ((n : Int) < 0) := by omega
  have hnc : ¬ ((64 : Int) < (n : Int)) := by omega
  have hn0 : ((n : Int) == 0) = false := by simp; omega
  have hn1 : ((n : Int) == 1) = false := by simp; omega
  have hodd : ((n : Int) % 2 != 0) = decide (n % 2 = 1) := by
    by_cases h : n % 2 = 1
    · simp [h]; omega
    · simp [h]; omega
  have HO := Lib.hid hodd
  clear hodd HF
  generalize decide (n % 2 = 1) = odd at HO HFF
  have ho := HO.out
  go_enter Try.func24, Try.ntmps24
  go_wp2_with (at_make; refine wpList_make_full _ rfl _ _ 105 rfl w.heap.size 116 i0 _ 1 Try.underlying105 hi hz0 hz1 .i64 .i64 _ _ (nSets n) rfl rfl rfl rfl (by rw [hz2]; omega) (by unfold maxLen; omega) (Nat.le_refl _) ?_; intro w1 hown hgrow)
  go_ret2
  exact ⟨_, rfl, HFF.out w1 odd hown hgrow rfl⟩

theorem CNew (n : Nat) (h64 : n ≤ 64) (w : World) : Calls Try.prog 24 #[.int .i64 n] w fun e w' => ∃ bc, e = .returned (.tuple #[.pointer (some ⟨bc, 0, none⟩), .int .i64 0]) ∧ CacheAt (fun k => w.heap.size ≤ k ∧ k < w'.heap.size) w' bc (newM n) ∧ Below w.heap.size w w' := by
  rcases n with _ | _ | n
  · exact New0 w
  · exact New1 w
  · exact New2 (n + 2) (by omega) h64 w

theorem awake18 (w : World) : Calls Try.prog 23 #[] w fun e w' => e = .returned (.bool true) ∧ Below w.heap.size w w' := by
  have HN := Lib.hid (CNew 1 (by omega) w)
  go_enter Try.func23, Try.ntmps23
  go_wp2_with fail
  refine HN.out.mono ?_
  rintro e w1 ⟨bc, rfl, h1, hb1⟩
  have HB1 := Lib.hid hb1
  have HP := Lib.hid (CPut h1 (5, 50))
  have HW := Lib.hid h1.wf
  clear h1 hb1 HN
  go_wp2_with fail
  refine HP.out.mono ?_
  rintro e w2 ⟨rfl, S', h2, hc, hS⟩
  have HB2 : Hid (Below w.heap.size w w2) := Lib.hid (HB1.out.trans (hc.below HB1.out.size fun k hk h => by omega))
  have HG := Lib.hid (CGet h2 5)
  rw [show ((newM 1).put (5, 50)).get 5 = (50, true) from (HW.out.put (5, 50)).mem_get (HW.out.put_has (by decide) (5, 50))] at HG
  have HS : Hid (∀ k, S' k → w.heap.size ≤ k) := Lib.hid fun k hk => (hS k hk).elim (fun h => h.1) fun h => Nat.le_trans HB1.out.size h
  clear h2 hc hS HP
  go_wp2_with fail
  refine HG.out.mono ?_
  rintro e w3 ⟨rfl, S2, h3, hc, hS⟩
  have HB3 : Hid (Below w.heap.size w w3) := Lib.hid (HB2.out.trans (hc.below HB2.out.size fun k hk h => by have := HS.out k h; omega))
  clear h3 hc hS HG
  go_wp2
  go_ret
  exact ⟨rfl, HB3.out⟩
end Go.Proofs.Ytonfmgdikgedfaa.Cm
