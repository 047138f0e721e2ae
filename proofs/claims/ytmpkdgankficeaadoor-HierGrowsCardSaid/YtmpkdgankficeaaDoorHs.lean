/- The walk of put at the first class. -/
import Derived.Test.YtmpkdgankficeaaDoorHr
set_option maxRecDepth 100000
set_option maxHeartbeats 8000000
set_option linter.unusedVariables false
set_option linter.unusedSimpArgs false
namespace Go.Proofs.YtmpkdgankficeaaDoor.Hi
open Go.RowKit Bs

theorem put_root (bw bm : Nat) (D : DataW Unit) (v1 v2 v5 : Value) (nm : ByteArray) (fl ld : Int) (w : World) (h1 : w.cell? ⟨bw, 0, none⟩ = some (Value.slice none 0 0))
    (hmap : w.ownsMap Tryd.prog 9 (plainElem Tryd.prog 3) bm 0 D) (hbm : w.cell? ⟨bw, 1, none⟩ = some (.map (some bm))) (hth : ∀ j, w.frozen? ⟨bw, j, none⟩ = false) (hbb : bw ≠ bm) (hnm : nm.size ≤ maxLen) :
    Calls Tryd.prog 33 #[.pointer (some ⟨bw, 0, none⟩), .agg #[.string nm, v1, v2, .int .i64 fl, .int .i64 ld, v5], .int .i64 (-1), .slice none 0 0] w fun e w' => e = .returned (.int .i64 0) ∧ PutRaw w w' bw bm 0 (Value.slice none 0 0) [] D nm v1 v2 v5 fl ld (-1) 0 [] := by
  have HROW := Lib.hid (World.ownsRow_nil w 0 75 1)
  have HMAP := Lib.hid hmap
  have HTH := Lib.hid hth
  have HAP : Hid (∀ k, ((Value.slice none 0 0)).ownBlock = some k → k ≠ bw ∧ k ≠ bm ∧ k < w.heap.size) := Lib.hid fun k hk => by simp [Value.ownBlock] at hk
  have HBM := Lib.hid hbm
  have b1 : bw < w.heap.size := World.block_lt_of_cell? _ _ h1
  obtain ⟨ps, hps⟩ : ∃ ps : List Value, ps = [] := ⟨_, rfl⟩
  obtain ⟨is, his⟩ : ∃ is : List Int, is = [] := ⟨_, rfl⟩
  obtain ⟨n, hn⟩ : ∃ n : Nat, n = 0 := ⟨_, rfl⟩
  clear hmap hth hbm
  go_enter Tryd.func33, Tryd.ntmps33
  go_wp2_with fail
  refine wp_gen (fun W => PS w nm v1 v2 v5 fl ld (-1) 0 [] W) ⟨none, 0, Laid.start _ _ _ _ _ _ _ _ _ _ _, World.ownsRow_nil _ _ _ _⟩ ?_
  intro W hPS
  have HPS := Lib.hid hPS
  clear hPS
  go_loopg [53] 0 (fun gk u wr => u = .int .i64 0 ∧ Hid (PS w nm v1 v2 v5 fl ld (-1) 0 [] wr))
  case atStart => exact ⟨rfl, HPS⟩
  case round =>
    obtain ⟨rfl, hP⟩ := hrel
    have HE : Hid (([] : List Int) = [].foldl (stepC []) []) := Lib.hid rfl
    obtain ⟨pa, pc, hL, hown⟩ := hP.out
    have r1 := hL.cell h1
    have r0 := hL.q
    have rz := hL.size
    go_wp2_with fail
    have hrow1 := row_of_block HROW.out fun k hk => hL.old k (HAP.out k hk).2.2
    have hmap1 := map_of_block HMAP.out (hL.old bm HMAP.out.lt)
    have hnew : ∀ j u, ([.pointer (some ⟨w.heap.size + 1, 0, none⟩)] : List Value)[j]? = some u → ((wr.alloc (Obj.cells #[Value.pointer (some ⟨w.heap.size + 1, 0, none⟩)] 75)).drew).cell? ((⟨wr.heap.size, 0, none⟩ : Addr).add j) = some u := by
      intro j u hu
      cases j with
      | zero =>
        obtain rfl : Value.pointer (some ⟨w.heap.size + 1, 0, none⟩) = u := by simpa using hu
        show (wr.alloc _).cell? ⟨wr.heap.size, 0, none⟩ = _
        rw [World.cell?_alloc_new]; rfl
      | succ j => simp at hu
    have HNEW := Lib.hid hnew
    clear hnew
    have keep : ∀ w1 : World, (wr.alloc (Obj.cells #[Value.pointer (some ⟨w.heap.size + 1, 0, none⟩)] 75)).drew.grownBy w1 ((Value.slice none 0 0)).ownBlock → ∀ k, k < wr.heap.size → ((Value.slice none 0 0)).ownBlock ≠ some k → w1.heap[k]? = wr.heap[k]? := fun w1 hg k hk1 hk2 =>
      (hg.block k (by simp; omega) (fun e => hk2 e.symm)).trans (Below.heap_alloc wr _ k hk1)
    have HKEEP := Lib.hid keep
    clear keep
    have key : ∀ w1 : World, (wr.alloc (Obj.cells #[Value.pointer (some ⟨w.heap.size + 1, 0, none⟩)] 75)).drew.grownBy w1 ((Value.slice none 0 0)).ownBlock → w1.cell? ⟨bw, 0, none⟩ = some (Value.slice none 0 0) ∧ w1.frozen? ⟨bw, 0, none⟩ = false := fun w1 hg => by
      have e := HKEEP.out w1 hg bw (by omega) fun e => (HAP.out _ e).1 rfl
      exact ⟨(World.cell?_of_block (w := wr) (a := ⟨bw, 0, none⟩) e).trans r1, ((World.frozen?_of_block (w := wr) (a := ⟨bw, 0, none⟩) e).trans (World.frozen?_of_block (w := w) (a := ⟨bw, 0, none⟩) (hL.old bw b1))).trans (HTH.out 0)⟩
    have HKEY := Lib.hid key
    clear key
    obtain ⟨i0, hi0, hz0, hz1, hz2⟩ := info_parts info_ptr
    have b1' : bw < wr.heap.size := by omega
    have b4' : w.heap.size + 1 + 1 < wr.heap.size := by omega
    go_region_law (refine step_append_at rfl (.tmp 89) (.tmp 91) 66 rfl 0 75 i0 _ 1 8 Tryd.underlying66 hi0 hz0 hz1 hz2 rfl (by decide) (Value.slice none 0 0) 0 [] (by simp [Act.eval, Act.put]) ((hrow1.alloc _).drew) ⟨wr.heap.size, 0, none⟩ 1 1 [.pointer (some ⟨w.heap.size + 1, 0, none⟩)] (by simp [Act.eval, Act.put]) rfl HNEW.out (by simp [Value.oneCell']) (by unfold maxLen; omega) (by omega) (by simp) ?_; intro v1 w1 hown1 hgrow1 hat1; obtain ⟨g1, cap1, rfl⟩ := own_form hown1; obtain ⟨k1, k2⟩ := HKEY.out w1 hgrow1)
    all_goals
      generalize hw2 : (w1.setCell ⟨bw, 0, none⟩ (.slice (some ⟨g1, 0, none⟩) 1 cap1)) = w2
      have HK2 : Hid (∀ k, k < wr.heap.size → ((Value.slice none 0 0)).ownBlock ≠ some k → k ≠ bw → w2.heap[k]? = wr.heap[k]?) := Lib.hid fun k hk1 hk2 hk3 => by
        rw [← hw2, Below.heap_setCell _ _ _ _ hk3]
        exact HKEEP.out w1 hgrow1 k hk1 hk2
      have hbw1 : w1.heap[bw]? = w.heap[bw]? := (HKEEP.out w1 hgrow1 bw (by omega) fun e => (HAP.out _ e).1 rfl).trans (hL.old bw b1)
      have s1 : w2.cell? ⟨bw, 1, none⟩ = some (.map (some bm)) := by
        rw [← hw2, setCell_off (by omega), World.cell?_of_block (w := w) (a := ⟨bw, 1, none⟩) hbw1]; exact HBM.out
      have s2 : w2.cell? ⟨w.heap.size, 0, none⟩ = some (.string nm) := by
        rw [World.cell?_of_block (w := wr) (a := ⟨w.heap.size, 0, none⟩) (HK2.out w.heap.size (by omega) (fun e => by have := (HAP.out _ e).2.2; omega) (by omega))]; exact hL.n0
      have s3 : w2.cell? ⟨bw, 0, none⟩ = some (.slice (some ⟨g1, 0, none⟩) 1 cap1) := by rw [← hw2]; exact setCell_same k1
      have s4 : ∀ j, w2.frozen? ⟨bw, j, none⟩ = false := fun j => by
        rw [← hw2, World.frozen?_setCell, World.frozen?_of_block (w := w) (a := ⟨bw, j, none⟩) hbw1]; exact HTH.out j
      have hmb := HMAP.out.lt
      have hmap2 := map_of_block hmap1 (HK2.out bm (by omega) (fun e => (HAP.out _ e).2.1 rfl) (fun e => hbb e.symm))
      have hg1 : g1 ≠ bw := fun e => by
        rcases hat1 with h | h
        · exact (HAP.out g1 (h.symm.trans rfl)).1 e
        · simp [Value.ownBlock] at h
          omega
      have hrow2 : w2.ownsRow 0 75 1 (.slice (some ⟨g1, 0, none⟩) 1 cap1) 1 ([] ++ [.pointer (some ⟨w.heap.size + 1, 0, none⟩)]) := row_of_block hown1 fun k hk => by
        obtain rfl : g1 = k := by simpa [Value.ownBlock] using hk
        rw [← hw2]
        exact Below.heap_setCell _ _ _ _ hg1
      have hsz2 : wr.heap.size ≤ w2.heap.size ∧ w2.os = wr.os ∧ w2.tape = wr.tape ∧ w2.output = wr.output := by
        rw [← hw2]
        refine ⟨?_, hgrow1.os, hgrow1.tape, hgrow1.output⟩
        have := hgrow1.size
        simp at this ⊢
        omega
      have HAT := Lib.hid hat1
      have HROW2 := Lib.hid hrow2
      have HS2 := Lib.hid hsz2
      have HTH2 := Lib.hid s4
      have HS3 := Lib.hid s3
      have HM2 := Lib.hid hmap2
      clear hw2 hown1 hgrow1 k1 k2 hbw1 hrow2 hsz2 s4 s3 hmap2 hat1 HKEEP HKEY HNEW hrow1 hmap1
      go_wp2_with fail
      go_still_tail 7, (by kernel_rfl)
      change wpList _ _ _ _ _ w2.drew
      refine wpList_mapUpdate_own _ rfl (.tmp 98) (.tmp 100) (.tmp 101) 65 rfl 9 3 (Maps.string_keyed Tryd.underlying9) Tryd.underlying65 (plainElem Tryd.prog 3) bm 0 D (by simp [Act.eval, Act.put]) HM2.out.drew (by unfold maxLen; omega) (.string nm) (.int .i64 0) (keyL nm) (by simp [Act.eval, Act.put]) (by simp [Act.eval, Act.put]) (WideMaps.keyOf_string_mk Tryd.underlying9 hnm) (numD 0) [] (plainElem_int Tryd.underlying3 (num_wf (n := 0) (Nat.zero_le _))) ?_
      intro w4 hm4 hg4
      have hgs := hg4.size
      have hgs' : w2.heap.size ≤ w4.heap.size := by simpa using hgs
      have hz2 := HS2.out.1
      have eb : w4.heap[bw]? = w2.heap[bw]? := hg4.block bw (by simp; omega) (by intro e; injection e with e; exact hbb e)
      have fin : PutRaw w w4 bw bm 0 (Value.slice none 0 0) [] D nm v1 v2 v5 fl ld (-1) 0 ([]) := by
        refine ⟨⟨wr, hP.out, fun k e1 e2 e3 e4 => (hg4.block k (by simp; omega) (by intro e; injection e with e; exact e4 e)).trans (HK2.out k e1 e2 e3), by omega, hg4.os.trans HS2.out.2.1, hg4.tape.trans HS2.out.2.2.1, hg4.output.trans HS2.out.2.2.2, _, (World.cell?_of_block (w := w2) (a := ⟨bw, 0, none⟩) eb).trans HS3.out, ?_, ?_⟩, (World.cell?_of_block (w := w2) (a := ⟨bw, 1, none⟩) eb).trans s1, fun j => (World.frozen?_of_block (w := w2) (a := ⟨bw, j, none⟩) eb).trans (HTH2.out j), hm4⟩
        · refine row_of_block HROW2.out fun k hk => ?_
          obtain rfl : g1 = k := by simpa [Value.ownBlock] using hk
          have hg1 : g1 ≠ bm ∧ g1 < w2.heap.size := by
            refine ⟨fun e => ?_, ?_⟩
            · rcases HAT.out with h | h
              · exact (HAP.out g1 (h.symm.trans rfl)).2.1 e
              · have := HMAP.out.lt
                simp [Value.ownBlock] at h
                omega
            · exact (HROW2.out.lt g1 rfl).2
          exact hg4.block g1 (by simp; omega) (by intro e; injection e with e; exact hg1.1 e)
        · intro k hk
          rcases HAT.out with h | h
          · exact .inl (h.symm.trans hk)
          · right
            obtain rfl : g1 = k := by simpa [Value.ownBlock] using hk
            simp [Value.ownBlock] at h
            omega
      have FIN := Lib.hid fin
      clear fin
      go_wp2
      go_ret
      exact ⟨rfl, FIN.out⟩
end Go.Proofs.YtmpkdgankficeaaDoor.Hi
