/- The walk of put. -/
import Derived.Test.YtmpkdgankficeaaDoorHq
import Derived.Maps.AppendAt
set_option maxRecDepth 100000
set_option maxHeartbeats 8000000
set_option linter.unusedVariables false
set_option linter.unusedSimpArgs false
namespace Go.Proofs.YtmpkdgankficeaaDoor.Hi
open Go.RowKit Bs

theorem foldl_take_succ {α β : Type} (f : β → α → β) (l : List α) (j : Nat) (h : j < l.length) (b : β) : f ((l.take j).foldl f b) l[j] = (l.take (j + 1)).foldl f b := by
  rw [List.take_add_one, List.getElem?_eq_getElem h, Option.toList_some, List.foldl_append]; rfl

/-- The same step; and where the new row lies. -/
theorem step_append_at {P : Program} {ops : Array Oper} {o : Oper} {a : Act} {w : World} {K : Act → World → Prop} {Q : Exit → Act → World → Prop} {E : Prop}
    (hg : o.guard = none) (s x : Operand) (t : TypeId) (hop : o.op = Op.call { callee := Callee.builtin Builtin.append, args := #[s, x], argTypes := #[t, t] })
    (base : Nat) (e : TypeId) (i : TypeInfo) (z : Value) (size bytes : Nat) (h1 : P.underlying t = some (.slice e)) (h2 : P.info? e = some i) (h3 : i.zero = some z) (h4 : i.size = size) (h5 : i.bytes = bytes) (h6 : z.cells.size = size) (h7 : 0 < size)
    (v : Value) (n : Nat) (xs : List Value) (hs : a.eval s = v) (hown : w.ownsRow base e size v n xs)
    (ad : Addr) (m c : Nat) (news : List Value) (hx : a.eval x = .slice (some ad) m c) (hn : news.length = m * size) (hc : ∀ j u, news[j]? = some u → w.cell? (ad.add j) = some u) (h1c : ∀ u ∈ news, u.oneCell' = true)
    (b1 : n + m ≤ maxLen) (b2 : (n + m) * bytes ≤ 140737488355328) (hb : base ≤ w.heap.size)
    (hK : ∀ v' w', w'.ownsRow base e size v' (n + m) (xs ++ news) → w.grownBy w' v.ownBlock → (v'.ownBlock = v.ownBlock ∨ v'.ownBlock = some w.heap.size) → K (a.put o.dst v') w') :
    if Region.wanted o (yielded ops a.tmps) = true then Oper.wp P o a w K Q else E := by
  have hw : Region.wanted o (yielded ops a.tmps) = true := by simp [Region.wanted, hg]
  rw [if_pos hw]
  obtain ⟨v', w', hrun, r1, r2, _, r3⟩ := run_append_own_at (P := P) w base t o.type e i z size bytes h1 h2 h3 h4 h5 h6 h7 v n xs hown ad m c news hn hc h1c b1 b2 hb
  unfold Oper.wp
  simp [execOp, hop, resolve, invoke, builtin, hs, hx, hrun, Result.andThen]
  exact hK v' w' r1 r2 r3

/-- What put leaves, cell by cell. W: the world behind the loops. -/
structure PutRaw (w w' : World) (bw bm n : Nat) (va : Value) (ps : List Value) (D : DataW Unit) (nm : ByteArray) (v1 v2 v5 : Value) (fl ld ab dp : Int) (cl : List Int) : Prop where
  mid : ∃ W, PS w nm v1 v2 v5 fl ld ab dp cl W ∧ (∀ k, k < W.heap.size → va.ownBlock ≠ some k → k ≠ bw → k ≠ bm → w'.heap[k]? = W.heap[k]?) ∧ W.heap.size ≤ w'.heap.size ∧ w'.os = W.os ∧ w'.tape = W.tape ∧ w'.output = W.output ∧
    ∃ v', w'.cell? ⟨bw, 0, none⟩ = some v' ∧ w'.ownsRow 0 75 1 v' (n + 1) (ps ++ [.pointer (some ⟨w.heap.size + 1, 0, none⟩)]) ∧ (∀ k, v'.ownBlock = some k → va.ownBlock = some k ∨ W.heap.size ≤ k)
  byName : w'.cell? ⟨bw, 1, none⟩ = some (.map (some bm))
  thaw : ∀ j, w'.frozen? ⟨bw, j, none⟩ = false
  map : w'.ownsMap Tryd.prog 9 (plainElem Tryd.prog 3) bm (n + 1) (D.put (keyL nm) (numD n))

theorem num_wf {n : Nat} (h : n ≤ 9223372036854775807) : (Lit.int .i64 n).wf = true := by
  show (decide (-9223372036854775808 ≤ (n : Int)) && decide ((n : Int) ≤ 9223372036854775807)) = true
  simp
  omega

theorem info_ptr : (Tryd.prog.info? 75).map (fun i => (i.zero, i.size, i.bytes)) = some (some (.pointer none), 1, 8) := by kernel_rfl

theorem put_walk (S SI : Nat → Prop) (bw g cap ab n bm : Nat) (ps : List Value) (D : DataW Unit) (m : List EntM) (v1 v2 v5 : Value) (nm : ByteArray) (fl ld : Int) (ia : Option Addr) (ic : Nat) (is : List Int) (w : World)
    (hk : Looks S w bw g cap n m) (hab : ab < m.length) (hi : IntSl SI w (.slice ia is.length ic) is) (hSI : ∀ k, SI k → k < w.heap.size) (his : ∀ x ∈ is, 0 ≤ x ∧ x < n)
    (hrow : w.ownsRow 0 75 1 (Value.slice (some ⟨g, 0, none⟩) n cap) n ps) (hmap : w.ownsMap Tryd.prog 9 (plainElem Tryd.prog 3) bm n D) (hbm : w.cell? ⟨bw, 1, none⟩ = some (.map (some bm))) (hth : ∀ j, w.frozen? ⟨bw, j, none⟩ = false)
    (hap : ∀ k, ((Value.slice (some ⟨g, 0, none⟩) n cap)).ownBlock = some k → k ≠ bw ∧ k ≠ bm ∧ k < w.heap.size) (hbb : bw ≠ bm) (hnm : nm.size ≤ maxLen) :
    Calls Tryd.prog 33 #[.pointer (some ⟨bw, 0, none⟩), .agg #[.string nm, v1, v2, .int .i64 fl, .int .i64 ld, v5], .int .i64 ab, .slice ia is.length ic] w fun e w' => e = .returned (.int .i64 n) ∧ PutRaw w w' bw bm n (Value.slice (some ⟨g, 0, none⟩) n cap) ps D nm v1 v2 v5 fl ld ab (m[ab].depth + 1) (is.foldl (stepC m) m[ab].closure) := by
  obtain ⟨be, ca, cc, h2, h3, h8, hcl, b3⟩ := hk.ents ab hab
  have h1 := hk.all
  have hn := hk.len
  have hn3 := hk.n300
  have hd := hk.depth ab hab
  generalize m[ab].depth = d at h3 hd ⊢
  have HOK := Lib.hid (hk.okc ab hab)
  generalize m[ab].closure = cl at h8 hcl HOK ⊢
  have hwr : IntKind.i64.wrap (d + 1) = d + 1 := by simp [IntKind.wrap, IntKind.bits, IntKind.signed]; omega
  have hab' : ab < n := by omega
  have HN := Lib.hid hn
  clear hn hab
  have HROW := Lib.hid hrow
  have HMAP := Lib.hid hmap
  have HTH := Lib.hid hth
  have HAP := Lib.hid hap
  have HBM := Lib.hid hbm
  clear hrow hmap hth hap hbm
  go_enter Tryd.func33, Tryd.ntmps33
  go_wp2_with fail
  refine wp_gen (fun W => Laid w W nm v1 v2 v5 fl ld ab 0 (.slice none 0 0)) (Laid.start _ _ _ _ _ _ _ _ _ _ _) ?_
  intro W hL
  have g1 := hL.cell h1
  have g2 := hL.cell h2
  have g3 := hL.cell h3
  have g4 := hL.q
  have g5 := hL.c7
  have g6 := hL.thaw 7
  go_still_tail 14, (by kernel_rfl)
  change wpList _ _ _ _ _ W.drew
  go_wp2_with fail
  refine wp_gen (fun W => Laid w W nm v1 v2 v5 fl ld ab (d + 1) (.slice none 0 0)) (hL.drew.set7 _) ?_
  clear g1 g2 g3 g4 g5 g6 hL W
  intro W hL
  have g1 := hL.cell h1
  have g2 := hL.cell h2
  have g3 := hL.cell h8
  have g4 := hL.q
  have g5 := hL.c8
  have g6 := hL.thaw 8
  have gz := hL.size
  have b1 : bw < w.heap.size := World.block_lt_of_cell? _ _ h1
  have b2 : g < w.heap.size := World.block_lt_of_cell? _ _ h2
  have gcl : IntSl S W.drew (.slice ca cl.length cc) cl := hcl.alike fun k hk' => hL.old k (hk.live k hk')
  have g7 := hL.drew
  go_region_held3 (fun w' => w'.cell? ⟨w.heap.size + 1 + 1, 0, none⟩ = some (.pointer (some ⟨w.heap.size + 1, 0, none⟩)) ∧ w'.cell? ⟨bw, 0, none⟩ = some (.slice (some ⟨g, 0, none⟩) n cap) ∧ w'.cell? ⟨g, ab, none⟩ = some (.pointer (some ⟨be, 0, none⟩)) ∧ w'.cell? ⟨be, 8, none⟩ = some (.slice ca cl.length cc))
    (first | exact ⟨g4, g1, g2, g3⟩ | exact ⟨k4, k1, k2, k3⟩ | exact ⟨(setCell_off (by omega)).trans k4, (setCell_off (by omega)).trans k1, (setCell_off (by omega)).trans k2, (setCell_off (by omega)).trans k3⟩)
    (first | (go_at_call 39; refine (clone_ints gcl).mono ?_; rintro e w' ⟨a', c', rfl, hown, hB⟩; (have k1 : w'.cell? ⟨bw, 0, none⟩ = _ := below_cell' hB g1); (have k2 : w'.cell? ⟨g, ab, none⟩ = _ := below_cell' hB g2); (have k3 : w'.cell? ⟨be, 8, none⟩ = _ := below_cell' hB g3); (have k4 : w'.cell? ⟨w.heap.size + 1 + 1, 0, none⟩ = _ := below_cell' hB g4); (have k5 : w'.cell? ⟨w.heap.size + 1, 8, none⟩ = _ := below_cell' hB g5); (have k6 : w'.frozen? ⟨w.heap.size + 1, 8, none⟩ = false := by rw [World.frozen?_of_block (w := W) (hB.block _ (by simp; omega))]; exact g6)))
  rename_i hHeld
  clear hHeld
  generalize hW' : (w'.setCell ⟨w.heap.size + 1, 8, none⟩ (.slice a' cl.length c')) = W'
  have hPS : PS w nm v1 v2 v5 fl ld ab (d + 1) cl W' := by
    subst hW'
    refine ⟨a', c', g7.set8 hB _, ownsRow_setCell_below (hown.mono gz) (by simp) _⟩
  clear hW' k1 k2 k3 k4 k5 k6 g1 g2 g3 g4 g5 g6 g7 hL gcl hown hB gz
  have HPS := Lib.hid hPS
  clear hPS
  go_wp2_with fail
  obtain ⟨xa, xc, hform, hle, h64, hcells⟩ := hi.cells
  obtain ⟨rfl, -, rfl⟩ : ia = xa ∧ True ∧ ic = xc := by injection hform with e1 e2 e3; exact ⟨e1, trivial, e3⟩
  have HC := Lib.hid hcells
  have HIS := Lib.hid his
  clear hcells his hform hle hi
  go_loopg [53] is.length (fun gk u wr => ∃ k : Nat, Hid (k + gk = is.length) ∧ u = .int .i64 k ∧ Hid (PS w nm v1 v2 v5 fl ld ab (d + 1) ((is.take k).foldl (stepC m) cl) wr))
  case atStart => exact ⟨0, Lib.hid (Nat.zero_add _), rfl, HPS⟩
  case round =>
    obtain ⟨k, hk', rfl, hP⟩ := hrel
    by_cases hlt : k < is.length
    · have hlt' : (k : Int) < (is.length : Int) := by omega
      rcases HC.out with rfl | ⟨ib, io, rfl, hib, hcell⟩
      · simp at hlt
      obtain ⟨hx, hfx⟩ := hcell k hlt
      obtain ⟨hx0, hxn⟩ := HIS.out is[k] (List.getElem_mem hlt)
      obtain ⟨i, hi⟩ : ∃ i : Nat, is[k] = i := ⟨is[k].toNat, by omega⟩
      have HI := Lib.hid hi
      rw [hi] at hx hx0 hxn
      have hin : i < n := by omega
      have him : i < m.length := by have := HN.out; omega
      obtain ⟨bi, ai, ci, e1, e7, e8, ecl, eb⟩ := hk.ents i him
      have HZ := Lib.hid (hk.okc i him)
      have hz3 := (hk.okc i him).len
      have HY : Hid (closAt m i = m[i].closure) := Lib.hid (by unfold closAt; simp [him])
      generalize m[i].closure = zs at e8 ecl HY HZ hz3
      obtain ⟨pa, pc, hL, hown⟩ := hP.out
      have r1 := hL.cell h1
      have r2 := hL.cell e1
      have r3 := hL.cell e8
      have r4 := hL.cell hx
      clear hi hx hx0 hxn e7 e8 him e1 hcell hfx
      obtain ⟨ys, hys⟩ : ∃ ys, (is.take k).foldl (stepC m) cl = ys := ⟨_, rfl⟩
      have HOKy : Hid (Okl n ys) := Lib.hid (hys ▸ Okl.steps hk.clos HOK.out fun x hx => HIS.out x (List.mem_of_mem_take hx))
      rw [hys] at hP
      have HYS := Lib.hid hys
      clear hys hL hown
      go_wp2_with fail
      go_loopg [68] zs.length (fun gk u wr2 => ∃ j : Nat, Hid (j + gk = zs.length) ∧ u = .int .i64 j ∧ Hid (PS w nm v1 v2 v5 fl ld ab (d + 1) ((zs.take j).foldl addNew ys) wr2))
      case atStart => exact ⟨0, Lib.hid (Nat.zero_add _), rfl, hP⟩
      case round =>
        clear r1 r2 r3 r4 hP
        obtain ⟨j, hj', rfl, hR⟩ := hrel
        by_cases hlt2 : j < zs.length
        · have hlt2' : (j : Int) < (zs.length : Int) := by omega
          obtain ⟨za, zc, zform, -, -, zcells⟩ := ecl.cells
          obtain ⟨rfl, rfl⟩ : ai = za ∧ ci = zc := by injection zform with e1 e2 e3; exact ⟨e1, e3⟩
          clear zform
          rcases zcells with rfl | ⟨zb, zo, rfl, hzb, zcell⟩
          · simp at hlt2
          obtain ⟨hx, hfx⟩ := zcell j hlt2
          have HB := Lib.hid ((HZ.out).2 zs[j] (List.getElem_mem hlt2))
          have HT : Hid (addNew ((zs.take j).foldl addNew ys) zs[j] = (zs.take (j + 1)).foldl addNew ys) := Lib.hid (foldl_take_succ addNew zs j hlt2 ys)
          generalize zs[j] = x at hx HB HT
          have HOKz : Hid (Okl n ((zs.take j).foldl addNew ys)) := Lib.hid (Okl.addAll HOKy.out fun x hx => (HZ.out).2 x (List.mem_of_mem_take hx))
          generalize (zs.take j).foldl addNew ys = ys' at hR HT HOKz
          obtain ⟨pa, pc, hL, hown⟩ := hR.out
          have r4 := hL.cell hx
          clear zcell hfx hx
          have q1 := hL.q
          have q2 := hL.c8
          have q3 := hL.thaw 8
          have q4 := hL.size
          go_wp2_with fail
          refine (put1 (w.heap.size + 1 + 1) (w.heap.size + 1) (w.heap.size + 3) x _ ys' _ q1 q2 q3 hown (by have := HOKz.out.len; omega) q4 (by omega) (by omega)).mono ?_
          rintro e w3 ⟨rfl, hp⟩
          have HP3 := Lib.hid (HT.out ▸ hR.out.put1 hp)
          clear hp q1 q2 q3 q4 r4 hown hL
          go_wp2
          go_roundg (zs.length - (j + 1))
          case measure => have := hj'.out; omega
          case rel => exact ⟨j + 1, Lib.hid (by omega), by go_num, HP3⟩
        · have HE : Hid ((zs.take j).foldl addNew ys = zs.foldl addNew ys) := Lib.hid (by rw [List.take_of_length_le (by omega)])
          go_wp2_with fail
          obtain ⟨pa, pc, hL, hown⟩ := hR.out
          have q1 := hL.q
          have q2 := hL.c8
          have q3 := hL.thaw 8
          have q4 := hL.size
          refine (put1 (w.heap.size + 1 + 1) (w.heap.size + 1) (w.heap.size + 3) i _ _ _ q1 q2 q3 hown (by have := (Okl.addAll (xs := zs.take j) HOKy.out fun x hx => (HZ.out).2 x (List.mem_of_mem_take hx)).len; omega) q4 (by omega) (by omega)).mono ?_
          rintro e w3 ⟨rfl, hp⟩
          have HP3 : Hid (PS w nm v1 v2 v5 fl ld ab (d + 1) ((is.take (k + 1)).foldl (stepC m) cl) w3) := Lib.hid (by
            have := hR.out.put1 hp
            rw [← foldl_take_succ (stepC m) is k hlt, HYS.out, HI.out]
            unfold stepC
            rw [HY.out, ← HE.out]
            exact this)
          clear hp q1 q2 q3 q4 hown hL
          go_wp2
          go_roundg (is.length - (k + 1))
          case measure => have := hk'.out; omega
          case rel => exact ⟨k + 1, Lib.hid (by omega), by go_num, HP3⟩
    · have HE : Hid ((is.take k).foldl (stepC m) cl = is.foldl (stepC m) cl) := Lib.hid (by rw [List.take_of_length_le (by omega)])
      obtain ⟨pa, pc, hL, hown⟩ := hP.out
      have r1 := hL.cell h1
      have r0 := hL.q
      have rz := hL.size
      go_wp2_with fail
      have hrow1 := row_of_block HROW.out fun k hk => hL.old k (HAP.out k hk).2.2
      have hmap1 := map_of_block HMAP.out (hL.old bm HMAP.out.lt)
      have hnew : ∀ j u, ([.pointer (some ⟨w.heap.size + 1, 0, none⟩)] : List Value)[j]? = some u → ((wr.alloc (Obj.cells #[Value.pointer (some ⟨w.heap.size + 1, 0, none⟩)] 75)).drew).cell? ((⟨wr.heap.size, 0, none⟩ : Addr).add j) = some u := by
        intro j u hu
        cases j with
        | zero =>
          obtain rfl : Value.pointer (some ⟨w.heap.size + 1, 0, none⟩) = u := by simpa using hu
          show (wr.alloc _).cell? ⟨wr.heap.size, 0, none⟩ = _
          rw [World.cell?_alloc_new]; rfl
        | succ j => simp at hu
      have HNEW := Lib.hid hnew
      clear hnew
      have keep : ∀ w1 : World, (wr.alloc (Obj.cells #[Value.pointer (some ⟨w.heap.size + 1, 0, none⟩)] 75)).drew.grownBy w1 ((Value.slice (some ⟨g, 0, none⟩) n cap)).ownBlock → ∀ k, k < wr.heap.size → ((Value.slice (some ⟨g, 0, none⟩) n cap)).ownBlock ≠ some k → w1.heap[k]? = wr.heap[k]? := fun w1 hg k hk1 hk2 =>
        (hg.block k (by simp; omega) (fun e => hk2 e.symm)).trans (Below.heap_alloc wr _ k hk1)
      have HKEEP := Lib.hid keep
      clear keep
      have key : ∀ w1 : World, (wr.alloc (Obj.cells #[Value.pointer (some ⟨w.heap.size + 1, 0, none⟩)] 75)).drew.grownBy w1 ((Value.slice (some ⟨g, 0, none⟩) n cap)).ownBlock → w1.cell? ⟨bw, 0, none⟩ = some (Value.slice (some ⟨g, 0, none⟩) n cap) ∧ w1.frozen? ⟨bw, 0, none⟩ = false := fun w1 hg => by
        have e := HKEEP.out w1 hg bw (by omega) fun e => (HAP.out _ e).1 rfl
        exact ⟨(World.cell?_of_block (w := wr) (a := ⟨bw, 0, none⟩) e).trans r1, ((World.frozen?_of_block (w := wr) (a := ⟨bw, 0, none⟩) e).trans (World.frozen?_of_block (w := w) (a := ⟨bw, 0, none⟩) (hL.old bw b1))).trans (HTH.out 0)⟩
      have HKEY := Lib.hid key
      clear key
      obtain ⟨i0, hi0, hz0, hz1, hz2⟩ := info_parts info_ptr
      clear h2 h3 h8 hcl hk HOK hwr hd HC HIS HPS hSI
      have b1' : bw < wr.heap.size := by omega
      have b4' : w.heap.size + 1 + 1 < wr.heap.size := by omega
      go_region_law (refine step_append_at rfl (.tmp 89) (.tmp 91) 66 rfl 0 75 i0 _ 1 8 Tryd.underlying66 hi0 hz0 hz1 hz2 rfl (by decide) (Value.slice (some ⟨g, 0, none⟩) n cap) n ps (by simp [Act.eval, Act.put]) ((hrow1.alloc _).drew) ⟨wr.heap.size, 0, none⟩ 1 1 [.pointer (some ⟨w.heap.size + 1, 0, none⟩)] (by simp [Act.eval, Act.put]) rfl HNEW.out (by simp [Value.oneCell']) (by unfold maxLen; omega) (by omega) (by simp) ?_; intro v1 w1 hown1 hgrow1 hat1; obtain ⟨g1, cap1, rfl⟩ := own_form hown1; obtain ⟨k1, k2⟩ := HKEY.out w1 hgrow1)
      all_goals
        generalize hw2 : (w1.setCell ⟨bw, 0, none⟩ (.slice (some ⟨g1, 0, none⟩) (n + 1) cap1)) = w2
        have HK2 : Hid (∀ k, k < wr.heap.size → ((Value.slice (some ⟨g, 0, none⟩) n cap)).ownBlock ≠ some k → k ≠ bw → w2.heap[k]? = wr.heap[k]?) := Lib.hid fun k hk1 hk2 hk3 => by
          rw [← hw2, Below.heap_setCell _ _ _ _ hk3]
          exact HKEEP.out w1 hgrow1 k hk1 hk2
        have hbw1 : w1.heap[bw]? = w.heap[bw]? := (HKEEP.out w1 hgrow1 bw (by omega) fun e => (HAP.out _ e).1 rfl).trans (hL.old bw b1)
        have s1 : w2.cell? ⟨bw, 1, none⟩ = some (.map (some bm)) := by
          rw [← hw2, setCell_off (by omega), World.cell?_of_block (w := w) (a := ⟨bw, 1, none⟩) hbw1]; exact HBM.out
        have s2 : w2.cell? ⟨w.heap.size, 0, none⟩ = some (.string nm) := by
          rw [World.cell?_of_block (w := wr) (a := ⟨w.heap.size, 0, none⟩) (HK2.out w.heap.size (by omega) (fun e => by have := (HAP.out _ e).2.2; omega) (by omega))]; exact hL.n0
        have s3 : w2.cell? ⟨bw, 0, none⟩ = some (.slice (some ⟨g1, 0, none⟩) (n + 1) cap1) := by rw [← hw2]; exact setCell_same k1
        have s4 : ∀ j, w2.frozen? ⟨bw, j, none⟩ = false := fun j => by
          rw [← hw2, World.frozen?_setCell, World.frozen?_of_block (w := w) (a := ⟨bw, j, none⟩) hbw1]; exact HTH.out j
        have hmb := HMAP.out.lt
        have hmap2 := map_of_block hmap1 (HK2.out bm (by omega) (fun e => (HAP.out _ e).2.1 rfl) (fun e => hbb e.symm))
        have hg1 : g1 ≠ bw := fun e => by
          rcases hat1 with h | h
          · exact (HAP.out g1 (h.symm.trans rfl)).1 e
          · simp [Value.ownBlock] at h
            omega
        have hrow2 : w2.ownsRow 0 75 1 (.slice (some ⟨g1, 0, none⟩) (n + 1) cap1) (n + 1) (ps ++ [.pointer (some ⟨w.heap.size + 1, 0, none⟩)]) := row_of_block hown1 fun k hk => by
          obtain rfl : g1 = k := by simpa [Value.ownBlock] using hk
          rw [← hw2]
          exact Below.heap_setCell _ _ _ _ hg1
        have hsz2 : wr.heap.size ≤ w2.heap.size ∧ w2.os = wr.os ∧ w2.tape = wr.tape ∧ w2.output = wr.output := by
          rw [← hw2]
          refine ⟨?_, hgrow1.os, hgrow1.tape, hgrow1.output⟩
          have := hgrow1.size
          simp at this ⊢
          omega
        have HAT := Lib.hid hat1
        have HROW2 := Lib.hid hrow2
        have HS2 := Lib.hid hsz2
        have HTH2 := Lib.hid s4
        have HS3 := Lib.hid s3
        have HM2 := Lib.hid hmap2
        clear hw2 hown1 hgrow1 k1 k2 hbw1 hrow2 hsz2 s4 s3 hmap2 hat1 HKEEP HKEY HNEW hrow1 hmap1
        go_wp2_with fail
        go_still_tail 7, (by kernel_rfl)
        change wpList _ _ _ _ _ w2.drew
        refine wpList_mapUpdate_own _ rfl (.tmp 98) (.tmp 100) (.tmp 101) 65 rfl 9 3 (Maps.string_keyed Tryd.underlying9) Tryd.underlying65 (plainElem Tryd.prog 3) bm n D (by simp [Act.eval, Act.put]) HM2.out.drew (by unfold maxLen; omega) (.string nm) (.int .i64 n) (keyL nm) (by simp [Act.eval, Act.put]) (by simp [Act.eval, Act.put]) (WideMaps.keyOf_string_mk Tryd.underlying9 hnm) (numD n) [] (plainElem_int Tryd.underlying3 (num_wf (by omega))) ?_
        intro w4 hm4 hg4
        have hgs := hg4.size
        have hgs' : w2.heap.size ≤ w4.heap.size := by simpa using hgs
        have hz2 := HS2.out.1
        have eb : w4.heap[bw]? = w2.heap[bw]? := hg4.block bw (by simp; omega) (by intro e; injection e with e; exact hbb e)
        have fin : PutRaw w w4 bw bm n (Value.slice (some ⟨g, 0, none⟩) n cap) ps D nm v1 v2 v5 fl ld ab (d + 1) (is.foldl (stepC m) cl) := by
          refine ⟨⟨wr, HE.out ▸ hP.out, fun k e1 e2 e3 e4 => (hg4.block k (by simp; omega) (by intro e; injection e with e; exact e4 e)).trans (HK2.out k e1 e2 e3), by omega, hg4.os.trans HS2.out.2.1, hg4.tape.trans HS2.out.2.2.1, hg4.output.trans HS2.out.2.2.2, _, (World.cell?_of_block (w := w2) (a := ⟨bw, 0, none⟩) eb).trans HS3.out, ?_, ?_⟩, (World.cell?_of_block (w := w2) (a := ⟨bw, 1, none⟩) eb).trans s1, fun j => (World.frozen?_of_block (w := w2) (a := ⟨bw, j, none⟩) eb).trans (HTH2.out j), hm4⟩
          · refine row_of_block HROW2.out fun k hk => ?_
            obtain rfl : g1 = k := by simpa [Value.ownBlock] using hk
            have hg1 : g1 ≠ bm ∧ g1 < w2.heap.size := by
              refine ⟨fun e => ?_, ?_⟩
              · rcases HAT.out with h | h
                · exact (HAP.out g1 (h.symm.trans rfl)).2.1 e
                · have := HMAP.out.lt
                  simp [Value.ownBlock] at h
                  omega
              · exact (HROW2.out.lt g1 rfl).2
            exact hg4.block g1 (by simp; omega) (by intro e; injection e with e; exact hg1.1 e)
          · intro k hk
            rcases HAT.out with h | h
            · exact .inl (h.symm.trans hk)
            · right
              obtain rfl : g1 = k := by simpa [Value.ownBlock] using hk
              simp [Value.ownBlock] at h
              omega
        have FIN := Lib.hid fin
        clear fin
        go_wp2
        go_ret
        exact ⟨rfl, FIN.out⟩
end Go.Proofs.YtmpkdgankficeaaDoor.Hi
