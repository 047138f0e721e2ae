/- A new world. -/
import Derived.Test.YtipinmbpdgjalaaGreatDoorMH
import Derived.WalkMore
import Derived.BigQuiet
import Derived.Laws.ResultCell
set_option maxRecDepth 100000
set_option maxHeartbeats 8000000
set_option linter.unusedVariables false
set_option linter.unusedSimpArgs false
namespace Go.Proofs.YtipinmbpdgjalaaGreatDoor.Hi
open Go.RowKit Bs

/-- An interface without methods. -/
def ifcM (nm : ByteArray) : ClsM := { name := nm, super := ⟨#[79, 98, 106, 101, 99, 116]⟩, ifaces := [], flags := 1537, loader := 0, meths := [] }
def nmAt (k : Nat) : ByteArray := if k = 0 then ⟨#[67, 108, 111, 110, 101, 97, 98, 108, 101]⟩ else ⟨#[83, 101, 114, 105, 97, 108, 105, 122, 97, 98, 108, 101]⟩
def startAt : Nat → List EntM
  | 0 => [putEnt [] objM (-1) []]
  | k + 1 => startAt k ++ [putEnt (startAt k) (ifcM (nmAt k)) 0 []]
/-- A new world's classes. -/
def startM : List EntM := startAt 2

theorem startAt_len : ∀ k, (startAt k).length = k + 1
  | 0 => rfl
  | k + 1 => by simp [startAt, startAt_len k]
theorem startAt_name {k : Nat} (h : k < 2) : nameIx (startAt k) (nmAt k) = none := by
  match k, h with
  | 0, _ => decide
  | 1, _ => decide
theorem nmAt_size (k : Nat) : (nmAt k).size ≤ maxLen := by unfold nmAt; split <;> decide

theorem ifcIs {S : Nat → Prop} {w : World} (nm : ByteArray) (h : nm.size ≤ maxLen) : ClsIs S w [.string nm, .string ⟨#[79, 98, 106, 101, 99, 116]⟩, .slice none 0 0, .int .i64 1537, .int .i64 0, .slice none 0 0] (ifcM nm) := by
  refine ⟨_, _, rfl, h, ?_, ⟨none, 0, rfl, Nat.le_refl _, ?_, .inl rfl⟩, ?_, ?_, ⟨none, 0, rfl, Nat.le_refl _, ?_, .inl rfl⟩⟩
  · show ByteArray.size ⟨#[79, 98, 106, 101, 99, 116]⟩ ≤ maxLen; decide
  · exact Nat.zero_le _
  · show Fits 1537; unfold Fits; omega
  · show Fits 0; unfold Fits; omega
  · exact Nat.zero_le _

/-- Two rounds of New. -/
structure NewAt (w wr : World) (R k : Nat) : Prop where
  world : HW (fun b => w.heap.size ≤ b ∧ b < wr.heap.size ∧ b ≠ R) (w.heap.size + 1) wr (startAt k)
  row : ∀ j, j < 2 → wr.cell? ⟨R, j, none⟩ = some (.string (nmAt j))
  below : Below w.heap.size w wr
  lt : R < wr.heap.size
  ge : w.heap.size ≤ R

theorem NewAt.next {w wr w' : World} {R k : Nat} (h : NewAt w wr R k) (hk : k < 2)
    (hw : HW (fun b => (w.heap.size ≤ b ∧ b < wr.heap.size ∧ b ≠ R) ∨ False ∨ (wr.heap.size ≤ b ∧ b < w'.heap.size)) (w.heap.size + 1) w' (startAt k ++ [putEnt (startAt k) (ifcM (nmAt k)) 0 []]))
    (hc : Chg (fun b => w.heap.size ≤ b ∧ b < wr.heap.size ∧ b ≠ R) wr w') : NewAt w w' R (k + 1) := by
  have hs := hc.size
  have hl := h.lt
  refine ⟨hw.mono ?_, fun j hj => ?_, ?_, by omega, h.ge⟩
  · rintro b (hb | hb | hb)
    · exact ⟨hb.1, by omega, hb.2.2⟩
    · exact hb.elim
    · have := h.below.size
      exact ⟨by omega, hb.2, by omega⟩
  · exact hc.cell_eq (h.row j hj) fun hb => hb.2.2 rfl
  · exact h.below.trans (hc.below h.below.size fun b hb hx => by omega)

theorem WFm.nil : WFm [] := ⟨by simp, by simp, by simp, by simp, by simp⟩

theorem new_first {w w1 : World} (hb : Below (w.heap.size + 2) ((w.alloc (Obj.map #[] 0)).alloc (Obj.cells #[Value.slice none 0 0, Value.map (some w.heap.size)] 102)) w1) :
    HWF (fun _ => False) (w.heap.size + 1) (.slice none 0 0) w.heap.size [] (.map []) w1 [] := by
  have e0 : w1.heap[w.heap.size]? = some (.map #[] 0) := (hb.block w.heap.size (by omega)).trans (allocs_at [.map #[] 0, .cells #[Value.slice none 0 0, Value.map (some w.heap.size)] 102] w 0 (by simp))
  have e1 : w1.heap[w.heap.size + 1]? = some (.cells #[Value.slice none 0 0, Value.map (some w.heap.size)] 102) := (hb.block (w.heap.size + 1) (by omega)).trans (allocs_at [.map #[] 0, .cells #[Value.slice none 0 0, Value.map (some w.heap.size)] 102] w 1 (by simp))
  refine ⟨by simp [World.cell?, e1], by simp [World.cell?, e1], fun j => by simp [World.frozen?, e1], World.ownsRow_nil _ _ _ _, ?_, Reads.nil, by simp, by simp, ⟨by simp, by simp, fun g hg => by simp [Value.ownBlock] at hg, by omega⟩, WFm.nil⟩
  exact map_of_block (World.ownsMap_made w _ _ _) (e0.trans (heap_alloc_new w _).symm)

theorem NewAt.first {w w1 w2 : World} (hb : Below (w.heap.size + 2) ((w.alloc (Obj.map #[] 0)).alloc (Obj.cells #[Value.slice none 0 0, Value.map (some w.heap.size)] 102)) w1) (hz : w.heap.size + 2 ≤ w1.heap.size)
    (h : HW (fun k => (k = w.heap.size ∨ k = w.heap.size + 1) ∨ (w.heap.size + 2 ≤ k ∧ k < w1.heap.size) ∨ (w1.heap.size ≤ k ∧ k < w2.heap.size)) (w.heap.size + 1) w2 (startAt 0)) (hc : Chg (fun k => k = w.heap.size ∨ k = w.heap.size + 1) w1 w2)
    {C : Array Value} {t : TypeId} (hC : ∀ j, j < 2 → C[j]? = some (.string (nmAt j))) : NewAt w (w2.alloc (.cells C t)) w2.heap.size 0 := by
  have hs := hc.size
  have hb0 : Below w.heap.size w ((w.alloc (Obj.map #[] 0)).alloc (Obj.cells #[Value.slice none 0 0, Value.map (some w.heap.size)] 102)) := allocs_below [.map #[] 0, .cells #[Value.slice none 0 0, Value.map (some w.heap.size)] 102] w
  have hb2 : Below w.heap.size w w2 := (hb0.trans (hb.mono (by omega))).trans (hc.below (by omega) fun k hk => by omega)
  have h' : HW (fun b => w.heap.size ≤ b ∧ b < w2.heap.size) (w.heap.size + 1) w2 (startAt 0) := h.mono fun b hb => by omega
  refine ⟨(h'.alike (w' := w2.alloc (.cells C t)) (by simp) fun k hk => Below.heap_alloc _ _ _ hk.2).mono fun b hb => by simp; omega, fun j hj => ?_, hb2.alloc hb2.size _, by simp, hb2.size⟩
  rw [World.cell?_alloc_new]
  exact hC j hj

theorem New (w : World) :
    Calls Tryz.prog 40 #[] w fun e w' => e = .returned (.pointer (some ⟨w.heap.size + 1, 0, none⟩)) ∧ HW (fun b => w.heap.size ≤ b ∧ b < w'.heap.size) (w.heap.size + 1) w' startM ∧ Below w.heap.size w w' := by
  have hmk : ∀ w : World, (Instr.makeMap 100 none).run Tryz.prog w = .ok (.map (some w.heap.size)) (w.alloc (.map #[] 0)) := fun _ => rfl
  go_enter Tryz.func40, Tryz.ntmps40
  go_wp2_with fail
  refine (object _).mono ?_
  rintro e w1 ⟨cs, rfl, hc, hb⟩
  go_wp2_with fail
  have z0 : ((w.alloc (Obj.map #[] 0)).alloc (Obj.cells #[Value.slice none 0 0, Value.map (some w.heap.size)] 102)).heap.size = w.heap.size + 2 := by simp
  rw [z0] at hb hc
  have hz1 := hb.size
  rw [z0] at hz1
  refine (put_first (S := fun k => k = w.heap.size ∨ k = w.heap.size + 1) (new_first hb) ⟨.inr rfl, .inl rfl, fun _ h => h.elim⟩ hc (fun k hk => ⟨hk.2, by omega⟩)).mono ?_
  rintro e w2 ⟨rfl, hw, hch⟩
  have hN := fun (C : Array Value) (t : TypeId) (hC : ∀ j, j < 2 → C[j]? = some (.string (nmAt j))) => NewAt.first hb hz1 hw hch (t := t) hC
  have HN := Lib.hid hN
  clear hN hw hch hb hc z0 hz1
  go_wp2_with fail
  refine wp_gen (fun W => NewAt w W w2.heap.size 0) (HN.out #[.string ⟨#[67, 108, 111, 110, 101, 97, 98, 108, 101]⟩, .string ⟨#[83, 101, 114, 105, 97, 108, 105, 122, 97, 98, 108, 101]⟩] _ (fun j hj => by match j, hj with | 0, _ => rfl | 1, _ => rfl)) ?_
  intro W hW
  have HW0 := Lib.hid hW
  clear HN hW
  generalize w2.heap.size = R at HW0
  clear hmk
  go_loopg [12] 2 (fun gk u wr => ∃ k : Nat, Hid (k + gk = 2) ∧ u = .int .i64 k ∧ Hid (NewAt w wr R k))
  case atStart => exact ⟨0, Lib.hid rfl, rfl, HW0⟩
  case round =>
    obtain ⟨k, hk, rfl, hA⟩ := hrel
    by_cases hlt : k < 2
    · have hlt' : (k : Int) < 2 := by omega
      have hcell := hA.out.row k hlt
      have HP : Hid (∀ wr' : World, wr' = wr → Calls Tryz.prog 51 #[.pointer (some ⟨w.heap.size + 1, 0, none⟩), .agg #[.string (nmAt k), .string ⟨#[79, 98, 106, 101, 99, 116]⟩, .slice none 0 0, .int .i64 1537, .int .i64 0, .slice none 0 0], .int .i64 0, .slice none 0 0] wr'
          fun e w' => e = .returned (.int .i64 (startAt k).length) ∧ Hid (NewAt w w' R (k + 1))) := Lib.hid (by
        rintro _ rfl
        refine (put (S0 := fun _ => False) (SI := fun _ => False) (is := []) (c := ifcM (nmAt k)) hA.out.world (ifcIs (nmAt k) (nmAt_size k)) (fun _ h => h.elim) ⟨Int.le_refl 0, by rw [startAt_len]; omega, by simp⟩ (by rw [startAt_len]; omega) (startAt_name hlt) ⟨none, 0, rfl, Nat.le_refl _, by simp, .inl rfl⟩ (fun _ h => h.elim)).mono ?_
        rintro e w' ⟨rfl, h1, h2⟩
        exact ⟨rfl, Lib.hid (hA.out.next hlt h1 h2)⟩)
      generalize nmAt k = nm at hcell HP
      go_wp2_with fail
      refine (HP.out _ rfl).mono ?_
      rintro e w3 ⟨rfl, hA3⟩
      go_wp2
      go_roundg (2 - (k + 1))
      case measure => have := hk.out; omega
      case rel => exact ⟨k + 1, Lib.hid (by omega), by go_num, hA3⟩
    · have hk2 := hk.out
      obtain rfl : k = 2 := by omega
      have F : Hid (HW (fun b => w.heap.size ≤ b ∧ b < wr.heap.size) (w.heap.size + 1) wr startM ∧ Below w.heap.size w wr) := Lib.hid ⟨hA.out.world.mono fun b hb => ⟨hb.1, hb.2.1⟩, hA.out.below⟩
      go_wp2
      go_ret
      exact ⟨rfl, F.out⟩
end Go.Proofs.YtipinmbpdgjalaaGreatDoor.Hi
/- What is asked of a world: its size, its names, its classes; and of a nil world. -/
set_option maxRecDepth 100000
set_option maxHeartbeats 8000000
set_option linter.unusedVariables false
set_option linter.unusedSimpArgs false
namespace Go.Proofs.YtipinmbpdgjalaaGreatDoor.Hi
open Go.RowKit Bs

theorem HW.all {S : Nat → Prop} {bw : Nat} {w : World} {m : List EntM} (h : HW S bw w m) : ∃ ga cap, w.cell? ⟨bw, 0, none⟩ = some (.slice ga m.length cap) ∧
    ∀ i (hi : i < m.length), ∃ g be, ga = some ⟨g, 0, none⟩ ∧ w.cell? ⟨g, i, none⟩ = some (.pointer (some ⟨be, 0, none⟩)) ∧ EntAt S w (.pointer (some ⟨be, 0, none⟩)) m[i] := by
  obtain ⟨T, va, bm, ps, D, h1, h2, h3, h4, h5⟩ := h
  obtain ⟨a, c, rfl⟩ := own_slice h1.row
  refine ⟨a, c, h1.all, fun i hi => ?_⟩
  obtain ⟨r1, ⟨_, r2⟩ | ⟨g, cap, cur, e, r3, r4, r5, r6, r7, r8⟩⟩ := h1.row
  · exact absurd r2 (by omega)
  · obtain ⟨v, hv, he⟩ := h1.ents i hi
    have he' := he
    obtain ⟨be, cs, cv, rfl, _⟩ := he
    injection e with e1 e2 e3
    refine ⟨g, be, e1, ?_, he'.mono h5⟩
    have e : cur.toList[i]? = some (.pointer (some ⟨be, 0, none⟩)) := by
      have : (cur.toList.take (m.length * 1))[i]? = some (.pointer (some ⟨be, 0, none⟩)) := by rw [r8]; exact hv
      rw [List.getElem?_take] at this
      rwa [if_pos (by omega)] at this
    simp only [World.cell?, r4]
    simpa using e

theorem Len {S : Nat → Prop} {bw : Nat} {w : World} {m : List EntM} (h : HW S bw w m) :
    Calls Tryz.prog 19 #[.pointer (some ⟨bw, 0, none⟩)] w fun e w' => e = .returned (.int .i64 m.length) ∧ w = w' := by
  obtain ⟨ga, cap, h1, _⟩ := h.all
  go_enter Tryz.func19, Tryz.ntmps19
  go_wp2
  go_ret
  exact ⟨rfl, rfl⟩
theorem Len_nil (w : World) : Calls Tryz.prog 19 #[.pointer none] w fun e w' => e = .returned (.int .i64 0) ∧ w = w' := by
  go_enter Tryz.func19, Tryz.ntmps19
  go_wp2
  go_ret
  exact ⟨rfl, rfl⟩

theorem at_nil (id : Int) (w : World) : Calls Tryz.prog 43 #[.pointer none, .int .i64 id] w fun e w' => e = .returned (.pointer none) ∧ w = w' := by
  go_enter Tryz.func43, Tryz.ntmps43
  go_wp2
  go_ret
  exact ⟨rfl, rfl⟩

/-- The name's number, or 0; is there one? -/
def byNameM (m : List EntM) (s : ByteArray) : Int × Int := match nameIx m s with | some i => ((i : Nat), 0) | none => (0, 6)


theorem int_lit {n : Nat} {c : Int} (h : (DataW.lit (.int .i64 c) : DataW Unit) = numD n) : c = n := by
  unfold numD at h
  injection h with h
  injection h

end Go.Proofs.YtipinmbpdgjalaaGreatDoor.Hi
/- What a nil world answers. -/
set_option maxRecDepth 100000
set_option maxHeartbeats 1000000
set_option linter.unusedVariables false
set_option linter.unusedSimpArgs false
namespace Go.Proofs.YtipinmbpdgjalaaGreatDoor.Hi
open Go.RowKit Bs

def aggD : TypeDesc → Bool
  | .struct _ => true
  | .array _ _ => true
  | _ => false

theorem run_loadVar_cells {P : Program} (w : World) (g : Nat) (ty : TypeId) (cs : List Value) (d : TypeDesc) (hg : ∀ j (h : j < cs.length), w.cell? ⟨g, j, none⟩ = some cs[j])
    (hu : P.underlying ty = some d) (hd : aggD d = true) (hi : (P.info? ty).map (·.size) = some cs.length) :
    (loadVar ty ⟨g, 0, none⟩).run P w = .ok (.agg cs.toArray) w := by
  have hl : (loadCells ⟨g, 0, none⟩ cs.length).run P w = .ok cs.toArray w :=
    run_loadCells_list (P := P) w ⟨g, 0, none⟩ cs (fun j v hv => by
      obtain ⟨h, rfl⟩ := List.getElem?_eq_some_iff.1 hv
      have hadd : (⟨g, 0, none⟩ : Addr).add j = ⟨g, j, none⟩ := by unfold Addr.add; split <;> simp_all
      rw [hadd]
      exact hg j h)
  cases hq : P.info? ty with
  | none => rw [hq] at hi; cases hi
  | some q =>
    rw [hq] at hi
    have hs : q.size = cs.length := by simpa using hi
    have hagg : (isAgg ty).run P w = .ok true w := by
      unfold isAgg
      rw [Sem.run_bind, run_underlying hu w]
      cases d <;> simp_all [aggD]
    simp [loadVar, Sem.run_bind, hagg, sizeOf, typeInfo, hq, hs, hl]

/-- A struct and an error come back. -/
theorem results_cells_tmp {P : Program} {fn : Func} {p u : Tmp} {ty : TypeId} (h : fn.results = #[.cell p ty, .tmp u]) (tmps : Array Value) (w : World) (g : Nat) (cs : List Value) (d : TypeDesc)
    (hp : tmps.getD p undef = .pointer (some ⟨g, 0, none⟩)) (hg : ∀ j (h : j < cs.length), w.cell? ⟨g, j, none⟩ = some cs[j])
    (hu : P.underlying ty = some d) (hd : aggD d = true) (hi : (P.info? ty).map (·.size) = some cs.length) :
    (results fn tmps).run P w = .ok (.tuple #[.agg cs.toArray, tmps.getD u undef]) w := by
  rw [results_cell_tmp h, hp]
  simp [asAddr, Result.andThen, run_loadVar_cells w g ty cs d hg hu hd hi]
theorem results_cells {P : Program} {fn : Func} {p : Tmp} {ty : TypeId} (h : fn.results = #[.cell p ty]) (tmps : Array Value) (w : World) (g : Nat) (cs : List Value) (d : TypeDesc)
    (hp : tmps.getD p undef = .pointer (some ⟨g, 0, none⟩)) (hg : ∀ j (h : j < cs.length), w.cell? ⟨g, j, none⟩ = some cs[j])
    (hu : P.underlying ty = some d) (hd : aggD d = true) (hi : (P.info? ty).map (·.size) = some cs.length) :
    (results fn tmps).run P w = .ok (.agg cs.toArray) w := by
  have hp' : tmps[p]?.getD undef = .pointer (some ⟨g, 0, none⟩) := by simpa using hp
  simp [results, h, hp', asAddr, run_loadVar_cells w g ty cs d hg hu hd hi]

/-- Six cells at once. -/
theorem six {w : World} {g : Nat} {v0 v1 v2 v3 v4 v5 : Value} (h0 : w.cell? ⟨g, 0, none⟩ = some v0) (h1 : w.cell? ⟨g, 1, none⟩ = some v1) (h2 : w.cell? ⟨g, 2, none⟩ = some v2) (h3 : w.cell? ⟨g, 3, none⟩ = some v3) (h4 : w.cell? ⟨g, 4, none⟩ = some v4) (h5 : w.cell? ⟨g, 5, none⟩ = some v5) :
    ∀ j (h : j < [v0, v1, v2, v3, v4, v5].length), w.cell? ⟨g, j, none⟩ = some [v0, v1, v2, v3, v4, v5][j]
  | 0, _ => h0
  | 1, _ => h1
  | 2, _ => h2
  | 3, _ => h3
  | 4, _ => h4
  | 5, _ => h5

theorem set6 {w : World} {g : Nat} {v0 v1 v2 v3 v4 v5 u0 u1 u2 u3 u4 u5 : Value} (h0 : w.cell? ⟨g, 0, none⟩ = some u0) (h1 : w.cell? ⟨g, 1, none⟩ = some u1) (h2 : w.cell? ⟨g, 2, none⟩ = some u2) (h3 : w.cell? ⟨g, 3, none⟩ = some u3) (h4 : w.cell? ⟨g, 4, none⟩ = some u4) (h5 : w.cell? ⟨g, 5, none⟩ = some u5) :
    ((((((w.setCell ⟨g, 0, none⟩ v0).setCell ⟨g, 1, none⟩ v1).setCell ⟨g, 2, none⟩ v2).setCell ⟨g, 3, none⟩ v3).setCell ⟨g, 4, none⟩ v4).setCell ⟨g, 5, none⟩ v5).cell? ⟨g, 0, none⟩ = some v0 ∧ ((((((w.setCell ⟨g, 0, none⟩ v0).setCell ⟨g, 1, none⟩ v1).setCell ⟨g, 2, none⟩ v2).setCell ⟨g, 3, none⟩ v3).setCell ⟨g, 4, none⟩ v4).setCell ⟨g, 5, none⟩ v5).cell? ⟨g, 1, none⟩ = some v1 ∧ ((((((w.setCell ⟨g, 0, none⟩ v0).setCell ⟨g, 1, none⟩ v1).setCell ⟨g, 2, none⟩ v2).setCell ⟨g, 3, none⟩ v3).setCell ⟨g, 4, none⟩ v4).setCell ⟨g, 5, none⟩ v5).cell? ⟨g, 2, none⟩ = some v2 ∧ ((((((w.setCell ⟨g, 0, none⟩ v0).setCell ⟨g, 1, none⟩ v1).setCell ⟨g, 2, none⟩ v2).setCell ⟨g, 3, none⟩ v3).setCell ⟨g, 4, none⟩ v4).setCell ⟨g, 5, none⟩ v5).cell? ⟨g, 3, none⟩ = some v3 ∧ ((((((w.setCell ⟨g, 0, none⟩ v0).setCell ⟨g, 1, none⟩ v1).setCell ⟨g, 2, none⟩ v2).setCell ⟨g, 3, none⟩ v3).setCell ⟨g, 4, none⟩ v4).setCell ⟨g, 5, none⟩ v5).cell? ⟨g, 4, none⟩ = some v4 ∧ ((((((w.setCell ⟨g, 0, none⟩ v0).setCell ⟨g, 1, none⟩ v1).setCell ⟨g, 2, none⟩ v2).setCell ⟨g, 3, none⟩ v3).setCell ⟨g, 4, none⟩ v4).setCell ⟨g, 5, none⟩ v5).cell? ⟨g, 5, none⟩ = some v5 := by
  refine ⟨?_, ?_, ?_, ?_, ?_, ?_⟩
  · rw [setCell_off (by omega), setCell_off (by omega), setCell_off (by omega), setCell_off (by omega), setCell_off (by omega)]; refine setCell_same (u := u0) ?_; exact h0
  · rw [setCell_off (by omega), setCell_off (by omega), setCell_off (by omega), setCell_off (by omega)]; refine setCell_same (u := u1) ?_; rw [setCell_off (by omega)]; exact h1
  · rw [setCell_off (by omega), setCell_off (by omega), setCell_off (by omega)]; refine setCell_same (u := u2) ?_; rw [setCell_off (by omega), setCell_off (by omega)]; exact h2
  · rw [setCell_off (by omega), setCell_off (by omega)]; refine setCell_same (u := u3) ?_; rw [setCell_off (by omega), setCell_off (by omega), setCell_off (by omega)]; exact h3
  · rw [setCell_off (by omega)]; refine setCell_same (u := u4) ?_; rw [setCell_off (by omega), setCell_off (by omega), setCell_off (by omega), setCell_off (by omega)]; exact h4
  · refine setCell_same (u := u5) ?_; rw [setCell_off (by omega), setCell_off (by omega), setCell_off (by omega), setCell_off (by omega), setCell_off (by omega)]; exact h5

theorem meth_info : (Tryz.prog.info? 55).map (·.size) = some 6 := by kernel_rfl

def zeroClass : Value := .agg #[.string ⟨#[]⟩, .string ⟨#[]⟩, .slice none 0 0, .int .i64 0, .int .i64 0, .slice none 0 0]
def zeroMeth : Value := .agg #[.string ⟨#[]⟩, .string ⟨#[]⟩, .int .i64 0, .int .i64 0, .int .i64 0, .slice none 0 0]

theorem Define_nil (cs : Array Value) (w : World) : Calls Tryz.prog 16 #[.pointer none, .agg cs] w fun e w' => e = .returned (.tuple #[.int .i64 0, .int .i64 2]) ∧ Below w.heap.size w w' := by
  go_enter Tryz.func16, Tryz.ntmps16
  go_wp2
  go_ret2
  exact ⟨rfl, (Below.refl _ _).alloc (Nat.le_refl _) _⟩
theorem Class_nil (id : Int) (w : World) : Calls Tryz.prog 20 #[.pointer none, .int .i64 id] w fun e w' => e = .returned (.tuple #[zeroClass, .int .i64 3]) ∧ Below w.heap.size w w' := by
  go_enter Tryz.func20, Tryz.ntmps20
  go_wp2_with fail
  refine (at_nil _ _).mono ?_
  rintro e w' ⟨rfl, rfl⟩
  go_wp2
  exact bodyPost_ret (results_cells_tmp rfl _ _ w.heap.size [_, _, _, _, _, _] _ rfl (six (World.cell?_alloc_new ..) (World.cell?_alloc_new ..) (World.cell?_alloc_new ..) (World.cell?_alloc_new ..) (World.cell?_alloc_new ..) (World.cell?_alloc_new ..)) Tryz.underlying26 rfl class_info) rfl ⟨rfl, (Below.refl _ _).alloc (Nat.le_refl _) _⟩
theorem Method_nil (a b : Int) (w : World) : Calls Tryz.prog 28 #[.pointer none, .agg #[.int .i64 a, .int .i64 b]] w fun e w' => e = .returned (.tuple #[zeroMeth, .int .i64 3]) ∧ Below w.heap.size w w' := by
  go_enter Tryz.func28, Tryz.ntmps28
  go_wp2_with fail
  refine (at_nil _ _).mono ?_
  rintro e w' ⟨rfl, rfl⟩
  go_wp2_with fail
  go_quiet (fail)
  go_wp2
  have hat := allocs_at [.cells #[.int .i64 a, .int .i64 b] 38, .cells #[.string ⟨#[]⟩, .string ⟨#[]⟩, .int .i64 0, .int .i64 0, .int .i64 0, .slice none 0 0] 55] w 1 (by simp)
  have hce : ∀ j : Nat, (((w.alloc (.cells #[.int .i64 a, .int .i64 b] 38)).alloc (.cells #[.string ⟨#[]⟩, .string ⟨#[]⟩, .int .i64 0, .int .i64 0, .int .i64 0, .slice none 0 0] 55)).drewN nq).cell? ⟨w.heap.size + 1, j, none⟩ = (#[Value.string ⟨#[]⟩, .string ⟨#[]⟩, .int .i64 0, .int .i64 0, .int .i64 0, .slice none 0 0])[j]? := fun j => cell_of_row _ _ j _ 55 (0, 0) hat
  have key := set6 (v0 := .string ⟨#[]⟩) (v1 := .string ⟨#[]⟩) (v2 := .int .i64 0) (v3 := .int .i64 0) (v4 := .int .i64 0) (v5 := .slice none 0 0) (hce 0) (hce 1) (hce 2) (hce 3) (hce 4) (hce 5)
  refine bodyPost_ret (results_cells_tmp rfl _ _ (w.heap.size + 1) [.string ⟨#[]⟩, .string ⟨#[]⟩, .int .i64 0, .int .i64 0, .int .i64 0, .slice none 0 0] _ rfl (six key.1 key.2.1 key.2.2.1 key.2.2.2.1 key.2.2.2.2.1 key.2.2.2.2.2) Tryz.underlying55 rfl meth_info) rfl ⟨rfl, ?_⟩
  have hB := allocs_below [.cells #[.int .i64 a, .int .i64 b] 38, .cells #[.string ⟨#[]⟩, .string ⟨#[]⟩, .int .i64 0, .int .i64 0, .int .i64 0, .slice none 0 0] 55] w
  have hB' : Below w.heap.size w (((w.alloc (.cells #[.int .i64 a, .int .i64 b] 38)).alloc (.cells #[.string ⟨#[]⟩, .string ⟨#[]⟩, .int .i64 0, .int .i64 0, .int .i64 0, .slice none 0 0] 55)).drewN nq) := ⟨hB.os, hB.tape, hB.output, hB.size, hB.block⟩
  exact (((((hB'.setCell (by simp) _).setCell (by simp) _).setCell (by simp) _).setCell (by simp) _).setCell (by simp) _).setCell (by simp) _
theorem Super_nil (id : Int) (w : World) : Calls Tryz.prog 12 #[.pointer none, .int .i64 id] w fun e w' => e = .returned (.tuple #[.int .i64 0, .int .i64 3]) ∧ w = w' := by
  go_enter Tryz.func12, Tryz.ntmps12
  go_wp2_with fail
  refine (at_nil _ _).mono ?_
  rintro e w' ⟨rfl, rfl⟩
  go_wp2
  go_ret2
  exact ⟨rfl, rfl⟩
theorem Chain_nil (id : Int) (w : World) : Calls Tryz.prog 27 #[.pointer none, .int .i64 id] w fun e w' => e = .returned (.tuple #[.slice none 0 0, .int .i64 3]) ∧ w = w' := by
  go_enter Tryz.func27, Tryz.ntmps27
  go_wp2
  go_step3
  go_wp2_with fail
  refine (at_nil _ _).mono ?_
  rintro e w' ⟨rfl, rfl⟩
  go_wp2
  rw [Exit.noGoto_ret]
  go_ret2
  exact ⟨rfl, rfl⟩
theorem Closure_nil (id : Int) (w : World) : Calls Tryz.prog 66 #[.pointer none, .int .i64 id] w fun e w' => e = .returned (.tuple #[.slice none 0 0, .int .i64 3]) ∧ w = w' := by
  go_enter Tryz.func66, Tryz.ntmps66
  go_wp2_with fail
  refine (at_nil _ _).mono ?_
  rintro e w' ⟨rfl, rfl⟩
  go_wp2
  go_ret2
  exact ⟨rfl, rfl⟩
theorem Find_nil (id : Int) (n d : ByteArray) (w : World) : Calls Tryz.prog 29 #[.pointer none, .int .i64 id, .string n, .string d] w fun e w' => e = .returned (.tuple #[.int .i64 0, .int .i64 3]) ∧ w = w' := by
  go_enter Tryz.func29, Tryz.ntmps29
  go_wp2_with fail
  refine (at_nil _ _).mono ?_
  rintro e w' ⟨rfl, rfl⟩
  go_wp2
  go_ret2
  exact ⟨rfl, rfl⟩
theorem Extends_nil (a b : Int) (w : World) : Calls Tryz.prog 15 #[.pointer none, .int .i64 a, .int .i64 b] w fun e w' => e = .returned (.bool false) ∧ w = w' := by
  go_enter Tryz.func15, Tryz.ntmps15
  go_wp2_with fail
  refine (at_nil _ _).mono ?_
  rintro e w' ⟨rfl, rfl⟩
  go_wp2_with fail
  refine (at_nil _ _).mono ?_
  rintro e w' ⟨rfl, rfl⟩
  go_wp2
  go_ret
  exact ⟨rfl, rfl⟩
theorem IsIface_nil (a : Int) (w : World) : Calls Tryz.prog 21 #[.pointer none, .int .i64 a] w fun e w' => e = .returned (.bool false) ∧ w = w' := by
  go_enter Tryz.func21, Tryz.ntmps21
  go_wp2_with fail
  refine (at_nil _ _).mono ?_
  rintro e w' ⟨rfl, rfl⟩
  go_wp2
  go_ret
  exact ⟨rfl, rfl⟩
theorem SamePackage_nil (a b : Int) (w : World) : Calls Tryz.prog 99 #[.pointer none, .int .i64 a, .int .i64 b] w fun e w' => e = .returned (.bool false) ∧ Below w.heap.size w w' := by
  go_enter Tryz.func99, Tryz.ntmps99
  go_wp2_with fail
  refine (at_nil _ _).mono ?_
  rintro e w' ⟨rfl, rfl⟩
  go_wp2_with fail
  refine (at_nil _ _).mono ?_
  rintro e w' ⟨rfl, rfl⟩
  go_wp2_with fail
  go_quiet (fail)
  go_wp2
  go_ret
  exact ⟨rfl, rfl, rfl, rfl, Nat.le_refl _, fun _ _ => rfl⟩
end Go.Proofs.YtipinmbpdgjalaaGreatDoor.Hi
