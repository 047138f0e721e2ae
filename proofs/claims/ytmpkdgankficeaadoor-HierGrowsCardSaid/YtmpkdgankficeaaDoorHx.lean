/- A new world. -/
import Derived.Test.YtmpkdgankficeaaDoorHu
set_option maxRecDepth 100000
set_option maxHeartbeats 8000000
set_option linter.unusedVariables false
set_option linter.unusedSimpArgs false
namespace Go.Proofs.YtmpkdgankficeaaDoor.Hi
open Go.RowKit Bs

/-- An interface without methods. -/
def ifcM (nm : ByteArray) : ClsM := { name := nm, super := ⟨#[79, 98, 106, 101, 99, 116]⟩, ifaces := [], flags := 1537, loader := 0, meths := [] }
def nmAt (k : Nat) : ByteArray := if k = 0 then ⟨#[67, 108, 111, 110, 101, 97, 98, 108, 101]⟩ else ⟨#[83, 101, 114, 105, 97, 108, 105, 122, 97, 98, 108, 101]⟩
def startAt : Nat → List EntM
  | 0 => [putEnt [] objM (-1) []]
  | k + 1 => startAt k ++ [putEnt (startAt k) (ifcM (nmAt k)) 0 []]
/-- A new world's classes. -/
def startM : List EntM := startAt 2

theorem startAt_len : ∀ k, (startAt k).length = k + 1
  | 0 => rfl
  | k + 1 => by simp [startAt, startAt_len k]
theorem startAt_name {k : Nat} (h : k < 2) : nameIx (startAt k) (nmAt k) = none := by
  match k, h with
  | 0, _ => decide
  | 1, _ => decide
theorem nmAt_size (k : Nat) : (nmAt k).size ≤ maxLen := by unfold nmAt; split <;> decide

theorem ifcIs {S : Nat → Prop} {w : World} (nm : ByteArray) (h : nm.size ≤ maxLen) : ClsIs S w [.string nm, .string ⟨#[79, 98, 106, 101, 99, 116]⟩, .slice none 0 0, .int .i64 1537, .int .i64 0, .slice none 0 0] (ifcM nm) := by
  refine ⟨_, _, rfl, h, ?_, ⟨none, 0, rfl, Nat.le_refl _, ?_, .inl rfl⟩, ?_, ?_, ⟨none, 0, rfl, Nat.le_refl _, ?_, .inl rfl⟩⟩
  · show ByteArray.size ⟨#[79, 98, 106, 101, 99, 116]⟩ ≤ maxLen; decide
  · exact Nat.zero_le _
  · show Fits 1537; unfold Fits; omega
  · show Fits 0; unfold Fits; omega
  · exact Nat.zero_le _

/-- Two rounds of New. -/
structure NewAt (w wr : World) (R k : Nat) : Prop where
  world : HW (fun b => w.heap.size ≤ b ∧ b < wr.heap.size ∧ b ≠ R) (w.heap.size + 1) wr (startAt k)
  row : ∀ j, j < 2 → wr.cell? ⟨R, j, none⟩ = some (.string (nmAt j))
  below : Below w.heap.size w wr
  lt : R < wr.heap.size
  ge : w.heap.size ≤ R

theorem NewAt.next {w wr w' : World} {R k : Nat} (h : NewAt w wr R k) (hk : k < 2)
    (hw : HW (fun b => (w.heap.size ≤ b ∧ b < wr.heap.size ∧ b ≠ R) ∨ False ∨ (wr.heap.size ≤ b ∧ b < w'.heap.size)) (w.heap.size + 1) w' (startAt k ++ [putEnt (startAt k) (ifcM (nmAt k)) 0 []]))
    (hc : Chg (fun b => w.heap.size ≤ b ∧ b < wr.heap.size ∧ b ≠ R) wr w') : NewAt w w' R (k + 1) := by
  have hs := hc.size
  have hl := h.lt
  refine ⟨hw.mono ?_, fun j hj => ?_, ?_, by omega, h.ge⟩
  · rintro b (hb | hb | hb)
    · exact ⟨hb.1, by omega, hb.2.2⟩
    · exact hb.elim
    · have := h.below.size
      exact ⟨by omega, hb.2, by omega⟩
  · exact hc.cell_eq (h.row j hj) fun hb => hb.2.2 rfl
  · exact h.below.trans (hc.below h.below.size fun b hb hx => by omega)

theorem WFm.nil : WFm [] := ⟨by simp, by simp, by simp, by simp, by simp⟩

theorem new_first {w w1 : World} (hb : Below (w.heap.size + 2) ((w.alloc (Obj.map #[] 0)).alloc (Obj.cells #[Value.slice none 0 0, Value.map (some w.heap.size)] 68)) w1) :
    HWF (fun _ => False) (w.heap.size + 1) (.slice none 0 0) w.heap.size [] (.map []) w1 [] := by
  have e0 : w1.heap[w.heap.size]? = some (.map #[] 0) := (hb.block w.heap.size (by omega)).trans (allocs_at [.map #[] 0, .cells #[Value.slice none 0 0, Value.map (some w.heap.size)] 68] w 0 (by simp))
  have e1 : w1.heap[w.heap.size + 1]? = some (.cells #[Value.slice none 0 0, Value.map (some w.heap.size)] 68) := (hb.block (w.heap.size + 1) (by omega)).trans (allocs_at [.map #[] 0, .cells #[Value.slice none 0 0, Value.map (some w.heap.size)] 68] w 1 (by simp))
  refine ⟨by simp [World.cell?, e1], by simp [World.cell?, e1], fun j => by simp [World.frozen?, e1], World.ownsRow_nil _ _ _ _, ?_, Reads.nil, by simp, by simp, ⟨by simp, by simp, fun g hg => by simp [Value.ownBlock] at hg, by omega⟩, WFm.nil⟩
  exact map_of_block (World.ownsMap_made w _ _ _) (e0.trans (heap_alloc_new w _).symm)

theorem NewAt.first {w w1 w2 : World} (hb : Below (w.heap.size + 2) ((w.alloc (Obj.map #[] 0)).alloc (Obj.cells #[Value.slice none 0 0, Value.map (some w.heap.size)] 68)) w1) (hz : w.heap.size + 2 ≤ w1.heap.size)
    (h : HW (fun k => (k = w.heap.size ∨ k = w.heap.size + 1) ∨ (w.heap.size + 2 ≤ k ∧ k < w1.heap.size) ∨ (w1.heap.size ≤ k ∧ k < w2.heap.size)) (w.heap.size + 1) w2 (startAt 0)) (hc : Chg (fun k => k = w.heap.size ∨ k = w.heap.size + 1) w1 w2)
    {C : Array Value} {t : TypeId} (hC : ∀ j, j < 2 → C[j]? = some (.string (nmAt j))) : NewAt w (w2.alloc (.cells C t)) w2.heap.size 0 := by
  have hs := hc.size
  have hb0 : Below w.heap.size w ((w.alloc (Obj.map #[] 0)).alloc (Obj.cells #[Value.slice none 0 0, Value.map (some w.heap.size)] 68)) := allocs_below [.map #[] 0, .cells #[Value.slice none 0 0, Value.map (some w.heap.size)] 68] w
  have hb2 : Below w.heap.size w w2 := (hb0.trans (hb.mono (by omega))).trans (hc.below (by omega) fun k hk => by omega)
  have h' : HW (fun b => w.heap.size ≤ b ∧ b < w2.heap.size) (w.heap.size + 1) w2 (startAt 0) := h.mono fun b hb => by omega
  refine ⟨(h'.alike (w' := w2.alloc (.cells C t)) (by simp) fun k hk => Below.heap_alloc _ _ _ hk.2).mono fun b hb => by simp; omega, fun j hj => ?_, hb2.alloc hb2.size _, by simp, hb2.size⟩
  rw [World.cell?_alloc_new]
  exact hC j hj

theorem New (w : World) :
    Calls Tryd.prog 9 #[] w fun e w' => e = .returned (.pointer (some ⟨w.heap.size + 1, 0, none⟩)) ∧ HW (fun b => w.heap.size ≤ b ∧ b < w'.heap.size) (w.heap.size + 1) w' startM ∧ Below w.heap.size w w' := by
  have hmk : ∀ w : World, (Instr.makeMap 65 none).run Tryd.prog w = .ok (.map (some w.heap.size)) (w.alloc (.map #[] 0)) := fun _ => rfl
  go_enter Tryd.func9, Tryd.ntmps9
  go_wp2_with fail
  refine (object _).mono ?_
  rintro e w1 ⟨cs, rfl, hc, hb⟩
  go_wp2_with fail
  have z0 : ((w.alloc (Obj.map #[] 0)).alloc (Obj.cells #[Value.slice none 0 0, Value.map (some w.heap.size)] 68)).heap.size = w.heap.size + 2 := by simp
  rw [z0] at hb hc
  have hz1 := hb.size
  rw [z0] at hz1
  refine (put_first (S := fun k => k = w.heap.size ∨ k = w.heap.size + 1) (new_first hb) ⟨.inr rfl, .inl rfl, fun _ h => h.elim⟩ hc (fun k hk => ⟨hk.2, by omega⟩)).mono ?_
  rintro e w2 ⟨rfl, hw, hch⟩
  have hN := fun (C : Array Value) (t : TypeId) (hC : ∀ j, j < 2 → C[j]? = some (.string (nmAt j))) => NewAt.first hb hz1 hw hch (t := t) hC
  have HN := Lib.hid hN
  clear hN hw hch hb hc z0 hz1
  go_wp2_with fail
  refine wp_gen (fun W => NewAt w W w2.heap.size 0) (HN.out #[.string ⟨#[67, 108, 111, 110, 101, 97, 98, 108, 101]⟩, .string ⟨#[83, 101, 114, 105, 97, 108, 105, 122, 97, 98, 108, 101]⟩] _ (fun j hj => by match j, hj with | 0, _ => rfl | 1, _ => rfl)) ?_
  intro W hW
  have HW0 := Lib.hid hW
  clear HN hW
  generalize w2.heap.size = R at HW0
  clear hmk
  go_loopg [12] 2 (fun gk u wr => ∃ k : Nat, Hid (k + gk = 2) ∧ u = .int .i64 k ∧ Hid (NewAt w wr R k))
  case atStart => exact ⟨0, Lib.hid rfl, rfl, HW0⟩
  case round =>
    obtain ⟨k, hk, rfl, hA⟩ := hrel
    by_cases hlt : k < 2
    · have hlt' : (k : Int) < 2 := by omega
      have hcell := hA.out.row k hlt
      have HP : Hid (∀ wr' : World, wr' = wr → Calls Tryd.prog 33 #[.pointer (some ⟨w.heap.size + 1, 0, none⟩), .agg #[.string (nmAt k), .string ⟨#[79, 98, 106, 101, 99, 116]⟩, .slice none 0 0, .int .i64 1537, .int .i64 0, .slice none 0 0], .int .i64 0, .slice none 0 0] wr'
          fun e w' => e = .returned (.int .i64 (startAt k).length) ∧ Hid (NewAt w w' R (k + 1))) := Lib.hid (by
        rintro _ rfl
        refine (put (S0 := fun _ => False) (SI := fun _ => False) (is := []) (c := ifcM (nmAt k)) hA.out.world (ifcIs (nmAt k) (nmAt_size k)) (fun _ h => h.elim) ⟨Int.le_refl 0, by rw [startAt_len]; omega, by simp⟩ (by rw [startAt_len]; omega) (startAt_name hlt) ⟨none, 0, rfl, Nat.le_refl _, by simp, .inl rfl⟩ (fun _ h => h.elim)).mono ?_
        rintro e w' ⟨rfl, h1, h2⟩
        exact ⟨rfl, Lib.hid (hA.out.next hlt h1 h2)⟩)
      generalize nmAt k = nm at hcell HP
      go_wp2_with fail
      refine (HP.out _ rfl).mono ?_
      rintro e w3 ⟨rfl, hA3⟩
      go_wp2
      go_roundg (2 - (k + 1))
      case measure => have := hk.out; omega
      case rel => exact ⟨k + 1, Lib.hid (by omega), by go_num, hA3⟩
    · have hk2 := hk.out
      obtain rfl : k = 2 := by omega
      have F : Hid (HW (fun b => w.heap.size ≤ b ∧ b < wr.heap.size) (w.heap.size + 1) wr startM ∧ Below w.heap.size w wr) := Lib.hid ⟨hA.out.world.mono fun b hb => ⟨hb.1, hb.2.1⟩, hA.out.below⟩
      go_wp2
      go_ret
      exact ⟨rfl, F.out⟩
end Go.Proofs.YtmpkdgankficeaaDoor.Hi
