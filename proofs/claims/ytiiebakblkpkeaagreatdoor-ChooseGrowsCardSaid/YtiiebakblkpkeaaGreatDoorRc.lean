/- Flags' word, and roads on which a method is looked up: what needs no world. -/
import Derived.Test.YtiiebakblkpkeaaGreatDoorMM
import Derived.Laws.AppendOwn
import Derived.Lib.Hide
import Derived.Deep.LoopGhost
import Derived.Lib.AppendZeros
set_option maxRecDepth 100000
set_option maxHeartbeats 1000000
set_option linter.unusedVariables false
set_option linter.unusedSimpArgs false
namespace Go.Proofs.YtiiebakblkpkeaaGreatDoor.Hi
open Go.RowKit Bs

/-- Who may see a method of these flags: 1, 4, 2 or 0. -/
def openM (f : Int) : Int := if (bits .and .i64 f 1 != 0) = true then 1 else if (bits .and .i64 f 4 != 0) = true then 4 else if (bits .and .i64 f 2 != 0) = true then 2 else 0

theorem open0 (w : World) : (Instr.index 166 (.agg #[.int .i64 1, .int .i64 4, .int .i64 2]) (.int .i64 0)).run Tryz.prog w = .ok (.int .i64 1) w := by kernel_rfl
theorem open1 (w : World) : (Instr.index 166 (.agg #[.int .i64 1, .int .i64 4, .int .i64 2]) (.int .i64 1)).run Tryz.prog w = .ok (.int .i64 4) w := by kernel_rfl
theorem open2 (w : World) : (Instr.index 166 (.agg #[.int .i64 1, .int .i64 4, .int .i64 2]) (.int .i64 2)).run Tryz.prog w = .ok (.int .i64 2) w := by kernel_rfl
theorem FOpen (f : Int) (w : World) :
    Calls Tryz.prog 84 #[.int .i64 f] w fun e w' => e = .returned (.int .i64 (openM f)) ∧ w = w' := by
  have HR : Hid (openM f = if (bits .and .i64 f 1 != 0) = true then 1 else if (bits .and .i64 f 4 != 0) = true then 4 else if (bits .and .i64 f 2 != 0) = true then 2 else 0) := Lib.hid rfl
  generalize openM f = R at *
  cases h1 : (bits .and .i64 f 1 != 0) <;> cases h2 : (bits .and .i64 f 4 != 0) <;> cases h3 : (bits .and .i64 f 2 != 0) <;> rw [h1, h2, h3] at HR
  all_goals
    have x0 := open0 w
    have x1 := open1 w
    have x2 := open2 w
    go_enter Tryz.func84, Tryz.ntmps84
    go_wp2_with fail
    go_loopg [6] 3 (fun gk u wr => ∃ i : Nat, Hid (i + gk = 3) ∧ u = .int .i64 i ∧ w = wr ∧ Hid ((0 < i → (bits .and .i64 f 1 != 0) = false) ∧ (1 < i → (bits .and .i64 f 4 != 0) = false) ∧ (2 < i → (bits .and .i64 f 2 != 0) = false)))
    case atStart => exact ⟨0, Lib.hid (Nat.zero_add _), by go_num, rfl, Lib.hid ⟨by omega, by omega, by omega⟩⟩
    case round =>
      obtain ⟨i, hi, rfl, rfl, hp⟩ := hrel
      match i, hi, hp with
      | 0, hi, hp =>
        go_wp2
        first
          | (go_ret; exact ⟨by rw [HR.out]; rfl, rfl⟩)
          | (go_roundg 2
             case measure => have := hi.out; omega
             case rel => exact ⟨1, Lib.hid rfl, by go_num, rfl, Lib.hid ⟨fun _ => h1, by omega, by omega⟩⟩)
      | 1, hi, hp =>
        have g1 := hp.out.1 (by omega)
        first
          | (exfalso; rw [h1] at g1; cases g1; done)
          | (go_wp2
             first
               | (go_ret; exact ⟨by rw [HR.out]; rfl, rfl⟩)
               | (go_roundg 1
                  case measure => have := hi.out; omega
                  case rel => exact ⟨2, Lib.hid rfl, by go_num, rfl, Lib.hid ⟨fun _ => h1, fun _ => h2, by omega⟩⟩))
      | 2, hi, hp =>
        have g1 := hp.out.1 (by omega)
        have g2 := hp.out.2.1 (by omega)
        first
          | (exfalso; rw [h1] at g1; cases g1; done)
          | (exfalso; rw [h2] at g2; cases g2; done)
          | (go_wp2
             first
               | (go_ret; exact ⟨by rw [HR.out]; rfl, rfl⟩)
               | (go_roundg 0
                  case measure => have := hi.out; omega
                  case rel => exact ⟨3, Lib.hid rfl, by go_num, rfl, Lib.hid ⟨fun _ => h1, fun _ => h2, fun _ => h3⟩⟩))
      | 3, hi, hp =>
        have g1 := hp.out.1 (by omega)
        have g2 := hp.out.2.1 (by omega)
        have g3 := hp.out.2.2 (by omega)
        first
          | (exfalso; rw [h1] at g1; cases g1; done)
          | (exfalso; rw [h2] at g2; cases g2; done)
          | (exfalso; rw [h3] at g3; cases g3; done)
          | (go_wp2
             go_ret
             exact ⟨by rw [HR.out]; rfl, rfl⟩)
      | i + 4, hi, _ => exact absurd hi.out (by omega)

def roadV (f : Nat) : Value := .func (.func f) #[] #[]
theorem info_road : (Tryz.prog.info? 179).map (fun i => (i.zero, i.size, i.bytes)) = some (some .nilFunc, 1, 8) := by kernel_rfl
theorem run_roads {w : World} {g k : Nat} (fs : List Nat) (hk : fs.length = k) (h0 : k ≤ 4) (hc : ∀ j (hj : j < fs.length), w.cell? ⟨g, j, none⟩ = some (roadV fs[j])) {q : Nat} (f1 f2 : Nat) (q0 : w.cell? ⟨q, 0, none⟩ = some (roadV f1)) (q1 : w.cell? ⟨q, 1, none⟩ = some (roadV f2)) (ty : TypeId) :
    ∃ cap w', (Builtin.append_ #[178, 178] ty #[.slice (some ⟨g, 0, none⟩) k k, .slice (some ⟨q, 0, none⟩) 2 2]).run Tryz.prog w = .ok (.slice (some ⟨w.heap.size, 0, none⟩) (k + 2) cap) w' ∧ Below w.heap.size w w' ∧
      ∀ j (hj : j < (fs ++ [f1, f2]).length), w'.cell? ⟨w.heap.size, j, none⟩ = some (roadV (fs ++ [f1, f2])[j]) := by
  subst hk
  obtain ⟨i0, hi, hz0, hz1, hz2⟩ := info_parts info_road
  have hr := run_append_grow (P := Tryz.prog) w 178 ty 179 i0 _ Tryz.underlying178 hi hz0 ⟨g, 0, none⟩ fs.length fs.length (fs.map roadV) (by rw [hz1]; simp) (fun j v hj => by
    rw [List.getElem?_map] at hj
    rcases Nat.lt_or_ge j fs.length with hlt | hge
    · rw [List.getElem?_eq_getElem hlt] at hj
      obtain rfl : roadV fs[j] = v := by simpa using hj
      rw [Addr.add_lit, Nat.zero_add]
      exact hc j hlt
    · rw [List.getElem?_eq_none hge] at hj
      cases hj) ⟨q, 0, none⟩ 2 2 [roadV f1, roadV f2] (by rw [hz1]; rfl) (fun j v hj => by
    rw [Addr.add_lit, Nat.zero_add]
    match j, hj with
    | 0, hj =>
      obtain rfl : roadV f1 = v := by simpa using hj
      exact q0
    | 1, hj =>
      obtain rfl : roadV f2 = v := by simpa using hj
      exact q1) (by omega) (by omega) (growslice_fits (by omega) (by rw [hz2]; omega))
  refine ⟨_, _, hr, (Below.refl _ _).drew.alloc (Nat.le_refl _) _, fun j hj => ?_⟩
  have hcell : ∀ (w' : World) (Z : Array Value) (t : TypeId), w'.heap[w.heap.size]? = some (.cells ((fs.map roadV).toArray ++ [roadV f1, roadV f2].toArray ++ Z) t (0, 0)) → w'.cell? ⟨w.heap.size, j, none⟩ = some (roadV (fs ++ [f1, f2])[j]) := fun w' Z t hw => by
    simp only [World.cell?, hw]
    have hA : ((fs.map roadV).toArray ++ [roadV f1, roadV f2].toArray) = ((fs ++ [f1, f2]).map roadV).toArray := by simp
    have : ((fs.map roadV).toArray ++ [roadV f1, roadV f2].toArray ++ Z)[j]? = some (roadV (fs ++ [f1, f2])[j]) := by
      rw [hA, Array.getElem?_append_left (by simpa using hj), List.getElem?_toArray, List.getElem?_map, List.getElem?_eq_getElem hj]
      rfl
    rw [if_neg (by simp)]
    exact this
  exact hcell _ _ _ (heap_alloc_new w.drew _)
end Go.Proofs.YtiiebakblkpkeaaGreatDoor.Hi
