/- The table of instructions. -/
import Derived.Test.YtmpkdgankficeaaDoorLg
set_option maxRecDepth 100000
set_option linter.unusedVariables false
set_option linter.unusedSimpArgs false
namespace Go.Proofs.YtmpkdgankficeaaDoor.Lf
open Go.RowKit

/-- The table's cells: a word, a kind of operand, forty-one times. -/
def specCells : Array Value := #[.string ⟨#[]⟩, .int .i64 0, .string ⟨#[105, 99, 111, 110, 115, 116]⟩, .int .i64 1, .string ⟨#[105, 108, 111, 97, 100]⟩, .int .i64 2, .string ⟨#[105, 115, 116, 111, 114, 101]⟩, .int .i64 2, .string ⟨#[97, 108, 111, 97, 100]⟩, .int .i64 2, .string ⟨#[97, 115, 116, 111, 114, 101]⟩, .int .i64 2, .string ⟨#[110, 117, 108, 108]⟩, .int .i64 0, .string ⟨#[105, 97, 100, 100]⟩, .int .i64 0, .string ⟨#[105, 115, 117, 98]⟩, .int .i64 0, .string ⟨#[105, 109, 117, 108]⟩, .int .i64 0, .string ⟨#[105, 100, 105, 118]⟩, .int .i64 0, .string ⟨#[103, 111, 116, 111]⟩, .int .i64 3, .string ⟨#[105, 102, 101, 113]⟩, .int .i64 3, .string ⟨#[105, 102, 110, 101]⟩, .int .i64 3, .string ⟨#[105, 102, 108, 116]⟩, .int .i64 3, .string ⟨#[105, 102, 99, 109, 112, 101, 113]⟩, .int .i64 3, .string ⟨#[105, 102, 99, 109, 112, 108, 116]⟩, .int .i64 3, .string ⟨#[105, 102, 97, 99, 109, 112, 101, 113]⟩, .int .i64 3, .string ⟨#[105, 102, 110, 117, 108, 108]⟩, .int .i64 3, .string ⟨#[112, 111, 112]⟩, .int .i64 0, .string ⟨#[100, 117, 112]⟩, .int .i64 0, .string ⟨#[115, 119, 97, 112]⟩, .int .i64 0, .string ⟨#[110, 101, 119]⟩, .int .i64 4, .string ⟨#[110, 101, 119, 97, 114, 114, 97, 121]⟩, .int .i64 6, .string ⟨#[109, 117, 108, 116, 105, 110, 101, 119]⟩, .int .i64 7, .string ⟨#[97, 114, 114, 97, 121, 108, 101, 110, 103, 116, 104]⟩, .int .i64 0, .string ⟨#[105, 97, 108, 111, 97, 100]⟩, .int .i64 0, .string ⟨#[105, 97, 115, 116, 111, 114, 101]⟩, .int .i64 0, .string ⟨#[97, 97, 108, 111, 97, 100]⟩, .int .i64 0, .string ⟨#[97, 97, 115, 116, 111, 114, 101]⟩, .int .i64 0, .string ⟨#[99, 104, 101, 99, 107, 99, 97, 115, 116]⟩, .int .i64 5, .string ⟨#[105, 110, 115, 116, 97, 110, 99, 101, 111, 102]⟩, .int .i64 5, .string ⟨#[105, 110, 118, 111, 107, 101, 118, 105, 114, 116, 117, 97, 108]⟩, .int .i64 8, .string ⟨#[105, 110, 118, 111, 107, 101, 105, 110, 116, 101, 114, 102, 97, 99, 101]⟩, .int .i64 8, .string ⟨#[105, 110, 118, 111, 107, 101, 115, 112, 101, 99, 105, 97, 108]⟩, .int .i64 8, .string ⟨#[105, 110, 118, 111, 107, 101, 115, 116, 97, 116, 105, 99]⟩, .int .i64 8, .string ⟨#[105, 114, 101, 116, 117, 114, 110]⟩, .int .i64 0, .string ⟨#[97, 114, 101, 116, 117, 114, 110]⟩, .int .i64 0, .string ⟨#[114, 101, 116, 117, 114, 110]⟩, .int .i64 0, .string ⟨#[112, 114, 105, 110, 116]⟩, .int .i64 0, .string ⟨#[112, 114, 105, 110, 116, 99, 108, 97, 115, 115]⟩, .int .i64 0]

/-- The kind of an instruction's operand. -/
def kindAt (k : Nat) : Int := [0, 1, 2, 2, 2, 2, 0, 0, 0, 0, 0, 3, 3, 3, 3, 3, 3, 3, 3, 0, 0, 0, 4, 6, 7, 0, 0, 0, 0, 0, 5, 5, 8, 8, 8, 8, 0, 0, 0, 0, 0].getD k 0

/-- Its kind, or -1: there is no such instruction. -/
def operandOf (op : Int) : Int := if 1 ≤ op ∧ op ≤ 40 then kindAt op.toNat else -1

def wordOf (op : Int) : ByteArray := match specCells.getD (2 * op.toNat) undef with | .string s => s | _ => ⟨#[]⟩

theorem spec_info : (Tryd.prog.info? 141).map (·.size) = some specCells.size := by kernel_rfl

theorem spec_row (w : World) (k : Nat) : ((w.alloc (.cells Tryd.zeroCells141 141))).heap[w.heap.size]? = some (.cells Tryd.zeroCells141 141 (0, 0)) := heap_alloc_new w _

set_option maxHeartbeats 4000000 in
theorem specs (w : World) : Calls Tryd.prog 94 #[] w fun e w' => e = .returned (.agg specCells) ∧ Below w.heap.size w w' := by
  have key : Calls Tryd.prog 94 #[] w fun e w' => e = .returned (.agg specCells) ∧ w' = (w.alloc (.cells Tryd.zeroCells141 141)).setRow w.heap.size specCells := by
    go_enter Tryd.func94, Tryd.ntmps94
    go_wp2_with (refine wpList_store_row rfl 141 _ _ rfl w.heap.size specCells rfl rfl 141 Tryd.zeroCells141 (heap_alloc_new w _) spec_info (by kernel_rfl) (by kernel_rfl) ?_)
    refine bodyPost_ret (v := .agg specCells) (results_cell_row rfl _ _ w.heap.size 141 specCells (0, 0) _ rfl (setRow_heap _ _ _ _ _ _ (heap_alloc_new w _)) Tryd.underlying141 rfl spec_info) rfl ⟨rfl, rfl⟩
  refine key.mono fun e w' ⟨h1, h2⟩ => ⟨h1, ?_⟩
  subst h2
  exact ⟨rfl, rfl, rfl, by simp, fun k hk => by
    simp only [World.setRow, Array.getElem?_modify]
    rw [if_neg (by omega)]
    exact Below.heap_alloc _ _ _ hk⟩

/-- What stands at a place of the table. -/
theorem spec_at (k : Nat) (h : k < 41) (w : World) : (Instr.index 141 (.agg specCells) (.int .i64 k)).run Tryd.prog w = .ok (.agg #[.string (wordOf k), .int .i64 (kindAt k)]) w :=
  match k, h with
  | 0, _ => by kernel_rfl
  | 1, _ => by kernel_rfl
  | 2, _ => by kernel_rfl
  | 3, _ => by kernel_rfl
  | 4, _ => by kernel_rfl
  | 5, _ => by kernel_rfl
  | 6, _ => by kernel_rfl
  | 7, _ => by kernel_rfl
  | 8, _ => by kernel_rfl
  | 9, _ => by kernel_rfl
  | 10, _ => by kernel_rfl
  | 11, _ => by kernel_rfl
  | 12, _ => by kernel_rfl
  | 13, _ => by kernel_rfl
  | 14, _ => by kernel_rfl
  | 15, _ => by kernel_rfl
  | 16, _ => by kernel_rfl
  | 17, _ => by kernel_rfl
  | 18, _ => by kernel_rfl
  | 19, _ => by kernel_rfl
  | 20, _ => by kernel_rfl
  | 21, _ => by kernel_rfl
  | 22, _ => by kernel_rfl
  | 23, _ => by kernel_rfl
  | 24, _ => by kernel_rfl
  | 25, _ => by kernel_rfl
  | 26, _ => by kernel_rfl
  | 27, _ => by kernel_rfl
  | 28, _ => by kernel_rfl
  | 29, _ => by kernel_rfl
  | 30, _ => by kernel_rfl
  | 31, _ => by kernel_rfl
  | 32, _ => by kernel_rfl
  | 33, _ => by kernel_rfl
  | 34, _ => by kernel_rfl
  | 35, _ => by kernel_rfl
  | 36, _ => by kernel_rfl
  | 37, _ => by kernel_rfl
  | 38, _ => by kernel_rfl
  | 39, _ => by kernel_rfl
  | 40, _ => by kernel_rfl
  | n + 41, h => absurd h (by omega)

theorem known (op : Int) (w : World) :
    Calls Tryd.prog 93 #[.int .i64 op] w fun e w' => e = .returned (.bool (decide (1 ≤ op ∧ op ≤ 40))) ∧ Below w.heap.size w w' := by
  by_cases h : 1 ≤ op
  · go_enter Tryd.func93, Tryd.ntmps93
    go_wp2_with (go_at_call 94; refine (specs _).mono ?_; rintro e w' ⟨rfl, hb⟩)
    go_ret
    exact ⟨ret_bool (by rw [Bool.eq_iff_iff]; simp <;> omega), by assumption⟩
  · go_enter Tryd.func93, Tryd.ntmps93
    go_wp2_with (go_at_call 94; refine (specs _).mono ?_; rintro e w' ⟨rfl, hb⟩)
    go_ret
    exact ⟨ret_bool (by rw [Bool.eq_iff_iff]; simp <;> omega), Below.refl _ _⟩

theorem Operand (op : Int) (w : World) :
    Calls Tryd.prog 85 #[.int .i64 op] w fun e w' => e = .returned (.int .i64 (operandOf op)) ∧ Below w.heap.size w w' := by
  by_cases h : 1 ≤ op ∧ op ≤ 40
  · obtain ⟨k, rfl⟩ := Int.eq_ofNat_of_zero_le (show 0 ≤ op by omega)
    have HAT := Lib.hid (spec_at k (by omega))
    have hd : decide (1 ≤ (k : Int) ∧ (k : Int) ≤ 40) = true := decide_eq_true h
    have hk0 : 0 ≤ (k : Int) := by omega
    have hk1 : (k : Int) < 41 := by omega
    have HK : Hid (operandOf k = kindAt k) := Lib.hid (if_pos h)
    clear h
    go_enter Tryd.func85, Tryd.ntmps85
    go_wp2_with fail
    refine (known _ _).mono ?_
    rintro e w1 ⟨rfl, hb1⟩
    rw [hd]
    go_wp2_with fail
    refine (specs _).mono ?_
    rintro e w2 ⟨rfl, hb2⟩
    have hat := HAT.out
    have hf : ∀ (s : ByteArray) (n : Int) (w : World), (Instr.field 140 (.agg #[.string s, .int .i64 n]) 1).run Tryd.prog w = .ok (.int .i64 n) w := fun _ _ _ => by kernel_rfl
    go_wp2
    go_ret
    exact ⟨by rw [HK.out]; rfl, hb1.trans (hb2.mono hb1.size)⟩
  · have hd : decide (1 ≤ op ∧ op ≤ 40) = false := decide_eq_false h
    have HK : Hid (operandOf op = -1) := Lib.hid (if_neg h)
    clear h
    go_enter Tryd.func85, Tryd.ntmps85
    go_wp2_with fail
    refine (known _ _).mono ?_
    rintro e w1 ⟨rfl, hb1⟩
    rw [hd]
    go_wp2
    go_ret
    exact ⟨by rw [HK.out]; rfl, hb1⟩
end Go.Proofs.YtmpkdgankficeaaDoor.Lf
