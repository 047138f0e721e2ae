/- The first class; slices laid at once. -/
import Derived.Test.YtmpkdgankficeaaDoorHt
set_option maxRecDepth 100000
set_option maxHeartbeats 8000000
set_option linter.unusedVariables false
set_option linter.unusedSimpArgs false
namespace Go.Proofs.YtmpkdgankficeaaDoor.Hi
open Go.RowKit Bs

theorem flat_at {α : Type} {k : Nat} : ∀ (css : List (List α)), (∀ cs ∈ css, cs.length = k) → ∀ i (h : i < css.length) j, j < k → css.flatten[i * k + j]? = css[i][j]?
  | [], _, i, h, _, _ => absurd h (by simp)
  | cs :: r, hk, 0, h, j, hj => by
    have h0 : cs.length = k := hk cs (by simp)
    simp only [List.flatten_cons, Nat.zero_mul, Nat.zero_add, List.getElem_cons_zero]
    rw [List.getElem?_append_left (by omega)]
  | cs :: r, hk, i + 1, h, j, hj => by
    have h0 : cs.length = k := hk cs (by simp)
    have ih := flat_at r (fun c hc => hk c (by simp [hc])) i (by simpa using h) j hj
    simp only [List.flatten_cons, List.getElem_cons_succ]
    rw [List.getElem?_append_right (by rw [h0, Nat.add_mul]; omega)]
    rw [show (i + 1) * k + j - cs.length = i * k + j by rw [h0, Nat.add_mul]; omega]
    exact ih

/-- A slice that lies in a block of its own. -/
theorem Sl.of_block {α : Type} {S : Nat → Prop} {k bytes : Nat} {R : World → List Value → α → Prop} {w : World} {b : Nat} {C : Array Value} {t : TypeId} {fr : Nat × Nat} (hb : w.heap[b]? = some (.cells C t fr)) (hS : S b)
    {xs : List α} (css : List (List Value)) (hl : css.length = xs.length) (hk : ∀ cs ∈ css, cs.length = k) {rest : List Value} (hC : C.toList = css.flatten ++ rest) (hR : ∀ i (h : i < xs.length), R w (css[i]'(hl ▸ h)) xs[i]) {n c : Nat} (hn : n = xs.length) (hc : n ≤ c)
    (hby : n * bytes ≤ 140737488355328) : Sl S k bytes R w (.slice (some ⟨b, 0, none⟩) n c) xs := by
  subst hn
  refine ⟨_, c, rfl, hc, hby, .inr ⟨b, 0, rfl, hS, fun i hi => ⟨css[i]'(hl ▸ hi), hk _ (List.getElem_mem _), fun j hj => ?_, hR i hi⟩⟩⟩
  have hkl := hk _ (List.getElem_mem (hl ▸ hi))
  have h1 := (flat_at css hk i (hl ▸ hi) j (by omega)).trans (List.getElem?_eq_getElem hj)
  have h2 : C[i * k + j]? = some (css[i]'(hl ▸ hi))[j] := by
    rw [← Array.getElem?_toList, hC, List.getElem?_append_left (List.getElem?_eq_some_iff.1 h1).1, h1]
  simp only [World.cell?, hb]
  simpa using h2

/-- Blocks one after the other. -/
def allocs (w : World) (os : List Obj) : World := os.foldl World.alloc w
theorem allocs_size : ∀ (os : List Obj) (w : World), (allocs w os).heap.size = w.heap.size + os.length
  | [], w => by simp [allocs]
  | o :: r, w => by
    have := allocs_size r (w.alloc o)
    simp only [allocs, List.foldl_cons] at this ⊢
    rw [this]; simp; omega
theorem allocs_old : ∀ (os : List Obj) (w : World) (k : Nat), k < w.heap.size → (allocs w os).heap[k]? = w.heap[k]?
  | [], w, k, h => rfl
  | o :: r, w, k, h => by
    have := allocs_old r (w.alloc o) k (by simp; omega)
    simp only [allocs, List.foldl_cons] at this ⊢
    rw [this]; exact Below.heap_alloc w o k h
theorem allocs_at : ∀ (os : List Obj) (w : World) (i : Nat) (h : i < os.length), (allocs w os).heap[w.heap.size + i]? = some os[i]
  | [], w, i, h => absurd h (by simp)
  | o :: r, w, 0, h => by
    have := allocs_old r (w.alloc o) w.heap.size (by simp)
    simp only [allocs, List.foldl_cons, Nat.add_zero, List.getElem_cons_zero] at this ⊢
    rw [this]
    exact heap_alloc_new w o
  | o :: r, w, i + 1, h => by
    have := allocs_at r (w.alloc o) i (by simpa using h)
    simp only [allocs, List.foldl_cons, List.getElem_cons_succ] at this ⊢
    rw [← this]
    congr 1
    simp; omega
theorem allocs_below (os : List Obj) (w : World) : Below w.heap.size w (allocs w os) := by
  refine ⟨?_, ?_, ?_, by rw [allocs_size]; omega, fun k hk => allocs_old os w k hk⟩
  all_goals
    induction os generalizing w with
    | nil => rfl
    | cons o r ih => exact ih (w.alloc o)

def es : ByteArray := ⟨#[]⟩
def noRef : RefM := ⟨false, es, es, es⟩
def instM (op n : Int) : InstM := ⟨op, n, es, noRef⟩
/-- The class Object. -/
def objM : ClsM := { name := ⟨#[79, 98, 106, 101, 99, 116]⟩, super := es, ifaces := [], flags := 33, loader := 0, meths := [
  ⟨⟨#[60, 105, 110, 105, 116, 62]⟩, ⟨#[40, 41, 86]⟩, 1, 1, 0, [instM 38 0]⟩,
  ⟨⟨#[105, 100]⟩, ⟨#[40, 41, 73]⟩, 1, 1, 1, [instM 1 7, instM 36 0]⟩,
  ⟨⟨#[107, 105, 110]⟩, ⟨#[40, 41, 76, 79, 98, 106, 101, 99, 116, 59]⟩, 4, 1, 1, [instM 4 0, instM 37 0]⟩] }

def instCells (op n : Int) : List Value := [.int .i64 op, .int .i64 n, .string ⟨#[]⟩, .bool false, .string ⟨#[]⟩, .string ⟨#[]⟩, .string ⟨#[]⟩]
def methCells (nm ds : ByteArray) (f l s : Int) (b : Nat) (n : Nat) : List Value := [.string nm, .string ds, .int .i64 f, .int .i64 l, .int .i64 s, .slice (some ⟨b, 0, none⟩) n n]
theorem instIs {w : World} (op n : Int) (h1 : Fits op) (h2 : Fits n) : InstIs w (instCells op n) (instM op n) := ⟨rfl, h1, h2, Nat.zero_le _, Nat.zero_le _, Nat.zero_le _, Nat.zero_le _⟩

def objObjs (B : Nat) : List Obj :=
  [.cells #[.string ⟨#[79, 98, 106, 101, 99, 116]⟩, .string ⟨#[]⟩, .slice none 0 0, .int .i64 33, .int .i64 0, .slice (some ⟨B + 1 + 1 + 1 + 1, 0, none⟩) 3 3] 32,
   .cells (instCells 38 0).toArray 90,
   .cells (instCells 1 7 ++ instCells 36 0).toArray 90,
   .cells (instCells 4 0 ++ instCells 37 0).toArray 90,
   .cells (methCells ⟨#[60, 105, 110, 105, 116, 62]⟩ ⟨#[40, 41, 86]⟩ 1 1 0 (B + 1) 1 ++ methCells ⟨#[105, 100]⟩ ⟨#[40, 41, 73]⟩ 1 1 1 (B + 1 + 1) 2 ++ methCells ⟨#[107, 105, 110]⟩ ⟨#[40, 41, 76, 79, 98, 106, 101, 99, 116, 59]⟩ 4 1 1 (B + 1 + 1 + 1) 2).toArray 57]

theorem class_info : (Tryd.prog.info? 32).map (·.size) = some 6 := by kernel_rfl

theorem object_raw (w : World) :
    Calls Tryd.prog 34 #[] w fun e w' => e = .returned (.agg #[.string ⟨#[79, 98, 106, 101, 99, 116]⟩, .string ⟨#[]⟩, .slice none 0 0, .int .i64 33, .int .i64 0, .slice (some ⟨w.heap.size + 1 + 1 + 1 + 1, 0, none⟩) 3 3]) ∧ w' = allocs w (objObjs w.heap.size) := by
  go_enter Tryd.func34, Tryd.ntmps34
  go_wp2_with fail
  refine bodyPost_ret (v := .agg #[.string ⟨#[79, 98, 106, 101, 99, 116]⟩, .string ⟨#[]⟩, .slice none 0 0, .int .i64 33, .int .i64 0, .slice (some ⟨w.heap.size + 1 + 1 + 1 + 1, 0, none⟩) 3 3]) (results_cell_row rfl _ _ w.heap.size 32 _ (0, 0) _ rfl ?_ Tryd.underlying32 rfl class_info) rfl ⟨rfl, rfl⟩
  exact allocs_at (objObjs w.heap.size) w 0 (by simp [objObjs])

theorem fits_small {x : Int} (h : -1000 ≤ x ∧ x ≤ 1000) : Fits x := by unfold Fits; omega

theorem methIs {S : Nat → Prop} {w : World} (nm ds : ByteArray) (f l s : Int) (b n : Nat) (code : List InstM) (h1 : nm.size ≤ maxLen) (h2 : ds.size ≤ maxLen) (h3 : -1000 ≤ f ∧ f ≤ 1000) (h4 : -1000 ≤ l ∧ l ≤ 1000) (h5 : -1000 ≤ s ∧ s ≤ 1000)
    (h : InstSl S w (.slice (some ⟨b, 0, none⟩) n n) code) : MethIs S w (methCells nm ds f l s b n) ⟨nm, ds, f, l, s, code⟩ := ⟨_, rfl, h1, h2, fits_small h3, fits_small h4, fits_small h5, h⟩

theorem object (w : World) :
    Calls Tryd.prog 34 #[] w fun e w' => ∃ cs, e = .returned (.agg cs.toArray) ∧ ClsIs (fun k => w.heap.size ≤ k ∧ k < w'.heap.size) w' cs objM ∧ Below w.heap.size w w' := by
  refine (object_raw w).mono ?_
  rintro e w' ⟨rfl, rfl⟩
  have hz : (allocs w (objObjs w.heap.size)).heap.size = w.heap.size + 5 := allocs_size _ _
  have h1 := allocs_at (objObjs w.heap.size) w 1 (by simp [objObjs])
  have h2 := allocs_at (objObjs w.heap.size) w 2 (by simp [objObjs])
  have h3 := allocs_at (objObjs w.heap.size) w 3 (by simp [objObjs])
  have h4 := allocs_at (objObjs w.heap.size) w 4 (by simp [objObjs])
  refine ⟨[_, _, _, _, _, _], rfl, ⟨_, _, rfl, by decide, by decide, ⟨none, 0, rfl, Nat.le_refl _, by decide, .inl rfl⟩, fits_small (by decide), fits_small (by decide), ?_⟩, allocs_below _ _⟩
  refine Sl.of_block (rest := []) (S := (fun k => w.heap.size ≤ k ∧ k < (allocs w (objObjs w.heap.size)).heap.size)) (k := 6) (bytes := 80) (R := MethIs (fun k => w.heap.size ≤ k ∧ k < (allocs w (objObjs w.heap.size)).heap.size)) (xs := objM.meths) h4 ⟨by omega, by omega⟩ [methCells _ _ _ _ _ _ _, methCells _ _ _ _ _ _ _, methCells _ _ _ _ _ _ _] rfl (by simp [methCells]) rfl ?_ rfl (Nat.le_refl 3) (by decide)
  intro i hi
  match i, hi with
  | 0, _ =>
    refine methIs ⟨#[60, 105, 110, 105, 116, 62]⟩ ⟨#[40, 41, 86]⟩ 1 1 0 (w.heap.size + 1) 1 [instM 38 0] (by decide) (by decide) (by decide) (by decide) (by decide) ?_
    refine Sl.of_block (rest := []) (S := (fun k => w.heap.size ≤ k ∧ k < (allocs w (objObjs w.heap.size)).heap.size)) (k := 7) (bytes := 88) (R := InstIs) (xs := [instM 38 0]) h1 ⟨by omega, by omega⟩ [instCells 38 0] rfl (by simp [instCells]) rfl ?_ rfl (Nat.le_refl 1) (by decide)
    intro j hj
    match j, hj with
    | 0, _ => exact instIs _ _ (fits_small (by decide)) (fits_small (by decide))
  | 1, _ =>
    refine methIs ⟨#[105, 100]⟩ ⟨#[40, 41, 73]⟩ 1 1 1 (w.heap.size + 1 + 1) 2 [instM 1 7, instM 36 0] (by decide) (by decide) (by decide) (by decide) (by decide) ?_
    refine Sl.of_block (rest := []) (S := (fun k => w.heap.size ≤ k ∧ k < (allocs w (objObjs w.heap.size)).heap.size)) (k := 7) (bytes := 88) (R := InstIs) (xs := [instM 1 7, instM 36 0]) h2 ⟨by omega, by omega⟩ [instCells 1 7, instCells 36 0] rfl (by simp [instCells]) rfl ?_ rfl (Nat.le_refl 2) (by decide)
    intro j hj
    match j, hj with
    | 0, _ => exact instIs _ _ (fits_small (by decide)) (fits_small (by decide))
    | 1, _ => exact instIs _ _ (fits_small (by decide)) (fits_small (by decide))
  | 2, _ =>
    refine methIs ⟨#[107, 105, 110]⟩ ⟨#[40, 41, 76, 79, 98, 106, 101, 99, 116, 59]⟩ 4 1 1 (w.heap.size + 1 + 1 + 1) 2 [instM 4 0, instM 37 0] (by decide) (by decide) (by decide) (by decide) (by decide) ?_
    refine Sl.of_block (rest := []) (S := (fun k => w.heap.size ≤ k ∧ k < (allocs w (objObjs w.heap.size)).heap.size)) (k := 7) (bytes := 88) (R := InstIs) (xs := [instM 4 0, instM 37 0]) h3 ⟨by omega, by omega⟩ [instCells 4 0, instCells 37 0] rfl (by simp [instCells]) rfl ?_ rfl (Nat.le_refl 2) (by decide)
    intro j hj
    match j, hj with
    | 0, _ => exact instIs _ _ (fits_small (by decide)) (fits_small (by decide))
    | 1, _ => exact instIs _ _ (fits_small (by decide)) (fits_small (by decide))
end Go.Proofs.YtmpkdgankficeaaDoor.Hi
