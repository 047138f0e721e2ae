/- Reading types: a descriptor: what stands in memory while it is read. -/
import Derived.Test.YtmpkdgankficeaaDoorPd
import Derived.Test.YtmpkdgankficeaaDoorHu
import Derived.Test.YtmpkdgankficeaaDoorHr
set_option maxRecDepth 100000
set_option maxHeartbeats 1000000
set_option linter.unusedVariables false
set_option linter.unusedSimpArgs false
namespace Go.Proofs.YtmpkdgankficeaaDoor.Pr
open Go.RowKit Bs

/-- The arguments of a descriptor, behind the bracket: do they end, what is left, how many, was one too wide? -/
structure ArgR where
  ok : Bool
  rest : List UInt8
  n : Nat
  wide : Bool
def argsM : Nat → List UInt8 → Nat → Bool → ArgR
  | 0, l, n, wide => ⟨false, l, n, wide⟩
  | f + 1, l, n, wide =>
    if l.head? = some 41 then ⟨true, l.drop 1, n, wide⟩
    else if (tail l).ok = true then argsM f (tail l).rest (n + 1) (wide || decide (255 < (brackets l : Int))) else ⟨false, (tail l).rest, n + 1, wide || decide (255 < (brackets l : Int))⟩

/-- What a descriptor's reading answers: how many arguments, nothing back?, the type back, an error. -/
structure DescR where
  n : Nat
  void : Bool
  rd : Int
  rn : List UInt8
  err : Int
def descEnd (ok : Bool) (l : List UInt8) (n : Nat) (wide void : Bool) (rd : Int) (rn : List UInt8) : DescR :=
  if (!ok || !l.isEmpty) = true then ⟨0, false, 0, [], 4⟩ else if (wide || decide (20 < (n : Int))) = true then ⟨0, false, 0, [], 5⟩ else ⟨n, void, rd, rn, 0⟩
/-- The descriptor that a text writes. -/
def descM (l : List UInt8) : DescR :=
  if 2000 < l.length then ⟨0, false, 0, [], 5⟩
  else if l.head? = some 40 then
    let a := argsM l.length (l.drop 1) 0 false
    if a.ok = true then
      if a.rest.head? = some 86 then descEnd true (a.rest.drop 1) a.n a.wide true 0 []
      else descEnd (tail a.rest).ok (tail a.rest).rest a.n (a.wide || decide (255 < (brackets a.rest : Int))) false (brackets a.rest) (tail a.rest).name
    else descEnd false a.rest a.n a.wide false 0 []
  else descEnd false l 0 false false 0 []

/-- While a descriptor is read. -/
structure DS (w wr : World) (l : List UInt8) (wide : Bool) (n : Nat) (v : Bool) (rd : Int) (rn : ByteArray) : Prop where
  cur : Cur wr (w.heap.size + 1) l wide
  r0 : wr.cell? ⟨w.heap.size, 0, none⟩ = some (.slice none 0 0)
  r1 : wr.cell? ⟨w.heap.size, 1, none⟩ = some (.bool false)
  r2 : wr.cell? ⟨w.heap.size, 2, none⟩ = some (.int .i64 0)
  r3 : wr.cell? ⟨w.heap.size, 3, none⟩ = some (.string ⟨#[]⟩)
  rth : ∀ j, wr.frozen? ⟨w.heap.size, j, none⟩ = false
  row : ∃ a c xs, wr.cell? ⟨w.heap.size + 1 + 1, 0, none⟩ = some (.slice a n c) ∧ wr.ownsRow (w.heap.size + 3) 106 2 (.slice a n c) n xs
  d1 : wr.cell? ⟨w.heap.size + 1 + 1, 1, none⟩ = some (.bool v)
  d2 : wr.cell? ⟨w.heap.size + 1 + 1, 2, none⟩ = some (.int .i64 rd)
  d3 : wr.cell? ⟨w.heap.size + 1 + 1, 3, none⟩ = some (.string rn)
  dth : ∀ j, wr.frozen? ⟨w.heap.size + 1 + 1, j, none⟩ = false
  below : Below w.heap.size w wr

variable {w wr w' : World} {l : List UInt8} {wide : Bool} {n : Nat} {v : Bool} {rd : Int} {rn : ByteArray}

theorem DS.lt (h : DS w wr l wide n v rd rn) : w.heap.size + 1 + 1 < wr.heap.size := World.block_lt_of_cell? _ _ h.d1

/-- Only the cursor turns, and what is new. -/
theorem DS.chg (h : DS w wr l wide n v rd rn) {l' : List UInt8} {wide' : Bool} (hc : Chg (fun k => k = w.heap.size + 1) wr w') (hcur : Cur w' (w.heap.size + 1) l' wide') : DS w w' l' wide' n v rd rn := by
  have hl := h.lt
  have cel : ∀ {b j : Nat} {x : Value}, b ≠ w.heap.size + 1 → wr.cell? ⟨b, j, none⟩ = some x → w'.cell? ⟨b, j, none⟩ = some x := fun hb hx => hc.cell_eq hx (fun e => hb e)
  have fr : ∀ {b j : Nat}, b < wr.heap.size → b ≠ w.heap.size + 1 → w'.frozen? ⟨b, j, none⟩ = wr.frozen? ⟨b, j, none⟩ := fun {b j} h1 h2 => hc.frozen (a := ⟨b, j, none⟩) h1 (fun e => h2 e)
  refine ⟨hcur, cel (by omega) h.r0, cel (by omega) h.r1, cel (by omega) h.r2, cel (by omega) h.r3, fun j => (fr (by omega) (by omega)).trans (h.rth j), ?_, cel (by omega) h.d1, cel (by omega) h.d2, cel (by omega) h.d3, fun j => (fr hl (by omega)).trans (h.dth j), h.below.trans (hc.below h.below.size fun k hk e => by omega)⟩
  obtain ⟨a, c, xs, h1, h2⟩ := h.row
  refine ⟨a, c, xs, cel (by omega) h1, Hi.row_of_block h2 fun k hk => ?_⟩
  obtain ⟨e1, e2⟩ := h2.lt k hk
  exact hc.block k e2 (by omega)
theorem DS.alloc (h : DS w wr l wide n v rd rn) (o : Obj) : DS w (wr.alloc o) l wide n v rd rn :=
  h.chg ((Chg.refl _ _).alloc o) (h.cur.block (Below.heap_alloc _ _ _ h.cur.lt))
theorem DS.drew (h : DS w wr l wide n v rd rn) : DS w wr.drew l wide n v rd rn := h.chg (Chg.refl _ _).drew ⟨h.cur.rest, h.cur.wide, h.cur.thaw⟩
theorem DS.setRest (h : DS w wr l wide n v rd rn) (r : List UInt8) : DS w (wr.setCell ⟨w.heap.size + 1, 0, none⟩ (.string (ba r))) r wide n v rd rn :=
  h.chg ((Chg.refl (fun k => k = w.heap.size + 1) wr).setCell (a := ⟨w.heap.size + 1, 0, none⟩) (.inr rfl) _) (h.cur.setRest r)
/-- One argument more. -/
theorem DS.append (h : DS w wr l wide n v rd rn) {w1 : World} {a0 a1 : Option Addr} {c0 c1 : Nat} {xs : List Value} (h0 : wr.cell? ⟨w.heap.size + 1 + 1, 0, none⟩ = some (.slice a0 n c0)) (hb0 : ∀ g, (Value.slice a0 n c0).ownBlock = some g → w.heap.size + 3 ≤ g)
    (hg : wr.grownBy w1 (Value.slice a0 n c0).ownBlock) (hown : w1.ownsRow (w.heap.size + 3) 106 2 (.slice a1 (n + 1) c1) (n + 1) xs) : DS w (w1.setCell ⟨w.heap.size + 1 + 1, 0, none⟩ (.slice a1 (n + 1) c1)) l wide (n + 1) v rd rn := by
  have hl := h.lt
  have hb : ∀ k, k < w.heap.size + 3 → w1.heap[k]? = wr.heap[k]? := fun k hk => hg.block k (by omega) fun e => by have := hb0 k e.symm; omega
  have cel : ∀ {b j : Nat} {y : Value}, b < w.heap.size + 3 → wr.cell? ⟨b, j, none⟩ = some y → w1.cell? ⟨b, j, none⟩ = some y := fun {b j y} h1 h2 => (World.cell?_of_block (w := wr) (a := ⟨b, j, none⟩) (hb b h1)).trans h2
  have fr : ∀ {b j : Nat}, b < w.heap.size + 3 → w1.frozen? ⟨b, j, none⟩ = wr.frozen? ⟨b, j, none⟩ := fun {b j} h1 => World.frozen?_of_block (w := wr) (a := ⟨b, j, none⟩) (hb b h1)
  have hcur := h.cur.block (hb (w.heap.size + 1) (by omega))
  refine ⟨hcur.block (Below.heap_setCell _ _ _ _ (by simp)), ?_, ?_, ?_, ?_, fun j => by rw [World.frozen?_setCell, fr (by omega)]; exact h.rth j, ⟨a1, c1, xs, setCell_same (cel (by omega) h0), ownsRow_setCell_below hown (by simp) _⟩, ?_, ?_, ?_, fun j => by rw [World.frozen?_setCell, fr (by omega)]; exact h.dth j, ?_⟩
  · rw [setCell_off (by omega)]; exact cel (by omega) h.r0
  · rw [setCell_off (by omega)]; exact cel (by omega) h.r1
  · rw [setCell_off (by omega)]; exact cel (by omega) h.r2
  · rw [setCell_off (by omega)]; exact cel (by omega) h.r3
  · rw [setCell_off (by omega)]; exact cel (by omega) h.d1
  · rw [setCell_off (by omega)]; exact cel (by omega) h.d2
  · rw [setCell_off (by omega)]; exact cel (by omega) h.d3
  · exact (h.below.grown hg h.below.size fun k hk => by have := hb0 k hk; omega).setCell (by simp; omega) _
theorem DS.setD (h : DS w wr l wide n v rd rn) (x : Bool) : DS w (wr.setCell ⟨w.heap.size + 1 + 1, 1, none⟩ (.bool x)) l wide n x rd rn := by
  have cel : ∀ {b j : Nat} {y : Value}, (b ≠ w.heap.size + 1 + 1 ∨ j ≠ 1) → wr.cell? ⟨b, j, none⟩ = some y → (wr.setCell ⟨w.heap.size + 1 + 1, 1, none⟩ (.bool x)).cell? ⟨b, j, none⟩ = some y := fun h1 h2 => by rw [setCell_off (by omega)]; exact h2
  obtain ⟨a, c, xs, h1, h2⟩ := h.row
  exact ⟨h.cur.block (Below.heap_setCell _ _ _ _ (by simp)), cel (by omega) h.r0, cel (by omega) h.r1, cel (by omega) h.r2, cel (by omega) h.r3, fun j => by rw [World.frozen?_setCell]; exact h.rth j, ⟨a, c, xs, cel (by omega) h1, ownsRow_setCell_below h2 (by simp) _⟩, setCell_same h.d1, cel (by omega) h.d2, cel (by omega) h.d3, fun j => by rw [World.frozen?_setCell]; exact h.dth j, h.below.setCell (by simp; omega) _⟩
theorem DS.setRet (h : DS w wr l wide n v rd rn) (x : Int) (s : ByteArray) : DS w ((wr.setCell ⟨w.heap.size + 1 + 1, 2, none⟩ (.int .i64 x)).setCell ⟨w.heap.size + 1 + 1, 3, none⟩ (.string s)) l wide n v x s := by
  have cel : ∀ {b j : Nat} {y : Value}, (b ≠ w.heap.size + 1 + 1 ∨ (j ≠ 2 ∧ j ≠ 3)) → wr.cell? ⟨b, j, none⟩ = some y → ((wr.setCell ⟨w.heap.size + 1 + 1, 2, none⟩ (.int .i64 x)).setCell ⟨w.heap.size + 1 + 1, 3, none⟩ (.string s)).cell? ⟨b, j, none⟩ = some y := fun h1 h2 => by rw [setCell_off (by omega), setCell_off (by omega)]; exact h2
  obtain ⟨a, c, xs, h1, h2⟩ := h.row
  exact ⟨(h.cur.block (Below.heap_setCell _ _ _ _ (by simp))).block (Below.heap_setCell _ _ _ _ (by simp)), cel (by omega) h.r0, cel (by omega) h.r1, cel (by omega) h.r2, cel (by omega) h.r3, fun j => by rw [World.frozen?_setCell, World.frozen?_setCell]; exact h.rth j, ⟨a, c, xs, cel (by omega) h1, ownsRow_setCell_below (ownsRow_setCell_below h2 (by simp) _) (by simp) _⟩, cel (by omega) h.d1, by rw [setCell_off (by omega)]; exact setCell_same h.d2, setCell_same (by rw [setCell_off (by omega)]; exact h.d3), fun j => by rw [World.frozen?_setCell, World.frozen?_setCell]; exact h.dth j, (h.below.setCell (by simp; omega) _).setCell (by simp; omega) _⟩

theorem set4 {w : World} {g : Nat} {v0 v1 v2 v3 u0 u1 u2 u3 : Value} (h0 : w.cell? ⟨g, 0, none⟩ = some u0) (h1 : w.cell? ⟨g, 1, none⟩ = some u1) (h2 : w.cell? ⟨g, 2, none⟩ = some u2) (h3 : w.cell? ⟨g, 3, none⟩ = some u3) :
    ∀ j (h : j < [v0, v1, v2, v3].length), ((((w.setCell ⟨g, 0, none⟩ v0).setCell ⟨g, 1, none⟩ v1).setCell ⟨g, 2, none⟩ v2).setCell ⟨g, 3, none⟩ v3).cell? ⟨g, j, none⟩ = some [v0, v1, v2, v3][j]
  | 0, _ => by
    show ((((w.setCell ⟨g, 0, none⟩ v0).setCell ⟨g, 1, none⟩ v1).setCell ⟨g, 2, none⟩ v2).setCell ⟨g, 3, none⟩ v3).cell? ⟨g, 0, none⟩ = some v0
    rw [setCell_off (by omega), setCell_off (by omega), setCell_off (by omega)]
    refine setCell_same (u := u0) ?_
    exact h0
  | 1, _ => by
    show ((((w.setCell ⟨g, 0, none⟩ v0).setCell ⟨g, 1, none⟩ v1).setCell ⟨g, 2, none⟩ v2).setCell ⟨g, 3, none⟩ v3).cell? ⟨g, 1, none⟩ = some v1
    rw [setCell_off (by omega), setCell_off (by omega)]
    refine setCell_same (u := u1) ?_
    rw [setCell_off (by omega)]
    exact h1
  | 2, _ => by
    show ((((w.setCell ⟨g, 0, none⟩ v0).setCell ⟨g, 1, none⟩ v1).setCell ⟨g, 2, none⟩ v2).setCell ⟨g, 3, none⟩ v3).cell? ⟨g, 2, none⟩ = some v2
    rw [setCell_off (by omega)]
    refine setCell_same (u := u2) ?_
    rw [setCell_off (by omega), setCell_off (by omega)]
    exact h2
  | 3, _ => by
    show ((((w.setCell ⟨g, 0, none⟩ v0).setCell ⟨g, 1, none⟩ v1).setCell ⟨g, 2, none⟩ v2).setCell ⟨g, 3, none⟩ v3).cell? ⟨g, 3, none⟩ = some v3
    refine setCell_same (u := u3) ?_
    rw [setCell_off (by omega), setCell_off (by omega), setCell_off (by omega)]
    exact h3

theorem desc_info : (Tryd.prog.info? 108).map (·.size) = some 4 := by kernel_rfl
/-- What ParseDesc comes to. -/
def DescPost (r : DescR) (w : World) (e : Ending) (w' : World) : Prop :=
  (∃ a c, e = .returned (.tuple #[.agg #[.slice a r.n c, .bool r.void, .int .i64 r.rd, .string (ba r.rn)], .int .i64 r.err])) ∧ Below w.heap.size w w'
theorem DS.put {w wr : World} {l : List UInt8} {wide : Bool} {n : Nat} {v : Bool} {rd : Int} {rn : ByteArray} (h : DS w wr l wide n v rd rn) (v0 v1 v2 v3 : Value) :
    (∀ j (h : j < [v0, v1, v2, v3].length), ((((wr.setCell ⟨w.heap.size, 0, none⟩ v0).setCell ⟨w.heap.size, 1, none⟩ v1).setCell ⟨w.heap.size, 2, none⟩ v2).setCell ⟨w.heap.size, 3, none⟩ v3).cell? ⟨w.heap.size, j, none⟩ = some [v0, v1, v2, v3][j]) ∧
      Below w.heap.size w ((((wr.setCell ⟨w.heap.size, 0, none⟩ v0).setCell ⟨w.heap.size, 1, none⟩ v1).setCell ⟨w.heap.size, 2, none⟩ v2).setCell ⟨w.heap.size, 3, none⟩ v3) :=
  ⟨set4 h.r0 h.r1 h.r2 h.r3, (((h.below.setCell (Nat.le_refl _) _).setCell (Nat.le_refl _) _).setCell (Nat.le_refl _) _).setCell (Nat.le_refl _) _⟩

/-- The three blocks of ParseDesc. -/
def descObjs (l : List UInt8) : List Obj :=
  [.cells #[.slice none 0 0, .bool false, .int .i64 0, .string ⟨#[]⟩] 108, .cells #[.string (ba l), .bool false] 125, .cells #[.slice none 0 0, .bool false, .int .i64 0, .string ⟨#[]⟩] 108]
theorem DS.start (w : World) (l : List UInt8) : DS w (Hi.allocs w (descObjs l)) l false 0 false 0 ⟨#[]⟩ := by
  have h0 := Hi.allocs_at (descObjs l) w 0 (by simp [descObjs])
  have h1 := Hi.allocs_at (descObjs l) w 1 (by simp [descObjs])
  have h2 := Hi.allocs_at (descObjs l) w 2 (by simp [descObjs])
  simp only [descObjs, List.getElem_cons_zero, List.getElem_cons_succ, Nat.add_zero] at h0 h1 h2
  rw [show w.heap.size + 2 = w.heap.size + 1 + 1 by omega] at h2
  refine ⟨⟨?_, ?_, fun j => ?_⟩, ?_, ?_, ?_, ?_, fun j => ?_, ⟨none, 0, [], ?_, World.ownsRow_nil _ _ _ _⟩, ?_, ?_, ?_, fun j => ?_, Hi.allocs_below _ _⟩
  all_goals first | (simp [World.cell?, descObjs, h0, h1, h2]; done) | (simp [World.frozen?, descObjs, h0, h1, h2]; done)
end Go.Proofs.YtmpkdgankficeaaDoor.Pr
