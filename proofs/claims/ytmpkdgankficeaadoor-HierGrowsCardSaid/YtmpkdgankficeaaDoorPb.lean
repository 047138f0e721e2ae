/- Reading types: one type. -/
import Derived.Test.YtmpkdgankficeaaDoorPa
import Derived.Deep.LoopGhost
import Derived.BigRegion
import Derived.LoopTactic
import Derived.Test.YtmpkdgankficeaaDoorHq
import Derived.Test.YtmpkdgankficeaaDoorIn
set_option maxRecDepth 100000
set_option maxHeartbeats 1000000
set_option linter.unusedVariables false
set_option linter.unusedSimpArgs false
namespace Go.Proofs.YtmpkdgankficeaaDoor.Pr
open Go.RowKit Bs

def brackets : List UInt8 → Nat
  | [] => 0
  | x :: r => if x = 91 then brackets r + 1 else 0
theorem brackets_cons (x : UInt8) (r : List UInt8) : brackets (x :: r) = if x = 91 then brackets r + 1 else 0 := rfl
theorem brackets_le : ∀ l : List UInt8, brackets l ≤ l.length
  | [] => Nat.le_refl _
  | x :: r => by
    have := brackets_le r
    unfold brackets
    split <;> simp <;> omega

/-- A cursor: what is left to read; was a type too wide? -/
structure Cur (w : World) (b : Nat) (l : List UInt8) (wide : Bool) : Prop where
  rest : w.cell? ⟨b, 0, none⟩ = some (.string (ba l))
  wide : w.cell? ⟨b, 1, none⟩ = some (.bool wide)
  thaw : ∀ j, w.frozen? ⟨b, j, none⟩ = false

theorem Cur.setRest {w : World} {b : Nat} {l : List UInt8} {wide : Bool} (h : Cur w b l wide) (r : List UInt8) : Cur (w.setCell ⟨b, 0, none⟩ (.string (ba r))) b r wide :=
  ⟨setCell_same h.rest, by rw [setCell_off (by omega)]; exact h.wide, fun j => by rw [World.frozen?_setCell]; exact h.thaw j⟩
theorem Cur.setWide {w : World} {b : Nat} {l : List UInt8} {wide : Bool} (h : Cur w b l wide) (x : Bool) : Cur (w.setCell ⟨b, 1, none⟩ (.bool x)) b l x :=
  ⟨by rw [setCell_off (by omega)]; exact h.rest, setCell_same h.wide, fun j => by rw [World.frozen?_setCell]; exact h.thaw j⟩
theorem Cur.block {w w' : World} {b : Nat} {l : List UInt8} {wide : Bool} (h : Cur w b l wide) (hb : w'.heap[b]? = w.heap[b]?) : Cur w' b l wide :=
  ⟨(World.cell?_of_block (w := w) (a := ⟨b, 0, none⟩) hb).trans h.rest, (World.cell?_of_block (w := w) (a := ⟨b, 1, none⟩) hb).trans h.wide, fun j => (World.frozen?_of_block (w := w) (a := ⟨b, j, none⟩) hb).trans (h.thaw j)⟩
theorem Cur.lt {w : World} {b : Nat} {l : List UInt8} {wide : Bool} (h : Cur w b l wide) : b < w.heap.size := World.block_lt_of_cell? _ _ h.rest

/-- While a type is read: its dimensions and its name so far, in the result's block. -/
structure OneAt (w wr : World) (b : Nat) (l : List UInt8) (wide : Bool) (d : Int) (nm : ByteArray) : Prop where
  cur : Cur wr b l wide
  dims : wr.cell? ⟨w.heap.size, 0, none⟩ = some (.int .i64 d)
  name : wr.cell? ⟨w.heap.size, 1, none⟩ = some (.string nm)
  thaw : ∀ j, wr.frozen? ⟨w.heap.size, j, none⟩ = false
  chg : Chg (fun k => k = b) w wr
  lt : b < w.heap.size

theorem OneAt.start {w : World} {b : Nat} {l : List UInt8} {wide : Bool} (h : Cur w b l wide) (t : TypeId) : OneAt w (w.alloc (.cells #[.int .i64 0, .string ⟨#[]⟩] t)) b l wide 0 ⟨#[]⟩ where
  cur := h.block (Below.heap_alloc _ _ _ h.lt)
  dims := by rw [World.cell?_alloc_new]; rfl
  name := by rw [World.cell?_alloc_new]; rfl
  thaw := fun j => World.frozen?_alloc_new ..
  chg := (Chg.refl _ _).alloc _
  lt := h.lt
theorem OneAt.setRest {w wr : World} {b : Nat} {l : List UInt8} {wide : Bool} {d : Int} {nm : ByteArray} (h : OneAt w wr b l wide d nm) (r : List UInt8) : OneAt w (wr.setCell ⟨b, 0, none⟩ (.string (ba r))) b r wide d nm :=
  have := h.lt
  ⟨h.cur.setRest r, by rw [setCell_off (by omega)]; exact h.dims, by rw [setCell_off (by omega)]; exact h.name, fun j => by rw [World.frozen?_setCell]; exact h.thaw j, h.chg.setCell (.inr rfl) _, h.lt⟩
theorem OneAt.setWide {w wr : World} {b : Nat} {l : List UInt8} {wide : Bool} {d : Int} {nm : ByteArray} (h : OneAt w wr b l wide d nm) (x : Bool) : OneAt w (wr.setCell ⟨b, 1, none⟩ (.bool x)) b l x d nm :=
  have := h.lt
  ⟨h.cur.setWide x, by rw [setCell_off (by omega)]; exact h.dims, by rw [setCell_off (by omega)]; exact h.name, fun j => by rw [World.frozen?_setCell]; exact h.thaw j, h.chg.setCell (.inr rfl) _, h.lt⟩
theorem OneAt.setDims {w wr : World} {b : Nat} {l : List UInt8} {wide : Bool} {d : Int} {nm : ByteArray} (h : OneAt w wr b l wide d nm) (x : Int) : OneAt w (wr.setCell ⟨w.heap.size, 0, none⟩ (.int .i64 x)) b l wide x nm :=
  have := h.lt
  ⟨h.cur.block (Below.heap_setCell _ _ _ _ (by simp; omega)), setCell_same h.dims, by rw [setCell_off (by omega)]; exact h.name, fun j => by rw [World.frozen?_setCell]; exact h.thaw j, h.chg.setCell (.inl (Nat.le_refl _)) _, h.lt⟩
theorem OneAt.setName {w wr : World} {b : Nat} {l : List UInt8} {wide : Bool} {d : Int} {nm : ByteArray} (h : OneAt w wr b l wide d nm) (x : ByteArray) : OneAt w (wr.setCell ⟨w.heap.size, 1, none⟩ (.string x)) b l wide d x :=
  have := h.lt
  ⟨h.cur.block (Below.heap_setCell _ _ _ _ (by simp; omega)), by rw [setCell_off (by omega)]; exact h.dims, setCell_same h.name, fun j => by rw [World.frozen?_setCell]; exact h.thaw j, h.chg.setCell (.inl (Nat.le_refl _)) _, h.lt⟩
theorem OneAt.drewN {w wr : World} {b : Nat} {l : List UInt8} {wide : Bool} {d : Int} {nm : ByteArray} (h : OneAt w wr b l wide d nm) (n : Nat) : OneAt w (wr.drewN n) b l wide d nm :=
  ⟨⟨h.cur.rest, h.cur.wide, h.cur.thaw⟩, h.dims, h.name, h.thaw, h.chg.drewN n, h.lt⟩
theorem OneAt.drew {w wr : World} {b : Nat} {l : List UInt8} {wide : Bool} {d : Int} {nm : ByteArray} (h : OneAt w wr b l wide d nm) : OneAt w wr.drew b l wide d nm :=
  ⟨⟨h.cur.rest, h.cur.wide, h.cur.thaw⟩, h.dims, h.name, h.thaw, h.chg.drew, h.lt⟩
theorem OneAt.below {w wr w' : World} {b : Nat} {l : List UInt8} {wide : Bool} {d : Int} {nm : ByteArray} (h : OneAt w wr b l wide d nm) (hb : Below wr.heap.size wr w') : OneAt w w' b l wide d nm :=
  ⟨h.cur.block (hb.block b h.cur.lt), below_cell' hb h.dims, below_cell' hb h.name, fun j => (World.frozen?_of_block (w := wr) (a := ⟨w.heap.size, j, none⟩) (hb.block w.heap.size (World.block_lt_of_cell? _ _ h.dims))).trans (h.thaw j), h.chg.trans (G := fun _ => False) (Chg.of_below hb) (fun _ _ h => h.elim), h.lt⟩

theorem drop_head {l : List UInt8} {d : Nat} {c : UInt8} (h : (l.drop d).head? = some c) : l.drop d = c :: l.drop (d + 1) ∧ d < l.length := by
  have hd : d < l.length := by
    rcases Nat.lt_or_ge d l.length with h' | h'
    · exact h'
    · rw [List.drop_of_length_le h'] at h; cases h
  rw [List.drop_eq_getElem_cons hd] at h ⊢
  have h' : l[d] = c := by simpa [List.getElem?_eq_getElem hd] using h
  exact ⟨by rw [h'], hd⟩

/-- What stands behind the brackets: a name, is it sound, what is left. -/
structure OneR where
  name : List UInt8
  ok : Bool
  rest : List UInt8
def oneTail : List UInt8 → OneR
  | [] => ⟨[], false, []⟩
  | x :: r => if x = 73 then ⟨[], true, r⟩ else if x = 76 then ⟨(Lib.cut r [59]).1, (Lib.cut r [59]).2.2 && Lf.validB (Lib.cut r [59]).1, (Lib.cut r [59]).2.1⟩ else ⟨[], false, x :: r⟩

theorem oneTail_cons (x : UInt8) (r : List UInt8) : oneTail (x :: r) = if x = 73 then ⟨[], true, r⟩ else if x = 76 then ⟨(Lib.cut r [59]).1, (Lib.cut r [59]).2.2 && Lf.validB (Lib.cut r [59]).1, (Lib.cut r [59]).2.1⟩ else ⟨[], false, x :: r⟩ := rfl
theorem cut_le (s sep : List UInt8) : (Lib.cut s sep).1.length ≤ s.length := by
  unfold Lib.cut
  split
  · simp; omega
  · simp

theorem Cut_semi (r : List UInt8) (w : World) (hl : r.length ≤ 2000) (he : Lf.Env w) : Calls Tryd.prog 92 #[.string (ba r), .string ⟨#[59]⟩] w fun e w' => e = .returned (.tuple #[.string (ba (Lib.cut r [59]).1), .string (ba (Lib.cut r [59]).2.1), .bool (Lib.cut r [59]).2.2]) ∧ ∃ n, w' = w.drewN n := by
  obtain ⟨m, hm⟩ := he
  have := Tryd.strings_Cut (ba r) ⟨#[59]⟩ m w (by rw [ba_size]; omega) hm
  rw [ba_list] at this
  exact this

theorem env_chg {b : Nat} {w w' : World} (h : Lf.Env w) (hc : Chg (fun k => k = b) w w') (hb : b ≠ 0) : Lf.Env w' := by
  obtain ⟨m, hm⟩ := h
  exact ⟨m, hc.cell_eq hm (fun e => hb e.symm)⟩

theorem env_drew {w : World} (h : Lf.Env w) : Lf.Env w.drew := h

theorem Valid_ba (q : List UInt8) (w : World) (hq : q.length ≤ 2000) (he : Lf.Env w) : Calls Tryd.prog 63 #[.string (ba q)] w fun e w' => e = .returned (.bool (Lf.validB q)) ∧ Below w.heap.size w w' := by
  have := Lf.Valid (ba q) w (by rw [ba_size]; unfold maxLen; omega) he
  rw [ba_list] at this
  exact this

theorem type_info : (Tryd.prog.info? 106).map (·.size) = some 2 := by kernel_rfl
theorem two {w : World} {g : Nat} {v0 v1 : Value} (h0 : w.cell? ⟨g, 0, none⟩ = some v0) (h1 : w.cell? ⟨g, 1, none⟩ = some v1) : ∀ j (h : j < [v0, v1].length), w.cell? ⟨g, j, none⟩ = some [v0, v1][j]
  | 0, _ => h0
  | 1, _ => h1

theorem one (b : Nat) (l : List UInt8) (wide : Bool) (w : World) (h : Cur w b l wide) (hl : l.length ≤ 2000) (he : Lf.Env w) (hb0 : b ≠ 0) :
    Calls Tryd.prog 82 #[.pointer (some ⟨b, 0, none⟩)] w fun e w' => e = .returned (.tuple #[.agg #[.int .i64 (brackets l), .string (ba (oneTail (l.drop (brackets l))).name)], .bool (oneTail (l.drop (brackets l))).ok]) ∧
      Cur w' b (oneTail (l.drop (brackets l))).rest (wide || decide (255 < (brackets l : Int))) ∧ Chg (fun k => k = b) w w' := by
  have H0 := Lib.hid h
  have hbs := h.lt
  clear h
  go_enter Tryd.func82, Tryd.ntmps82
  go_wp2_with fail
  refine Hi.wp_gen (fun W => OneAt w W b l wide 0 ⟨#[]⟩) (OneAt.start H0.out _) ?_
  intro W hA
  have HA := Lib.hid hA
  clear hA
  go_loopg [] (l.length + 1) (fun gk wr => ∃ d : Nat, Hid (d + gk = l.length + 1 ∧ brackets (l.drop d) + d = brackets l) ∧ Hid (OneAt w wr b (l.drop d) wide d ⟨#[]⟩))
  case atStart => exact ⟨0, Lib.hid ⟨Nat.zero_add _, rfl⟩, HA⟩
  case round =>
    obtain ⟨d, hg, hO⟩ := hrel
    have h1 := hO.out.cur.rest
    have h2 := hO.out.cur.thaw 0
    by_cases hd : (l.drop d).head? = some 91
    · obtain ⟨e1, e2⟩ := drop_head hd
      rw [e1] at h1
      go_wp2_with fail
      refine (take_yes b (l.drop (d + 1)) 91 _ h1 h2 (by simp; omega)).mono ?_
      rintro e w' ⟨rfl, rfl⟩
      have hO1 := hO.out.setRest (l.drop (d + 1))
      have HO1 := Lib.hid hO1
      have k1 := hO1.dims
      have k2 := hO1.thaw 0
      have HD := Lib.hid e1
      clear e1 h1 h2 hO1 hd
      generalize (wr.setCell ⟨b, 0, none⟩ (.string (ba (l.drop (d + 1))))) = w2 at HO1 k1 k2
      go_wp2
      have HO2 := Lib.hid (HO1.out.setDims ((d + 1 : Nat) : Int))
      go_roundg (l.length - d)
      case measure => have := hg.out.1; omega
      case rel =>
        refine ⟨d + 1, Lib.hid ⟨by omega, ?_⟩, HO2⟩
        have := hg.out.2
        rw [HD.out] at this
        rw [brackets_cons, if_pos rfl] at this
        omega
    · go_wp2_with fail
      refine (take_no b (l.drop d) 91 _ h1 hd (by simp; omega)).mono ?_
      rintro e w' ⟨rfl, rfl⟩
      have HD : Hid (d = brackets l) := Lib.hid (by
        have := hg.out.2
        cases hx : l.drop d with
        | nil => rw [hx] at this; simpa [brackets] using this
        | cons x r =>
          rw [hx] at this hd
          rw [brackets_cons, if_neg (by simpa using hd)] at this
          omega)
      clear h1 h2 hd
      have k1 := hO.out.cur.wide
      have k2 := hO.out.dims
      have k3 := hO.out.cur.thaw 1
      obtain ⟨x, hx⟩ : ∃ x, (wide || decide (255 < (d : Int))) = x := ⟨_, rfl⟩
      have hsplit : (wide = true ∧ x = true) ∨ (wide = false ∧ decide (255 < (d : Int)) = true ∧ x = true) ∨ (wide = false ∧ decide (255 < (d : Int)) = false ∧ x = false) := by
        rw [← hx]; cases wide <;> cases decide (255 < (d : Int)) <;> simp
      have HX : Hid (OneAt w (wr.setCell ⟨b, 1, none⟩ (.bool x)) b (l.drop d) x d ⟨#[]⟩) := Lib.hid (hO.out.setWide x)
      have HXE := Lib.hid hx
      have hdl : (l.drop d).length ≤ 2000 := by simp; omega
      have HB : Hid (l.drop (brackets l) = l.drop d ∧ brackets l = d) := Lib.hid (by rw [← HD.out]; exact ⟨rfl, rfl⟩)
      clear hx
      generalize l.drop d = l2 at HX HB hdl
      rcases hsplit with ⟨rfl, rfl⟩ | ⟨rfl, hd2, rfl⟩ | ⟨rfl, hd2, rfl⟩
      case' inl => (go_wp2_with fail; generalize (wr.setCell ⟨b, 1, none⟩ (.bool true)) = w2 at HX ⊢)
      case' inr.inl => (go_wp2_with fail; generalize (wr.setCell ⟨b, 1, none⟩ (.bool true)) = w2 at HX ⊢)
      case' inr.inr => (go_wp2_with fail; generalize (wr.setCell ⟨b, 1, none⟩ (.bool false)) = w2 at HX ⊢)
      all_goals
        clear k1 k2 k3
        have k1 := HX.out.cur.rest
        have k2 := HX.out.cur.thaw 0
        have k3 := HX.out.dims
        have k4 := HX.out.name
        have k5 := HX.out.thaw 0
        have k6 := HX.out.thaw 1
        cases l2 with
        | nil =>
          refine (take_no b [] 73 _ k1 (by simp) (by simp)).mono ?_
          rintro e _ ⟨rfl, rfl⟩
          go_wp2_with fail
          refine (take_no b [] 76 _ k1 (by simp) (by simp)).mono ?_
          rintro e _ ⟨rfl, rfl⟩
          go_wp2
          have HF := (HX.out.setDims (d : Int)).setName ⟨#[]⟩
          refine bodyPost_ret (Hi.results_cells_tmp rfl _ _ w.heap.size [.int .i64 d, .string ⟨#[]⟩] _ rfl (two HF.dims HF.name) Tryd.underlying106 rfl type_info) rfl ⟨?_, ?_, HF.chg⟩
          · rw [HB.out.1, HB.out.2]; rfl
          · rw [HB.out.1, HB.out.2, HXE.out]; exact HF.cur
        | cons y r =>
          by_cases hy : y = 73
          · subst hy
            refine (take_yes b r 73 _ k1 k2 (by simp at hdl; omega)).mono ?_
            rintro e _ ⟨rfl, rfl⟩
            replace HX := Lib.hid (HX.out.setRest r)
            generalize (w2.setCell ⟨b, 0, none⟩ (.string (ba r))) = w3 at HX ⊢
            clear k1 k2 k3 k4 k5 k6
            have k3 := HX.out.dims
            have k4 := HX.out.name
            have k5 := HX.out.thaw 0
            have k6 := HX.out.thaw 1
            go_wp2
            have HF := (HX.out.setDims (d : Int)).setName ⟨#[]⟩
            refine bodyPost_ret (Hi.results_cells_tmp rfl _ _ w.heap.size [.int .i64 d, .string ⟨#[]⟩] _ rfl (two HF.dims HF.name) Tryd.underlying106 rfl type_info) rfl ⟨?_, ?_, HF.chg⟩
            · rw [HB.out.1, HB.out.2]; rfl
            · rw [HB.out.1, HB.out.2, HXE.out]; exact HF.cur
          · refine (take_no b (y :: r) 73 _ k1 (by simpa using hy) (by simp at hdl ⊢; omega)).mono ?_
            rintro e _ ⟨rfl, rfl⟩
            by_cases hy2 : y = 76
            · subst hy2
              go_wp2_with fail
              refine (take_yes b r 76 _ k1 k2 (by simp at hdl; omega)).mono ?_
              rintro e _ ⟨rfl, rfl⟩
              replace HX := Lib.hid (HX.out.setRest r)
              generalize (w2.setCell ⟨b, 0, none⟩ (.string (ba r))) = w3 at HX ⊢
              clear k1 k2 k3 k4 k5 k6
              have k1 := HX.out.cur.rest
              have k2 := HX.out.cur.thaw 0
              have k3 := HX.out.dims
              have k4 := HX.out.name
              have k5 := HX.out.thaw 0
              have k6 := HX.out.thaw 1
              have henv := env_chg he HX.out.chg hb0
              have HCUT := Lib.hid (Cut_semi r · (by simp at hdl; omega) ·)
              have HT : Hid (oneTail (76 :: r) = ⟨(Lib.cut r [59]).1, (Lib.cut r [59]).2.2 && Lf.validB (Lib.cut r [59]).1, (Lib.cut r [59]).2.1⟩) := Lib.hid (by rw [oneTail_cons, if_neg (by decide), if_pos rfl])
              have hq : (Lib.cut r [59]).1.length ≤ 2000 := by have := cut_le r [59]; simp at hdl; omega
              generalize Lib.cut r [59] = q at HCUT HT hq
              obtain ⟨q1, q2, q3⟩ := q
              go_wp2_with fail
              refine (HCUT.out _ henv).mono ?_
              rintro e _ ⟨rfl, nd, rfl⟩
              have HX4 := Lib.hid (((HX.out.drewN nd).setName (ba q1)).setRest q2)
              clear HX HCUT henv
              cases q3
              · go_wp2_with fail
                clear k1 k2 k3 k4 k5 k6
                generalize (((w3.drewN nd).setCell ⟨w.heap.size, 1, none⟩ (.string (ba q1))).setCell ⟨b, 0, none⟩ (.string (ba q2))) = w4 at HX4 ⊢
                have k3 := HX4.out.dims
                have k4 := HX4.out.name
                have k5 := HX4.out.thaw 0
                have k6 := HX4.out.thaw 1
                go_region
                all_goals
                  have HX5 := Lib.hid HX4.out.drew
                  go_wp2
                  have HF := (HX5.out.setDims (d : Int)).setName (ba q1)
                  refine bodyPost_ret (Hi.results_cells_tmp rfl _ _ w.heap.size [.int .i64 d, .string (ba q1)] _ rfl (two HF.dims HF.name) Tryd.underlying106 rfl type_info) rfl ⟨?_, ?_, HF.chg⟩
                  · rw [HB.out.1, HB.out.2, HT.out]; rfl
                  · rw [HB.out.1, HB.out.2, HXE.out, HT.out]; exact HF.cur
              · go_wp2_with fail
                clear k1 k2 k3 k4 k5 k6
                generalize (((w3.drewN nd).setCell ⟨w.heap.size, 1, none⟩ (.string (ba q1))).setCell ⟨b, 0, none⟩ (.string (ba q2))) = w4 at HX4 ⊢
                have k3 := HX4.out.dims
                have k4 := HX4.out.name
                have k5 := HX4.out.thaw 0
                have k6 := HX4.out.thaw 1
                have HENV := Lib.hid (env_drew (env_chg he HX4.out.chg hb0))
                go_region_with (first | (go_at_call 63; refine (Valid_ba q1 _ hq HENV.out).mono ?_; rintro e w5 ⟨rfl, hb5⟩; (have k3 := below_cell' hb5 HX4.out.dims); (have k4 := below_cell' hb5 HX4.out.name); (have k5 := (HX4.out.drew.below hb5).thaw 0); (have k6 := (HX4.out.drew.below hb5).thaw 1)))
                all_goals
                  have HX5 := Lib.hid (HX4.out.drew.below hb5)
                  go_wp2
                  have HF := (HX5.out.setDims (d : Int)).setName (ba q1)
                  refine bodyPost_ret (Hi.results_cells_tmp rfl _ _ w.heap.size [.int .i64 d, .string (ba q1)] _ rfl (two HF.dims HF.name) Tryd.underlying106 rfl type_info) rfl ⟨?_, ?_, HF.chg⟩
                  · rw [HB.out.1, HB.out.2, HT.out]; rfl
                  · rw [HB.out.1, HB.out.2, HXE.out, HT.out]; exact HF.cur
            · have HT : Hid (oneTail (y :: r) = ⟨[], false, y :: r⟩) := Lib.hid (by rw [oneTail_cons, if_neg hy, if_neg hy2])
              go_wp2_with fail
              refine (take_no b (y :: r) 76 _ k1 (by simpa using hy2) (by simp at hdl ⊢; omega)).mono ?_
              rintro e _ ⟨rfl, rfl⟩
              go_wp2
              have HF := (HX.out.setDims (d : Int)).setName ⟨#[]⟩
              refine bodyPost_ret (Hi.results_cells_tmp rfl _ _ w.heap.size [.int .i64 d, .string ⟨#[]⟩] _ rfl (two HF.dims HF.name) Tryd.underlying106 rfl type_info) rfl ⟨?_, ?_, HF.chg⟩
              · rw [HB.out.1, HB.out.2, HT.out]; rfl
              · rw [HB.out.1, HB.out.2, HXE.out, HT.out]; exact HF.cur
end Go.Proofs.YtmpkdgankficeaaDoor.Pr
