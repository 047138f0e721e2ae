/- Reading types: a byte. -/
import Derived.Test.YtipinmbpdgjalaaGreatDoorMN
import Derived.Test.YtipinmbpdgjalaaGreatDoorMM
import Derived.BigQuiet
import Derived.Lib.Hide
import Derived.Deep.QuietTactic
import Derived.Deep.LoopGhost
import Derived.BigRegion
import Derived.LoopTactic
import Derived.Test.YtipinmbpdgjalaaGreatDoorMH
import Derived.Test.YtipinmbpdgjalaaGreatDoorMI
set_option maxRecDepth 100000
set_option maxHeartbeats 4000000
set_option linter.unusedVariables false
set_option linter.unusedSimpArgs false
namespace Go.Proofs.YtipinmbpdgjalaaGreatDoor.Pr
open Go.RowKit Bs

/-- The text of these bytes. -/
def ba (l : List UInt8) : ByteArray := ⟨l.toArray⟩
theorem ba_list (l : List UInt8) : (ba l).data.toList = l := by simp [ba]
theorem ba_toList (l : List UInt8) : (ba l).toList = l := by rw [ByteArray.toList_eq]; simp [ba]
theorem ba_size (l : List UInt8) : (ba l).size = l.length := by simp [ba, ByteArray.size]
theorem ba_of (s : ByteArray) : ba s.data.toList = s := str_ext (by simp [ba])
theorem ba_rest (c : UInt8) (r : List UInt8) : (ba (c :: r)).extract 1 (ba (c :: r)).size = ba r := str_ext ((extract_rest (ba (c :: r)) c r (ba_list _)).trans (ba_list r).symm)

/-- take: not there. -/
theorem take_no (b : Nat) (l : List UInt8) (c : UInt8) (w : World) (h : w.cell? ⟨b, 0, none⟩ = some (.string (ba l))) (hl : l.head? ≠ some c) (hz : l.length ≤ 9223372036854775807) :
    Calls Tryz.prog 115 #[.pointer (some ⟨b, 0, none⟩), .int .u8 c.toNat] w fun e w' => e = .returned (.bool false) ∧ w = w' := by
  cases l with
  | nil =>
    have e1 : (ba []).toList.isEmpty = true := by rw [ba_toList]; rfl
    have e2 : (!(ba []).toList.isEmpty) = false := by rw [ba_toList]; rfl
    go_enter Tryz.func115, Tryz.ntmps115
    go_wp2
    go_ret
    exact ⟨rfl, rfl⟩
  | cons x r =>
    have e1 : (ba (x :: r)).toList.isEmpty = false := by rw [ba_toList]; rfl
    have e2 : (!(ba (x :: r)).toList.isEmpty) = true := by rw [ba_toList]; rfl
    have e3 : (0 : Nat) < (ba (x :: r)).size := by rw [ba_size]; simp
    have e5 : ((((ba (x :: r))[0]'e3).toNat : Int) != (c.toNat : Int)) = true := by
      have h1 : (ba (x :: r))[0]'e3 = x := by simp [ba, ByteArray.getElem_eq_getElem_data]
      rw [h1]
      have h2 : x ≠ c := fun e => hl (by rw [e]; rfl)
      have h3 : x.toNat ≠ c.toNat := fun e => h2 (UInt8.toNat_inj.1 e)
      rw [bne_iff_ne]
      omega
    go_enter Tryz.func115, Tryz.ntmps115
    go_wp2
    go_ret
    exact ⟨rfl, rfl⟩

/-- take: it stands there. -/
theorem take_yes (b : Nat) (r : List UInt8) (c : UInt8) (w : World) (h : w.cell? ⟨b, 0, none⟩ = some (.string (ba (c :: r)))) (hf : w.frozen? ⟨b, 0, none⟩ = false) (hz : r.length + 1 ≤ 9223372036854775807) :
    Calls Tryz.prog 115 #[.pointer (some ⟨b, 0, none⟩), .int .u8 c.toNat] w fun e w' => e = .returned (.bool true) ∧ w' = w.setCell ⟨b, 0, none⟩ (.string (ba r)) := by
  have e1 : (ba (c :: r)).toList.isEmpty = false := by rw [ba_toList]; rfl
  have e2 : (!(ba (c :: r)).toList.isEmpty) = true := by rw [ba_toList]; rfl
  have e3 : (0 : Nat) < (ba (c :: r)).size := by rw [ba_size]; simp
  have e5 : ((((ba (c :: r))[0]'e3).toNat : Int) != (c.toNat : Int)) = false := by
    have h1 : (ba (c :: r))[0]'e3 = c := by simp [ba, ByteArray.getElem_eq_getElem_data]
    rw [h1]
    simp
  have F := Lib.hid (ba_rest c r)
  go_enter Tryz.func115, Tryz.ntmps115
  go_wp2
  go_ret
  exact ⟨rfl, by rw [F.out]⟩
end Go.Proofs.YtipinmbpdgjalaaGreatDoor.Pr
/- Reading types: one type. -/
set_option maxRecDepth 100000
set_option maxHeartbeats 1000000
set_option linter.unusedVariables false
set_option linter.unusedSimpArgs false
namespace Go.Proofs.YtipinmbpdgjalaaGreatDoor.Pr
open Go.RowKit Bs

def brackets : List UInt8 → Nat
  | [] => 0
  | x :: r => if x = 91 then brackets r + 1 else 0
theorem brackets_cons (x : UInt8) (r : List UInt8) : brackets (x :: r) = if x = 91 then brackets r + 1 else 0 := rfl
theorem brackets_le : ∀ l : List UInt8, brackets l ≤ l.length
  | [] => Nat.le_refl _
  | x :: r => by
    have := brackets_le r
    unfold brackets
    split <;> simp <;> omega

/-- A cursor: what is left to read; was a type too wide? -/
structure Cur (w : World) (b : Nat) (l : List UInt8) (wide : Bool) : Prop where
  rest : w.cell? ⟨b, 0, none⟩ = some (.string (ba l))
  wide : w.cell? ⟨b, 1, none⟩ = some (.bool wide)
  thaw : ∀ j, w.frozen? ⟨b, j, none⟩ = false

theorem Cur.setRest {w : World} {b : Nat} {l : List UInt8} {wide : Bool} (h : Cur w b l wide) (r : List UInt8) : Cur (w.setCell ⟨b, 0, none⟩ (.string (ba r))) b r wide :=
  ⟨setCell_same h.rest, by rw [setCell_off (by omega)]; exact h.wide, fun j => by rw [World.frozen?_setCell]; exact h.thaw j⟩
theorem Cur.setWide {w : World} {b : Nat} {l : List UInt8} {wide : Bool} (h : Cur w b l wide) (x : Bool) : Cur (w.setCell ⟨b, 1, none⟩ (.bool x)) b l x :=
  ⟨by rw [setCell_off (by omega)]; exact h.rest, setCell_same h.wide, fun j => by rw [World.frozen?_setCell]; exact h.thaw j⟩
theorem Cur.block {w w' : World} {b : Nat} {l : List UInt8} {wide : Bool} (h : Cur w b l wide) (hb : w'.heap[b]? = w.heap[b]?) : Cur w' b l wide :=
  ⟨(World.cell?_of_block (w := w) (a := ⟨b, 0, none⟩) hb).trans h.rest, (World.cell?_of_block (w := w) (a := ⟨b, 1, none⟩) hb).trans h.wide, fun j => (World.frozen?_of_block (w := w) (a := ⟨b, j, none⟩) hb).trans (h.thaw j)⟩
theorem Cur.lt {w : World} {b : Nat} {l : List UInt8} {wide : Bool} (h : Cur w b l wide) : b < w.heap.size := World.block_lt_of_cell? _ _ h.rest

/-- While a type is read: its dimensions and its name so far, in the result's block. -/
structure OneAt (w wr : World) (b : Nat) (l : List UInt8) (wide : Bool) (d : Int) (nm : ByteArray) : Prop where
  cur : Cur wr b l wide
  dims : wr.cell? ⟨w.heap.size, 0, none⟩ = some (.int .i64 d)
  name : wr.cell? ⟨w.heap.size, 1, none⟩ = some (.string nm)
  thaw : ∀ j, wr.frozen? ⟨w.heap.size, j, none⟩ = false
  chg : Chg (fun k => k = b) w wr
  lt : b < w.heap.size

theorem OneAt.start {w : World} {b : Nat} {l : List UInt8} {wide : Bool} (h : Cur w b l wide) (t : TypeId) : OneAt w (w.alloc (.cells #[.int .i64 0, .string ⟨#[]⟩] t)) b l wide 0 ⟨#[]⟩ where
  cur := h.block (Below.heap_alloc _ _ _ h.lt)
  dims := by rw [World.cell?_alloc_new]; rfl
  name := by rw [World.cell?_alloc_new]; rfl
  thaw := fun j => World.frozen?_alloc_new ..
  chg := (Chg.refl _ _).alloc _
  lt := h.lt
theorem OneAt.setRest {w wr : World} {b : Nat} {l : List UInt8} {wide : Bool} {d : Int} {nm : ByteArray} (h : OneAt w wr b l wide d nm) (r : List UInt8) : OneAt w (wr.setCell ⟨b, 0, none⟩ (.string (ba r))) b r wide d nm :=
  have := h.lt
  ⟨h.cur.setRest r, by rw [setCell_off (by omega)]; exact h.dims, by rw [setCell_off (by omega)]; exact h.name, fun j => by rw [World.frozen?_setCell]; exact h.thaw j, h.chg.setCell (.inr rfl) _, h.lt⟩
theorem OneAt.setWide {w wr : World} {b : Nat} {l : List UInt8} {wide : Bool} {d : Int} {nm : ByteArray} (h : OneAt w wr b l wide d nm) (x : Bool) : OneAt w (wr.setCell ⟨b, 1, none⟩ (.bool x)) b l x d nm :=
  have := h.lt
  ⟨h.cur.setWide x, by rw [setCell_off (by omega)]; exact h.dims, by rw [setCell_off (by omega)]; exact h.name, fun j => by rw [World.frozen?_setCell]; exact h.thaw j, h.chg.setCell (.inr rfl) _, h.lt⟩
theorem OneAt.setDims {w wr : World} {b : Nat} {l : List UInt8} {wide : Bool} {d : Int} {nm : ByteArray} (h : OneAt w wr b l wide d nm) (x : Int) : OneAt w (wr.setCell ⟨w.heap.size, 0, none⟩ (.int .i64 x)) b l wide x nm :=
  have := h.lt
  ⟨h.cur.block (Below.heap_setCell _ _ _ _ (by simp; omega)), setCell_same h.dims, by rw [setCell_off (by omega)]; exact h.name, fun j => by rw [World.frozen?_setCell]; exact h.thaw j, h.chg.setCell (.inl (Nat.le_refl _)) _, h.lt⟩
theorem OneAt.setName {w wr : World} {b : Nat} {l : List UInt8} {wide : Bool} {d : Int} {nm : ByteArray} (h : OneAt w wr b l wide d nm) (x : ByteArray) : OneAt w (wr.setCell ⟨w.heap.size, 1, none⟩ (.string x)) b l wide d x :=
  have := h.lt
  ⟨h.cur.block (Below.heap_setCell _ _ _ _ (by simp; omega)), by rw [setCell_off (by omega)]; exact h.dims, setCell_same h.name, fun j => by rw [World.frozen?_setCell]; exact h.thaw j, h.chg.setCell (.inl (Nat.le_refl _)) _, h.lt⟩
theorem OneAt.drewN {w wr : World} {b : Nat} {l : List UInt8} {wide : Bool} {d : Int} {nm : ByteArray} (h : OneAt w wr b l wide d nm) (n : Nat) : OneAt w (wr.drewN n) b l wide d nm :=
  ⟨⟨h.cur.rest, h.cur.wide, h.cur.thaw⟩, h.dims, h.name, h.thaw, h.chg.drewN n, h.lt⟩
theorem OneAt.drew {w wr : World} {b : Nat} {l : List UInt8} {wide : Bool} {d : Int} {nm : ByteArray} (h : OneAt w wr b l wide d nm) : OneAt w wr.drew b l wide d nm :=
  ⟨⟨h.cur.rest, h.cur.wide, h.cur.thaw⟩, h.dims, h.name, h.thaw, h.chg.drew, h.lt⟩
theorem OneAt.below {w wr w' : World} {b : Nat} {l : List UInt8} {wide : Bool} {d : Int} {nm : ByteArray} (h : OneAt w wr b l wide d nm) (hb : Below wr.heap.size wr w') : OneAt w w' b l wide d nm :=
  ⟨h.cur.block (hb.block b h.cur.lt), below_cell' hb h.dims, below_cell' hb h.name, fun j => (World.frozen?_of_block (w := wr) (a := ⟨w.heap.size, j, none⟩) (hb.block w.heap.size (World.block_lt_of_cell? _ _ h.dims))).trans (h.thaw j), h.chg.trans (G := fun _ => False) (Chg.of_below hb) (fun _ _ h => h.elim), h.lt⟩

theorem drop_head {l : List UInt8} {d : Nat} {c : UInt8} (h : (l.drop d).head? = some c) : l.drop d = c :: l.drop (d + 1) ∧ d < l.length := by
  have hd : d < l.length := by
    rcases Nat.lt_or_ge d l.length with h' | h'
    · exact h'
    · rw [List.drop_of_length_le h'] at h; cases h
  rw [List.drop_eq_getElem_cons hd] at h ⊢
  have h' : l[d] = c := by simpa [List.getElem?_eq_getElem hd] using h
  exact ⟨by rw [h'], hd⟩

/-- What stands behind the brackets: a name, is it sound, what is left. -/
structure OneR where
  name : List UInt8
  ok : Bool
  rest : List UInt8
def oneTail : List UInt8 → OneR
  | [] => ⟨[], false, []⟩
  | x :: r => if x = 73 then ⟨[], true, r⟩ else if x = 76 then ⟨(Lib.cut r [59]).1, (Lib.cut r [59]).2.2 && Lf.validB (Lib.cut r [59]).1, (Lib.cut r [59]).2.1⟩ else ⟨[], false, x :: r⟩

theorem oneTail_cons (x : UInt8) (r : List UInt8) : oneTail (x :: r) = if x = 73 then ⟨[], true, r⟩ else if x = 76 then ⟨(Lib.cut r [59]).1, (Lib.cut r [59]).2.2 && Lf.validB (Lib.cut r [59]).1, (Lib.cut r [59]).2.1⟩ else ⟨[], false, x :: r⟩ := rfl
theorem cut_le (s sep : List UInt8) : (Lib.cut s sep).1.length ≤ s.length := by
  unfold Lib.cut
  split
  · simp; omega
  · simp

theorem Cut_semi (r : List UInt8) (w : World) (hl : r.length ≤ 2000) (he : Lf.Env w) : Calls Tryz.prog 125 #[.string (ba r), .string ⟨#[59]⟩] w fun e w' => e = .returned (.tuple #[.string (ba (Lib.cut r [59]).1), .string (ba (Lib.cut r [59]).2.1), .bool (Lib.cut r [59]).2.2]) ∧ ∃ n, w' = w.drewN n := by
  obtain ⟨m, hm⟩ := he
  have := Tryz.strings_Cut (ba r) ⟨#[59]⟩ m w (by rw [ba_size]; omega) hm
  rw [ba_list] at this
  exact this

theorem env_chg {b : Nat} {w w' : World} (h : Lf.Env w) (hc : Chg (fun k => k = b) w w') (hb : b ≠ 0) : Lf.Env w' := by
  obtain ⟨m, hm⟩ := h
  exact ⟨m, hc.cell_eq hm (fun e => hb e.symm)⟩

theorem env_drew {w : World} (h : Lf.Env w) : Lf.Env w.drew := h

theorem Valid_ba (q : List UInt8) (w : World) (hq : q.length ≤ 2000) (he : Lf.Env w) : Calls Tryz.prog 100 #[.string (ba q)] w fun e w' => e = .returned (.bool (Lf.validB q)) ∧ Below w.heap.size w w' := by
  have := Lf.Valid (ba q) w (by rw [ba_size]; unfold maxLen; omega) he
  rw [ba_list] at this
  exact this

theorem type_info : (Tryz.prog.info? 155).map (·.size) = some 2 := by kernel_rfl
theorem two {w : World} {g : Nat} {v0 v1 : Value} (h0 : w.cell? ⟨g, 0, none⟩ = some v0) (h1 : w.cell? ⟨g, 1, none⟩ = some v1) : ∀ j (h : j < [v0, v1].length), w.cell? ⟨g, j, none⟩ = some [v0, v1][j]
  | 0, _ => h0
  | 1, _ => h1

theorem one (b : Nat) (l : List UInt8) (wide : Bool) (w : World) (h : Cur w b l wide) (hl : l.length ≤ 2000) (he : Lf.Env w) (hb0 : b ≠ 0) :
    Calls Tryz.prog 116 #[.pointer (some ⟨b, 0, none⟩)] w fun e w' => e = .returned (.tuple #[.agg #[.int .i64 (brackets l), .string (ba (oneTail (l.drop (brackets l))).name)], .bool (oneTail (l.drop (brackets l))).ok]) ∧
      Cur w' b (oneTail (l.drop (brackets l))).rest (wide || decide (255 < (brackets l : Int))) ∧ Chg (fun k => k = b) w w' := by
  have H0 := Lib.hid h
  have hbs := h.lt
  clear h
  go_enter Tryz.func116, Tryz.ntmps116
  go_wp2_with fail
  refine Hi.wp_gen (fun W => OneAt w W b l wide 0 ⟨#[]⟩) (OneAt.start H0.out _) ?_
  intro W hA
  have HA := Lib.hid hA
  clear hA
  go_loopg [] (l.length + 1) (fun gk wr => ∃ d : Nat, Hid (d + gk = l.length + 1 ∧ brackets (l.drop d) + d = brackets l) ∧ Hid (OneAt w wr b (l.drop d) wide d ⟨#[]⟩))
  case atStart => exact ⟨0, Lib.hid ⟨Nat.zero_add _, rfl⟩, HA⟩
  case round =>
    obtain ⟨d, hg, hO⟩ := hrel
    have h1 := hO.out.cur.rest
    have h2 := hO.out.cur.thaw 0
    by_cases hd : (l.drop d).head? = some 91
    · obtain ⟨e1, e2⟩ := drop_head hd
      rw [e1] at h1
      go_wp2_with fail
      refine (take_yes b (l.drop (d + 1)) 91 _ h1 h2 (by simp; omega)).mono ?_
      rintro e w' ⟨rfl, rfl⟩
      have hO1 := hO.out.setRest (l.drop (d + 1))
      have HO1 := Lib.hid hO1
      have k1 := hO1.dims
      have k2 := hO1.thaw 0
      have HD := Lib.hid e1
      clear e1 h1 h2 hO1 hd
      generalize (wr.setCell ⟨b, 0, none⟩ (.string (ba (l.drop (d + 1))))) = w2 at HO1 k1 k2
      go_wp2
      have HO2 := Lib.hid (HO1.out.setDims ((d + 1 : Nat) : Int))
      go_roundg (l.length - d)
      case measure => have := hg.out.1; omega
      case rel =>
        refine ⟨d + 1, Lib.hid ⟨by omega, ?_⟩, HO2⟩
        have := hg.out.2
        rw [HD.out] at this
        rw [brackets_cons, if_pos rfl] at this
        omega
    · go_wp2_with fail
      refine (take_no b (l.drop d) 91 _ h1 hd (by simp; omega)).mono ?_
      rintro e w' ⟨rfl, rfl⟩
      have HD : Hid (d = brackets l) := Lib.hid (by
        have := hg.out.2
        cases hx : l.drop d with
        | nil => rw [hx] at this; simpa [brackets] using this
        | cons x r =>
          rw [hx] at this hd
          rw [brackets_cons, if_neg (by simpa using hd)] at this
          omega)
      clear h1 h2 hd
      have k1 := hO.out.cur.wide
      have k2 := hO.out.dims
      have k3 := hO.out.cur.thaw 1
      obtain ⟨x, hx⟩ : ∃ x, (wide || decide (255 < (d : Int))) = x := ⟨_, rfl⟩
      have hsplit : (wide = true ∧ x = true) ∨ (wide = false ∧ decide (255 < (d : Int)) = true ∧ x = true) ∨ (wide = false ∧ decide (255 < (d : Int)) = false ∧ x = false) := by
        rw [← hx]; cases wide <;> cases decide (255 < (d : Int)) <;> simp
      have HX : Hid (OneAt w (wr.setCell ⟨b, 1, none⟩ (.bool x)) b (l.drop d) x d ⟨#[]⟩) := Lib.hid (hO.out.setWide x)
      have HXE := Lib.hid hx
      have hdl : (l.drop d).length ≤ 2000 := by simp; omega
      have HB : Hid (l.drop (brackets l) = l.drop d ∧ brackets l = d) := Lib.hid (by rw [← HD.out]; exact ⟨rfl, rfl⟩)
      clear hx
      generalize l.drop d = l2 at HX HB hdl
      rcases hsplit with ⟨rfl, rfl⟩ | ⟨rfl, hd2, rfl⟩ | ⟨rfl, hd2, rfl⟩
      case' inl => (go_wp2_with fail; generalize (wr.setCell ⟨b, 1, none⟩ (.bool true)) = w2 at HX ⊢)
      case' inr.inl => (go_wp2_with fail; generalize (wr.setCell ⟨b, 1, none⟩ (.bool true)) = w2 at HX ⊢)
      case' inr.inr => (go_wp2_with fail; generalize (wr.setCell ⟨b, 1, none⟩ (.bool false)) = w2 at HX ⊢)
      all_goals
        clear k1 k2 k3
        have k1 := HX.out.cur.rest
        have k2 := HX.out.cur.thaw 0
        have k3 := HX.out.dims
        have k4 := HX.out.name
        have k5 := HX.out.thaw 0
        have k6 := HX.out.thaw 1
        cases l2 with
        | nil =>
          refine (take_no b [] 73 _ k1 (by simp) (by simp)).mono ?_
          rintro e _ ⟨rfl, rfl⟩
          go_wp2_with fail
          refine (take_no b [] 76 _ k1 (by simp) (by simp)).mono ?_
          rintro e _ ⟨rfl, rfl⟩
          go_wp2
          have HF := (HX.out.setDims (d : Int)).setName ⟨#[]⟩
          refine bodyPost_ret (Hi.results_cells_tmp rfl _ _ w.heap.size [.int .i64 d, .string ⟨#[]⟩] _ rfl (two HF.dims HF.name) Tryz.underlying155 rfl type_info) rfl ⟨?_, ?_, HF.chg⟩
          · rw [HB.out.1, HB.out.2]; rfl
          · rw [HB.out.1, HB.out.2, HXE.out]; exact HF.cur
        | cons y r =>
          by_cases hy : y = 73
          · subst hy
            refine (take_yes b r 73 _ k1 k2 (by simp at hdl; omega)).mono ?_
            rintro e _ ⟨rfl, rfl⟩
            replace HX := Lib.hid (HX.out.setRest r)
            generalize (w2.setCell ⟨b, 0, none⟩ (.string (ba r))) = w3 at HX ⊢
            clear k1 k2 k3 k4 k5 k6
            have k3 := HX.out.dims
            have k4 := HX.out.name
            have k5 := HX.out.thaw 0
            have k6 := HX.out.thaw 1
            go_wp2
            have HF := (HX.out.setDims (d : Int)).setName ⟨#[]⟩
            refine bodyPost_ret (Hi.results_cells_tmp rfl _ _ w.heap.size [.int .i64 d, .string ⟨#[]⟩] _ rfl (two HF.dims HF.name) Tryz.underlying155 rfl type_info) rfl ⟨?_, ?_, HF.chg⟩
            · rw [HB.out.1, HB.out.2]; rfl
            · rw [HB.out.1, HB.out.2, HXE.out]; exact HF.cur
          · refine (take_no b (y :: r) 73 _ k1 (by simpa using hy) (by simp at hdl ⊢; omega)).mono ?_
            rintro e _ ⟨rfl, rfl⟩
            by_cases hy2 : y = 76
            · subst hy2
              go_wp2_with fail
              refine (take_yes b r 76 _ k1 k2 (by simp at hdl; omega)).mono ?_
              rintro e _ ⟨rfl, rfl⟩
              replace HX := Lib.hid (HX.out.setRest r)
              generalize (w2.setCell ⟨b, 0, none⟩ (.string (ba r))) = w3 at HX ⊢
              clear k1 k2 k3 k4 k5 k6
              have k1 := HX.out.cur.rest
              have k2 := HX.out.cur.thaw 0
              have k3 := HX.out.dims
              have k4 := HX.out.name
              have k5 := HX.out.thaw 0
              have k6 := HX.out.thaw 1
              have henv := env_chg he HX.out.chg hb0
              have HCUT := Lib.hid (Cut_semi r · (by simp at hdl; omega) ·)
              have HT : Hid (oneTail (76 :: r) = ⟨(Lib.cut r [59]).1, (Lib.cut r [59]).2.2 && Lf.validB (Lib.cut r [59]).1, (Lib.cut r [59]).2.1⟩) := Lib.hid (by rw [oneTail_cons, if_neg (by decide), if_pos rfl])
              have hq : (Lib.cut r [59]).1.length ≤ 2000 := by have := cut_le r [59]; simp at hdl; omega
              generalize Lib.cut r [59] = q at HCUT HT hq
              obtain ⟨q1, q2, q3⟩ := q
              go_wp2_with fail
              refine (HCUT.out _ henv).mono ?_
              rintro e _ ⟨rfl, nd, rfl⟩
              have HX4 := Lib.hid (((HX.out.drewN nd).setName (ba q1)).setRest q2)
              clear HX HCUT henv
              cases q3
              · go_wp2_with fail
                clear k1 k2 k3 k4 k5 k6
                generalize (((w3.drewN nd).setCell ⟨w.heap.size, 1, none⟩ (.string (ba q1))).setCell ⟨b, 0, none⟩ (.string (ba q2))) = w4 at HX4 ⊢
                have k3 := HX4.out.dims
                have k4 := HX4.out.name
                have k5 := HX4.out.thaw 0
                have k6 := HX4.out.thaw 1
                go_region
                all_goals
                  have HX5 := Lib.hid HX4.out.drew
                  go_wp2
                  have HF := (HX5.out.setDims (d : Int)).setName (ba q1)
                  refine bodyPost_ret (Hi.results_cells_tmp rfl _ _ w.heap.size [.int .i64 d, .string (ba q1)] _ rfl (two HF.dims HF.name) Tryz.underlying155 rfl type_info) rfl ⟨?_, ?_, HF.chg⟩
                  · rw [HB.out.1, HB.out.2, HT.out]; rfl
                  · rw [HB.out.1, HB.out.2, HXE.out, HT.out]; exact HF.cur
              · go_wp2_with fail
                clear k1 k2 k3 k4 k5 k6
                generalize (((w3.drewN nd).setCell ⟨w.heap.size, 1, none⟩ (.string (ba q1))).setCell ⟨b, 0, none⟩ (.string (ba q2))) = w4 at HX4 ⊢
                have k3 := HX4.out.dims
                have k4 := HX4.out.name
                have k5 := HX4.out.thaw 0
                have k6 := HX4.out.thaw 1
                have HENV := Lib.hid (env_drew (env_chg he HX4.out.chg hb0))
                go_region_with (first | (go_at_call 100; refine (Valid_ba q1 _ hq HENV.out).mono ?_; rintro e w5 ⟨rfl, hb5⟩; (have k3 := below_cell' hb5 HX4.out.dims); (have k4 := below_cell' hb5 HX4.out.name); (have k5 := (HX4.out.drew.below hb5).thaw 0); (have k6 := (HX4.out.drew.below hb5).thaw 1)))
                all_goals
                  have HX5 := Lib.hid (HX4.out.drew.below hb5)
                  go_wp2
                  have HF := (HX5.out.setDims (d : Int)).setName (ba q1)
                  refine bodyPost_ret (Hi.results_cells_tmp rfl _ _ w.heap.size [.int .i64 d, .string (ba q1)] _ rfl (two HF.dims HF.name) Tryz.underlying155 rfl type_info) rfl ⟨?_, ?_, HF.chg⟩
                  · rw [HB.out.1, HB.out.2, HT.out]; rfl
                  · rw [HB.out.1, HB.out.2, HXE.out, HT.out]; exact HF.cur
            · have HT : Hid (oneTail (y :: r) = ⟨[], false, y :: r⟩) := Lib.hid (by rw [oneTail_cons, if_neg hy, if_neg hy2])
              go_wp2_with fail
              refine (take_no b (y :: r) 76 _ k1 (by simpa using hy2) (by simp at hdl ⊢; omega)).mono ?_
              rintro e _ ⟨rfl, rfl⟩
              go_wp2
              have HF := (HX.out.setDims (d : Int)).setName ⟨#[]⟩
              refine bodyPost_ret (Hi.results_cells_tmp rfl _ _ w.heap.size [.int .i64 d, .string ⟨#[]⟩] _ rfl (two HF.dims HF.name) Tryz.underlying155 rfl type_info) rfl ⟨?_, ?_, HF.chg⟩
              · rw [HB.out.1, HB.out.2, HT.out]; rfl
              · rw [HB.out.1, HB.out.2, HXE.out, HT.out]; exact HF.cur
end Go.Proofs.YtipinmbpdgjalaaGreatDoor.Pr
/- Reading types: a text's type. -/
set_option maxRecDepth 100000
set_option maxHeartbeats 1000000
set_option linter.unusedVariables false
set_option linter.unusedSimpArgs false
namespace Go.Proofs.YtipinmbpdgjalaaGreatDoor.Pr
open Go.RowKit Bs

/-- A type (dimensions, name) and an error. -/
structure TyR where
  dims : Int
  name : List UInt8
  err : Int
  deriving DecidableEq
def tail (l : List UInt8) : OneR := oneTail (l.drop (brackets l))
/-- The type that a text writes. -/
def parseM (l : List UInt8) : TyR :=
  if 2000 < l.length then ⟨0, [], 5⟩ else if (!(tail l).ok || !(tail l).rest.isEmpty) = true then ⟨0, [], 4⟩ else if 255 < brackets l then ⟨0, [], 5⟩ else ⟨brackets l, (tail l).name, 0⟩

theorem Cur.start (w : World) (l : List UInt8) (t : TypeId) : Cur (w.alloc (.cells #[.string (ba l), .bool false] t)) w.heap.size l false :=
  ⟨by rw [World.cell?_alloc_new]; rfl, by rw [World.cell?_alloc_new]; rfl, fun j => World.frozen?_alloc_new ..⟩
theorem env_alloc {w : World} (h : Lf.Env w) (o : Obj) : Lf.Env (w.alloc o) := h.below ((Below.refl _ _).alloc (Nat.le_refl _) _)
theorem env_pos {w : World} (h : Lf.Env w) : w.heap.size ≠ 0 := by
  obtain ⟨m, hm⟩ := h
  have := World.block_lt_of_cell? _ _ hm
  omega
theorem below_cur {w w' : World} {o : Obj} (h : Chg (fun k => k = w.heap.size) (w.alloc o) w') : Below w.heap.size w w' :=
  ((Below.refl _ _).alloc (Nat.le_refl _) o).trans (h.below (by simp) fun k hk e => by omega)

/-- A type's two cells in the result's block, among what is new. -/
structure Res (w wr : World) (d : Int) (nm : ByteArray) : Prop where
  dims : wr.cell? ⟨w.heap.size, 0, none⟩ = some (.int .i64 d)
  name : wr.cell? ⟨w.heap.size, 1, none⟩ = some (.string nm)
  thaw : ∀ j, wr.frozen? ⟨w.heap.size, j, none⟩ = false
  below : Below w.heap.size w wr
theorem Res.start (w : World) (t : TypeId) : Res w (w.alloc (.cells #[.int .i64 0, .string ⟨#[]⟩] t)) 0 ⟨#[]⟩ :=
  ⟨by rw [World.cell?_alloc_new]; rfl, by rw [World.cell?_alloc_new]; rfl, fun j => World.frozen?_alloc_new .., (Below.refl _ _).alloc (Nat.le_refl _) _⟩
theorem Res.lt {w wr : World} {d : Int} {nm : ByteArray} (h : Res w wr d nm) : w.heap.size < wr.heap.size := World.block_lt_of_cell? _ _ h.dims
theorem Res.chg {w wr w' : World} {d : Int} {nm : ByteArray} (h : Res w wr d nm) {b : Nat} (hc : Chg (fun k => k = b) wr w') (hb : w.heap.size < b) : Res w w' d nm :=
  ⟨hc.cell_eq h.dims (by simp; omega), hc.cell_eq h.name (by simp; omega), fun j => (hc.frozen (a := ⟨w.heap.size, j, none⟩) h.lt (by simp; omega)).trans (h.thaw j), h.below.trans (hc.below h.below.size fun k hk e => by omega)⟩
theorem Res.alloc {w wr : World} {d : Int} {nm : ByteArray} (h : Res w wr d nm) (o : Obj) : Res w (wr.alloc o) d nm := h.chg (b := w.heap.size + 1) ((Chg.refl _ _).alloc o) (by omega)
theorem Res.drew {w wr : World} {d : Int} {nm : ByteArray} (h : Res w wr d nm) : Res w wr.drew d nm := ⟨h.dims, h.name, h.thaw, h.below.drew⟩
theorem Res.drewN {w wr : World} {d : Int} {nm : ByteArray} (h : Res w wr d nm) (n : Nat) : Res w (wr.drewN n) d nm := ⟨h.dims, h.name, h.thaw, ⟨h.below.os, h.below.tape, h.below.output, h.below.size, h.below.block⟩⟩
theorem Res.set {w wr : World} {d : Int} {nm : ByteArray} (h : Res w wr d nm) (x : Int) (s : ByteArray) : Res w ((wr.setCell ⟨w.heap.size, 0, none⟩ (.int .i64 x)).setCell ⟨w.heap.size, 1, none⟩ (.string s)) x s :=
  ⟨by rw [setCell_off (by omega)]; exact setCell_same h.dims, setCell_same (by rw [setCell_off (by omega)]; exact h.name), fun j => by rw [World.frozen?_setCell, World.frozen?_setCell]; exact h.thaw j, (h.below.setCell (Nat.le_refl _) _).setCell (Nat.le_refl _) _⟩
theorem Res.below' {w wr w' : World} {d : Int} {nm : ByteArray} (h : Res w wr d nm) (hb : Below wr.heap.size wr w') : Res w w' d nm := h.chg (b := w.heap.size + 1) (Chg.of_below hb) (by omega)

theorem Parse (l : List UInt8) (w : World) (hl : l.length ≤ maxLen) (he : Lf.Env w) :
    Calls Tryz.prog 133 #[.string (ba l)] w fun e w' => e = .returned (.tuple #[.agg #[.int .i64 (parseM l).dims, .string (ba (parseM l).name)], .int .i64 (parseM l).err]) ∧ Below w.heap.size w w' := by
  unfold maxLen at hl
  have hz := ba_size l
  have HR := Lib.hid (Res.start w 155)
  have HE := Lib.hid (env_alloc he (.cells #[.int .i64 0, .string ⟨#[]⟩] 155))
  by_cases hb : 2000 < l.length
  · have hd : decide ((2000 : Int) < (l.length : Int)) = true := by simp; omega
    have F : Hid (parseM l = ⟨0, [], 5⟩) := Lib.hid (if_pos hb)
    go_enter Tryz.func133, Tryz.ntmps133
    go_wp2_with fail
    have HF := HR.out
    refine bodyPost_ret (Hi.results_cells_tmp rfl _ _ w.heap.size [.int .i64 0, .string ⟨#[]⟩] _ rfl (two HF.dims HF.name) Tryz.underlying155 rfl type_info) rfl ⟨by rw [F.out]; rfl, HF.below⟩
  · have hd : decide ((2000 : Int) < (l.length : Int)) = false := by simp; omega
    have HONE := Lib.hid (one (w.heap.size + 1) l false ((w.alloc (.cells #[.int .i64 0, .string ⟨#[]⟩] 155)).alloc (.cells #[.string (ba l), .bool false] 172)) (by have := Cur.start (w.alloc (.cells #[.int .i64 0, .string ⟨#[]⟩] 155)) l 172; simpa using this) (by omega) (env_alloc HE.out _) (by omega))
    have HP : Hid (parseM l = if (!(tail l).ok || !(tail l).rest.isEmpty) = true then ⟨0, [], 4⟩ else if 255 < brackets l then ⟨0, [], 5⟩ else ⟨brackets l, (tail l).name, 0⟩) := Lib.hid (if_neg hb)
    have HB : Hid (brackets l ≤ 2000) := Lib.hid (by have := brackets_le l; omega)
    go_enter Tryz.func133, Tryz.ntmps133
    go_wp2_with fail
    refine HONE.out.mono ?_
    rintro e w1 ⟨rfl, hcur, hchg⟩
    have HR1 := Lib.hid ((HR.out.alloc (.cells #[.string (ba l), .bool false] 172)).chg hchg (by omega))
    change Cur w1 (w.heap.size + 1) (tail l).rest (false || decide (255 < (brackets l : Int))) at hcur
    have e1 : (oneTail (l.drop (brackets l))) = tail l := rfl
    rw [e1]
    clear hchg HR HE e1
    generalize tail l = t at hcur HP
    generalize brackets l = d at hcur HP HB
    have hdd := HB.out
    have k3 := HR1.out.dims
    have k4 := HR1.out.name
    have k5 := HR1.out.thaw 0
    have k6 := HR1.out.thaw 1
    have k7 := hcur.rest
    have k8 := HR1.out.lt
    have k9 := hcur.lt
    have k10 := hcur.wide
    clear hcur
    obtain ⟨nm, ok, rest⟩ := t
    have HRA := Lib.hid (HR1.out.alloc (.cells #[.int .i64 d, .string (ba nm)] 155))
    obtain ⟨x, hx⟩ : ∃ x, (false || decide (255 < (d : Int))) = x := ⟨_, rfl⟩
    have HXE := Lib.hid hx
    rw [hx] at k10
    clear hx HRA
    cases ok
    · have F : Hid (parseM l = ⟨0, [], 4⟩) := Lib.hid (HP.out.trans (if_pos (by rfl)))
      go_wp2
      have HF := (HR1.out.set 0 ⟨#[]⟩).alloc (.cells #[.int .i64 d, .string (ba nm)] 155)
      exact bodyPost_ret (Hi.results_cells_tmp rfl _ _ w.heap.size [.int .i64 0, .string ⟨#[]⟩] _ rfl (two HF.dims HF.name) Tryz.underlying155 rfl type_info) rfl ⟨by rw [F.out]; rfl, HF.below⟩
    · cases hrr : rest.isEmpty
      · have e1 : (ba rest).toList.isEmpty = false := by rw [ba_toList]; exact hrr
        have e2 : (!(ba rest).toList.isEmpty) = true := by rw [e1]; rfl
        have F : Hid (parseM l = ⟨0, [], 4⟩) := Lib.hid (HP.out.trans (if_pos (by show (!true || !rest.isEmpty) = true; rw [hrr]; rfl)))
        go_wp2
        have HF := (HR1.out.set 0 ⟨#[]⟩).alloc (.cells #[.int .i64 d, .string (ba nm)] 155)
        exact bodyPost_ret (Hi.results_cells_tmp rfl _ _ w.heap.size [.int .i64 0, .string ⟨#[]⟩] _ rfl (two HF.dims HF.name) Tryz.underlying155 rfl type_info) rfl ⟨by rw [F.out]; rfl, HF.below⟩
      · have e1 : (ba rest).toList.isEmpty = true := by rw [ba_toList]; exact hrr
        have e2 : (!(ba rest).toList.isEmpty) = false := by rw [e1]; rfl
        have hno : ¬((!true || !rest.isEmpty) = true) := by rw [hrr]; simp
        cases x
        · have hd2 : ¬(255 < d) := by have := HXE.out; simp at this; omega
          have F : Hid (parseM l = ⟨d, nm, 0⟩) := Lib.hid ((HP.out.trans (if_neg hno)).trans (if_neg hd2))
          go_wp2
          have HF := (HR1.out.set d (ba nm)).alloc (.cells #[.int .i64 d, .string (ba nm)] 155)
          exact bodyPost_ret (Hi.results_cells_tmp rfl _ _ w.heap.size [.int .i64 d, .string (ba nm)] _ rfl (two HF.dims HF.name) Tryz.underlying155 rfl type_info) rfl ⟨by rw [F.out]; rfl, HF.below⟩
        · have hd2 : 255 < d := by have := HXE.out; simp at this; omega
          have F : Hid (parseM l = ⟨0, [], 5⟩) := Lib.hid ((HP.out.trans (if_neg hno)).trans (if_pos hd2))
          go_wp2
          have HF := (HR1.out.set 0 ⟨#[]⟩).alloc (.cells #[.int .i64 d, .string (ba nm)] 155)
          exact bodyPost_ret (Hi.results_cells_tmp rfl _ _ w.heap.size [.int .i64 0, .string ⟨#[]⟩] _ rfl (two HF.dims HF.name) Tryz.underlying155 rfl type_info) rfl ⟨by rw [F.out]; rfl, HF.below⟩
end Go.Proofs.YtipinmbpdgjalaaGreatDoor.Pr
/- Reading types: a reference's text. -/
set_option maxRecDepth 100000
set_option maxHeartbeats 1000000
set_option linter.unusedVariables false
set_option linter.unusedSimpArgs false
namespace Go.Proofs.YtipinmbpdgjalaaGreatDoor.Pr
open Go.RowKit Bs

/-- The class or array type that a reference's text writes. -/
def refTyM (l : List UInt8) : TyR := if l.head? = some 91 then parseM l else if 2000 < l.length then ⟨0, [], 5⟩ else if Lf.validB l = true then ⟨0, l, 0⟩ else ⟨0, [], 4⟩

theorem hasPrefix_one (l : List UInt8) (c : UInt8) : Lib.hasPrefix l [c] = decide (l.head? = some c) := by
  cases l with
  | nil => simp [Lib.hasPrefix]
  | cons x r =>
    show (c == x && List.isPrefixOf [] r) = _
    rw [Bool.eq_iff_iff]
    simp
    exact eq_comm

theorem HasPrefix_ba (l : List UInt8) (w : World) : Calls Tryz.prog 139 #[.string (ba l), .string ⟨#[91]⟩] w fun e w' => e = .returned (.bool (decide (l.head? = some 91))) ∧ w = w' := by
  refine (Tryz.strings_HasPrefix (ba l) ⟨#[91]⟩ w).mono ?_
  rintro e w' ⟨rfl, rfl⟩
  rw [ba_list]
  exact ⟨by rw [← hasPrefix_one], rfl⟩

theorem ParseRef (l : List UInt8) (w : World) (hl : l.length ≤ maxLen) (he : Lf.Env w) :
    Calls Tryz.prog 132 #[.string (ba l)] w fun e w' => e = .returned (.tuple #[.agg #[.int .i64 (refTyM l).dims, .string (ba (refTyM l).name)], .int .i64 (refTyM l).err]) ∧ Below w.heap.size w w' := by
  have HL := Lib.hid hl
  unfold maxLen at hl
  have hz := ba_size l
  have HR := Lib.hid (Res.start w 155)
  have HE := Lib.hid (env_alloc he (.cells #[.int .i64 0, .string ⟨#[]⟩] 155))
  have h3 := HR.out.dims
  have h4 := HR.out.name
  by_cases hp : l.head? = some 91
  · have hd : decide (l.head? = some 91) = true := decide_eq_true hp
    have F : Hid (refTyM l = parseM l) := Lib.hid (if_pos hp)
    have HX := Lib.hid (Parse l _ HL.out HE.out)
    generalize parseM l = p at F HX
    clear hp
    go_enter Tryz.func132, Tryz.ntmps132
    go_wp2_with fail
    refine (HasPrefix_ba l _).mono ?_
    rintro e _ ⟨rfl, rfl⟩
    rw [hd]
    go_wp2_with fail
    refine HX.out.mono ?_
    rintro e w1 ⟨rfl, hb⟩
    have HR1 := Lib.hid (HR.out.below' hb)
    have k3 := HR1.out.dims
    have k4 := HR1.out.name
    have k5 := HR1.out.thaw 0
    have k6 := HR1.out.thaw 1
    go_wp2
    have HF := HR1.out.set p.dims (ba p.name)
    exact bodyPost_ret (Hi.results_cells_tmp rfl _ _ w.heap.size [.int .i64 p.dims, .string (ba p.name)] _ rfl (two HF.dims HF.name) Tryz.underlying155 rfl type_info) rfl ⟨by rw [F.out]; rfl, HF.below⟩
  · have hd : decide (l.head? = some 91) = false := decide_eq_false hp
    have F0 : Hid (refTyM l = if 2000 < l.length then ⟨0, [], 5⟩ else if Lf.validB l = true then ⟨0, l, 0⟩ else ⟨0, [], 4⟩) := Lib.hid (if_neg hp)
    clear hp
    by_cases hb : 2000 < l.length
    · have hd2 : decide ((2000 : Int) < (l.length : Int)) = true := by simp; omega
      have F : Hid (refTyM l = ⟨0, [], 5⟩) := Lib.hid (F0.out.trans (if_pos hb))
      go_enter Tryz.func132, Tryz.ntmps132
      go_wp2_with fail
      refine (HasPrefix_ba l _).mono ?_
      rintro e _ ⟨rfl, rfl⟩
      rw [hd]
      go_wp2
      have HF := HR.out
      exact bodyPost_ret (Hi.results_cells_tmp rfl _ _ w.heap.size [.int .i64 0, .string ⟨#[]⟩] _ rfl (two HF.dims HF.name) Tryz.underlying155 rfl type_info) rfl ⟨by rw [F.out]; rfl, HF.below⟩
    · have hd2 : decide ((2000 : Int) < (l.length : Int)) = false := by simp; omega
      cases hv : Lf.validB l
      all_goals
        have HV := Lib.hid (Valid_ba l _ (by omega) HE.out)
        rw [hv] at HV
        go_enter Tryz.func132, Tryz.ntmps132
        go_wp2_with fail
        refine (HasPrefix_ba l _).mono ?_
        rintro e _ ⟨rfl, rfl⟩
        rw [hd]
        go_wp2_with fail
        refine HV.out.mono ?_
        rintro e w1 ⟨rfl, hb1⟩
        have HR1 := Lib.hid (HR.out.below' hb1)
        have k3 := HR1.out.dims
        have k4 := HR1.out.name
        have k5 := HR1.out.thaw 0
        have k6 := HR1.out.thaw 1
        clear hb1
        go_wp2
      · have F : Hid (refTyM l = ⟨0, [], 4⟩) := Lib.hid ((F0.out.trans (if_neg hb)).trans (if_neg (by rw [hv]; simp)))
        have HF := HR1.out.set 0 ⟨#[]⟩
        exact bodyPost_ret (Hi.results_cells_tmp rfl _ _ w.heap.size [.int .i64 0, .string ⟨#[]⟩] _ rfl (two HF.dims HF.name) Tryz.underlying155 rfl type_info) rfl ⟨by rw [F.out]; rfl, HF.below⟩
      · have F : Hid (refTyM l = ⟨0, l, 0⟩) := Lib.hid ((F0.out.trans (if_neg hb)).trans (if_pos hv))
        have HF := HR1.out.set 0 (ba l)
        exact bodyPost_ret (Hi.results_cells_tmp rfl _ _ w.heap.size [.int .i64 0, .string (ba l)] _ rfl (two HF.dims HF.name) Tryz.underlying155 rfl type_info) rfl ⟨by rw [F.out]; rfl, HF.below⟩
end Go.Proofs.YtipinmbpdgjalaaGreatDoor.Pr
/- Reading types: a descriptor: what stands in memory while it is read. -/
set_option maxRecDepth 100000
set_option maxHeartbeats 1000000
set_option linter.unusedVariables false
set_option linter.unusedSimpArgs false
namespace Go.Proofs.YtipinmbpdgjalaaGreatDoor.Pr
open Go.RowKit Bs

/-- The arguments of a descriptor, behind the bracket: do they end, what is left, how many, was one too wide? -/
structure ArgR where
  ok : Bool
  rest : List UInt8
  n : Nat
  wide : Bool
def argsM : Nat → List UInt8 → Nat → Bool → ArgR
  | 0, l, n, wide => ⟨false, l, n, wide⟩
  | f + 1, l, n, wide =>
    if l.head? = some 41 then ⟨true, l.drop 1, n, wide⟩
    else if (tail l).ok = true then argsM f (tail l).rest (n + 1) (wide || decide (255 < (brackets l : Int))) else ⟨false, (tail l).rest, n + 1, wide || decide (255 < (brackets l : Int))⟩

/-- What a descriptor's reading answers: how many arguments, nothing back?, the type back, an error. -/
structure DescR where
  n : Nat
  void : Bool
  rd : Int
  rn : List UInt8
  err : Int
def descEnd (ok : Bool) (l : List UInt8) (n : Nat) (wide void : Bool) (rd : Int) (rn : List UInt8) : DescR :=
  if (!ok || !l.isEmpty) = true then ⟨0, false, 0, [], 4⟩ else if (wide || decide (20 < (n : Int))) = true then ⟨0, false, 0, [], 5⟩ else ⟨n, void, rd, rn, 0⟩
/-- The descriptor that a text writes. -/
def descM (l : List UInt8) : DescR :=
  if 2000 < l.length then ⟨0, false, 0, [], 5⟩
  else if l.head? = some 40 then
    let a := argsM l.length (l.drop 1) 0 false
    if a.ok = true then
      if a.rest.head? = some 86 then descEnd true (a.rest.drop 1) a.n a.wide true 0 []
      else descEnd (tail a.rest).ok (tail a.rest).rest a.n (a.wide || decide (255 < (brackets a.rest : Int))) false (brackets a.rest) (tail a.rest).name
    else descEnd false a.rest a.n a.wide false 0 []
  else descEnd false l 0 false false 0 []

/-- While a descriptor is read. -/
structure DS (w wr : World) (l : List UInt8) (wide : Bool) (n : Nat) (v : Bool) (rd : Int) (rn : ByteArray) : Prop where
  cur : Cur wr (w.heap.size + 1) l wide
  r0 : wr.cell? ⟨w.heap.size, 0, none⟩ = some (.slice none 0 0)
  r1 : wr.cell? ⟨w.heap.size, 1, none⟩ = some (.bool false)
  r2 : wr.cell? ⟨w.heap.size, 2, none⟩ = some (.int .i64 0)
  r3 : wr.cell? ⟨w.heap.size, 3, none⟩ = some (.string ⟨#[]⟩)
  rth : ∀ j, wr.frozen? ⟨w.heap.size, j, none⟩ = false
  row : ∃ a c xs, wr.cell? ⟨w.heap.size + 1 + 1, 0, none⟩ = some (.slice a n c) ∧ wr.ownsRow (w.heap.size + 3) 155 2 (.slice a n c) n xs
  d1 : wr.cell? ⟨w.heap.size + 1 + 1, 1, none⟩ = some (.bool v)
  d2 : wr.cell? ⟨w.heap.size + 1 + 1, 2, none⟩ = some (.int .i64 rd)
  d3 : wr.cell? ⟨w.heap.size + 1 + 1, 3, none⟩ = some (.string rn)
  dth : ∀ j, wr.frozen? ⟨w.heap.size + 1 + 1, j, none⟩ = false
  below : Below w.heap.size w wr

variable {w wr w' : World} {l : List UInt8} {wide : Bool} {n : Nat} {v : Bool} {rd : Int} {rn : ByteArray}

theorem DS.lt (h : DS w wr l wide n v rd rn) : w.heap.size + 1 + 1 < wr.heap.size := World.block_lt_of_cell? _ _ h.d1

/-- Only the cursor turns, and what is new. -/
theorem DS.chg (h : DS w wr l wide n v rd rn) {l' : List UInt8} {wide' : Bool} (hc : Chg (fun k => k = w.heap.size + 1) wr w') (hcur : Cur w' (w.heap.size + 1) l' wide') : DS w w' l' wide' n v rd rn := by
  have hl := h.lt
  have cel : ∀ {b j : Nat} {x : Value}, b ≠ w.heap.size + 1 → wr.cell? ⟨b, j, none⟩ = some x → w'.cell? ⟨b, j, none⟩ = some x := fun hb hx => hc.cell_eq hx (fun e => hb e)
  have fr : ∀ {b j : Nat}, b < wr.heap.size → b ≠ w.heap.size + 1 → w'.frozen? ⟨b, j, none⟩ = wr.frozen? ⟨b, j, none⟩ := fun {b j} h1 h2 => hc.frozen (a := ⟨b, j, none⟩) h1 (fun e => h2 e)
  refine ⟨hcur, cel (by omega) h.r0, cel (by omega) h.r1, cel (by omega) h.r2, cel (by omega) h.r3, fun j => (fr (by omega) (by omega)).trans (h.rth j), ?_, cel (by omega) h.d1, cel (by omega) h.d2, cel (by omega) h.d3, fun j => (fr hl (by omega)).trans (h.dth j), h.below.trans (hc.below h.below.size fun k hk e => by omega)⟩
  obtain ⟨a, c, xs, h1, h2⟩ := h.row
  refine ⟨a, c, xs, cel (by omega) h1, Hi.row_of_block h2 fun k hk => ?_⟩
  obtain ⟨e1, e2⟩ := h2.lt k hk
  exact hc.block k e2 (by omega)
theorem DS.alloc (h : DS w wr l wide n v rd rn) (o : Obj) : DS w (wr.alloc o) l wide n v rd rn :=
  h.chg ((Chg.refl _ _).alloc o) (h.cur.block (Below.heap_alloc _ _ _ h.cur.lt))
theorem DS.drew (h : DS w wr l wide n v rd rn) : DS w wr.drew l wide n v rd rn := h.chg (Chg.refl _ _).drew ⟨h.cur.rest, h.cur.wide, h.cur.thaw⟩
theorem DS.setRest (h : DS w wr l wide n v rd rn) (r : List UInt8) : DS w (wr.setCell ⟨w.heap.size + 1, 0, none⟩ (.string (ba r))) r wide n v rd rn :=
  h.chg ((Chg.refl (fun k => k = w.heap.size + 1) wr).setCell (a := ⟨w.heap.size + 1, 0, none⟩) (.inr rfl) _) (h.cur.setRest r)
/-- One argument more. -/
theorem DS.append (h : DS w wr l wide n v rd rn) {w1 : World} {a0 a1 : Option Addr} {c0 c1 : Nat} {xs : List Value} (h0 : wr.cell? ⟨w.heap.size + 1 + 1, 0, none⟩ = some (.slice a0 n c0)) (hb0 : ∀ g, (Value.slice a0 n c0).ownBlock = some g → w.heap.size + 3 ≤ g)
    (hg : wr.grownBy w1 (Value.slice a0 n c0).ownBlock) (hown : w1.ownsRow (w.heap.size + 3) 155 2 (.slice a1 (n + 1) c1) (n + 1) xs) : DS w (w1.setCell ⟨w.heap.size + 1 + 1, 0, none⟩ (.slice a1 (n + 1) c1)) l wide (n + 1) v rd rn := by
  have hl := h.lt
  have hb : ∀ k, k < w.heap.size + 3 → w1.heap[k]? = wr.heap[k]? := fun k hk => hg.block k (by omega) fun e => by have := hb0 k e.symm; omega
  have cel : ∀ {b j : Nat} {y : Value}, b < w.heap.size + 3 → wr.cell? ⟨b, j, none⟩ = some y → w1.cell? ⟨b, j, none⟩ = some y := fun {b j y} h1 h2 => (World.cell?_of_block (w := wr) (a := ⟨b, j, none⟩) (hb b h1)).trans h2
  have fr : ∀ {b j : Nat}, b < w.heap.size + 3 → w1.frozen? ⟨b, j, none⟩ = wr.frozen? ⟨b, j, none⟩ := fun {b j} h1 => World.frozen?_of_block (w := wr) (a := ⟨b, j, none⟩) (hb b h1)
  have hcur := h.cur.block (hb (w.heap.size + 1) (by omega))
  refine ⟨hcur.block (Below.heap_setCell _ _ _ _ (by simp)), ?_, ?_, ?_, ?_, fun j => by rw [World.frozen?_setCell, fr (by omega)]; exact h.rth j, ⟨a1, c1, xs, setCell_same (cel (by omega) h0), ownsRow_setCell_below hown (by simp) _⟩, ?_, ?_, ?_, fun j => by rw [World.frozen?_setCell, fr (by omega)]; exact h.dth j, ?_⟩
  · rw [setCell_off (by omega)]; exact cel (by omega) h.r0
  · rw [setCell_off (by omega)]; exact cel (by omega) h.r1
  · rw [setCell_off (by omega)]; exact cel (by omega) h.r2
  · rw [setCell_off (by omega)]; exact cel (by omega) h.r3
  · rw [setCell_off (by omega)]; exact cel (by omega) h.d1
  · rw [setCell_off (by omega)]; exact cel (by omega) h.d2
  · rw [setCell_off (by omega)]; exact cel (by omega) h.d3
  · exact (h.below.grown hg h.below.size fun k hk => by have := hb0 k hk; omega).setCell (by simp; omega) _
theorem DS.setD (h : DS w wr l wide n v rd rn) (x : Bool) : DS w (wr.setCell ⟨w.heap.size + 1 + 1, 1, none⟩ (.bool x)) l wide n x rd rn := by
  have cel : ∀ {b j : Nat} {y : Value}, (b ≠ w.heap.size + 1 + 1 ∨ j ≠ 1) → wr.cell? ⟨b, j, none⟩ = some y → (wr.setCell ⟨w.heap.size + 1 + 1, 1, none⟩ (.bool x)).cell? ⟨b, j, none⟩ = some y := fun h1 h2 => by rw [setCell_off (by omega)]; exact h2
  obtain ⟨a, c, xs, h1, h2⟩ := h.row
  exact ⟨h.cur.block (Below.heap_setCell _ _ _ _ (by simp)), cel (by omega) h.r0, cel (by omega) h.r1, cel (by omega) h.r2, cel (by omega) h.r3, fun j => by rw [World.frozen?_setCell]; exact h.rth j, ⟨a, c, xs, cel (by omega) h1, ownsRow_setCell_below h2 (by simp) _⟩, setCell_same h.d1, cel (by omega) h.d2, cel (by omega) h.d3, fun j => by rw [World.frozen?_setCell]; exact h.dth j, h.below.setCell (by simp; omega) _⟩
theorem DS.setRet (h : DS w wr l wide n v rd rn) (x : Int) (s : ByteArray) : DS w ((wr.setCell ⟨w.heap.size + 1 + 1, 2, none⟩ (.int .i64 x)).setCell ⟨w.heap.size + 1 + 1, 3, none⟩ (.string s)) l wide n v x s := by
  have cel : ∀ {b j : Nat} {y : Value}, (b ≠ w.heap.size + 1 + 1 ∨ (j ≠ 2 ∧ j ≠ 3)) → wr.cell? ⟨b, j, none⟩ = some y → ((wr.setCell ⟨w.heap.size + 1 + 1, 2, none⟩ (.int .i64 x)).setCell ⟨w.heap.size + 1 + 1, 3, none⟩ (.string s)).cell? ⟨b, j, none⟩ = some y := fun h1 h2 => by rw [setCell_off (by omega), setCell_off (by omega)]; exact h2
  obtain ⟨a, c, xs, h1, h2⟩ := h.row
  exact ⟨(h.cur.block (Below.heap_setCell _ _ _ _ (by simp))).block (Below.heap_setCell _ _ _ _ (by simp)), cel (by omega) h.r0, cel (by omega) h.r1, cel (by omega) h.r2, cel (by omega) h.r3, fun j => by rw [World.frozen?_setCell, World.frozen?_setCell]; exact h.rth j, ⟨a, c, xs, cel (by omega) h1, ownsRow_setCell_below (ownsRow_setCell_below h2 (by simp) _) (by simp) _⟩, cel (by omega) h.d1, by rw [setCell_off (by omega)]; exact setCell_same h.d2, setCell_same (by rw [setCell_off (by omega)]; exact h.d3), fun j => by rw [World.frozen?_setCell, World.frozen?_setCell]; exact h.dth j, (h.below.setCell (by simp; omega) _).setCell (by simp; omega) _⟩

theorem set4 {w : World} {g : Nat} {v0 v1 v2 v3 u0 u1 u2 u3 : Value} (h0 : w.cell? ⟨g, 0, none⟩ = some u0) (h1 : w.cell? ⟨g, 1, none⟩ = some u1) (h2 : w.cell? ⟨g, 2, none⟩ = some u2) (h3 : w.cell? ⟨g, 3, none⟩ = some u3) :
    ∀ j (h : j < [v0, v1, v2, v3].length), ((((w.setCell ⟨g, 0, none⟩ v0).setCell ⟨g, 1, none⟩ v1).setCell ⟨g, 2, none⟩ v2).setCell ⟨g, 3, none⟩ v3).cell? ⟨g, j, none⟩ = some [v0, v1, v2, v3][j]
  | 0, _ => by
    show ((((w.setCell ⟨g, 0, none⟩ v0).setCell ⟨g, 1, none⟩ v1).setCell ⟨g, 2, none⟩ v2).setCell ⟨g, 3, none⟩ v3).cell? ⟨g, 0, none⟩ = some v0
    rw [setCell_off (by omega), setCell_off (by omega), setCell_off (by omega)]
    refine setCell_same (u := u0) ?_
    exact h0
  | 1, _ => by
    show ((((w.setCell ⟨g, 0, none⟩ v0).setCell ⟨g, 1, none⟩ v1).setCell ⟨g, 2, none⟩ v2).setCell ⟨g, 3, none⟩ v3).cell? ⟨g, 1, none⟩ = some v1
    rw [setCell_off (by omega), setCell_off (by omega)]
    refine setCell_same (u := u1) ?_
    rw [setCell_off (by omega)]
    exact h1
  | 2, _ => by
    show ((((w.setCell ⟨g, 0, none⟩ v0).setCell ⟨g, 1, none⟩ v1).setCell ⟨g, 2, none⟩ v2).setCell ⟨g, 3, none⟩ v3).cell? ⟨g, 2, none⟩ = some v2
    rw [setCell_off (by omega)]
    refine setCell_same (u := u2) ?_
    rw [setCell_off (by omega), setCell_off (by omega)]
    exact h2
  | 3, _ => by
    show ((((w.setCell ⟨g, 0, none⟩ v0).setCell ⟨g, 1, none⟩ v1).setCell ⟨g, 2, none⟩ v2).setCell ⟨g, 3, none⟩ v3).cell? ⟨g, 3, none⟩ = some v3
    refine setCell_same (u := u3) ?_
    rw [setCell_off (by omega), setCell_off (by omega), setCell_off (by omega)]
    exact h3

theorem desc_info : (Tryz.prog.info? 157).map (·.size) = some 4 := by kernel_rfl
/-- What ParseDesc comes to. -/
def DescPost (r : DescR) (w : World) (e : Ending) (w' : World) : Prop :=
  (∃ a c, e = .returned (.tuple #[.agg #[.slice a r.n c, .bool r.void, .int .i64 r.rd, .string (ba r.rn)], .int .i64 r.err])) ∧ Below w.heap.size w w'
theorem DS.put {w wr : World} {l : List UInt8} {wide : Bool} {n : Nat} {v : Bool} {rd : Int} {rn : ByteArray} (h : DS w wr l wide n v rd rn) (v0 v1 v2 v3 : Value) :
    (∀ j (h : j < [v0, v1, v2, v3].length), ((((wr.setCell ⟨w.heap.size, 0, none⟩ v0).setCell ⟨w.heap.size, 1, none⟩ v1).setCell ⟨w.heap.size, 2, none⟩ v2).setCell ⟨w.heap.size, 3, none⟩ v3).cell? ⟨w.heap.size, j, none⟩ = some [v0, v1, v2, v3][j]) ∧
      Below w.heap.size w ((((wr.setCell ⟨w.heap.size, 0, none⟩ v0).setCell ⟨w.heap.size, 1, none⟩ v1).setCell ⟨w.heap.size, 2, none⟩ v2).setCell ⟨w.heap.size, 3, none⟩ v3) :=
  ⟨set4 h.r0 h.r1 h.r2 h.r3, (((h.below.setCell (Nat.le_refl _) _).setCell (Nat.le_refl _) _).setCell (Nat.le_refl _) _).setCell (Nat.le_refl _) _⟩

/-- The three blocks of ParseDesc. -/
def descObjs (l : List UInt8) : List Obj :=
  [.cells #[.slice none 0 0, .bool false, .int .i64 0, .string ⟨#[]⟩] 157, .cells #[.string (ba l), .bool false] 172, .cells #[.slice none 0 0, .bool false, .int .i64 0, .string ⟨#[]⟩] 157]
theorem DS.start (w : World) (l : List UInt8) : DS w (Hi.allocs w (descObjs l)) l false 0 false 0 ⟨#[]⟩ := by
  have h0 := Hi.allocs_at (descObjs l) w 0 (by simp [descObjs])
  have h1 := Hi.allocs_at (descObjs l) w 1 (by simp [descObjs])
  have h2 := Hi.allocs_at (descObjs l) w 2 (by simp [descObjs])
  simp only [descObjs, List.getElem_cons_zero, List.getElem_cons_succ, Nat.add_zero] at h0 h1 h2
  rw [show w.heap.size + 2 = w.heap.size + 1 + 1 by omega] at h2
  refine ⟨⟨?_, ?_, fun j => ?_⟩, ?_, ?_, ?_, ?_, fun j => ?_, ⟨none, 0, [], ?_, World.ownsRow_nil _ _ _ _⟩, ?_, ?_, ?_, fun j => ?_, Hi.allocs_below _ _⟩
  all_goals first | (simp [World.cell?, descObjs, h0, h1, h2]; done) | (simp [World.frozen?, descObjs, h0, h1, h2]; done)
end Go.Proofs.YtipinmbpdgjalaaGreatDoor.Pr
