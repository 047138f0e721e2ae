/- maxspec.Max: its function values. -/
import Derived.Test.YtipinmbpdgjalaaGreatDoorMK
import Derived.Lib.SliceRun
set_option maxRecDepth 100000
set_option maxHeartbeats 1000000
set_option linter.unusedVariables false
set_option linter.unusedSimpArgs false
namespace Go.Proofs.YtipinmbpdgjalaaGreatDoor.Hi
open Go.RowKit Bs

/-- Does another stand below it? -/
def hidE (m : List EntM) (p o : Int × Int) : Bool := o.1 != p.1 && extM m o.1 p.1
def hidM (m : List EntM) (all : List (Int × Int)) (p : Int × Int) : Bool := all.any (hidE m p)
def maxL (m : List EntM) (all : List (Int × Int)) : List (Int × Int) := all.filter fun p => !hidM m all p
def maxM (m : List EntM) (c : Nat) (n d : ByteArray) : List (Int × Int) := maxL m (candM m c n d)
def idV (p : Int × Int) : Value := .agg #[.int .i64 p.1, .int .i64 p.2]

theorem Max11 {B bw : Nat} {w0 w : World} {m : List EntM} (h : Built B bw w0 w m) {qm qw : Nat} (p o : Int × Int) (hw : w.cell? ⟨qw, 0, none⟩ = some (.pointer (some ⟨bw, 0, none⟩))) (hm0 : w.cell? ⟨qm, 0, none⟩ = some (.int .i64 p.1)) :
    Calls Tryz.prog 97 #[idV o, .pointer (some ⟨qm, 0, none⟩), .pointer (some ⟨qw, 0, none⟩)] w fun r w' => r = .returned (.bool (hidE m p o)) ∧ Below w.heap.size w w' := by
  have hba : Below w.heap.size w (w.alloc (.cells #[.int .i64 o.1, .int .i64 o.2] 38)) := (Below.refl _ _).alloc (Nat.le_refl _) _
  have HEX := Lib.hid ((h.next hba).extends o.1 p.1)
  have g0 := alloc_old (x := .cells #[.int .i64 o.1, .int .i64 o.2] 38) hw
  have g1 := alloc_old (x := .cells #[.int .i64 o.1, .int .i64 o.2] 38) hm0
  have HBA := Lib.hid hba
  unfold hidE idV
  obtain ⟨x, hx⟩ : ∃ x, extM m o.1 p.1 = x := ⟨_, rfl⟩
  rw [hx] at HEX ⊢
  clear h hw hm0 hba hx
  generalize o.1 = oc at *
  generalize p.1 = pc at *
  by_cases he : oc = pc
  · have hq : (oc != pc) = false := by simpa using he
    rw [hq]
    clear he HEX
    go_enter Tryz.func97, Tryz.ntmps97
    go_wp2
    go_ret
    exact ⟨rfl, HBA.out⟩
  · have hq : (oc != pc) = true := by simpa using he
    rw [hq]
    clear he
    go_enter Tryz.func97, Tryz.ntmps97
    go_wp2_with fail
    refine HEX.out.mono ?_
    rintro e w1 ⟨rfl, hb⟩
    have HB := Lib.hid (HBA.out.trans (hb.mono HBA.out.size))
    clear hb HEX
    go_wp2
    go_ret
    exact ⟨by simp, HB.out⟩

/-- The place of the first that has a property, or -1. -/
def idxIds (pr : Int × Int → Bool) (xs : List (Int × Int)) : Int := match xs.findIdx? pr with | some i => (i : Int) | none => -1

theorem IndexIds {w : World} {a : Option Addr} {cap : Nat} {xs : List (Int × Int)} (pr : Int × Int → Bool) (f : Nat) (caps : Array Value) (hfn : f = 97 ∨ f = 65) (hm : IdSl (fun b => b < w.heap.size) w (.slice a xs.length cap) xs)
    (hf : ∀ wr, Below w.heap.size w wr → ∀ k (hk : k < xs.length), Calls Tryz.prog f (#[idV xs[k]] ++ caps) wr fun r w' => r = .returned (.bool (pr xs[k])) ∧ Below wr.heap.size wr w') :
    Calls Tryz.prog 92 #[.slice a xs.length cap, .func (.func f) #[] caps] w fun e w' => e = .returned (.int .i64 (idxIds pr xs)) ∧ Below w.heap.size w w' := by
  have HM := Lib.hid hm
  have HF := Lib.hid hf
  have hby : xs.length * 16 ≤ 140737488355328 := by obtain ⟨_, _, _, _, h, _⟩ := hm; exact h
  clear hm hf
  rcases hfn with rfl | rfl
  all_goals
    go_enter Tryz.func92, Tryz.ntmps92
    go_wp2_with fail
    go_loopg [5, 8] xs.length (fun gk _ u wr => ∃ k : Nat, Hid (k + gk = xs.length ∧ ∀ j (h : j < xs.length), j < k → pr xs[j] = false) ∧ u = .int .i64 k ∧ Hid (Below w.heap.size w wr))
    case atStart => exact ⟨0, Lib.hid ⟨Nat.zero_add _, fun j h hj => by omega⟩, rfl, Lib.hid (Below.refl _ _)⟩
    case round =>
      obtain ⟨k, hk, rfl, hB⟩ := hrel
      by_cases hlt : k < xs.length
      · have hlt' : (k : Int) < (xs.length : Int) := by omega
        obtain ⟨b, o, rfl, g0, g1⟩ := IdSl.elem (HM.out.alike (Alike.of_below hB.out fun _ h => h)) hlt
        have HHIT : Hid (pr xs[k] = true → idxIds pr xs = (k : Int)) := Lib.hid fun h => by
          unfold idxIds
          rw [List.findIdx?_eq_some_iff_getElem.2 ⟨hlt, h, fun j hj => by simp [hk.out.2 j (by omega) hj]⟩]
        have HNEXT : Hid (pr xs[k] = false → ∀ j (h : j < xs.length), j < k + 1 → pr xs[j] = false) := Lib.hid fun h j hj hjk => by
          by_cases e : j = k
          · subst e; exact h
          · exact hk.out.2 j hj (by omega)
        have HC := Lib.hid (HF.out wr hB.out k hlt)
        generalize pr xs[k] = hit at HHIT HNEXT HC
        unfold idV at HC
        generalize xs[k] = x at g0 g1 HC
        go_wp2_with fail
        refine HC.out.mono ?_
        rintro e w1 ⟨rfl, hb1⟩
        have HB1 : Hid (Below w.heap.size w w1) := Lib.hid (hB.out.trans (hb1.mono hB.out.size))
        clear hb1 g0 g1
        cases hit
        · have G := Lib.hid (HNEXT.out rfl)
          go_wp2
          go_roundg (xs.length - (k + 1))
          case measure => have := hk.out.1; omega
          case rel => exact ⟨k + 1, Lib.hid ⟨by omega, G.out⟩, by go_num, HB1⟩
        · have G := Lib.hid (HHIT.out rfl)
          go_wp2
          go_ret
          exact ⟨by rw [G.out]; rfl, HB1.out⟩
      · have F : Hid (idxIds pr xs = -1) := Lib.hid (by
          unfold idxIds
          rw [List.findIdx?_eq_none_iff.2 (fun x hx => by
            obtain ⟨j, hj, rfl⟩ := List.getElem_of_mem hx
            exact hk.out.2 j hj (by omega))])
        go_wp2
        go_ret
        exact ⟨by rw [F.out]; rfl, hB.out⟩

theorem idx_any (pr : Int × Int → Bool) (xs : List (Int × Int)) : decide (0 ≤ idxIds pr xs) = xs.any pr := by
  unfold idxIds
  cases h : xs.findIdx? pr with
  | some i =>
    have : xs.any pr = true := by
      obtain ⟨hi, h1, _⟩ := List.findIdx?_eq_some_iff_getElem.1 h
      exact List.any_eq_true.2 ⟨_, List.getElem_mem hi, h1⟩
    rw [this]
    exact decide_eq_true (by simp)
  | none =>
    have : xs.any pr = false := by
      rw [List.any_eq_false]
      intro x hx
      simpa using List.findIdx?_eq_none_iff.1 h x hx
    rw [this]
    exact decide_eq_false (by simp)

theorem ContIds {w : World} {a : Option Addr} {cap : Nat} {xs : List (Int × Int)} (pr : Int × Int → Bool) (f : Nat) (caps : Array Value) (hfn : f = 97 ∨ f = 65) (hm : IdSl (fun b => b < w.heap.size) w (.slice a xs.length cap) xs)
    (hf : ∀ wr, Below w.heap.size w wr → ∀ k (hk : k < xs.length), Calls Tryz.prog f (#[idV xs[k]] ++ caps) wr fun r w' => r = .returned (.bool (pr xs[k])) ∧ Below wr.heap.size wr w') :
    Calls Tryz.prog 81 #[.slice a xs.length cap, .func (.func f) #[] caps] w fun e w' => e = .returned (.bool (xs.any pr)) ∧ Below w.heap.size w w' := by
  have HI := Lib.hid (IndexIds pr f caps hfn hm hf)
  rw [← idx_any]
  generalize idxIds pr xs = r at HI
  clear hm hf hfn
  go_enter Tryz.func81, Tryz.ntmps81
  go_wp2_with fail
  refine HI.out.mono ?_
  rintro e w1 ⟨rfl, hb⟩
  have HB := Lib.hid hb
  clear hb HI
  go_wp2
  go_ret
  exact ⟨rfl, HB.out⟩

theorem Max1 {B bw : Nat} {w0 w : World} {m : List EntM} (h : Built B bw w0 w m) {qa qw : Nat} {a : Option Addr} {cap : Nat} {all : List (Int × Int)} (p : Int × Int) (ha : w.cell? ⟨qa, 0, none⟩ = some (.slice a all.length cap)) (hl : IdSl (fun b => b < w.heap.size) w (.slice a all.length cap) all) (hw : w.cell? ⟨qw, 0, none⟩ = some (.pointer (some ⟨bw, 0, none⟩))) :
    Calls Tryz.prog 96 #[idV p, .pointer (some ⟨qa, 0, none⟩), .pointer (some ⟨qw, 0, none⟩)] w fun r w' => r = .returned (.bool (hidM m all p)) ∧ Below w.heap.size w w' := by
  have hba : Below w.heap.size w (w.alloc (.cells #[.int .i64 p.1, .int .i64 p.2] 38)) := (Below.refl _ _).alloc (Nat.le_refl _) _
  have hm0 : (w.alloc (.cells #[.int .i64 p.1, .int .i64 p.2] 38)).cell? ⟨w.heap.size, 0, none⟩ = some (.int .i64 p.1) := World.cell?_alloc_new ..
  have g0 := below_cell' hba ha
  have g1 := below_cell' hba hw
  have HC := Lib.hid (ContIds (hidE m p) 97 #[.pointer (some ⟨w.heap.size, 0, none⟩), .pointer (some ⟨qw, 0, none⟩)] (.inl rfl) (IdSl.next hl hba)
    (fun wr hb k hk => Max11 (h.next (hba.trans (hb.mono hba.size))) p all[k] (below_cell' hb g1) (below_cell' hb hm0)))
  have HBA := Lib.hid hba
  unfold idV
  show Calls _ _ _ _ fun r w' => r = .returned (.bool (all.any (hidE m p))) ∧ _
  clear h ha hl hw hba hm0
  go_enter Tryz.func96, Tryz.ntmps96
  go_wp2_with fail
  refine HC.out.mono ?_
  rintro e w1 ⟨rfl, hb⟩
  have HB := Lib.hid (HBA.out.trans (hb.mono HBA.out.size))
  clear hb HC
  go_wp2
  go_ret
  exact ⟨rfl, HB.out⟩
end Go.Proofs.YtipinmbpdgjalaaGreatDoor.Hi
/- maxspec.Max. -/
set_option maxRecDepth 100000
set_option maxHeartbeats 1000000
set_option linter.unusedVariables false
set_option linter.unusedSimpArgs false
namespace Go.Proofs.YtipinmbpdgjalaaGreatDoor.Hi
open Go.RowKit Bs

theorem cand_len {m : List EntM} (hw : WFm m) {c : Nat} (hc : c < m.length) (n d : ByteArray) : (candM m c n d).length ≤ 300 := by
  have h1 := List.length_filterMap_le (candAt m n d) (clo m c)
  have h2 := (clo_fits hw hc).2
  rw [← clo_at hc] at h2
  unfold candM
  omega
theorem ids_of_own {w : World} {B : Nat} {ad : Option Addr} {k : Nat} {L : List (Int × Int)} (h : w.ownsRow B 38 2 (.slice ad L.length k) L.length (L.map idCells).flatten) (hl : L.length ≤ 300) : IdSl (fun b => b < w.heap.size) w (.slice ad L.length k) L := by
  refine Sl.of_own h (css := L.map idCells) (by simp) rfl (fun cs hcs => ?_) (fun i hi => by simp [idCells, IdIs]) (by omega) _ (fun b hb => (own_live h hb).2)
  obtain ⟨p, _, rfl⟩ := List.mem_map.1 hcs
  rfl

theorem Max {B bw : Nat} {w0 w : World} {m : List EntM} (h : Built B bw w0 w m) {c : Nat} (hc : c < m.length) (n d : ByteArray) :
    Calls Tryz.prog 64 #[.pointer (some ⟨bw, 0, none⟩), .int .i64 c, .string n, .string d] w fun r w' => ∃ ad k, r = .returned (.tuple #[.slice ad (maxM m c n d).length k, .int .i64 0]) ∧ w'.ownsRow (w.heap.size + 1) 38 2 (.slice ad (maxM m c n d).length k) (maxM m c n d).length ((maxM m c n d).map idCells).flatten ∧ Below w.heap.size w w' := by
  have hba : Below w.heap.size w (w.alloc (.cells #[.pointer (some ⟨bw, 0, none⟩)] 28)) := (Below.refl _ _).alloc (Nat.le_refl _) _
  have HC := Lib.hid (Candidates (h.next hba) hc n d)
  have HLN := Lib.hid (cand_len h.wf hc n d)
  have HB0 := Lib.hid (h.next hba)
  have HBA := Lib.hid hba
  have HQ : Hid ((w.alloc (.cells #[.pointer (some ⟨bw, 0, none⟩)] 28)).cell? ⟨w.heap.size, 0, none⟩ = some (.pointer (some ⟨bw, 0, none⟩))) := Lib.hid (World.cell?_alloc_new w #[.pointer (some ⟨bw, 0, none⟩)] 28 0)
  unfold maxM
  clear h hba
  generalize candM m c n d = all at HC HLN ⊢
  go_enter Tryz.func64, Tryz.ntmps64
  go_wp2_with fail
  refine HC.out.mono ?_
  rintro _ w1 ⟨ad, k, rfl, hs, hb⟩
  have gw := below_cell' hb HQ.out
  have HZ : Hid (w.heap.size + 1 ≤ w1.heap.size) := Lib.hid (by have := hb.size; simpa using this)
  have HBB : Hid (Below w.heap.size w (w1.alloc (.cells #[.slice ad all.length k] 72))) := Lib.hid ((HBA.out.trans (hb.mono HBA.out.size)).alloc (by have := HZ.out; omega) _)
  have HAL : Below w1.heap.size w1 (w1.alloc (.cells #[.slice ad all.length k] 72)) := (Below.refl _ _).alloc (Nat.le_refl _) _
  have HB2 := Lib.hid ((HB0.out.next hb).next HAL)
  have HS2 := Lib.hid (IdSl.next hs HAL)
  have HGW := Lib.hid (below_cell' HAL gw)
  have HGA : Hid ((w1.alloc (.cells #[.slice ad all.length k] 72)).cell? ⟨w1.heap.size, 0, none⟩ = some (.slice ad all.length k)) := Lib.hid (World.cell?_alloc_new w1 #[.slice ad all.length k] 72 0)
  have HZ2 : Hid (w.heap.size + 1 ≤ (w1.alloc (.cells #[.slice ad all.length k] 72)).heap.size) := Lib.hid (by have := HZ.out; simp; omega)
  obtain ⟨i0, hi0, hiz0, hiz1, hiz2⟩ := info_parts info_id
  clear hs hb gw HQ HZ HBA HB0 HAL HC
  go_wp2_with fail
  generalize w1.alloc (.cells #[.slice ad all.length k] 72) = w2 at HBB HB2 HS2 HGW HGA HZ2
  generalize w1.heap.size = qa at HGA
  have hl300 := HLN.out
  go_loopg [13, 30] all.length (fun gk u uu wr => ∃ (k : Nat) (ps : List (Int × Int)), Hid (k + gk = all.length ∧ ps = (all.take k).filter fun p => !hidM m all p) ∧ uu = .int .i64 k ∧ Hid (wr.ownsRow w2.heap.size 38 2 u ps.length (ps.map idCells).flatten) ∧ Hid (Below w2.heap.size w2 wr))
  case atStart => exact ⟨0, [], Lib.hid ⟨Nat.zero_add _, by simp⟩, rfl, Lib.hid (World.ownsRow_nil _ _ _ _), Lib.hid (Below.refl _ _)⟩
  case round =>
    obtain ⟨j, ps, hk, rfl, hrow, HL⟩ := hrel
    obtain ⟨ra, rc, rfl⟩ := own_slice hrow.out
    by_cases hlt : j < all.length
    · have hlt' : (j : Int) < (all.length : Int) := by omega
      obtain ⟨b, o, rfl, g0, g1⟩ := IdSl.elem (IdSl.next HS2.out HL.out) hlt
      have HAW : Hid (Below wr.heap.size wr (wr.alloc (.cells #[.int .i64 all[j].1, .int .i64 all[j].2] 38))) := Lib.hid ((Below.refl _ _).alloc (Nat.le_refl _) _)
      have HLA : Hid (Below w2.heap.size w2 (wr.alloc (.cells #[.int .i64 all[j].1, .int .i64 all[j].2] 38))) := Lib.hid (HL.out.alloc HL.out.size _)
      have HID : Hid ((wr.alloc (.cells #[.int .i64 all[j].1, .int .i64 all[j].2] 38)).cell? ⟨wr.heap.size, 0, none⟩ = some (.int .i64 all[j].1) ∧ (wr.alloc (.cells #[.int .i64 all[j].1, .int .i64 all[j].2] 38)).cell? ⟨wr.heap.size, 1, none⟩ = some (.int .i64 all[j].2)) := Lib.hid ⟨World.cell?_alloc_new .., World.cell?_alloc_new ..⟩
      have hrowA := Lib.hid (hrow.out.alloc (.cells #[.int .i64 all[j].1, .int .i64 all[j].2] 38))
      have HM1 := Lib.hid (Max1 (HB2.out.next HLA.out) all[j] (below_cell' HLA.out HGA.out) (IdSl.next HS2.out HLA.out) (below_cell' HLA.out HGW.out))
      have HPS : Hid ((all.take (j + 1)).filter (fun p => !hidM m all p) = ps ++ (if hidM m all all[j] = true then [] else [all[j]])) := Lib.hid (by
        rw [List.take_succ_eq_append_getElem hlt, List.filter_append, ← hk.out.2]
        congr 1
        cases h : hidM m all all[j] <;> simp [h])
      have HPL : Hid (ps.length ≤ 300) := Lib.hid (by
        rw [hk.out.2]
        have h1 := List.length_filter_le (fun p => !hidM m all p) (all.take j)
        have h2 : (all.take j).length ≤ j := by simp; omega
        have := HLN.out
        omega)
      unfold idV at HM1
      generalize all[j] = p at g0 g1 HM1 HPS HLA HID hrowA HAW
      go_wp2_with fail
      refine HM1.out.mono ?_
      rintro e w3 ⟨rfl, hb⟩
      have HL3 : Hid (Below w2.heap.size w2 w3) := Lib.hid (HLA.out.trans (hb.mono HLA.out.size))
      have hrow3 := Lib.hid (row_of_block hrowA.out fun q hq => hb.block q (own_live hrowA.out hq).2)
      have k0 := below_cell' hb HID.out.1
      have k1 := below_cell' hb HID.out.2
      clear hb hrow HL HM1 g0 g1 hrowA HLA HAW HID
      generalize wr.heap.size = qm at k0 k1
      cases hh : hidM m all p
      · have HN : Hid ((all.take (j + 1)).filter (fun p => !hidM m all p) = ps ++ [p]) := Lib.hid (by rw [HPS.out, hh]; rfl)
        clear HPS hh
        have HNEW : Hid (∀ i u, ([.int .i64 p.1, .int .i64 p.2] : List Value)[i]? = some u → (w3.alloc (.cells #[.int .i64 p.1, .int .i64 p.2] 38)).cell? ((⟨w3.heap.size, 0, none⟩ : Addr).add i) = some u) := Lib.hid (by
          intro i u hu
          rw [show (⟨w3.heap.size, 0, none⟩ : Addr).add i = ⟨w3.heap.size, i, none⟩ by unfold Addr.add; split <;> simp_all]
          rw [World.cell?_alloc_new]
          rw [← Array.getElem?_toList]
          exact hu)
        have hz3 := HL3.out.size
        go_wp2_with (first | (at_builtin; refine wpList_append_own _ rfl _ _ 72 rfl w2.heap.size 38 i0 (.agg #[.int .i64 0, .int .i64 0]) 2 16 Tryz.underlying72 hi0 hiz0 hiz1 hiz2 rfl (by decide) (.slice ra ps.length rc) ps.length (ps.map idCells).flatten rfl (hrow3.out.alloc _) ⟨w3.heap.size, 0, none⟩ 1 1 [.int .i64 p.1, .int .i64 p.2] (by simp [Act.eval, Act.put]) rfl HNEW.out (by intro u hu; simp at hu; rcases hu with rfl | rfl <;> rfl) (by have := HPL.out; unfold maxLen; omega) (by have := HPL.out; omega) (by simp at hz3 ⊢; omega) ?_; intro v1 w6 hown1 hgrow1 hnil1; obtain ⟨g1', cap1, rfl⟩ := own_form hown1))
        have HL6 : Hid (Below w2.heap.size w2 w6) := Lib.hid ((HL3.out.alloc HL3.out.size _).grown hgrow1 (by simp at hz3 ⊢; omega) (fun q hq => (own_live hrow3.out hq).1))
        have HR6 : Hid (w6.ownsRow w2.heap.size 38 2 (.slice (some ⟨g1', 0, none⟩) (ps.length + 1) cap1) (ps ++ [p]).length ((ps ++ [p]).map idCells).flatten) := Lib.hid (by simpa [idCells] using hown1)
        go_roundg (all.length - (j + 1))
        case measure => have := hk.out.1; omega
        case rel => exact ⟨j + 1, _, Lib.hid ⟨by omega, HN.out.symm⟩, by go_num, by simpa using HR6, HL6⟩
      · have HN : Hid ((all.take (j + 1)).filter (fun p => !hidM m all p) = ps) := Lib.hid (by rw [HPS.out, hh]; simp)
        clear HPS hh
        go_wp2
        go_roundg (all.length - (j + 1))
        case measure => have := hk.out.1; omega
        case rel => exact ⟨j + 1, ps, Lib.hid ⟨by omega, HN.out.symm⟩, by go_num, hrow3, HL3⟩
    · have hkn : j = all.length := by have := hk.out.1; omega
      have HPS : Hid (ps = maxL m all) := Lib.hid (by rw [hk.out.2, hkn, List.take_length]; rfl)
      clear hkn
      go_wp2
      go_ret2
      have hp := HPS.out
      subst hp
      refine ⟨ra, rc, rfl, ?_, HBB.out.trans (HL.out.mono HBB.out.size)⟩
      obtain ⟨r1, r2⟩ := hrow.out
      refine ⟨r1, ?_⟩
      rcases r2 with r2 | ⟨g, cap, cur, e, r3, r4⟩
      · exact .inl r2
      · exact .inr ⟨g, cap, cur, e, by have := HZ2.out; omega, r4⟩
end Go.Proofs.YtipinmbpdgjalaaGreatDoor.Hi
/- Ids in memory, cell by cell. -/
set_option maxRecDepth 100000
set_option maxHeartbeats 1000000
set_option linter.unusedVariables false
set_option linter.unusedSimpArgs false
namespace Go.Proofs.YtipinmbpdgjalaaGreatDoor.Hi
open Go.RowKit Bs

/-- What stands in a row. -/
def Ids2 (w : World) (b : Nat) (xs : List (Int × Int)) : Prop := ∀ i (h : i < xs.length), w.cell? ⟨b, i * 2, none⟩ = some (.int .i64 xs[i].1) ∧ w.cell? ⟨b, i * 2 + 1, none⟩ = some (.int .i64 xs[i].2)
theorem Ids2.set {w : World} {b : Nat} {xs : List (Int × Int)} (h : Ids2 w b xs) {i : Nat} (hi : i < xs.length) (p : Int × Int) : Ids2 ((w.setCell ⟨b, i * 2, none⟩ (.int .i64 p.1)).setCell ⟨b, i * 2 + 1, none⟩ (.int .i64 p.2)) b (xs.set i p) := by
  intro j hj
  rw [List.length_set] at hj
  by_cases e : i = j
  · subst e
    simp only [List.getElem_set_self]
    refine ⟨?_, ?_⟩
    · rw [setCell_off (by omega)]
      exact setCell_same (h i hi).1
    · refine setCell_same (u := .int .i64 xs[i].2) ?_
      rw [setCell_off (by omega)]
      exact (h i hi).2
  · simp only [List.getElem_set_ne e]
    refine ⟨?_, ?_⟩
    · rw [setCell_off (by omega), setCell_off (by omega)]; exact (h j hj).1
    · rw [setCell_off (by omega), setCell_off (by omega)]; exact (h j hj).2
theorem Ids2.below {w w' : World} {B b : Nat} {xs : List (Int × Int)} (h : Ids2 w b xs) (hb : Below B w w') (hB : b < B) : Ids2 w' b xs := fun i hi =>
  ⟨(World.cell?_of_block (a := ⟨b, i * 2, none⟩) (hb.block b hB)).trans (h i hi).1, (World.cell?_of_block (a := ⟨b, i * 2 + 1, none⟩) (hb.block b hB)).trans (h i hi).2⟩
theorem Ids2.sl {w : World} {b cap : Nat} {xs : List (Int × Int)} (h : Ids2 w b xs) (hc : xs.length ≤ cap) (hl : xs.length ≤ 301) (hb : b < w.heap.size) : IdSl (fun b => b < w.heap.size) w (.slice (some ⟨b, 0, none⟩) xs.length cap) xs := by
  refine ⟨some ⟨b, 0, none⟩, cap, rfl, hc, by omega, .inr ⟨b, 0, rfl, hb, fun i hi => ⟨[.int .i64 xs[i].1, .int .i64 xs[i].2], rfl, fun j hj => ?_, rfl⟩⟩⟩
  have := h i hi
  rw [Nat.zero_add]
  match j, hj with
  | 0, _ => exact this.1
  | 1, _ => exact this.2

theorem clear_ids (w : World) (ty : TypeId) (b o cnt c : Nat) (hn : 0 < cnt) (hc : ∀ j, j < cnt * 2 → (w.cell? ⟨b, o + j, none⟩).isSome = true) (hf : ∀ j, w.frozen? ⟨b, j, none⟩ = false) :
    (Builtin.clear_ #[72] ty #[.slice (some ⟨b, o, none⟩) cnt c]).run Tryz.prog w = .ok (.tuple #[]) (w.setCells b o (List.replicate (cnt * 2) (.int .i64 0))) := by
  have hv : ∀ w : World, (zeroValue 38).run Tryz.prog w = .ok (.agg #[.int .i64 0, .int .i64 0]) w := by
    obtain ⟨i0, hi0, hiz0, _⟩ := info_parts info_id
    intro w
    simp [zeroValue, typeInfo, hi0, hiz0]
  have hzc : (Builtin.zeroCells #[.int .i64 0, .int .i64 0] cnt).toList = List.replicate (cnt * 2) (.int .i64 0) := by
    simp only [Builtin.zeroCells]
    apply List.ext_getElem
    · simp
    · intro i h1 h2
      have : i % 2 = 0 ∨ i % 2 = 1 := by omega
      rcases this with e | e <;> simp [e]
  have hst := run_storeCells_cells (P := Tryz.prog) b o (List.replicate (cnt * 2) (.int .i64 0)) 0 w (by simpa using hc) (by intro j _; exact hf _) (by intro v hv'; rw [List.eq_of_mem_replicate hv']; rfl)
  simp only [Nat.add_zero] at hst
  obtain ⟨m, rfl⟩ : ∃ m, cnt = m + 1 := ⟨cnt - 1, by omega⟩
  have hcs : (Value.agg #[.int .i64 0, .int .i64 0]).cells = #[.int .i64 0, .int .i64 0] := rfl
  simp [Builtin.clear_, run_underlying Tryz.underlying72, hv, hcs, hzc, hst]
theorem clear_ids0 (w : World) (ty : TypeId) (a : Option Addr) (c : Nat) : (Builtin.clear_ #[72] ty #[.slice a 0 c]).run Tryz.prog w = .ok (.tuple #[]) w := by
  cases a <;> simp [Builtin.clear_, run_underlying Tryz.underlying72]

theorem flat2 : ∀ (L : List (Int × Int)) (i : Nat) (h : i < L.length), (L.map idCells).flatten[i * 2]? = some (.int .i64 L[i].1) ∧ (L.map idCells).flatten[i * 2 + 1]? = some (.int .i64 L[i].2)
  | [], _, h => by simp at h
  | p :: r, 0, _ => by simp [idCells]
  | p :: r, i + 1, h => by
    have := flat2 r i (by simpa using h)
    have e : ∀ j, ((p :: r).map idCells).flatten[(i + 1) * 2 + j]? = (r.map idCells).flatten[i * 2 + j]? := fun j => by
      rw [List.map_cons, List.flatten_cons, List.getElem?_append_right (by simp [idCells]; omega)]
      congr 1
      simp [idCells]; omega
    exact ⟨(e 0).trans this.1, (e 1).trans this.2⟩
/-- A row of one's own, as cells. -/
theorem ids2_of_own {w : World} {B b k : Nat} {L : List (Int × Int)} (h : w.ownsRow B 38 2 (.slice (some ⟨b, 0, none⟩) L.length k) L.length (L.map idCells).flatten) : Ids2 w b L ∧ (∀ j, w.frozen? ⟨b, j, none⟩ = false) ∧ L.length ≤ k := by
  obtain ⟨h1, h2, h3⟩ := own_at h
  exact ⟨fun i hi => ⟨h2 _ _ (flat2 L i hi).1, h2 _ _ (flat2 L i hi).2⟩, h3, h1⟩

theorem below_cells {B b : Nat} {a : World} (hb : B ≤ b) : ∀ (vs : List Value) (o : Nat) (w : World), Below B a w → Below B a (w.setCells b o vs)
  | [], _, _, h => h
  | v :: r, o, w, h => below_cells hb r (o + 1) _ (h.setCell hb v)
theorem size_cells {b : Nat} : ∀ (vs : List Value) (o : Nat) (w : World), (w.setCells b o vs).heap.size = w.heap.size
  | [], _, _ => rfl
  | v :: r, o, w => (size_cells r (o + 1) _).trans (by simp)
end Go.Proofs.YtipinmbpdgjalaaGreatDoor.Hi
/- maxspec.One. -/
set_option maxRecDepth 100000
set_option maxHeartbeats 1000000
set_option linter.unusedVariables false
set_option linter.unusedSimpArgs false
namespace Go.Proofs.YtipinmbpdgjalaaGreatDoor.Hi
open Go.RowKit Bs

/-- A method's flags. -/
def flM (m : List EntM) (p : Int × Int) : Int := match entAt m p.1 with
  | none => 0
  | some e => (e.c.meths[p.2.toNat]?.map (·.flags)).getD 0
def absM (m : List EntM) (p : Int × Int) : Bool := bits .and .i64 (flM m p) 1024 != 0
/-- Is it a method of the world? -/
def IsM (m : List EntM) (p : Int × Int) : Prop := ∃ (y k : Nat) (h : y < m.length), p = ((y : Int), (k : Int)) ∧ k < m[y].c.meths.length
theorem flM_at {m : List EntM} {y k : Nat} (h : y < m.length) (hk : k < m[y].c.meths.length) : flM m ((y : Int), (k : Int)) = m[y].c.meths[k].flags := by
  unfold flM
  rw [entAt_nat h]
  show (m[y].c.meths[((k : Int)).toNat]?.map (·.flags)).getD 0 = _
  rw [Int.toNat_natCast, List.getElem?_eq_getElem hk]
  rfl

theorem One1 {B bw : Nat} {w0 w : World} {m : List EntM} (h : Built B bw w0 w m) {qw : Nat} (p : Int × Int) (hp : IsM m p) (hw : w.cell? ⟨qw, 0, none⟩ = some (.pointer (some ⟨bw, 0, none⟩))) :
    Calls Tryz.prog 65 #[idV p, .pointer (some ⟨qw, 0, none⟩)] w fun r w' => r = .returned (.bool (absM m p)) ∧ Below w.heap.size w w' := by
  obtain ⟨y, k, hy, rfl, hk⟩ := hp
  have hba : Below w.heap.size w (w.alloc (.cells #[.int .i64 (y : Int), .int .i64 (k : Int)] 38)) := (Below.refl _ _).alloc (Nat.le_refl _) _
  have g0 := below_cell' hba hw
  have h' := h.next hba
  have HM := Lib.hid (Method_any (b := k) h'.hw h'.live (entAt_nat hy))
  have HBA := Lib.hid hba
  have HFL := Lib.hid (flM_at hy hk)
  unfold absM idV
  rw [HFL.out]
  clear h h' hba hw
  go_enter Tryz.func65, Tryz.ntmps65
  go_wp2_with fail
  refine HM.out.mono ?_
  rintro e w4 ⟨nn, dd, ff, ll, ss, ad, q, cq, er, rfl, hff, hb⟩
  have HFF := Lib.hid (hff hk)
  have hb' := HBA.out.trans (hb.mono HBA.out.size)
  have HB := Lib.hid (hb'.alloc hb'.size (.cells #[.string nn, .string dd, .int .i64 ff, .int .i64 ll, .int .i64 ss, .slice ad q cq] 55))
  clear hb hb' hff HM HFL g0
  go_wp2
  go_ret
  exact ⟨by rw [← HFF.out]; rfl, HB.out⟩

theorem DelIds {B bw : Nat} {w0 w1 : World} {m : List EntM} (h : Built B bw w0 w1 m) {qw : Nat} (hq : w1.cell? ⟨qw, 0, none⟩ = some (.pointer (some ⟨bw, 0, none⟩))) {w : World} (hb : Below w1.heap.size w1 w) {b cap : Nat} {xs : List (Int × Int)} (hm : ∀ p ∈ xs, IsM m p)
    (hx : Ids2 w b xs) (hfz : ∀ j, w.frozen? ⟨b, j, none⟩ = false) (hcap : xs.length ≤ cap) (hb1 : w1.heap.size ≤ b) (hb2 : b < w.heap.size) (hl : xs.length ≤ 300) :
    Calls Tryz.prog 57 #[.slice (some ⟨b, 0, none⟩) xs.length cap, .func (.func 65) #[] #[.pointer (some ⟨qw, 0, none⟩)]] w fun r w' => r = .returned (.slice (some ⟨b, 0, none⟩) (xs.filter fun p => !absM m p).length cap) ∧ Ids2 w' b (xs.filter fun p => !absM m p) ∧ b < w'.heap.size ∧ Below w1.heap.size w1 w' := by
  have HI := Lib.hid (IndexIds (absM m) 65 #[.pointer (some ⟨qw, 0, none⟩)] (.inr rfl) (hx.sl hcap (Nat.le_succ_of_le hl) hb2) (fun wr hbr k hk => One1 ((h.next hb).next hbr) xs[k] (hm _ (List.getElem_mem hk)) (below_cell' hbr (below_cell' hb hq))))
  have H := Lib.hid h
  have HQ := Lib.hid hq
  have HB := Lib.hid hb
  have HM := Lib.hid hm
  have HX := Lib.hid hx
  have HFZ := Lib.hid hfz
  have HC := Lib.hid (And.intro hcap (And.intro hb1 hb2))
  clear h hq hb hm hx hfz hcap hb1 hb2
  unfold idxIds at HI
  go_enter Tryz.func57, Tryz.ntmps57
  go_wp2_with fail
  refine HI.out.mono ?_
  rintro e w2 ⟨rfl, hb⟩
  have HX2 : Hid (Ids2 w2 b xs) := Lib.hid (HX.out.below hb HC.out.2.2)
  have HFZ2 : Hid (∀ j, w2.frozen? ⟨b, j, none⟩ = false) := Lib.hid fun j => (World.frozen?_of_block (a := ⟨b, j, none⟩) (hb.block b HC.out.2.2)).trans (HFZ.out j)
  have HB2 : Hid (Below w1.heap.size w1 w2 ∧ b < w2.heap.size) := Lib.hid ⟨HB.out.trans (hb.mono HB.out.size), Nat.lt_of_lt_of_le HC.out.2.2 hb.size⟩
  clear hb HI
  cases hix : xs.findIdx? (absM m) with
  | none =>
    have HN : Hid ((xs.filter fun p => !absM m p) = xs) := Lib.hid (List.filter_eq_self.2 fun p hp => by simpa using List.findIdx?_eq_none_iff.1 hix p hp)
    clear hix
    go_wp2
    go_ret
    rw [HN.out]
    exact ⟨rfl, HX2.out, HB2.out.2, HB2.out.1⟩
  | some i0 =>
    obtain ⟨hi0, ht, hf⟩ := List.findIdx?_eq_some_iff_getElem.1 hix
    have hi0' : (i0 : Int) < (xs.length : Int) := by omega
    have HT : Hid (xs.take i0 = (xs.take (i0 + 1)).filter fun p => !absM m p) := Lib.hid (by
      rw [List.take_succ_eq_append_getElem hi0, List.filter_append]
      rw [List.filter_eq_self.2 (fun p hp => by
        obtain ⟨j, hj, rfl⟩ := List.getElem_of_mem hp
        rw [List.getElem_take]
        have hj' : j < i0 := by simp at hj; omega
        simpa using hf j hj')]
      simp [ht])
    clear hix ht hf
    go_wp2_with fail
    go_loopg [5, 6] (xs.length - (i0 + 1)) (fun gk ui uj wr => ∃ (i j : Nat) (ls : List (Int × Int)), Hid (j + gk = xs.length ∧ i < j ∧ ls.length = xs.length ∧ ls.take i = (xs.take j).filter (fun p => !absM m p) ∧ ls.drop j = xs.drop j) ∧ ui = .int .i64 i ∧ uj = .int .i64 j ∧ Hid (Ids2 wr b ls) ∧ Hid (∀ j, wr.frozen? ⟨b, j, none⟩ = false) ∧ Hid (Below w1.heap.size w1 wr ∧ b < wr.heap.size))
    case atStart => exact ⟨i0, i0 + 1, xs, Lib.hid ⟨by omega, by omega, rfl, HT.out, rfl⟩, rfl, by go_num, HX2, HFZ2, HB2⟩
    case round =>
      obtain ⟨i, j, ls, hk, rfl, rfl, HXr, HFr, HBr⟩ := hrel
      by_cases hlt : j < xs.length
      · have hlt' : (j : Int) < (xs.length : Int) := by omega
        have hij : i < j := hk.out.2.1
        have hil : (i : Int) < (xs.length : Int) := by omega
        have hjl : j < ls.length := by rw [hk.out.2.2.1]; exact hlt
        have HE : Hid (ls[j] = xs[j]) := Lib.hid (by
          have h1 : (ls.drop j)[0]? = (xs.drop j)[0]? := by rw [hk.out.2.2.2.2]
          rw [List.getElem?_drop, List.getElem?_drop, Nat.add_zero, List.getElem?_eq_getElem hjl, List.getElem?_eq_getElem hlt] at h1
          exact Option.some.inj h1)
        obtain ⟨g0, g1⟩ := HXr.out j hjl
        have HTK : Hid ((xs.take (j + 1)).filter (fun p => !absM m p) = (xs.take j).filter (fun p => !absM m p) ++ (if absM m xs[j] = true then [] else [xs[j]])) := Lib.hid (by
          rw [List.take_succ_eq_append_getElem hlt, List.filter_append]
          congr 1
          cases h : absM m xs[j] <;> simp [h])
        have HLA : Hid (Below w1.heap.size w1 (wr.alloc (.cells #[.int .i64 ls[j].1, .int .i64 ls[j].2] 38))) := Lib.hid (HBr.out.1.alloc HBr.out.1.size _)
        have HAW : Hid (Below wr.heap.size wr (wr.alloc (.cells #[.int .i64 ls[j].1, .int .i64 ls[j].2] 38))) := Lib.hid ((Below.refl _ _).alloc (Nat.le_refl _) _)
        have HID : Hid ((wr.alloc (.cells #[.int .i64 ls[j].1, .int .i64 ls[j].2] 38)).cell? ⟨wr.heap.size, 0, none⟩ = some (.int .i64 ls[j].1) ∧ (wr.alloc (.cells #[.int .i64 ls[j].1, .int .i64 ls[j].2] 38)).cell? ⟨wr.heap.size, 1, none⟩ = some (.int .i64 ls[j].2)) := Lib.hid ⟨World.cell?_alloc_new .., World.cell?_alloc_new ..⟩
        have hM1 := One1 (H.out.next HLA.out) ls[j] (by rw [HE.out]; exact HM.out _ (List.getElem_mem hlt)) (below_cell' HLA.out HQ.out)
        unfold idV at hM1
        have HM1 := Lib.hid hM1
        have HDR : Hid (ls.drop (j + 1) = xs.drop (j + 1)) := Lib.hid (by
          rw [← List.drop_drop, ← List.drop_drop, hk.out.2.2.2.2])
        have HSE : Hid ((ls.set i ls[j]).take (i + 1) = ls.take i ++ [ls[j]]) := Lib.hid (by
          rw [List.take_succ_eq_append_getElem (by simp; omega), List.take_set_of_le (Nat.le_refl _)]
          simp)
        have HSD : Hid ((ls.set i ls[j]).drop (j + 1) = ls.drop (j + 1)) := Lib.hid (by rw [List.drop_set_of_lt (by omega)])
        clear hM1
        rw [← HE.out] at HTK
        have HSS := Lib.hid (fun (wz : World) (hz : Ids2 wz b ls) => hz.set (i := i) (by omega) ls[j])
        generalize ls[j] = p at g0 g1 HTK HLA HAW HID HM1 HSE HSD HSS
        clear HE
        go_wp2_with fail
        refine HM1.out.mono ?_
        rintro e w3 ⟨rfl, hb⟩
        have HL3 : Hid (Below w1.heap.size w1 w3) := Lib.hid (HLA.out.trans (hb.mono HLA.out.size))
        have HW3 : Hid (Below wr.heap.size wr w3) := Lib.hid (HAW.out.trans (hb.mono HAW.out.size))
        have k0 := below_cell' hb HID.out.1
        have k1 := below_cell' hb HID.out.2
        have HX3 : Hid (Ids2 w3 b ls) := Lib.hid (HXr.out.below HW3.out HBr.out.2)
        have HF3 : Hid (∀ j, w3.frozen? ⟨b, j, none⟩ = false) := Lib.hid fun j => (World.frozen?_of_block (a := ⟨b, j, none⟩) (HW3.out.block b HBr.out.2)).trans (HFr.out j)
        have HB3 : Hid (b < w3.heap.size) := Lib.hid (Nat.lt_of_lt_of_le HBr.out.2 HW3.out.size)
        clear hb g0 g1 HM1 HID HLA HAW HW3 HXr HFr HBr
        generalize wr.heap.size = qm at k0 k1
        cases hh : absM m p
        · have HN : Hid ((xs.take (j + 1)).filter (fun p => !absM m p) = ls.take i ++ [p]) := Lib.hid (by rw [HTK.out, hh, hk.out.2.2.2.1]; rfl)
          obtain ⟨s0, s1⟩ := HX3.out i (by have := hk.out.2.2.1; omega)
          have t0 := HF3.out (i * 2)
          have t1 := HF3.out (i * 2 + 1)
          have hi300 : i < 300 := by omega
          clear HTK hh
          go_wp2
          go_roundg (xs.length - (j + 1))
          case measure => have := hk.out.1; omega
          case rel =>
            refine ⟨i + 1, j + 1, ls.set i p, Lib.hid ⟨by have := hk.out.1; omega, by omega, by simp; exact hk.out.2.2.1, ?_, ?_⟩, by go_num, by go_num, Lib.hid (HSS.out _ HX3.out), Lib.hid fun q => ?_, Lib.hid ⟨(HL3.out.setCell HC.out.2.1 _).setCell HC.out.2.1 _, by simpa using HB3.out⟩⟩
            · rw [HSE.out, HN.out]
            · rw [HSD.out, HDR.out]
            · rw [World.frozen?_setCell, World.frozen?_setCell]; exact HF3.out q
        · have HN : Hid ((xs.take (j + 1)).filter (fun p => !absM m p) = ls.take i) := Lib.hid (by rw [HTK.out, hh, hk.out.2.2.2.1]; simp)
          clear HTK hh HSS HSE HSD
          go_wp2
          go_roundg (xs.length - (j + 1))
          case measure => have := hk.out.1; omega
          case rel => exact ⟨i, j + 1, ls, Lib.hid ⟨by have := hk.out.1; omega, by omega, hk.out.2.2.1, HN.out.symm, HDR.out⟩, rfl, by go_num, HX3, HF3, Lib.hid ⟨HL3.out, HB3.out⟩⟩
      · have hjn : j = xs.length := by have := hk.out.1; omega
        have hin : i < xs.length := by have := hk.out.2.1; omega
        have HP : Hid (ls.take i = xs.filter fun p => !absM m p) := Lib.hid (by rw [hk.out.2.2.2.1, hjn, List.take_length])
        have HPL : Hid ((xs.filter fun p => !absM m p).length = i) := Lib.hid (by rw [← HP.out, List.length_take, hk.out.2.2.1]; omega)
        have HCL : Hid (∀ ty, (Builtin.clear_ #[72] ty #[.slice (some ⟨b, i * 2, none⟩) (xs.length - i) (cap - i)]).run Tryz.prog wr = .ok (.tuple #[]) (wr.setCells b (i * 2) (List.replicate ((xs.length - i) * 2) (.int .i64 0)))) := Lib.hid fun ty =>
          clear_ids wr ty b (i * 2) (xs.length - i) (cap - i) (by omega) (fun q hq => by
            have h1 := HXr.out ((i * 2 + q) / 2) (by rw [hk.out.2.2.1]; omega)
            rcases Nat.mod_two_eq_zero_or_one (i * 2 + q) with e | e
            · rw [show i * 2 + q = (i * 2 + q) / 2 * 2 by omega, h1.1]; rfl
            · rw [show i * 2 + q = (i * 2 + q) / 2 * 2 + 1 by omega, h1.2]; rfl) HFr.out
        have hcl := HCL.out
        have hci : i < cap := by have := HC.out.1; omega
        clear hjn
        go_wp2
        go_ret
        refine ⟨by rw [HPL.out]; rfl, fun q hq => ?_, ?_, below_cells HC.out.2.1 _ _ _ HBr.out.1⟩
        · have hq' : q < i := by rw [← HPL.out]; exact hq
          have e : (xs.filter fun p => !absM m p)[q] = ls[q]'(by rw [hk.out.2.2.1]; omega) := by
            have h1 : (xs.filter fun p => !absM m p)[q]? = (ls.take i)[q]? := by rw [HP.out]
            rw [List.getElem?_take_of_lt hq', List.getElem?_eq_getElem hq, List.getElem?_eq_getElem (by rw [hk.out.2.2.1]; omega)] at h1
            exact Option.some.inj h1
          rw [e]
          have h2 := HXr.out q (by rw [hk.out.2.2.1]; omega)
          exact ⟨(World.cell?_setCells_out b _ _ _ _ (fun _ _ => .inl (by show q * 2 < i * 2; omega))).trans h2.1, (World.cell?_setCells_out b _ _ _ _ (fun _ _ => .inl (by show q * 2 + 1 < i * 2; omega))).trans h2.2⟩
        · rw [size_cells]; exact HBr.out.2
end Go.Proofs.YtipinmbpdgjalaaGreatDoor.Hi
/- maxspec.One, Some. -/
set_option maxRecDepth 100000
set_option maxHeartbeats 1000000
set_option linter.unusedVariables false
set_option linter.unusedSimpArgs false
namespace Go.Proofs.YtipinmbpdgjalaaGreatDoor.Hi
open Go.RowKit Bs

theorem cand_mem {m : List EntM} (hw : WFm m) (ho : OrdM m) {c : Nat} (hc : c < m.length) {n d : ByteArray} {p : Int × Int} (hp : p ∈ candM m c n d) :
    ∃ (y k : Nat) (hy : y < m.length) (hk : k < m[y].c.meths.length), p = ((y : Int), (k : Int)) ∧ (y : Int) ∈ clo m c ∧ Pr.mEq n d m[y].c.meths[k] = true ∧ bits .and .i64 m[y].c.meths[k].flags 10 = 0 := by
  unfold candM at hp
  obtain ⟨x, hx, hq⟩ := List.mem_filterMap.1 hp
  obtain ⟨y, rfl, hyc, _⟩ := clo_mem hw ho hc x hx
  have hy : y < m.length := by omega
  unfold candAt at hq
  rw [entAt_nat hy] at hq
  simp only at hq
  split at hq
  · rename_i h
    obtain ⟨h1, h2⟩ := h
    rcases findE_cases m[y] n d with ⟨k, hk, hf⟩ | hf
    · rw [hf] at hq h2
      simp only [Int.toNat_natCast, List.getElem?_eq_getElem hk, Option.map_some, Option.getD_some] at h2
      refine ⟨y, k, hy, hk, ?_, hx, ?_, h2⟩
      · injection hq with hq; rw [← hq]
      · unfold findE Pr.findM at hf
        cases hix : m[y].c.meths.findIdx? (Pr.mEq n d) with
        | none => rw [hix] at hf; simp at hf
        | some j =>
          rw [hix] at hf
          simp only at hf
          rw [if_neg (by omega)] at hf
          injection hf with hf _
          have : j = k := by omega
          subst this
          exact (List.findIdx?_eq_some_iff_getElem.1 hix).2.1
    · rw [hf] at h1; cases h1
  · cases hq
theorem cand_isM {m : List EntM} (hw : WFm m) (ho : OrdM m) {c : Nat} (hc : c < m.length) {n d : ByteArray} {p : Int × Int} (hp : p ∈ candM m c n d) : IsM m p := by
  obtain ⟨y, k, hy, hk, rfl, _⟩ := cand_mem hw ho hc hp
  exact ⟨y, k, hy, rfl, hk⟩

/-- Those that are not abstract. -/
def conM (m : List EntM) (c : Nat) (n d : ByteArray) : List (Int × Int) := (maxM m c n d).filter fun p => !absM m p
def oneOf : List (Int × Int) → (Int × Int) × Int
  | [] => ((0, 0), 24)
  | [p] => (p, 0)
  | _ => ((0, 0), 23)
def oneM (m : List EntM) (c : Nat) (n d : ByteArray) : (Int × Int) × Int := oneOf (conM m c n d)

theorem One {B bw : Nat} {w0 w : World} {m : List EntM} (h : Built B bw w0 w m) {c : Nat} (hc : c < m.length) (n d : ByteArray) :
    Calls Tryz.prog 30 #[.pointer (some ⟨bw, 0, none⟩), .int .i64 c, .string n, .string d] w fun r w' => r = .returned (.tuple #[idV (oneM m c n d).1, .int .i64 (oneM m c n d).2]) ∧ Below w.heap.size w w' := by
  have hba : Below w.heap.size w ((w.alloc (.cells #[.pointer (some ⟨bw, 0, none⟩)] 28)).alloc (.cells #[.int .i64 0, .int .i64 0] 38)) := ((Below.refl _ _).alloc (Nat.le_refl _) _).alloc (by simp) _
  have hz : ((w.alloc (.cells #[.pointer (some ⟨bw, 0, none⟩)] 28)).alloc (.cells #[.int .i64 0, .int .i64 0] 38)).heap.size = w.heap.size + 2 := by simp
  have hcell : ∀ j : Nat, ((w.alloc (.cells #[.pointer (some ⟨bw, 0, none⟩)] 28)).alloc (.cells #[.int .i64 0, .int .i64 0] 38)).cell? ⟨w.heap.size + 1, j, none⟩ = (#[Value.int .i64 0, .int .i64 0])[j]? := fun j => by
    have := World.cell?_alloc_new (w.alloc (.cells #[.pointer (some ⟨bw, 0, none⟩)] 28)) #[.int .i64 0, .int .i64 0] 38 j
    rw [World.size_alloc] at this
    exact this
  have hfz : ∀ j : Nat, ((w.alloc (.cells #[.pointer (some ⟨bw, 0, none⟩)] 28)).alloc (.cells #[.int .i64 0, .int .i64 0] 38)).frozen? ⟨w.heap.size + 1, j, none⟩ = false := fun j => by
    have := frozen_new (w.alloc (.cells #[.pointer (some ⟨bw, 0, none⟩)] 28)) #[.int .i64 0, .int .i64 0] 38 j
    rw [World.size_alloc] at this
    exact this
  have hqw : ((w.alloc (.cells #[.pointer (some ⟨bw, 0, none⟩)] 28)).alloc (.cells #[.int .i64 0, .int .i64 0] 38)).cell? ⟨w.heap.size, 0, none⟩ = some (.pointer (some ⟨bw, 0, none⟩)) := alloc_old (World.cell?_alloc_new ..)
  have HC := Lib.hid (Max (h.next hba) hc n d)
  have HB0 := Lib.hid (h.next hba)
  have HBA := Lib.hid hba
  have HCE := Lib.hid (And.intro hcell (And.intro hfz hz))
  have HQW := Lib.hid hqw
  have HIM : Hid (∀ p ∈ maxM m c n d, IsM m p) := Lib.hid fun p hp => cand_isM h.wf h.ord hc ((List.mem_filter.1 hp).1)
  have HLN : Hid ((maxM m c n d).length ≤ 300) := Lib.hid (by
    have h1 := cand_len h.wf hc n d
    have h2 := List.length_filter_le (fun p => !hidM m (candM m c n d) p) (candM m c n d)
    unfold maxM maxL; omega)
  clear h hba hcell hfz hz hqw
  unfold oneM conM
  generalize maxM m c n d = L at HC HIM HLN ⊢
  obtain ⟨R, hR⟩ : ∃ R, oneOf (L.filter fun p => !absM m p) = R := ⟨_, rfl⟩
  have HR := Lib.hid hR
  rw [hR]
  clear hR
  go_enter Tryz.func30, Tryz.ntmps30
  go_wp2_with fail
  generalize (w.alloc (.cells #[.pointer (some ⟨bw, 0, none⟩)] 28)).alloc (.cells #[.int .i64 0, .int .i64 0] 38) = wz at HC HB0 HBA HCE HQW
  refine HC.out.mono ?_
  rintro _ w1 ⟨ad, k, rfl, hrow, hb⟩
  have HX : Hid (Below wz.heap.size wz w1) := Lib.hid hb
  have HROW := Lib.hid hrow
  clear hb hrow HC
  have DEL : Hid (Calls Tryz.prog 57 #[.slice ad L.length k, .func (.func 65) #[] #[.pointer (some ⟨w.heap.size, 0, none⟩)]] w1 fun r w' => ∃ ad' k', r = .returned (.slice ad' (L.filter fun p => !absM m p).length k') ∧ (∀ h : 0 < (L.filter fun p => !absM m p).length, ∃ b, ad' = some ⟨b, 0, none⟩ ∧ w'.cell? ⟨b, 0, none⟩ = some (.int .i64 (L.filter fun p => !absM m p)[0].1) ∧ w'.cell? ⟨b, 1, none⟩ = some (.int .i64 (L.filter fun p => !absM m p)[0].2)) ∧ Below wz.heap.size wz w') := Lib.hid (by
    cases L with
    | nil =>
      refine (Del_none _ _ _ _).mono ?_
      rintro r w' ⟨rfl, rfl⟩
      exact ⟨ad, k, rfl, fun h => by simp at h, HX.out⟩
    | cons p r =>
      obtain ⟨b, cap, e⟩ := own_form (n := r.length) HROW.out
      injection e with e1 e2 e3
      subst e1
      obtain ⟨i1, i2, i3⟩ := ids2_of_own HROW.out
      obtain ⟨o1, o2⟩ := own_live HROW.out (g := b) rfl
      refine (DelIds HB0.out HQW.out HX.out HIM.out i1 i2 i3 (by omega) o2 HLN.out).mono ?_
      rintro r' w' ⟨rfl, j1, j2, j3⟩
      exact ⟨_, k, rfl, fun h => ⟨b, rfl, by simpa using (j1 0 h).1, by simpa using (j1 0 h).2⟩, j3⟩)
  clear HROW HX HIM HLN
  generalize (L.filter fun p => !absM m p) = C at DEL HR
  go_wp2_with fail
  refine DEL.out.mono ?_
  rintro _ w2 ⟨ad', k', rfl, hC, hb⟩
  have s0 : w2.cell? ⟨w.heap.size + 1, 0, none⟩ = some (.int .i64 0) := below_cell' hb (HCE.out.1 0)
  have s1 : w2.cell? ⟨w.heap.size + 1, 1, none⟩ = some (.int .i64 0) := below_cell' hb (HCE.out.1 1)
  have t : ∀ j, w2.frozen? ⟨w.heap.size + 1, j, none⟩ = false := fun j => (World.frozen?_of_block (a := ⟨w.heap.size + 1, j, none⟩) (hb.block _ (show w.heap.size + 1 < _ by rw [HCE.out.2.2]; omega))).trans (HCE.out.2.1 j)
  have t0 := t 0
  have t1 := t 1
  have HB := Lib.hid (HBA.out.trans (hb.mono HBA.out.size))
  clear t hb HBA HCE DEL
  rcases C with _ | ⟨p, _ | ⟨p', r⟩⟩
  · simp only [List.length_nil]
    clear hC
    go_wp2
    have key := set2 (v0 := .int .i64 0) (v1 := .int .i64 0) s0 s1
    refine bodyPost_ret (results_cells_tmp rfl _ _ (w.heap.size + 1) [.int .i64 0, .int .i64 0] _ rfl (two key.1 key.2) Tryz.underlying38 rfl id_info2) rfl ⟨by rw [← HR.out]; rfl, ?_⟩
    exact (HB.out.setCell (Nat.le_succ _) _).setCell (Nat.le_succ _) _
  · obtain ⟨b, rfl, c0, c1⟩ := hC (by simp)
    simp only [List.length_cons, List.length_nil, Nat.zero_add, List.getElem_cons_zero] at c0 c1 ⊢
    clear hC
    go_wp2
    have key := set2 (v0 := .int .i64 p.1) (v1 := .int .i64 p.2) s0 s1
    refine bodyPost_ret (results_cells_tmp rfl _ _ (w.heap.size + 1) [.int .i64 p.1, .int .i64 p.2] _ rfl (two key.1 key.2) Tryz.underlying38 rfl id_info2) rfl ⟨by rw [← HR.out]; rfl, ?_⟩
    exact (HB.out.setCell (Nat.le_succ _) _).setCell (Nat.le_succ _) _
  · have e1 : (((p :: p' :: r).length : Int) == 0) = false := by simp; omega
    have e2 : (((p :: p' :: r).length : Int) == 1) = false := by simp; omega
    generalize (p :: p' :: r).length = len at e1 e2 ⊢
    clear hC
    go_wp2
    have key := set2 (v0 := .int .i64 0) (v1 := .int .i64 0) s0 s1
    refine bodyPost_ret (results_cells_tmp rfl _ _ (w.heap.size + 1) [.int .i64 0, .int .i64 0] _ rfl (two key.1 key.2) Tryz.underlying38 rfl id_info2) rfl ⟨by rw [← HR.out]; rfl, ?_⟩
    exact (HB.out.setCell (Nat.le_succ _) _).setCell (Nat.le_succ _) _
end Go.Proofs.YtipinmbpdgjalaaGreatDoor.Hi
/- The plain law of the most special methods; maxspec at numbers that are none. -/
set_option maxRecDepth 100000
set_option maxHeartbeats 1000000
set_option linter.unusedVariables false
set_option linter.unusedSimpArgs false
namespace Go.Proofs.YtipinmbpdgjalaaGreatDoor.Hi
open Go.RowKit Bs

theorem cand_sub (m : List EntM) (n d : ByteArray) : ∀ l : List Int, ((l.filterMap (candAt m n d)).map (·.1)).Sublist l
  | [] => by simp
  | i :: r => by
    rw [List.filterMap_cons]
    have ih := cand_sub m n d r
    split
    · exact ih.cons _
    · rename_i p hp
      have : p.1 = i := by
        unfold candAt at hp
        split at hp
        · cases hp
        · split at hp
          · injection hp with hp; rw [← hp]
          · cases hp
      rw [List.map_cons, this]
      exact ih.cons_cons _

section
variable {m : List EntM} (hw : WFm m) (ho : OrdM m)
include hw
theorem cand_nodup {c : Nat} (hc : c < m.length) (n d : ByteArray) : ((candM m c n d).map (·.1)).Nodup := by
  have hnd : (clo m c).Nodup := by rw [clo_at hc]; exact (hw.closed c hc).1
  exact hnd.sublist (cand_sub m n d _)
theorem max_nodup {c : Nat} (hc : c < m.length) (n d : ByteArray) : ((maxM m c n d).map (·.1)).Nodup :=
  (cand_nodup hw hc n d).sublist (List.filter_sublist.map _)
omit hw in
theorem max_cand {c : Nat} {n d : ByteArray} {p : Int × Int} (hp : p ∈ maxM m c n d) : p ∈ candM m c n d ∧ ∀ o ∈ candM m c n d, o.1 ≠ p.1 → extM m o.1 p.1 = false := by
  obtain ⟨h1, h2⟩ := List.mem_filter.1 hp
  refine ⟨h1, fun o ho hne => ?_⟩
  have h3 : hidM m (candM m c n d) p = false := by simpa using h2
  have h4 := List.any_eq_false.1 h3 o ho
  unfold hidE at h4
  have h5 : (o.1 != p.1) = true := by simpa using hne
  rw [h5, Bool.true_and] at h4
  simpa using h4
theorem max_apart {c : Nat} (hc : c < m.length) (n d : ByteArray) {i j : Nat} (hi : i < (maxM m c n d).length) (hj : j < (maxM m c n d).length) (hne : i ≠ j) : extM m (maxM m c n d)[i].1 (maxM m c n d)[j].1 = false := by
  refine (max_cand (List.getElem_mem hj)).2 _ (max_cand (List.getElem_mem hi)).1 fun e => hne ?_
  have hnd := max_nodup hw hc n d
  exact (List.getElem_inj (h₀ := by simpa using hi) (h₁ := by simpa using hj) hnd).1 (by simpa using e)
include ho
theorem max_below {c : Nat} (hc : c < m.length) (n d : ByteArray) : ∀ (f : Nat) (p : Int × Int), p ∈ candM m c n d → m.length - p.1.toNat ≤ f → ∃ q ∈ maxM m c n d, extM m q.1 p.1 = true
  | f, p, hp, hf => by
    obtain ⟨y, k, hy, hk, rfl, hyc, _, _⟩ := cand_mem hw ho hc hp
    cases hh : hidM m (candM m c n d) ((y : Int), (k : Int)) with
    | false => exact ⟨_, List.mem_filter.2 ⟨hp, by simp [hh]⟩, ext_refl hw ho hy⟩
    | true =>
      obtain ⟨o, ho1, ho2⟩ := List.any_eq_true.1 hh
      obtain ⟨z, k', hz, hk', rfl, _, _, _⟩ := cand_mem hw ho hc ho1
      unfold hidE at ho2
      rw [Bool.and_eq_true] at ho2
      have hne : z ≠ y := by have := ho2.1; simp at this; omega
      have hle := ext_le hw ho hz hy ho2.2
      cases f with
      | zero => simp at hf; omega
      | succ f =>
        obtain ⟨q, hq, he⟩ := max_below hc n d f _ ho1 (by simp at hf ⊢; omega)
        obtain ⟨x, k'', hx, hk'', rfl, _, _, _⟩ := cand_mem hw ho hc (max_cand hq).1
        exact ⟨_, hq, ext_trans hw ho hx hz hy he ho2.2⟩
theorem max_met {c : Nat} (hc : c < m.length) (n d : ByteArray) {p : Int × Int} (hp : p ∈ candM m c n d) : ((maxM m c n d).any fun q => extM m q.1 p.1) = true := by
  obtain ⟨q, h1, h2⟩ := max_below hw ho hc n d _ p hp (Nat.le_refl _)
  exact List.any_eq_true.2 ⟨q, h1, h2⟩
end

theorem Cand_out {B bw : Nat} {w0 w : World} {m : List EntM} (h : Built B bw w0 w m) {c : Int} (hc : entAt m c = none) (n d : ByteArray) :
    Calls Tryz.prog 95 #[.pointer (some ⟨bw, 0, none⟩), .int .i64 c, .string n, .string d] w fun r w' => r = .returned (.tuple #[.slice none 0 0, .int .i64 3]) ∧ Below w.heap.size w w' := by
  have HC := Lib.hid (Closure h.hw c)
  have e : closureM m c = ([], 3) := by unfold closureM; rw [hc]
  rw [e] at HC
  clear h e
  go_enter Tryz.func95, Tryz.ntmps95
  go_wp2_with fail
  refine HC.out.mono ?_
  rintro r w1 ⟨a, k, rfl, _, hb⟩
  have HB := Lib.hid hb
  clear hb HC
  go_wp2
  go_ret2
  exact ⟨rfl, HB.out⟩
theorem Max_out {B bw : Nat} {w0 w : World} {m : List EntM} (h : Built B bw w0 w m) {c : Int} (hc : entAt m c = none) (n d : ByteArray) :
    Calls Tryz.prog 64 #[.pointer (some ⟨bw, 0, none⟩), .int .i64 c, .string n, .string d] w fun r w' => r = .returned (.tuple #[.slice none 0 0, .int .i64 3]) ∧ Below w.heap.size w w' := by
  have hba : Below w.heap.size w (w.alloc (.cells #[.pointer (some ⟨bw, 0, none⟩)] 28)) := (Below.refl _ _).alloc (Nat.le_refl _) _
  have HC := Lib.hid (Cand_out (h.next hba) hc n d)
  have HBA := Lib.hid hba
  clear h hba
  go_enter Tryz.func64, Tryz.ntmps64
  go_wp2_with fail
  refine HC.out.mono ?_
  rintro r w1 ⟨rfl, hb⟩
  have HB := Lib.hid ((HBA.out.trans (hb.mono HBA.out.size)).alloc (HBA.out.trans (hb.mono HBA.out.size)).size (.cells #[.slice none 0 0] 72))
  clear hb HC HBA
  go_wp2
  go_ret2
  exact ⟨rfl, HB.out⟩

end Go.Proofs.YtipinmbpdgjalaaGreatDoor.Hi
