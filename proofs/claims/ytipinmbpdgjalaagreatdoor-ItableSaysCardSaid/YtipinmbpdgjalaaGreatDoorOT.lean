/- Overriding: slices.DeleteFunc of ids, at First's closure. -/
import Derived.Test.YtipinmbpdgjalaaGreatDoorOB
import Derived.Test.YtipinmbpdgjalaaGreatDoorOS
import Derived.Test.YtipinmbpdgjalaaGreatDoorKA
import Derived.Lib.SliceRun
set_option maxRecDepth 100000
set_option maxHeartbeats 1000000
set_option linter.unusedVariables false
set_option linter.unusedSimpArgs false
namespace Go.Proofs.YtipinmbpdgjalaaGreatDoor.Hi
open Go.RowKit Bs

theorem IndexF {w : World} {a : Option Addr} {cap : Nat} {xs : List (Int × Int)} (pr : Int × Int → Bool) (caps : Array Value) (hm : IdSl (fun b => b < w.heap.size) w (.slice a xs.length cap) xs)
    (hf : ∀ wr, Below w.heap.size w wr → ∀ k (hk : k < xs.length), Calls Tryz.prog 58 (#[idO xs[k]] ++ caps) wr fun r w' => r = .returned (.bool (pr xs[k])) ∧ Below wr.heap.size wr w') :
    Calls Tryz.prog 92 #[.slice a xs.length cap, .func (.func 58) #[] caps] w fun e w' => e = .returned (.int .i64 (idxO pr xs)) ∧ Below w.heap.size w w' := by
  have HM := Lib.hid hm
  have HF := Lib.hid hf
  have hby : xs.length * 16 ≤ 140737488355328 := by obtain ⟨_, _, _, _, h, _⟩ := hm; exact h
  clear hm hf
  go_enter Tryz.func92, Tryz.ntmps92
  go_wp2_with fail
  go_loopg [5, 8] xs.length (fun gk _ u wr => ∃ k : Nat, Hid (k + gk = xs.length ∧ ∀ j (h : j < xs.length), j < k → pr xs[j] = false) ∧ u = .int .i64 k ∧ Hid (Below w.heap.size w wr))
  case atStart => exact ⟨0, Lib.hid ⟨Nat.zero_add _, fun j h hj => by omega⟩, rfl, Lib.hid (Below.refl _ _)⟩
  case round =>
    obtain ⟨k, hk, rfl, hB⟩ := hrel
    by_cases hlt : k < xs.length
    · have hlt' : (k : Int) < (xs.length : Int) := by omega
      obtain ⟨b, o, rfl, g0, g1⟩ := IdSl.elem (HM.out.alike (Alike.of_below hB.out fun _ h => h)) hlt
      have HHIT : Hid (pr xs[k] = true → idxO pr xs = (k : Int)) := Lib.hid fun h => by
        unfold idxO
        rw [List.findIdx?_eq_some_iff_getElem.2 ⟨hlt, h, fun j hj => by simp [hk.out.2 j (by omega) hj]⟩]
      have HNEXT : Hid (pr xs[k] = false → ∀ j (h : j < xs.length), j < k + 1 → pr xs[j] = false) := Lib.hid fun h j hj hjk => by
        by_cases e : j = k
        · subst e; exact h
        · exact hk.out.2 j hj (by omega)
      have HC := Lib.hid (HF.out wr hB.out k hlt)
      generalize pr xs[k] = hit at HHIT HNEXT HC
      unfold idO at HC
      generalize xs[k] = x at g0 g1 HC
      go_wp2_with fail
      refine HC.out.mono ?_
      rintro e w1 ⟨rfl, hb1⟩
      have HB1 : Hid (Below w.heap.size w w1) := Lib.hid (hB.out.trans (hb1.mono hB.out.size))
      clear hb1 g0 g1
      cases hit
      · have G := Lib.hid (HNEXT.out rfl)
        go_wp2
        go_roundg (xs.length - (k + 1))
        case measure => have := hk.out.1; omega
        case rel => exact ⟨k + 1, Lib.hid ⟨by omega, G.out⟩, by go_num, HB1⟩
      · have G := Lib.hid (HHIT.out rfl)
        go_wp2
        go_ret
        exact ⟨by rw [G.out]; rfl, HB1.out⟩
    · have F : Hid (idxO pr xs = -1) := Lib.hid (by
        unfold idxO
        rw [List.findIdx?_eq_none_iff.2 (fun x hx => by
          obtain ⟨j, hj, rfl⟩ := List.getElem_of_mem hx
          exact hk.out.2 j hj (by omega))])
      go_wp2
      go_ret
      exact ⟨by rw [F.out]; rfl, hB.out⟩
theorem DelF {w1 : World} {qw : Nat} (pr : Int × Int → Bool) {w : World} (hb : Below w1.heap.size w1 w) {b cap : Nat} {xs : List (Int × Int)} (hf : ∀ wr, Below w1.heap.size w1 wr → ∀ p ∈ xs, Calls Tryz.prog 58 #[idO p, .pointer (some ⟨qw, 0, none⟩)] wr fun r w' => r = .returned (.bool (pr p)) ∧ Below wr.heap.size wr w')
    (hx : Ids2 w b xs) (hfz : ∀ j, w.frozen? ⟨b, j, none⟩ = false) (hcap : xs.length ≤ cap) (hb1 : w1.heap.size ≤ b) (hb2 : b < w.heap.size) (hl : xs.length ≤ 301) :
    Calls Tryz.prog 57 #[.slice (some ⟨b, 0, none⟩) xs.length cap, .func (.func 58) #[] #[.pointer (some ⟨qw, 0, none⟩)]] w fun r w' => r = .returned (.slice (some ⟨b, 0, none⟩) (xs.filter fun p => !pr p).length cap) ∧ Ids2 w' b (xs.filter fun p => !pr p) ∧ b < w'.heap.size ∧ Below w1.heap.size w1 w' := by
  have HI := Lib.hid (IndexF pr #[.pointer (some ⟨qw, 0, none⟩)] (hx.sl hcap hl hb2) (fun wr hbr k hk => hf wr (hb.trans (hbr.mono hb.size)) xs[k] (List.getElem_mem hk)))
  have HB := Lib.hid hb
  have HFN := Lib.hid hf
  have HX := Lib.hid hx
  have HFZ := Lib.hid hfz
  have HC := Lib.hid (And.intro hcap (And.intro hb1 hb2))
  clear hb hf hx hfz hcap hb1 hb2
  unfold idxO at HI
  go_enter Tryz.func57, Tryz.ntmps57
  go_wp2_with fail
  refine HI.out.mono ?_
  rintro e w2 ⟨rfl, hb⟩
  have HX2 : Hid (Ids2 w2 b xs) := Lib.hid (HX.out.below hb HC.out.2.2)
  have HFZ2 : Hid (∀ j, w2.frozen? ⟨b, j, none⟩ = false) := Lib.hid fun j => (World.frozen?_of_block (a := ⟨b, j, none⟩) (hb.block b HC.out.2.2)).trans (HFZ.out j)
  have HB2 : Hid (Below w1.heap.size w1 w2 ∧ b < w2.heap.size) := Lib.hid ⟨HB.out.trans (hb.mono HB.out.size), Nat.lt_of_lt_of_le HC.out.2.2 hb.size⟩
  clear hb HI
  cases hix : xs.findIdx? (pr) with
  | none =>
    have HN : Hid ((xs.filter fun p => !pr p) = xs) := Lib.hid (List.filter_eq_self.2 fun p hp => by simpa using List.findIdx?_eq_none_iff.1 hix p hp)
    clear hix
    go_wp2
    go_ret
    rw [HN.out]
    exact ⟨rfl, HX2.out, HB2.out.2, HB2.out.1⟩
  | some i0 =>
    obtain ⟨hi0, ht, hf⟩ := List.findIdx?_eq_some_iff_getElem.1 hix
    have hi0' : (i0 : Int) < (xs.length : Int) := by omega
    have HT : Hid (xs.take i0 = (xs.take (i0 + 1)).filter fun p => !pr p) := Lib.hid (by
      rw [List.take_succ_eq_append_getElem hi0, List.filter_append]
      rw [List.filter_eq_self.2 (fun p hp => by
        obtain ⟨j, hj, rfl⟩ := List.getElem_of_mem hp
        rw [List.getElem_take]
        have hj' : j < i0 := by simp at hj; omega
        simpa using hf j hj')]
      simp [ht])
    clear hix ht hf
    go_wp2_with fail
    go_loopg [5, 6] (xs.length - (i0 + 1)) (fun gk ui uj wr => ∃ (i j : Nat) (ls : List (Int × Int)), Hid (j + gk = xs.length ∧ i < j ∧ ls.length = xs.length ∧ ls.take i = (xs.take j).filter (fun p => !pr p) ∧ ls.drop j = xs.drop j) ∧ ui = .int .i64 i ∧ uj = .int .i64 j ∧ Hid (Ids2 wr b ls) ∧ Hid (∀ j, wr.frozen? ⟨b, j, none⟩ = false) ∧ Hid (Below w1.heap.size w1 wr ∧ b < wr.heap.size))
    case atStart => exact ⟨i0, i0 + 1, xs, Lib.hid ⟨by omega, by omega, rfl, HT.out, rfl⟩, rfl, by go_num, HX2, HFZ2, HB2⟩
    case round =>
      obtain ⟨i, j, ls, hk, rfl, rfl, HXr, HFr, HBr⟩ := hrel
      by_cases hlt : j < xs.length
      · have hlt' : (j : Int) < (xs.length : Int) := by omega
        have hij : i < j := hk.out.2.1
        have hil : (i : Int) < (xs.length : Int) := by omega
        have hjl : j < ls.length := by rw [hk.out.2.2.1]; exact hlt
        have HE : Hid (ls[j] = xs[j]) := Lib.hid (by
          have h1 : (ls.drop j)[0]? = (xs.drop j)[0]? := by rw [hk.out.2.2.2.2]
          rw [List.getElem?_drop, List.getElem?_drop, Nat.add_zero, List.getElem?_eq_getElem hjl, List.getElem?_eq_getElem hlt] at h1
          exact Option.some.inj h1)
        obtain ⟨g0, g1⟩ := HXr.out j hjl
        have HTK : Hid ((xs.take (j + 1)).filter (fun p => !pr p) = (xs.take j).filter (fun p => !pr p) ++ (if pr xs[j] = true then [] else [xs[j]])) := Lib.hid (by
          rw [List.take_succ_eq_append_getElem hlt, List.filter_append]
          congr 1
          cases h : pr xs[j] <;> simp [h])
        have HLA : Hid (Below w1.heap.size w1 (wr.alloc (.cells #[.int .i64 ls[j].1, .int .i64 ls[j].2] 38))) := Lib.hid (HBr.out.1.alloc HBr.out.1.size _)
        have HAW : Hid (Below wr.heap.size wr (wr.alloc (.cells #[.int .i64 ls[j].1, .int .i64 ls[j].2] 38))) := Lib.hid ((Below.refl _ _).alloc (Nat.le_refl _) _)
        have HID : Hid ((wr.alloc (.cells #[.int .i64 ls[j].1, .int .i64 ls[j].2] 38)).cell? ⟨wr.heap.size, 0, none⟩ = some (.int .i64 ls[j].1) ∧ (wr.alloc (.cells #[.int .i64 ls[j].1, .int .i64 ls[j].2] 38)).cell? ⟨wr.heap.size, 1, none⟩ = some (.int .i64 ls[j].2)) := Lib.hid ⟨World.cell?_alloc_new .., World.cell?_alloc_new ..⟩
        have hM1 := HFN.out _ HLA.out ls[j] (by rw [HE.out]; exact List.getElem_mem hlt)
        unfold idO at hM1
        have HM1 := Lib.hid hM1
        have HDR : Hid (ls.drop (j + 1) = xs.drop (j + 1)) := Lib.hid (by
          rw [← List.drop_drop, ← List.drop_drop, hk.out.2.2.2.2])
        have HSE : Hid ((ls.set i ls[j]).take (i + 1) = ls.take i ++ [ls[j]]) := Lib.hid (by
          rw [List.take_succ_eq_append_getElem (by simp; omega), List.take_set_of_le (Nat.le_refl _)]
          simp)
        have HSD : Hid ((ls.set i ls[j]).drop (j + 1) = ls.drop (j + 1)) := Lib.hid (by rw [List.drop_set_of_lt (by omega)])
        clear hM1
        rw [← HE.out] at HTK
        have HSS := Lib.hid (fun (wz : World) (hz : Ids2 wz b ls) => hz.set (i := i) (by omega) ls[j])
        generalize ls[j] = p at g0 g1 HTK HLA HAW HID HM1 HSE HSD HSS
        clear HE
        go_wp2_with fail
        refine HM1.out.mono ?_
        rintro e w3 ⟨rfl, hb⟩
        have HL3 : Hid (Below w1.heap.size w1 w3) := Lib.hid (HLA.out.trans (hb.mono HLA.out.size))
        have HW3 : Hid (Below wr.heap.size wr w3) := Lib.hid (HAW.out.trans (hb.mono HAW.out.size))
        have k0 := below_cell' hb HID.out.1
        have k1 := below_cell' hb HID.out.2
        have HX3 : Hid (Ids2 w3 b ls) := Lib.hid (HXr.out.below HW3.out HBr.out.2)
        have HF3 : Hid (∀ j, w3.frozen? ⟨b, j, none⟩ = false) := Lib.hid fun j => (World.frozen?_of_block (a := ⟨b, j, none⟩) (HW3.out.block b HBr.out.2)).trans (HFr.out j)
        have HB3 : Hid (b < w3.heap.size) := Lib.hid (Nat.lt_of_lt_of_le HBr.out.2 HW3.out.size)
        clear hb g0 g1 HM1 HID HLA HAW HW3 HXr HFr HBr
        generalize wr.heap.size = qm at k0 k1
        cases hh : pr p
        · have HN : Hid ((xs.take (j + 1)).filter (fun p => !pr p) = ls.take i ++ [p]) := Lib.hid (by rw [HTK.out, hh, hk.out.2.2.2.1]; rfl)
          obtain ⟨s0, s1⟩ := HX3.out i (by have := hk.out.2.2.1; omega)
          have t0 := HF3.out (i * 2)
          have t1 := HF3.out (i * 2 + 1)
          have hi300 : i < 301 := by omega
          clear HTK hh
          go_wp2
          go_roundg (xs.length - (j + 1))
          case measure => have := hk.out.1; omega
          case rel =>
            refine ⟨i + 1, j + 1, ls.set i p, Lib.hid ⟨by have := hk.out.1; omega, by omega, by simp; exact hk.out.2.2.1, ?_, ?_⟩, by go_num, by go_num, Lib.hid (HSS.out _ HX3.out), Lib.hid fun q => ?_, Lib.hid ⟨(HL3.out.setCell HC.out.2.1 _).setCell HC.out.2.1 _, by simpa using HB3.out⟩⟩
            · rw [HSE.out, HN.out]
            · rw [HSD.out, HDR.out]
            · rw [World.frozen?_setCell, World.frozen?_setCell]; exact HF3.out q
        · have HN : Hid ((xs.take (j + 1)).filter (fun p => !pr p) = ls.take i) := Lib.hid (by rw [HTK.out, hh, hk.out.2.2.2.1]; simp)
          clear HTK hh HSS HSE HSD
          go_wp2
          go_roundg (xs.length - (j + 1))
          case measure => have := hk.out.1; omega
          case rel => exact ⟨i, j + 1, ls, Lib.hid ⟨by have := hk.out.1; omega, by omega, hk.out.2.2.1, HN.out.symm, HDR.out⟩, rfl, by go_num, HX3, HF3, Lib.hid ⟨HL3.out, HB3.out⟩⟩
      · have hjn : j = xs.length := by have := hk.out.1; omega
        have hin : i < xs.length := by have := hk.out.2.1; omega
        have HP : Hid (ls.take i = xs.filter fun p => !pr p) := Lib.hid (by rw [hk.out.2.2.2.1, hjn, List.take_length])
        have HPL : Hid ((xs.filter fun p => !pr p).length = i) := Lib.hid (by rw [← HP.out, List.length_take, hk.out.2.2.1]; omega)
        have HCL : Hid (∀ ty, (Builtin.clear_ #[72] ty #[.slice (some ⟨b, i * 2, none⟩) (xs.length - i) (cap - i)]).run Tryz.prog wr = .ok (.tuple #[]) (wr.setCells b (i * 2) (List.replicate ((xs.length - i) * 2) (.int .i64 0)))) := Lib.hid fun ty =>
          clear_ids wr ty b (i * 2) (xs.length - i) (cap - i) (by omega) (fun q hq => by
            have h1 := HXr.out ((i * 2 + q) / 2) (by rw [hk.out.2.2.1]; omega)
            rcases Nat.mod_two_eq_zero_or_one (i * 2 + q) with e | e
            · rw [show i * 2 + q = (i * 2 + q) / 2 * 2 by omega, h1.1]; rfl
            · rw [show i * 2 + q = (i * 2 + q) / 2 * 2 + 1 by omega, h1.2]; rfl) HFr.out
        have hcl := HCL.out
        have hci : i < cap := by have := HC.out.1; omega
        clear hjn
        go_wp2
        go_ret
        refine ⟨by rw [HPL.out]; rfl, fun q hq => ?_, ?_, below_cells HC.out.2.1 _ _ _ HBr.out.1⟩
        · have hq' : q < i := by rw [← HPL.out]; exact hq
          have e : (xs.filter fun p => !pr p)[q] = ls[q]'(by rw [hk.out.2.2.1]; omega) := by
            have h1 : (xs.filter fun p => !pr p)[q]? = (ls.take i)[q]? := by rw [HP.out]
            rw [List.getElem?_take_of_lt hq', List.getElem?_eq_getElem hq, List.getElem?_eq_getElem (by rw [hk.out.2.2.1]; omega)] at h1
            exact Option.some.inj h1
          rw [e]
          have h2 := HXr.out q (by rw [hk.out.2.2.1]; omega)
          exact ⟨(World.cell?_setCells_out b _ _ _ _ (fun _ _ => .inl (by show q * 2 < i * 2; omega))).trans h2.1, (World.cell?_setCells_out b _ _ _ _ (fun _ _ => .inl (by show q * 2 + 1 < i * 2; omega))).trans h2.2⟩
        · rw [size_cells]; exact HBr.out.2
end Go.Proofs.YtipinmbpdgjalaaGreatDoor.Hi
/- Overriding: First: the walk. -/
set_option maxRecDepth 100000
set_option maxHeartbeats 4000000
set_option linter.unusedVariables false
set_option linter.unusedSimpArgs false
namespace Go.Proofs.YtipinmbpdgjalaaGreatDoor.Hi
open Go.RowKit Bs

theorem OFirst1 {S : Nat → Prop} {w : World} {cb cc : Nat} {ca : Option Addr} {L : List Int} (hb : w.cell? ⟨cb, 0, none⟩ = some (.slice ca L.length cc)) (hs : IntSl S w (.slice ca L.length cc) L) (hS : ∀ k, S k → k < w.heap.size) (p : Int × Int) :
    Calls Tryz.prog 58 #[idO p, .pointer (some ⟨cb, 0, none⟩)] w fun r w' => r = .returned (.bool (!L.contains p.1)) ∧ Below w.heap.size w w' := by
  obtain ⟨wa, hwa⟩ : ∃ wa, (w.alloc (.cells #[.int .i64 p.1, .int .i64 p.2] 38)) = wa := ⟨_, rfl⟩
  have hba : Below w.heap.size w wa := by rw [← hwa]; exact (Below.refl _ _).alloc (Nat.le_refl _) _
  have p0 : wa.cell? ⟨w.heap.size, 0, none⟩ = some (.int .i64 p.1) := by rw [← hwa]; exact World.cell?_alloc_new ..
  have k0 := below_cell' hba hb
  have HC := Lib.hid (contains_ints p.1 (hs.alike (Alike.of_below hba hS)))
  have HB := Lib.hid hba
  generalize L.contains p.1 = t at *
  unfold idO
  clear hba hs hS hb
  go_enter Tryz.func58, Tryz.ntmps58
  go_wp2_with fail
  try rw [hwa]
  clear hwa
  refine HC.out.mono ?_
  rintro _ w1 ⟨rfl, rfl⟩
  go_wp2
  go_ret
  exact ⟨rfl, HB.out⟩

/-- First, of a method that is there. -/
def firstI (m : List EntM) (x : MethM) (a : Int × Int) (r : Int) : (Int × Int) × Int := match entAt m r with
  | none => (((0 : Int), (0 : Int)), 3)
  | some _ => firstE m x a r.toNat

theorem OFirst {B bw : Nat} {w0 w : World} {m : List EntM} (h : Built B bw w0 w m) {a b : Nat} (ha : a < m.length) (hb : b < m[a].c.meths.length) (r : Int) :
    Calls Tryz.prog 23 #[.pointer (some ⟨bw, 0, none⟩), .int .i64 r, .agg #[.int .i64 a, .int .i64 b]] w fun e w' => e = .returned (.tuple #[.agg #[.int .i64 (firstI m m[a].c.meths[b] ((a : Int), (b : Int)) r).1.1, .int .i64 (firstI m m[a].c.meths[b] ((a : Int), (b : Int)) r).1.2], .int .i64 (firstI m m[a].c.meths[b] ((a : Int), (b : Int)) r).2]) ∧ Below w.heap.size w w' := by
  obtain ⟨wp, hwp⟩ : ∃ wp, (w.alloc (.cells #[.int .i64 (a : Int), .int .i64 (b : Int)] 38)) = wp := ⟨_, rfl⟩
  have hbp : Below w.heap.size w wp := by rw [← hwp]; exact (Below.refl _ _).alloc (Nat.le_refl _) _
  have hzp : wp.heap.size = w.heap.size + 1 := by rw [← hwp]; simp
  have HS := Lib.hid (IdAt.start wp)
  obtain ⟨wa, hwa⟩ : ∃ wa, (wp.alloc (.cells #[.int .i64 0, .int .i64 0] 38)) = wa := ⟨_, rfl⟩
  rw [hwa] at HS
  have p0 : wp.cell? ⟨w.heap.size, 0, none⟩ = some (.int .i64 a) := by rw [← hwp]; exact World.cell?_alloc_new ..
  have p1 : wp.cell? ⟨w.heap.size, 1, none⟩ = some (.int .i64 b) := by rw [← hwp]; exact World.cell?_alloc_new ..
  have q0 : wa.cell? ⟨w.heap.size, 0, none⟩ = some (.int .i64 a) := by rw [← hwa]; exact alloc_old p0
  have q1 : wa.cell? ⟨w.heap.size, 1, none⟩ = some (.int .i64 b) := by rw [← hwa]; exact alloc_old p1
  have HBP := Lib.hid hbp
  have hba := hbp.trans (HS.out.bel.mono hbp.size)
  have HA := Lib.hid (OAsk (h.next hba) ha hb)
  have HD := Lib.hid (fun wr (hr : Below w.heap.size w wr) q k (hk : k < m.length) (hq : AskAt wr q bw ((a : Int), (b : Int)) m[a].c.meths[b]) => ODownR (h.next hr) ha hb hk hq)
  have HC := Lib.hid (fun wr (hr : Below w.heap.size w wr) => Chain (h.next hr).hw (h.next hr).live r)
  have HWF := Lib.hid h.wf
  generalize m[a].c.meths[b] = x at *
  obtain ⟨R, hR⟩ : ∃ R, firstI m x ((a : Int), (b : Int)) r = R := ⟨_, rfl⟩
  rw [hR]
  have HRV := Lib.hid hR
  obtain ⟨⟨u1, u2⟩, ur⟩ := R
  simp only
  clear h hb hbp hba p0 p1 hR
  go_enter Tryz.func23, Tryz.ntmps23
  go_wp2_with fail
  try rw [hwp]
  try rw [hwa]
  clear hwp hwa
  refine HA.out.mono ?_
  rintro _ w1 ⟨q, rfl, hq, hb⟩
  have HS1 := Lib.hid (HS.out.next hb)
  have HB1 : Hid (Below w.heap.size w w1) := Lib.hid (HBP.out.trans (HS1.out.bel.mono HBP.out.size))
  have HQ := Lib.hid hq
  have HCX := Lib.hid (HC.out w1 HB1.out)
  clear hb hq HA HS q0 q1 HC
  have HZP := Lib.hid hzp
  have HTWO : Hid (∀ w', IdAt wp w' → (w'.cell? ⟨w.heap.size + 1, 0, none⟩ = some (.int .i64 0) ∧ w'.cell? ⟨w.heap.size + 1, 1, none⟩ = some (.int .i64 0) ∧ ∀ j, w'.frozen? ⟨w.heap.size + 1, j, none⟩ = false) ∧ ∀ v0 v1, (∀ j (hj : j < [v0, v1].length), ((w'.setCell ⟨w.heap.size + 1, 0, none⟩ v0).setCell ⟨w.heap.size + 1, 1, none⟩ v1).cell? ⟨w.heap.size + 1, j, none⟩ = some [v0, v1][j]) ∧ Below w.heap.size w ((w'.setCell ⟨w.heap.size + 1, 0, none⟩ v0).setCell ⟨w.heap.size + 1, 1, none⟩ v1)) := Lib.hid (fun w' h => by
    rw [← hzp]
    exact ⟨⟨h.s0, h.s1, h.t⟩, fun v0 v1 => ⟨h.two v0 v1, HBP.out.trans ((h.end v0 v1).mono HBP.out.size)⟩⟩)
  clear hzp
  cases her : entAt m r with
  | none =>
    obtain ⟨⟨rfl, rfl⟩, rfl⟩ : ((0 : Int) = u1 ∧ (0 : Int) = u2) ∧ (3 : Int) = ur := by
      have hR := HRV.out
      unfold firstI at hR
      rw [her] at hR
      simpa [Prod.ext_iff] using hR
    have HCM : Hid (chainM m r = ([], 3)) := Lib.hid (by unfold chainM; rw [her])
    rw [HCM.out] at HCX
    clear her HCM HRV
    go_wp2_with fail
    refine HCX.out.mono ?_
    rintro _ w2 ⟨ca, cc, rfl, _, hb⟩
    obtain ⟨wy, hwy⟩ : ∃ wy, (w2.alloc (.cells #[.slice ca 0 cc] 62)) = wy := ⟨_, rfl⟩
    have hby : Below w2.heap.size w2 wy := by rw [← hwy]; exact (Below.refl _ _).alloc (Nat.le_refl _) _
    have HS2 := Lib.hid (HS1.out.next (hb.trans (hby.mono hb.size)))
    obtain ⟨⟨s0, s1, st⟩, hfin⟩ := HTWO.out wy HS2.out
    have t0 := st 0
    have t1 := st 1
    have HFIN := Lib.hid hfin
    clear hb hby HCX st hfin
    subst hwy
    go_wp2
    refine bodyPost_ret (results_cells_tmp rfl _ _ (w.heap.size + 1) [.int .i64 0, .int .i64 0] _ rfl (HFIN.out _ _).1 Tryz.underlying38 rfl id_info2) rfl ⟨rfl, (HFIN.out _ _).2⟩
  | some e =>
    obtain ⟨k, rfl, hk, _⟩ := entAt_some her
    have HR : Hid (firstE m x ((a : Int), (b : Int)) k = ((u1, u2), ur)) := Lib.hid (by
      have hR := HRV.out
      unfold firstI at hR
      rw [her, Int.toNat_natCast] at hR
      exact hR)
    have HCM : Hid (chainM m (k : Int) = (ch m k, 0)) := Lib.hid (by unfold ch chainM; rw [her])
    rw [HCM.out] at HCX
    clear her HCM HRV
    go_wp2_with fail
    refine HCX.out.mono ?_
    rintro _ w2 ⟨ca, cc, rfl, hs, hb⟩
    obtain ⟨wy, hwy⟩ : ∃ wy, (w2.alloc (.cells #[.slice ca (ch m k).length cc] 62)) = wy := ⟨_, rfl⟩
    have hby : Below w2.heap.size w2 wy := by rw [← hwy]; exact (Below.refl _ _).alloc (Nat.le_refl _) _
    have c0 : wy.cell? ⟨w2.heap.size, 0, none⟩ = some (.slice ca (ch m k).length cc) := by rw [← hwy]; exact World.cell?_alloc_new ..
    have hsy := hs.alike (Alike.of_below hby fun b hb => hb.2)
    have HS2 := Lib.hid (HS1.out.next (hb.trans (hby.mono hb.size)))
    have HB2 : Hid (Below w.heap.size w wy) := Lib.hid (HBP.out.trans (HS2.out.bel.mono HBP.out.size))
    have HQ2 := Lib.hid (HQ.out.next (hb.trans (hby.mono hb.size)))
    have HDX := Lib.hid (HD.out wy HB2.out q k hk HQ2.out)
    have HCB := Lib.hid c0
    have HCS := Lib.hid hsy
    have hzy : w2.heap.size < wy.heap.size := World.block_lt_of_cell? _ _ c0
    have HZY := Lib.hid (And.intro hzy (And.intro hby.size hb.size))
    clear hb hby hs hsy HCX HD HQ HS1 hzy
    go_wp2_with fail
    try rw [hwy]
    clear hwy
    refine HDX.out.mono ?_
    rintro _ w3 ⟨da, dc, rfl, hrow, hb⟩
    have HB3 := Lib.hid hb
    have HROW := Lib.hid hrow
    have HLEN := Lib.hid (downLen HWF.out x ((a : Int), (b : Int)) hk)
    obtain ⟨L, hL⟩ : ∃ L, downM m x ((a : Int), (b : Int)) k = L := ⟨_, rfl⟩
    have HFL : Hid (firstL m x ((a : Int), (b : Int)) k = L.filter fun p => (ch m k).contains p.1) := Lib.hid (by unfold firstL; rw [hL])
    rw [hL] at HROW HLEN ⊢
    clear hrow hb HDX c0 hL
    have HF : Hid (∃ F, F = L.filter (fun p => (ch m k).contains p.1) ∧ (F = [] → u1 = 0 ∧ u2 = 0 ∧ ur = 6) ∧ (∀ n (h : n + 1 = F.length), u1 = (F[n]'(by omega)).1 ∧ u2 = (F[n]'(by omega)).2 ∧ ur = 0)) := Lib.hid (by
      refine ⟨_, rfl, fun h => ?_, fun n h => ?_⟩
      · have hR := HR.out
        unfold firstE at hR
        rw [HFL.out, h] at hR
        simp [Prod.ext_iff] at hR
        omega
      · have hR := HR.out
        unfold firstE at hR
        rw [HFL.out, List.getLast?_eq_getElem?, show (L.filter fun p => (ch m k).contains p.1).length - 1 = n by omega, List.getElem?_eq_getElem (by omega)] at hR
        simp only [Prod.ext_iff] at hR
        exact ⟨hR.1.1.symm, hR.1.2.symm, hR.2.symm⟩)
    obtain ⟨F, hF, hF0, hF1⟩ := HF.out
    have HFF := Lib.hid hF
    have HF0 := Lib.hid hF0
    have HF1 := Lib.hid hF1
    clear HF hF hF0 hF1 HR HFL
    have HDL : Hid (∃ (fa : Option Addr) (fc : Nat), Calls Tryz.prog 57 #[.slice da L.length dc, .func (.func 58) #[] #[.pointer (some ⟨w2.heap.size, 0, none⟩)]] w3 fun r w' => r = .returned (.slice fa F.length fc) ∧ ((fa = none ∧ F = []) ∨ ∃ b, fa = some ⟨b, 0, none⟩ ∧ Ids2 w' b F) ∧ Below wy.heap.size wy w') := Lib.hid (by
      have hz3 := HB3.out.size
      rcases HROW.out.2 with ⟨e, h0⟩ | ⟨g, cap, cur, e, hg1, hg2, _⟩
      · injection e with e1 e2 e3
        have hL0 : L = [] := List.eq_nil_of_length_eq_zero e2
        have hFn : F = [] := by rw [HFF.out, hL0]; rfl
        subst hL0; subst hFn; subst e1; subst e3
        exact ⟨none, 0, (Del_none none 0 _ w3).mono fun r w' h => ⟨h.1, .inl ⟨rfl, rfl⟩, by rw [← h.2]; exact HB3.out⟩⟩
      · injection e with e1 e2 e3
        subst e1; subst e3
        obtain ⟨i1, i2, i3⟩ := ids2_of_own HROW.out
        have hgz : g < w3.heap.size := (Array.getElem?_eq_some_iff.1 hg2).1
        refine ⟨some ⟨g, 0, none⟩, dc, (DelF (w1 := wy) (qw := w2.heap.size) (fun p => !(ch m k).contains p.1) HB3.out (fun wr hr p hp => OFirst1 (below_cell' hr HCB.out) (HCS.out.alike (Alike.of_below hr fun b hb => by have := HZY.out; omega)) (fun b hb => by have := HZY.out; have := hr.size; omega) p) i1 i2 i3 hg1 hgz HLEN.out).mono ?_⟩
        rintro r w' ⟨rfl, h2, h3, h4⟩
        have hFF : (L.filter fun p => !(!(ch m k).contains p.1)) = F := by rw [HFF.out]; congr 1; funext p; rw [Bool.not_not]
        rw [hFF] at h2 ⊢
        exact ⟨rfl, .inr ⟨g, rfl, h2⟩, h4⟩)
    obtain ⟨fa, fc, hdl⟩ := HDL.out
    have HDX := Lib.hid hdl
    have HFL : Hid (F.length ≤ 301) := Lib.hid (by
      rw [HFF.out]
      exact Nat.le_trans (List.length_filter_le _ _) HLEN.out)
    clear HDL hdl HROW HLEN HCB HCS
    go_wp2_with fail
    refine HDX.out.mono ?_
    rintro _ w4 ⟨rfl, hfa, hb⟩
    have HS4 := Lib.hid (HS2.out.next hb)
    obtain ⟨⟨s0, s1, st⟩, hfin⟩ := HTWO.out w4 HS4.out
    have t0 := st 0
    have t1 := st 1
    have HFIN := Lib.hid hfin
    clear hb HDX st hfin HTWO
    cases hFl : F.length with
    | zero =>
      obtain ⟨rfl, rfl, rfl⟩ := HF0.out (List.eq_nil_of_length_eq_zero hFl)
      clear hfa HF1 HF0
      go_wp2
      refine bodyPost_ret (results_cells_tmp rfl _ _ (w.heap.size + 1) [.int .i64 0, .int .i64 0] _ rfl (HFIN.out _ _).1 Tryz.underlying38 rfl id_info2) rfl ⟨rfl, (HFIN.out _ _).2⟩
    | succ n =>
      obtain ⟨rfl, rfl, rfl⟩ := HF1.out n hFl.symm
      have hFne : F ≠ [] := fun h => by rw [h] at hFl; cases hFl
      rcases hfa with ⟨_, h⟩ | ⟨fb, rfl, hids⟩
      · exact absurd h hFne
      obtain ⟨g0, g1⟩ := hids n (by omega)
      have hnb : n ≤ 301 := by have := HFL.out; omega
      have hnl : (n : Int) < ((n + 1 : Nat) : Int) := by omega
      obtain ⟨z, hz⟩ : ∃ z, F[n]'(by omega) = z := ⟨_, rfl⟩
      rw [hz] at g0 g1
      have HZ := Lib.hid hz
      clear hids hFne HF0 HF1 hz
      go_wp2
      refine bodyPost_ret (results_cells_tmp rfl _ _ (w.heap.size + 1) [.int .i64 z.1, .int .i64 z.2] _ rfl (HFIN.out _ _).1 Tryz.underlying38 rfl id_info2) rfl ⟨by have h := HZ.out; subst h; rfl, (HFIN.out _ _).2⟩
end Go.Proofs.YtipinmbpdgjalaaGreatDoor.Hi
