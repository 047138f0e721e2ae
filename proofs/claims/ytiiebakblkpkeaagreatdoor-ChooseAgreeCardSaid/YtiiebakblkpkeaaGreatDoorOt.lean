/- Overriding: slices.DeleteFunc of ids, at First's closure. -/
import Derived.Test.YtiiebakblkpkeaaGreatDoorOi
import Derived.Test.YtiiebakblkpkeaaGreatDoorOj1
import Derived.Test.YtiiebakblkpkeaaGreatDoorKi
import Derived.Lib.SliceRun
set_option maxRecDepth 100000
set_option maxHeartbeats 1000000
set_option linter.unusedVariables false
set_option linter.unusedSimpArgs false
namespace Go.Proofs.YtiiebakblkpkeaaGreatDoor.Hi
open Go.RowKit Bs

theorem IndexF {w : World} {a : Option Addr} {cap : Nat} {xs : List (Int × Int)} (pr : Int × Int → Bool) (caps : Array Value) (hm : IdSl (fun b => b < w.heap.size) w (.slice a xs.length cap) xs)
    (hf : ∀ wr, Below w.heap.size w wr → ∀ k (hk : k < xs.length), Calls Tryz.prog 61 (#[idO xs[k]] ++ caps) wr fun r w' => r = .returned (.bool (pr xs[k])) ∧ Below wr.heap.size wr w') :
    Calls Tryz.prog 95 #[.slice a xs.length cap, .func (.func 61) #[] caps] w fun e w' => e = .returned (.int .i64 (idxO pr xs)) ∧ Below w.heap.size w w' := by
  have HM := Lib.hid hm
  have HF := Lib.hid hf
  have hby : xs.length * 16 ≤ 140737488355328 := by obtain ⟨_, _, _, _, h, _⟩ := hm; exact h
  clear hm hf
  go_enter Tryz.func95, Tryz.ntmps95
  go_wp2_with fail
  go_loopg [5, 8] xs.length (fun gk _ u wr => ∃ k : Nat, Hid (k + gk = xs.length ∧ ∀ j (h : j < xs.length), j < k → pr xs[j] = false) ∧ u = .int .i64 k ∧ Hid (Below w.heap.size w wr))
  case atStart => exact ⟨0, Lib.hid ⟨Nat.zero_add _, fun j h hj => by omega⟩, rfl, Lib.hid (Below.refl _ _)⟩
  case round =>
    obtain ⟨k, hk, rfl, hB⟩ := hrel
    by_cases hlt : k < xs.length
    · have hlt' : (k : Int) < (xs.length : Int) := by omega
      obtain ⟨b, o, rfl, g0, g1⟩ := IdSl.elem (HM.out.alike (Alike.of_below hB.out fun _ h => h)) hlt
      have HHIT : Hid (pr xs[k] = true → idxO pr xs = (k : Int)) := Lib.hid fun h => by
        unfold idxO
        rw [List.findIdx?_eq_some_iff_getElem.2 ⟨hlt, h, fun j hj => by simp [hk.out.2 j (by omega) hj]⟩]
      have HNEXT : Hid (pr xs[k] = false → ∀ j (h : j < xs.length), j < k + 1 → pr xs[j] = false) := Lib.hid fun h j hj hjk => by
        by_cases e : j = k
        · subst e; exact h
        · exact hk.out.2 j hj (by omega)
      have HC := Lib.hid (HF.out wr hB.out k hlt)
      generalize pr xs[k] = hit at HHIT HNEXT HC
      unfold idO at HC
      generalize xs[k] = x at g0 g1 HC
      go_wp2_with fail
      refine HC.out.mono ?_
      rintro e w1 ⟨rfl, hb1⟩
      have HB1 : Hid (Below w.heap.size w w1) := Lib.hid (hB.out.trans (hb1.mono hB.out.size))
      clear hb1 g0 g1
      cases hit
      · have G := Lib.hid (HNEXT.out rfl)
        go_wp2
        go_roundg (xs.length - (k + 1))
        case measure => have := hk.out.1; omega
        case rel => exact ⟨k + 1, Lib.hid ⟨by omega, G.out⟩, by go_num, HB1⟩
      · have G := Lib.hid (HHIT.out rfl)
        go_wp2
        go_ret
        exact ⟨by rw [G.out]; rfl, HB1.out⟩
    · have F : Hid (idxO pr xs = -1) := Lib.hid (by
        unfold idxO
        rw [List.findIdx?_eq_none_iff.2 (fun x hx => by
          obtain ⟨j, hj, rfl⟩ := List.getElem_of_mem hx
          exact hk.out.2 j hj (by omega))])
      go_wp2
      go_ret
      exact ⟨by rw [F.out]; rfl, hB.out⟩
theorem DelF {w1 : World} {qw : Nat} (pr : Int × Int → Bool) {w : World} (hb : Below w1.heap.size w1 w) {b cap : Nat} {xs : List (Int × Int)} (hf : ∀ wr, Below w1.heap.size w1 wr → ∀ p ∈ xs, Calls Tryz.prog 61 #[idO p, .pointer (some ⟨qw, 0, none⟩)] wr fun r w' => r = .returned (.bool (pr p)) ∧ Below wr.heap.size wr w')
    (hx : Ids2 w b xs) (hfz : ∀ j, w.frozen? ⟨b, j, none⟩ = false) (hcap : xs.length ≤ cap) (hb1 : w1.heap.size ≤ b) (hb2 : b < w.heap.size) (hl : xs.length ≤ 301) :
    Calls Tryz.prog 60 #[.slice (some ⟨b, 0, none⟩) xs.length cap, .func (.func 61) #[] #[.pointer (some ⟨qw, 0, none⟩)]] w fun r w' => r = .returned (.slice (some ⟨b, 0, none⟩) (xs.filter fun p => !pr p).length cap) ∧ Ids2 w' b (xs.filter fun p => !pr p) ∧ b < w'.heap.size ∧ Below w1.heap.size w1 w' := by
  have HI := Lib.hid (IndexF pr #[.pointer (some ⟨qw, 0, none⟩)] (hx.sl hcap hl hb2) (fun wr hbr k hk => hf wr (hb.trans (hbr.mono hb.size)) xs[k] (List.getElem_mem hk)))
  have HB := Lib.hid hb
  have HFN := Lib.hid hf
  have HX := Lib.hid hx
  have HFZ := Lib.hid hfz
  have HC := Lib.hid (And.intro hcap (And.intro hb1 hb2))
  clear hb hf hx hfz hcap hb1 hb2
  unfold idxO at HI
  go_enter Tryz.func60, Tryz.ntmps60
  go_wp2_with fail
  refine HI.out.mono ?_
  rintro e w2 ⟨rfl, hb⟩
  have HX2 : Hid (Ids2 w2 b xs) := Lib.hid (HX.out.below hb HC.out.2.2)
  have HFZ2 : Hid (∀ j, w2.frozen? ⟨b, j, none⟩ = false) := Lib.hid fun j => (World.frozen?_of_block (a := ⟨b, j, none⟩) (hb.block b HC.out.2.2)).trans (HFZ.out j)
  have HB2 : Hid (Below w1.heap.size w1 w2 ∧ b < w2.heap.size) := Lib.hid ⟨HB.out.trans (hb.mono HB.out.size), Nat.lt_of_lt_of_le HC.out.2.2 hb.size⟩
  clear hb HI
  cases hix : xs.findIdx? (pr) with
  | none =>
    have HN : Hid ((xs.filter fun p => !pr p) = xs) := Lib.hid (List.filter_eq_self.2 fun p hp => by simpa using List.findIdx?_eq_none_iff.1 hix p hp)
    clear hix
    go_wp2
    go_ret
    rw [HN.out]
    exact ⟨rfl, HX2.out, HB2.out.2, HB2.out.1⟩
  | some i0 =>
    obtain ⟨hi0, ht, hf⟩ := List.findIdx?_eq_some_iff_getElem.1 hix
    have hi0' : (i0 : Int) < (xs.length : Int) := by omega
    have HT : Hid (xs.take i0 = (xs.take (i0 + 1)).filter fun p => !pr p) := Lib.hid (by
      rw [List.take_succ_eq_append_getElem hi0, List.filter_append]
      rw [List.filter_eq_self.2 (fun p hp => by
        obtain ⟨j, hj, rfl⟩ := List.getElem_of_mem hp
        rw [List.getElem_take]
        have hj' : j < i0 := by simp at hj; omega
        simpa using hf j hj')]
      simp [ht])
    clear hix ht hf
    go_wp2_with fail
    go_loopg [5, 6] (xs.length - (i0 + 1)) (fun gk ui uj wr => ∃ (i j : Nat) (ls : List (Int × Int)), Hid (j + gk = xs.length ∧ i < j ∧ ls.length = xs.length ∧ ls.take i = (xs.take j).filter (fun p => !pr p) ∧ ls.drop j = xs.drop j) ∧ ui = .int .i64 i ∧ uj = .int .i64 j ∧ Hid (Ids2 wr b ls) ∧ Hid (∀ j, wr.frozen? ⟨b, j, none⟩ = false) ∧ Hid (Below w1.heap.size w1 wr ∧ b < wr.heap.size))
    case atStart => exact ⟨i0, i0 + 1, xs, Lib.hid ⟨by omega, by omega, rfl, HT.out, rfl⟩, rfl, by go_num, HX2, HFZ2, HB2⟩
    case round =>
      obtain ⟨i, j, ls, hk, rfl, rfl, HXr, HFr, HBr⟩ := hrel
      by_cases hlt : j < xs.length
      · have hlt' : (j : Int) < (xs.length : Int) := by omega
        have hij : i < j := hk.out.2.1
        have hil : (i : Int) < (xs.length : Int) := by omega
        have hjl : j < ls.length := by rw [hk.out.2.2.1]; exact hlt
        have HE : Hid (ls[j] = xs[j]) := Lib.hid (by
          have h1 : (ls.drop j)[0]? = (xs.drop j)[0]? := by rw [hk.out.2.2.2.2]
          rw [List.getElem?_drop, List.getElem?_drop, Nat.add_zero, List.getElem?_eq_getElem hjl, List.getElem?_eq_getElem hlt] at h1
          exact Option.some.inj h1)
        obtain ⟨g0, g1⟩ := HXr.out j hjl
        have HTK : Hid ((xs.take (j + 1)).filter (fun p => !pr p) = (xs.take j).filter (fun p => !pr p) ++ (if pr xs[j] = true then [] else [xs[j]])) := Lib.hid (by
          rw [List.take_succ_eq_append_getElem hlt, List.filter_append]
          congr 1
          cases h : pr xs[j] <;> simp [h])
        have HLA : Hid (Below w1.heap.size w1 (wr.alloc (.cells #[.int .i64 ls[j].1, .int .i64 ls[j].2] 24))) := Lib.hid (HBr.out.1.alloc HBr.out.1.size _)
        have HAW : Hid (Below wr.heap.size wr (wr.alloc (.cells #[.int .i64 ls[j].1, .int .i64 ls[j].2] 24))) := Lib.hid ((Below.refl _ _).alloc (Nat.le_refl _) _)
        have HID : Hid ((wr.alloc (.cells #[.int .i64 ls[j].1, .int .i64 ls[j].2] 24)).cell? ⟨wr.heap.size, 0, none⟩ = some (.int .i64 ls[j].1) ∧ (wr.alloc (.cells #[.int .i64 ls[j].1, .int .i64 ls[j].2] 24)).cell? ⟨wr.heap.size, 1, none⟩ = some (.int .i64 ls[j].2)) := Lib.hid ⟨World.cell?_alloc_new .., World.cell?_alloc_new ..⟩
        have hM1 := HFN.out _ HLA.out ls[j] (by rw [HE.out]; exact List.getElem_mem hlt)
        unfold idO at hM1
        have HM1 := Lib.hid hM1
        have HDR : Hid (ls.drop (j + 1) = xs.drop (j + 1)) := Lib.hid (by
          rw [← List.drop_drop, ← List.drop_drop, hk.out.2.2.2.2])
        have HSE : Hid ((ls.set i ls[j]).take (i + 1) = ls.take i ++ [ls[j]]) := Lib.hid (by
          rw [List.take_succ_eq_append_getElem (by simp; omega), List.take_set_of_le (Nat.le_refl _)]
          simp)
        have HSD : Hid ((ls.set i ls[j]).drop (j + 1) = ls.drop (j + 1)) := Lib.hid (by rw [List.drop_set_of_lt (by omega)])
        clear hM1
        rw [← HE.out] at HTK
        have HSS := Lib.hid (fun (wz : World) (hz : Ids2 wz b ls) => hz.set (i := i) (by omega) ls[j])
        generalize ls[j] = p at g0 g1 HTK HLA HAW HID HM1 HSE HSD HSS
        clear HE
        go_wp2_with fail
        refine HM1.out.mono ?_
        rintro e w3 ⟨rfl, hb⟩
        have HL3 : Hid (Below w1.heap.size w1 w3) := Lib.hid (HLA.out.trans (hb.mono HLA.out.size))
        have HW3 : Hid (Below wr.heap.size wr w3) := Lib.hid (HAW.out.trans (hb.mono HAW.out.size))
        have k0 := below_cell' hb HID.out.1
        have k1 := below_cell' hb HID.out.2
        have HX3 : Hid (Ids2 w3 b ls) := Lib.hid (HXr.out.below HW3.out HBr.out.2)
        have HF3 : Hid (∀ j, w3.frozen? ⟨b, j, none⟩ = false) := Lib.hid fun j => (World.frozen?_of_block (a := ⟨b, j, none⟩) (HW3.out.block b HBr.out.2)).trans (HFr.out j)
        have HB3 : Hid (b < w3.heap.size) := Lib.hid (Nat.lt_of_lt_of_le HBr.out.2 HW3.out.size)
        clear hb g0 g1 HM1 HID HLA HAW HW3 HXr HFr HBr
        generalize wr.heap.size = qm at k0 k1
        cases hh : pr p
        · have HN : Hid ((xs.take (j + 1)).filter (fun p => !pr p) = ls.take i ++ [p]) := Lib.hid (by rw [HTK.out, hh, hk.out.2.2.2.1]; rfl)
          obtain ⟨s0, s1⟩ := HX3.out i (by have := hk.out.2.2.1; omega)
          have t0 := HF3.out (i * 2)
          have t1 := HF3.out (i * 2 + 1)
          have hi300 : i < 301 := by omega
          clear HTK hh
          go_wp2
          go_roundg (xs.length - (j + 1))
          case measure => have := hk.out.1; omega
          case rel =>
            refine ⟨i + 1, j + 1, ls.set i p, Lib.hid ⟨by have := hk.out.1; omega, by omega, by simp; exact hk.out.2.2.1, ?_, ?_⟩, by go_num, by go_num, Lib.hid (HSS.out _ HX3.out), Lib.hid fun q => ?_, Lib.hid ⟨(HL3.out.setCell HC.out.2.1 _).setCell HC.out.2.1 _, by simpa using HB3.out⟩⟩
            · rw [HSE.out, HN.out]
            · rw [HSD.out, HDR.out]
            · rw [World.frozen?_setCell, World.frozen?_setCell]; exact HF3.out q
        · have HN : Hid ((xs.take (j + 1)).filter (fun p => !pr p) = ls.take i) := Lib.hid (by rw [HTK.out, hh, hk.out.2.2.2.1]; simp)
          clear HTK hh HSS HSE HSD
          go_wp2
          go_roundg (xs.length - (j + 1))
          case measure => have := hk.out.1; omega
          case rel => exact ⟨i, j + 1, ls, Lib.hid ⟨by have := hk.out.1; omega, by omega, hk.out.2.2.1, HN.out.symm, HDR.out⟩, rfl, by go_num, HX3, HF3, Lib.hid ⟨HL3.out, HB3.out⟩⟩
      · have hjn : j = xs.length := by have := hk.out.1; omega
        have hin : i < xs.length := by have := hk.out.2.1; omega
        have HP : Hid (ls.take i = xs.filter fun p => !pr p) := Lib.hid (by rw [hk.out.2.2.2.1, hjn, List.take_length])
        have HPL : Hid ((xs.filter fun p => !pr p).length = i) := Lib.hid (by rw [← HP.out, List.length_take, hk.out.2.2.1]; omega)
        have HCL : Hid (∀ ty, (Builtin.clear_ #[94] ty #[.slice (some ⟨b, i * 2, none⟩) (xs.length - i) (cap - i)]).run Tryz.prog wr = .ok (.tuple #[]) (wr.setCells b (i * 2) (List.replicate ((xs.length - i) * 2) (.int .i64 0)))) := Lib.hid fun ty =>
          clear_ids wr ty b (i * 2) (xs.length - i) (cap - i) (by omega) (fun q hq => by
            have h1 := HXr.out ((i * 2 + q) / 2) (by rw [hk.out.2.2.1]; omega)
            rcases Nat.mod_two_eq_zero_or_one (i * 2 + q) with e | e
            · rw [show i * 2 + q = (i * 2 + q) / 2 * 2 by omega, h1.1]; rfl
            · rw [show i * 2 + q = (i * 2 + q) / 2 * 2 + 1 by omega, h1.2]; rfl) HFr.out
        have hcl := HCL.out
        have hci : i < cap := by have := HC.out.1; omega
        clear hjn
        go_wp2
        go_ret
        refine ⟨by rw [HPL.out]; rfl, fun q hq => ?_, ?_, below_cells HC.out.2.1 _ _ _ HBr.out.1⟩
        · have hq' : q < i := by rw [← HPL.out]; exact hq
          have e : (xs.filter fun p => !pr p)[q] = ls[q]'(by rw [hk.out.2.2.1]; omega) := by
            have h1 : (xs.filter fun p => !pr p)[q]? = (ls.take i)[q]? := by rw [HP.out]
            rw [List.getElem?_take_of_lt hq', List.getElem?_eq_getElem hq, List.getElem?_eq_getElem (by rw [hk.out.2.2.1]; omega)] at h1
            exact Option.some.inj h1
          rw [e]
          have h2 := HXr.out q (by rw [hk.out.2.2.1]; omega)
          exact ⟨(World.cell?_setCells_out b _ _ _ _ (fun _ _ => .inl (by show q * 2 < i * 2; omega))).trans h2.1, (World.cell?_setCells_out b _ _ _ _ (fun _ _ => .inl (by show q * 2 + 1 < i * 2; omega))).trans h2.2⟩
        · rw [size_cells]; exact HBr.out.2
end Go.Proofs.YtiiebakblkpkeaaGreatDoor.Hi
