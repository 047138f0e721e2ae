/- maxspec.One. -/
import Derived.Test.YtiiebakblkpkeaaGreatDoorKe
import Derived.Test.YtiiebakblkpkeaaGreatDoorKi
import Derived.Lib.SliceRun
set_option maxRecDepth 100000
set_option maxHeartbeats 1000000
set_option linter.unusedVariables false
set_option linter.unusedSimpArgs false
namespace Go.Proofs.YtiiebakblkpkeaaGreatDoor.Hi
open Go.RowKit Bs

/-- A method's flags. -/
def flM (m : List EntM) (p : Int × Int) : Int := match entAt m p.1 with
  | none => 0
  | some e => (e.c.meths[p.2.toNat]?.map (·.flags)).getD 0
def absM (m : List EntM) (p : Int × Int) : Bool := bits .and .i64 (flM m p) 1024 != 0
/-- Is it a method of the world? -/
def IsM (m : List EntM) (p : Int × Int) : Prop := ∃ (y k : Nat) (h : y < m.length), p = ((y : Int), (k : Int)) ∧ k < m[y].c.meths.length
theorem flM_at {m : List EntM} {y k : Nat} (h : y < m.length) (hk : k < m[y].c.meths.length) : flM m ((y : Int), (k : Int)) = m[y].c.meths[k].flags := by
  unfold flM
  rw [entAt_nat h]
  show (m[y].c.meths[((k : Int)).toNat]?.map (·.flags)).getD 0 = _
  rw [Int.toNat_natCast, List.getElem?_eq_getElem hk]
  rfl

theorem One1 {B bw : Nat} {w0 w : World} {m : List EntM} (h : Built B bw w0 w m) {qw : Nat} (p : Int × Int) (hp : IsM m p) (hw : w.cell? ⟨qw, 0, none⟩ = some (.pointer (some ⟨bw, 0, none⟩))) :
    Calls Tryz.prog 63 #[idV p, .pointer (some ⟨qw, 0, none⟩)] w fun r w' => r = .returned (.bool (absM m p)) ∧ Below w.heap.size w w' := by
  obtain ⟨y, k, hy, rfl, hk⟩ := hp
  have hba : Below w.heap.size w (w.alloc (.cells #[.int .i64 (y : Int), .int .i64 (k : Int)] 24)) := (Below.refl _ _).alloc (Nat.le_refl _) _
  have g0 := below_cell' hba hw
  have h' := h.next hba
  have HM := Lib.hid (Method_any (b := k) h'.hw h'.live (entAt_nat hy))
  have HBA := Lib.hid hba
  have HFL := Lib.hid (flM_at hy hk)
  unfold absM idV
  rw [HFL.out]
  clear h h' hba hw
  go_enter Tryz.func63, Tryz.ntmps63
  go_wp2_with fail
  refine HM.out.mono ?_
  rintro e w4 ⟨nn, dd, ff, ll, ss, ad, q, cq, er, rfl, hff, hb⟩
  have HFF := Lib.hid (hff hk)
  have hb' := HBA.out.trans (hb.mono HBA.out.size)
  have HB := Lib.hid (hb'.alloc hb'.size (.cells #[.string nn, .string dd, .int .i64 ff, .int .i64 ll, .int .i64 ss, .slice ad q cq] 39))
  clear hb hb' hff HM HFL g0
  go_wp2
  go_ret
  exact ⟨by rw [← HFF.out]; rfl, HB.out⟩

theorem DelIds {B bw : Nat} {w0 w1 : World} {m : List EntM} (h : Built B bw w0 w1 m) {qw : Nat} (hq : w1.cell? ⟨qw, 0, none⟩ = some (.pointer (some ⟨bw, 0, none⟩))) {w : World} (hb : Below w1.heap.size w1 w) {b cap : Nat} {xs : List (Int × Int)} (hm : ∀ p ∈ xs, IsM m p)
    (hx : Ids2 w b xs) (hfz : ∀ j, w.frozen? ⟨b, j, none⟩ = false) (hcap : xs.length ≤ cap) (hb1 : w1.heap.size ≤ b) (hb2 : b < w.heap.size) (hl : xs.length ≤ 300) :
    Calls Tryz.prog 60 #[.slice (some ⟨b, 0, none⟩) xs.length cap, .func (.func 63) #[] #[.pointer (some ⟨qw, 0, none⟩)]] w fun r w' => r = .returned (.slice (some ⟨b, 0, none⟩) (xs.filter fun p => !absM m p).length cap) ∧ Ids2 w' b (xs.filter fun p => !absM m p) ∧ b < w'.heap.size ∧ Below w1.heap.size w1 w' := by
  have HI := Lib.hid (IndexIds (absM m) 63 #[.pointer (some ⟨qw, 0, none⟩)] (.inr rfl) (hx.sl hcap (Nat.le_succ_of_le hl) hb2) (fun wr hbr k hk => One1 ((h.next hb).next hbr) xs[k] (hm _ (List.getElem_mem hk)) (below_cell' hbr (below_cell' hb hq))))
  have H := Lib.hid h
  have HQ := Lib.hid hq
  have HB := Lib.hid hb
  have HM := Lib.hid hm
  have HX := Lib.hid hx
  have HFZ := Lib.hid hfz
  have HC := Lib.hid (And.intro hcap (And.intro hb1 hb2))
  clear h hq hb hm hx hfz hcap hb1 hb2
  unfold idxIds at HI
  go_enter Tryz.func60, Tryz.ntmps60
  go_wp2_with fail
  refine HI.out.mono ?_
  rintro e w2 ⟨rfl, hb⟩
  have HX2 : Hid (Ids2 w2 b xs) := Lib.hid (HX.out.below hb HC.out.2.2)
  have HFZ2 : Hid (∀ j, w2.frozen? ⟨b, j, none⟩ = false) := Lib.hid fun j => (World.frozen?_of_block (a := ⟨b, j, none⟩) (hb.block b HC.out.2.2)).trans (HFZ.out j)
  have HB2 : Hid (Below w1.heap.size w1 w2 ∧ b < w2.heap.size) := Lib.hid ⟨HB.out.trans (hb.mono HB.out.size), Nat.lt_of_lt_of_le HC.out.2.2 hb.size⟩
  clear hb HI
  cases hix : xs.findIdx? (absM m) with
  | none =>
    have HN : Hid ((xs.filter fun p => !absM m p) = xs) := Lib.hid (List.filter_eq_self.2 fun p hp => by simpa using List.findIdx?_eq_none_iff.1 hix p hp)
    clear hix
    go_wp2
    go_ret
    rw [HN.out]
    exact ⟨rfl, HX2.out, HB2.out.2, HB2.out.1⟩
  | some i0 =>
    obtain ⟨hi0, ht, hf⟩ := List.findIdx?_eq_some_iff_getElem.1 hix
    have hi0' : (i0 : Int) < (xs.length : Int) := by omega
    have HT : Hid (xs.take i0 = (xs.take (i0 + 1)).filter fun p => !absM m p) := Lib.hid (by
      rw [List.take_succ_eq_append_getElem hi0, List.filter_append]
      rw [List.filter_eq_self.2 (fun p hp => by
        obtain ⟨j, hj, rfl⟩ := List.getElem_of_mem hp
        rw [List.getElem_take]
        have hj' : j < i0 := by simp at hj; omega
        simpa using hf j hj')]
      simp [ht])
    clear hix ht hf
    go_wp2_with fail
    go_loopg [5, 6] (xs.length - (i0 + 1)) (fun gk ui uj wr => ∃ (i j : Nat) (ls : List (Int × Int)), Hid (j + gk = xs.length ∧ i < j ∧ ls.length = xs.length ∧ ls.take i = (xs.take j).filter (fun p => !absM m p) ∧ ls.drop j = xs.drop j) ∧ ui = .int .i64 i ∧ uj = .int .i64 j ∧ Hid (Ids2 wr b ls) ∧ Hid (∀ j, wr.frozen? ⟨b, j, none⟩ = false) ∧ Hid (Below w1.heap.size w1 wr ∧ b < wr.heap.size))
    case atStart => exact ⟨i0, i0 + 1, xs, Lib.hid ⟨by omega, by omega, rfl, HT.out, rfl⟩, rfl, by go_num, HX2, HFZ2, HB2⟩
    case round =>
      obtain ⟨i, j, ls, hk, rfl, rfl, HXr, HFr, HBr⟩ := hrel
      by_cases hlt : j < xs.length
      · have hlt' : (j : Int) < (xs.length : Int) := by omega
        have hij : i < j := hk.out.2.1
        have hil : (i : Int) < (xs.length : Int) := by omega
        have hjl : j < ls.length := by rw [hk.out.2.2.1]; exact hlt
        have HE : Hid (ls[j] = xs[j]) := Lib.hid (by
          have h1 : (ls.drop j)[0]? = (xs.drop j)[0]? := by rw [hk.out.2.2.2.2]
          rw [List.getElem?_drop, List.getElem?_drop, Nat.add_zero, List.getElem?_eq_getElem hjl, List.getElem?_eq_getElem hlt] at h1
          exact Option.some.inj h1)
        obtain ⟨g0, g1⟩ := HXr.out j hjl
        have HTK : Hid ((xs.take (j + 1)).filter (fun p => !absM m p) = (xs.take j).filter (fun p => !absM m p) ++ (if absM m xs[j] = true then [] else [xs[j]])) := Lib.hid (by
          rw [List.take_succ_eq_append_getElem hlt, List.filter_append]
          congr 1
          cases h : absM m xs[j] <;> simp [h])
        have HLA : Hid (Below w1.heap.size w1 (wr.alloc (.cells #[.int .i64 ls[j].1, .int .i64 ls[j].2] 24))) := Lib.hid (HBr.out.1.alloc HBr.out.1.size _)
        have HAW : Hid (Below wr.heap.size wr (wr.alloc (.cells #[.int .i64 ls[j].1, .int .i64 ls[j].2] 24))) := Lib.hid ((Below.refl _ _).alloc (Nat.le_refl _) _)
        have HID : Hid ((wr.alloc (.cells #[.int .i64 ls[j].1, .int .i64 ls[j].2] 24)).cell? ⟨wr.heap.size, 0, none⟩ = some (.int .i64 ls[j].1) ∧ (wr.alloc (.cells #[.int .i64 ls[j].1, .int .i64 ls[j].2] 24)).cell? ⟨wr.heap.size, 1, none⟩ = some (.int .i64 ls[j].2)) := Lib.hid ⟨World.cell?_alloc_new .., World.cell?_alloc_new ..⟩
        have hM1 := One1 (H.out.next HLA.out) ls[j] (by rw [HE.out]; exact HM.out _ (List.getElem_mem hlt)) (below_cell' HLA.out HQ.out)
        unfold idV at hM1
        have HM1 := Lib.hid hM1
        have HDR : Hid (ls.drop (j + 1) = xs.drop (j + 1)) := Lib.hid (by
          rw [← List.drop_drop, ← List.drop_drop, hk.out.2.2.2.2])
        have HSE : Hid ((ls.set i ls[j]).take (i + 1) = ls.take i ++ [ls[j]]) := Lib.hid (by
          rw [List.take_succ_eq_append_getElem (by simp; omega), List.take_set_of_le (Nat.le_refl _)]
          simp)
        have HSD : Hid ((ls.set i ls[j]).drop (j + 1) = ls.drop (j + 1)) := Lib.hid (by rw [List.drop_set_of_lt (by omega)])
        clear hM1
        rw [← HE.out] at HTK
        have HSS := Lib.hid (fun (wz : World) (hz : Ids2 wz b ls) => hz.set (i := i) (by omega) ls[j])
        generalize ls[j] = p at g0 g1 HTK HLA HAW HID HM1 HSE HSD HSS
        clear HE
        go_wp2_with fail
        refine HM1.out.mono ?_
        rintro e w3 ⟨rfl, hb⟩
        have HL3 : Hid (Below w1.heap.size w1 w3) := Lib.hid (HLA.out.trans (hb.mono HLA.out.size))
        have HW3 : Hid (Below wr.heap.size wr w3) := Lib.hid (HAW.out.trans (hb.mono HAW.out.size))
        have k0 := below_cell' hb HID.out.1
        have k1 := below_cell' hb HID.out.2
        have HX3 : Hid (Ids2 w3 b ls) := Lib.hid (HXr.out.below HW3.out HBr.out.2)
        have HF3 : Hid (∀ j, w3.frozen? ⟨b, j, none⟩ = false) := Lib.hid fun j => (World.frozen?_of_block (a := ⟨b, j, none⟩) (HW3.out.block b HBr.out.2)).trans (HFr.out j)
        have HB3 : Hid (b < w3.heap.size) := Lib.hid (Nat.lt_of_lt_of_le HBr.out.2 HW3.out.size)
        clear hb g0 g1 HM1 HID HLA HAW HW3 HXr HFr HBr
        generalize wr.heap.size = qm at k0 k1
        cases hh : absM m p
        · have HN : Hid ((xs.take (j + 1)).filter (fun p => !absM m p) = ls.take i ++ [p]) := Lib.hid (by rw [HTK.out, hh, hk.out.2.2.2.1]; rfl)
          obtain ⟨s0, s1⟩ := HX3.out i (by have := hk.out.2.2.1; omega)
          have t0 := HF3.out (i * 2)
          have t1 := HF3.out (i * 2 + 1)
          have hi300 : i < 300 := by omega
          clear HTK hh
          go_wp2
          go_roundg (xs.length - (j + 1))
          case measure => have := hk.out.1; omega
          case rel =>
            refine ⟨i + 1, j + 1, ls.set i p, Lib.hid ⟨by have := hk.out.1; omega, by omega, by simp; exact hk.out.2.2.1, ?_, ?_⟩, by go_num, by go_num, Lib.hid (HSS.out _ HX3.out), Lib.hid fun q => ?_, Lib.hid ⟨(HL3.out.setCell HC.out.2.1 _).setCell HC.out.2.1 _, by simpa using HB3.out⟩⟩
            · rw [HSE.out, HN.out]
            · rw [HSD.out, HDR.out]
            · rw [World.frozen?_setCell, World.frozen?_setCell]; exact HF3.out q
        · have HN : Hid ((xs.take (j + 1)).filter (fun p => !absM m p) = ls.take i) := Lib.hid (by rw [HTK.out, hh, hk.out.2.2.2.1]; simp)
          clear HTK hh HSS HSE HSD
          go_wp2
          go_roundg (xs.length - (j + 1))
          case measure => have := hk.out.1; omega
          case rel => exact ⟨i, j + 1, ls, Lib.hid ⟨by have := hk.out.1; omega, by omega, hk.out.2.2.1, HN.out.symm, HDR.out⟩, rfl, by go_num, HX3, HF3, Lib.hid ⟨HL3.out, HB3.out⟩⟩
      · have hjn : j = xs.length := by have := hk.out.1; omega
        have hin : i < xs.length := by have := hk.out.2.1; omega
        have HP : Hid (ls.take i = xs.filter fun p => !absM m p) := Lib.hid (by rw [hk.out.2.2.2.1, hjn, List.take_length])
        have HPL : Hid ((xs.filter fun p => !absM m p).length = i) := Lib.hid (by rw [← HP.out, List.length_take, hk.out.2.2.1]; omega)
        have HCL : Hid (∀ ty, (Builtin.clear_ #[94] ty #[.slice (some ⟨b, i * 2, none⟩) (xs.length - i) (cap - i)]).run Tryz.prog wr = .ok (.tuple #[]) (wr.setCells b (i * 2) (List.replicate ((xs.length - i) * 2) (.int .i64 0)))) := Lib.hid fun ty =>
          clear_ids wr ty b (i * 2) (xs.length - i) (cap - i) (by omega) (fun q hq => by
            have h1 := HXr.out ((i * 2 + q) / 2) (by rw [hk.out.2.2.1]; omega)
            rcases Nat.mod_two_eq_zero_or_one (i * 2 + q) with e | e
            · rw [show i * 2 + q = (i * 2 + q) / 2 * 2 by omega, h1.1]; rfl
            · rw [show i * 2 + q = (i * 2 + q) / 2 * 2 + 1 by omega, h1.2]; rfl) HFr.out
        have hcl := HCL.out
        have hci : i < cap := by have := HC.out.1; omega
        clear hjn
        go_wp2
        go_ret
        refine ⟨by rw [HPL.out]; rfl, fun q hq => ?_, ?_, below_cells HC.out.2.1 _ _ _ HBr.out.1⟩
        · have hq' : q < i := by rw [← HPL.out]; exact hq
          have e : (xs.filter fun p => !absM m p)[q] = ls[q]'(by rw [hk.out.2.2.1]; omega) := by
            have h1 : (xs.filter fun p => !absM m p)[q]? = (ls.take i)[q]? := by rw [HP.out]
            rw [List.getElem?_take_of_lt hq', List.getElem?_eq_getElem hq, List.getElem?_eq_getElem (by rw [hk.out.2.2.1]; omega)] at h1
            exact Option.some.inj h1
          rw [e]
          have h2 := HXr.out q (by rw [hk.out.2.2.1]; omega)
          exact ⟨(World.cell?_setCells_out b _ _ _ _ (fun _ _ => .inl (by show q * 2 < i * 2; omega))).trans h2.1, (World.cell?_setCells_out b _ _ _ _ (fun _ _ => .inl (by show q * 2 + 1 < i * 2; omega))).trans h2.2⟩
        · rw [size_cells]; exact HBr.out.2
end Go.Proofs.YtiiebakblkpkeaaGreatDoor.Hi
