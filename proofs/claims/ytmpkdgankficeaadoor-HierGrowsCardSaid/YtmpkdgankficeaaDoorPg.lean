/- Reading types: descriptors of any length; how many arguments; references. -/
import Derived.Test.YtmpkdgankficeaaDoorPf
set_option maxRecDepth 100000
set_option maxHeartbeats 1000000
set_option linter.unusedVariables false
set_option linter.unusedSimpArgs false
namespace Go.Proofs.YtmpkdgankficeaaDoor.Pr
open Go.RowKit Bs

theorem ParseDesc_any (l : List UInt8) (w : World) (hl : l.length ≤ maxLen) (he : Lf.Env w) :
    Calls Tryd.prog 66 #[.string (ba l)] w (DescPost (descM l) w) := by
  by_cases hb : 2000 < l.length
  · unfold maxLen at hl
    have hz := ba_size l
    have hd : decide ((2000 : Int) < (l.length : Int)) = true := by simp; omega
    have F : Hid (descM l = ⟨0, false, 0, [], 5⟩) := Lib.hid (if_pos hb)
    go_enter Tryd.func66, Tryd.ntmps66
    go_wp2
    go_step3
    go_wp2
    have hc : ∀ j : Nat, (w.alloc (.cells #[.slice none 0 0, .bool false, .int .i64 0, .string ⟨#[]⟩] 108)).cell? ⟨w.heap.size, j, none⟩ = (#[Value.slice none 0 0, .bool false, .int .i64 0, .string ⟨#[]⟩])[j]? := fun j => World.cell?_alloc_new ..
    refine bodyPost_ret (Hi.results_cells_tmp rfl _ _ w.heap.size [.slice none 0 0, .bool false, .int .i64 0, .string ⟨#[]⟩] _ rfl (fun j hj => ?_) Tryd.underlying108 rfl desc_info) rfl ⟨⟨none, 0, by rw [F.out]; rfl⟩, (Below.refl _ _).alloc (Nat.le_refl _) _⟩
    rw [hc j]
    match j, hj with
    | 0, _ => rfl
    | 1, _ => rfl
    | 2, _ => rfl
    | 3, _ => rfl
  · exact ParseDesc l w (by omega) he

theorem Args (l : List UInt8) (w : World) (hl : l.length ≤ maxLen) (he : Lf.Env w) :
    Calls Tryd.prog 83 #[.string (ba l)] w fun e w' => e = .returned (.tuple #[.int .i64 (descM l).n, .int .i64 (descM l).err]) ∧ Below w.heap.size w w' := by
  have HD := Lib.hid (ParseDesc_any l w hl he)
  generalize descM l = r at HD
  clear hl he
  go_enter Tryd.func83, Tryd.ntmps83
  go_wp2_with fail
  refine HD.out.mono ?_
  rintro e w1 ⟨⟨a, c, rfl⟩, hb⟩
  have HB := Lib.hid hb
  clear hb
  go_wp2
  go_ret2
  exact ⟨rfl, HB.out.alloc HB.out.size _⟩

/-- OK, or ErrForm. -/
def formE (b : Bool) : Int := if b = true then 0 else 1
/-- Is a reference sound? -/
def refB (cls name desc : List UInt8) : Bool := decide ((refTyM cls).err = 0) && decide ((descM desc).err = 0) && Lf.memberB (ba name)

theorem RefCheck (ifc : Bool) (cls name desc : List UInt8) (w : World) (h1 : cls.length ≤ maxLen) (h2 : name.length ≤ maxLen) (h3 : desc.length ≤ maxLen) (he : Lf.Env w) :
    Calls Tryd.prog 100 #[.agg #[.bool ifc, .string (ba cls), .string (ba name), .string (ba desc)]] w fun e w' => e = .returned (.int .i64 (formE (refB cls name desc))) ∧ Below w.heap.size w w' := by
  have HE := Lib.hid he
  have HD := Lib.hid (fun w' he' => ParseDesc_any desc w' h3 he')
  have HC := Lib.hid (fun w' he' => ParseRef cls w' h1 he')
  have HM := Lib.hid (fun w' => Lf.Member (ba name) w' (by rw [ba_size]; exact h2))
  have F : Hid (refB cls name desc = (decide ((refTyM cls).err = 0) && decide ((descM desc).err = 0) && Lf.memberB (ba name))) := Lib.hid rfl
  generalize refB cls name desc = R at F ⊢
  generalize refTyM cls = c at HC F
  generalize descM desc = d at HD F
  generalize Lf.memberB (ba name) = mb at HM F
  clear he h1 h2 h3
  go_enter Tryd.func100, Tryd.ntmps100
  go_wp2_with fail
  refine (HC.out _ (env_alloc HE.out _)).mono ?_
  rintro e w1 ⟨rfl, hb1⟩
  have ce : ∀ j : Nat, (w.alloc (.cells #[.bool ifc, .string (ba cls), .string (ba name), .string (ba desc)] 88)).cell? ⟨w.heap.size, j, none⟩ = (#[Value.bool ifc, .string (ba cls), .string (ba name), .string (ba desc)])[j]? := fun j => World.cell?_alloc_new ..
  have r2 : w1.cell? ⟨w.heap.size, 2, none⟩ = some (.string (ba name)) := below_cell' hb1 (ce 2)
  have r3 : w1.cell? ⟨w.heap.size, 3, none⟩ = some (.string (ba desc)) := below_cell' hb1 (ce 3)
  have HB1 : Hid (Below w.heap.size w w1) := Lib.hid (((Below.refl _ _).alloc (Nat.le_refl _) _).trans (hb1.mono (by simp)))
  have hz1 : w.heap.size < w1.heap.size := World.block_lt_of_cell? _ _ r2
  have HE1 := Lib.hid (HE.out.below HB1.out)
  clear hb1 ce
  go_wp2_with fail
  have HB1' : Hid (Below w.heap.size w (w1.alloc (.cells #[.int .i64 c.dims, .string (ba c.name)] 106))) := Lib.hid (HB1.out.alloc HB1.out.size _)
  have r2' : (w1.alloc (.cells #[.int .i64 c.dims, .string (ba c.name)] 106)).cell? ⟨w.heap.size, 2, none⟩ = some (.string (ba name)) := alloc_old r2
  refine (HD.out _ (env_alloc HE1.out _)).mono ?_
  rintro e w2 ⟨⟨da, dc, rfl⟩, hb2⟩
  have q2 : w2.cell? ⟨w.heap.size, 2, none⟩ = some (.string (ba name)) := below_cell' hb2 r2'
  have HB2 : Hid (Below w.heap.size w w2) := Lib.hid (HB1'.out.trans (hb2.mono HB1'.out.size))
  have hz2 : w.heap.size < w2.heap.size := World.block_lt_of_cell? _ _ q2
  clear hb2 r2 r2' r3 HB1 HB1' HE1 HC HD hz1
  obtain ⟨cd, cn, ce⟩ := c
  obtain ⟨dn, dv, dd, dr, de⟩ := d
  have HX : Hid (∀ o, Below w.heap.size w (w2.alloc o)) := Lib.hid fun o => HB2.out.alloc HB2.out.size o
  by_cases h1 : ce = 0
  · subst h1
    by_cases h2 : de = 0
    · subst h2
      cases mb
      · have G : Hid (R = false) := Lib.hid (by rw [F.out]; rfl)
        go_wp2_with fail
        refine (HM.out _).mono ?_
        rintro e _ ⟨rfl, rfl⟩
        go_wp2
        go_ret
        exact ⟨by rw [G.out]; rfl, HX.out _⟩
      · have G : Hid (R = true) := Lib.hid (by rw [F.out]; rfl)
        go_wp2_with fail
        refine (HM.out _).mono ?_
        rintro e _ ⟨rfl, rfl⟩
        go_wp2
        go_ret
        exact ⟨by rw [G.out]; rfl, HX.out _⟩
    · have e2 : (de != 0) = true := by simpa using h2
      have G : Hid (R = false) := Lib.hid (by rw [F.out]; simp [h2])
      go_wp2
      go_ret
      exact ⟨by rw [G.out]; rfl, HX.out _⟩
  · have e1 : (ce != 0) = true := by simpa using h1
    have G : Hid (R = false) := Lib.hid (by rw [F.out]; simp [h1])
    go_wp2
    go_ret
    exact ⟨by rw [G.out]; rfl, HX.out _⟩
end Go.Proofs.YtmpkdgankficeaaDoor.Pr
