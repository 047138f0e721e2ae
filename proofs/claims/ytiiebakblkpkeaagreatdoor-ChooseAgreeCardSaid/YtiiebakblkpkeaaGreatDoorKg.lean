/- maxspec.One, Some. -/
import Derived.Test.YtiiebakblkpkeaaGreatDoorKf
set_option maxRecDepth 100000
set_option maxHeartbeats 1000000
set_option linter.unusedVariables false
set_option linter.unusedSimpArgs false
namespace Go.Proofs.YtiiebakblkpkeaaGreatDoor.Hi
open Go.RowKit Bs

theorem cand_mem {m : List EntM} (hw : WFm m) (ho : OrdM m) {c : Nat} (hc : c < m.length) {n d : ByteArray} {p : Int × Int} (hp : p ∈ candM m c n d) :
    ∃ (y k : Nat) (hy : y < m.length) (hk : k < m[y].c.meths.length), p = ((y : Int), (k : Int)) ∧ (y : Int) ∈ clo m c ∧ Pr.mEq n d m[y].c.meths[k] = true ∧ bits .and .i64 m[y].c.meths[k].flags 10 = 0 := by
  unfold candM at hp
  obtain ⟨x, hx, hq⟩ := List.mem_filterMap.1 hp
  obtain ⟨y, rfl, hyc, _⟩ := clo_mem hw ho hc x hx
  have hy : y < m.length := by omega
  unfold candAt at hq
  rw [entAt_nat hy] at hq
  simp only at hq
  split at hq
  · rename_i h
    obtain ⟨h1, h2⟩ := h
    rcases findE_cases m[y] n d with ⟨k, hk, hf⟩ | hf
    · rw [hf] at hq h2
      simp only [Int.toNat_natCast, List.getElem?_eq_getElem hk, Option.map_some, Option.getD_some] at h2
      refine ⟨y, k, hy, hk, ?_, hx, ?_, h2⟩
      · injection hq with hq; rw [← hq]
      · unfold findE Pr.findM at hf
        cases hix : m[y].c.meths.findIdx? (Pr.mEq n d) with
        | none => rw [hix] at hf; simp at hf
        | some j =>
          rw [hix] at hf
          simp only at hf
          rw [if_neg (by omega)] at hf
          injection hf with hf _
          have : j = k := by omega
          subst this
          exact (List.findIdx?_eq_some_iff_getElem.1 hix).2.1
    · rw [hf] at h1; cases h1
  · cases hq
theorem cand_isM {m : List EntM} (hw : WFm m) (ho : OrdM m) {c : Nat} (hc : c < m.length) {n d : ByteArray} {p : Int × Int} (hp : p ∈ candM m c n d) : IsM m p := by
  obtain ⟨y, k, hy, hk, rfl, _⟩ := cand_mem hw ho hc hp
  exact ⟨y, k, hy, rfl, hk⟩

/-- Those that are not abstract. -/
def conM (m : List EntM) (c : Nat) (n d : ByteArray) : List (Int × Int) := (maxM m c n d).filter fun p => !absM m p
def oneOf : List (Int × Int) → (Int × Int) × Int
  | [] => ((0, 0), 24)
  | [p] => (p, 0)
  | _ => ((0, 0), 23)
def oneM (m : List EntM) (c : Nat) (n d : ByteArray) : (Int × Int) × Int := oneOf (conM m c n d)

theorem One {B bw : Nat} {w0 w : World} {m : List EntM} (h : Built B bw w0 w m) {c : Nat} (hc : c < m.length) (n d : ByteArray) :
    Calls Tryz.prog 31 #[.pointer (some ⟨bw, 0, none⟩), .int .i64 c, .string n, .string d] w fun r w' => r = .returned (.tuple #[idV (oneM m c n d).1, .int .i64 (oneM m c n d).2]) ∧ Below w.heap.size w w' := by
  have hba : Below w.heap.size w ((w.alloc (.cells #[.pointer (some ⟨bw, 0, none⟩)] 35)).alloc (.cells #[.int .i64 0, .int .i64 0] 24)) := ((Below.refl _ _).alloc (Nat.le_refl _) _).alloc (by simp) _
  have hz : ((w.alloc (.cells #[.pointer (some ⟨bw, 0, none⟩)] 35)).alloc (.cells #[.int .i64 0, .int .i64 0] 24)).heap.size = w.heap.size + 2 := by simp
  have hcell : ∀ j : Nat, ((w.alloc (.cells #[.pointer (some ⟨bw, 0, none⟩)] 35)).alloc (.cells #[.int .i64 0, .int .i64 0] 24)).cell? ⟨w.heap.size + 1, j, none⟩ = (#[Value.int .i64 0, .int .i64 0])[j]? := fun j => by
    have := World.cell?_alloc_new (w.alloc (.cells #[.pointer (some ⟨bw, 0, none⟩)] 35)) #[.int .i64 0, .int .i64 0] 24 j
    rw [World.size_alloc] at this
    exact this
  have hfz : ∀ j : Nat, ((w.alloc (.cells #[.pointer (some ⟨bw, 0, none⟩)] 35)).alloc (.cells #[.int .i64 0, .int .i64 0] 24)).frozen? ⟨w.heap.size + 1, j, none⟩ = false := fun j => by
    have := frozen_new (w.alloc (.cells #[.pointer (some ⟨bw, 0, none⟩)] 35)) #[.int .i64 0, .int .i64 0] 24 j
    rw [World.size_alloc] at this
    exact this
  have hqw : ((w.alloc (.cells #[.pointer (some ⟨bw, 0, none⟩)] 35)).alloc (.cells #[.int .i64 0, .int .i64 0] 24)).cell? ⟨w.heap.size, 0, none⟩ = some (.pointer (some ⟨bw, 0, none⟩)) := alloc_old (World.cell?_alloc_new ..)
  have HC := Lib.hid (Max (h.next hba) hc n d)
  have HB0 := Lib.hid (h.next hba)
  have HBA := Lib.hid hba
  have HCE := Lib.hid (And.intro hcell (And.intro hfz hz))
  have HQW := Lib.hid hqw
  have HIM : Hid (∀ p ∈ maxM m c n d, IsM m p) := Lib.hid fun p hp => cand_isM h.wf h.ord hc ((List.mem_filter.1 hp).1)
  have HLN : Hid ((maxM m c n d).length ≤ 300) := Lib.hid (by
    have h1 := cand_len h.wf hc n d
    have h2 := List.length_filter_le (fun p => !hidM m (candM m c n d) p) (candM m c n d)
    unfold maxM maxL; omega)
  clear h hba hcell hfz hz hqw
  unfold oneM conM
  generalize maxM m c n d = L at HC HIM HLN ⊢
  obtain ⟨R, hR⟩ : ∃ R, oneOf (L.filter fun p => !absM m p) = R := ⟨_, rfl⟩
  have HR := Lib.hid hR
  rw [hR]
  clear hR
  go_enter Tryz.func31, Tryz.ntmps31
  go_wp2_with fail
  generalize (w.alloc (.cells #[.pointer (some ⟨bw, 0, none⟩)] 35)).alloc (.cells #[.int .i64 0, .int .i64 0] 24) = wz at HC HB0 HBA HCE HQW
  refine HC.out.mono ?_
  rintro _ w1 ⟨ad, k, rfl, hrow, hb⟩
  have HX : Hid (Below wz.heap.size wz w1) := Lib.hid hb
  have HROW := Lib.hid hrow
  clear hb hrow HC
  have DEL : Hid (Calls Tryz.prog 60 #[.slice ad L.length k, .func (.func 63) #[] #[.pointer (some ⟨w.heap.size, 0, none⟩)]] w1 fun r w' => ∃ ad' k', r = .returned (.slice ad' (L.filter fun p => !absM m p).length k') ∧ (∀ h : 0 < (L.filter fun p => !absM m p).length, ∃ b, ad' = some ⟨b, 0, none⟩ ∧ w'.cell? ⟨b, 0, none⟩ = some (.int .i64 (L.filter fun p => !absM m p)[0].1) ∧ w'.cell? ⟨b, 1, none⟩ = some (.int .i64 (L.filter fun p => !absM m p)[0].2)) ∧ Below wz.heap.size wz w') := Lib.hid (by
    cases L with
    | nil =>
      refine (Del_none _ _ _ _).mono ?_
      rintro r w' ⟨rfl, rfl⟩
      exact ⟨ad, k, rfl, fun h => by simp at h, HX.out⟩
    | cons p r =>
      obtain ⟨b, cap, e⟩ := own_form (n := r.length) HROW.out
      injection e with e1 e2 e3
      subst e1
      obtain ⟨i1, i2, i3⟩ := ids2_of_own HROW.out
      obtain ⟨o1, o2⟩ := own_live HROW.out (g := b) rfl
      refine (DelIds HB0.out HQW.out HX.out HIM.out i1 i2 i3 (by omega) o2 HLN.out).mono ?_
      rintro r' w' ⟨rfl, j1, j2, j3⟩
      exact ⟨_, k, rfl, fun h => ⟨b, rfl, by simpa using (j1 0 h).1, by simpa using (j1 0 h).2⟩, j3⟩)
  clear HROW HX HIM HLN
  generalize (L.filter fun p => !absM m p) = C at DEL HR
  go_wp2_with fail
  refine DEL.out.mono ?_
  rintro _ w2 ⟨ad', k', rfl, hC, hb⟩
  have s0 : w2.cell? ⟨w.heap.size + 1, 0, none⟩ = some (.int .i64 0) := below_cell' hb (HCE.out.1 0)
  have s1 : w2.cell? ⟨w.heap.size + 1, 1, none⟩ = some (.int .i64 0) := below_cell' hb (HCE.out.1 1)
  have t : ∀ j, w2.frozen? ⟨w.heap.size + 1, j, none⟩ = false := fun j => (World.frozen?_of_block (a := ⟨w.heap.size + 1, j, none⟩) (hb.block _ (show w.heap.size + 1 < _ by rw [HCE.out.2.2]; omega))).trans (HCE.out.2.1 j)
  have t0 := t 0
  have t1 := t 1
  have HB := Lib.hid (HBA.out.trans (hb.mono HBA.out.size))
  clear t hb HBA HCE DEL
  rcases C with _ | ⟨p, _ | ⟨p', r⟩⟩
  · simp only [List.length_nil]
    clear hC
    go_wp2
    have key := set2 (v0 := .int .i64 0) (v1 := .int .i64 0) s0 s1
    refine bodyPost_ret (results_cells_tmp rfl _ _ (w.heap.size + 1) [.int .i64 0, .int .i64 0] _ rfl (two key.1 key.2) Tryz.underlying24 rfl id_info2) rfl ⟨by rw [← HR.out]; rfl, ?_⟩
    exact (HB.out.setCell (Nat.le_succ _) _).setCell (Nat.le_succ _) _
  · obtain ⟨b, rfl, c0, c1⟩ := hC (by simp)
    simp only [List.length_cons, List.length_nil, Nat.zero_add, List.getElem_cons_zero] at c0 c1 ⊢
    clear hC
    go_wp2
    have key := set2 (v0 := .int .i64 p.1) (v1 := .int .i64 p.2) s0 s1
    refine bodyPost_ret (results_cells_tmp rfl _ _ (w.heap.size + 1) [.int .i64 p.1, .int .i64 p.2] _ rfl (two key.1 key.2) Tryz.underlying24 rfl id_info2) rfl ⟨by rw [← HR.out]; rfl, ?_⟩
    exact (HB.out.setCell (Nat.le_succ _) _).setCell (Nat.le_succ _) _
  · have e1 : (((p :: p' :: r).length : Int) == 0) = false := by simp; omega
    have e2 : (((p :: p' :: r).length : Int) == 1) = false := by simp; omega
    generalize (p :: p' :: r).length = len at e1 e2 ⊢
    clear hC
    go_wp2
    have key := set2 (v0 := .int .i64 0) (v1 := .int .i64 0) s0 s1
    refine bodyPost_ret (results_cells_tmp rfl _ _ (w.heap.size + 1) [.int .i64 0, .int .i64 0] _ rfl (two key.1 key.2) Tryz.underlying24 rfl id_info2) rfl ⟨by rw [← HR.out]; rfl, ?_⟩
    exact (HB.out.setCell (Nat.le_succ _) _).setCell (Nat.le_succ _) _
end Go.Proofs.YtiiebakblkpkeaaGreatDoor.Hi
