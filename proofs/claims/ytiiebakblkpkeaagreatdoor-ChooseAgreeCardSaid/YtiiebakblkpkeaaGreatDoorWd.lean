/- Selection: up, the first instance method of a name up a chain: the walk. -/
import Derived.Test.YtiiebakblkpkeaaGreatDoorWc
set_option maxRecDepth 100000
set_option maxHeartbeats 8000000
set_option linter.unusedVariables false
set_option linter.unusedSimpArgs false
namespace Go.Proofs.YtiiebakblkpkeaaGreatDoor.Hi
open Go.RowKit Go.Shelf Go.Sort Bs

theorem results_cells_cells_tmp {P : Program} {fn : Func} {p q u : Tmp} {ty ty' : TypeId} (h : fn.results = #[.cell p ty, .cell q ty', .tmp u]) (tmps : Array Value) (w : World) (g g' : Nat) (cs cs' : List Value) (d d' : TypeDesc)
    (hp : tmps.getD p undef = .pointer (some ⟨g, 0, none⟩)) (hg : ∀ j (h : j < cs.length), w.cell? ⟨g, j, none⟩ = some cs[j])
    (hu : P.underlying ty = some d) (hd : aggD d = true) (hi : (P.info? ty).map (·.size) = some cs.length)
    (hp' : tmps.getD q undef = .pointer (some ⟨g', 0, none⟩)) (hg' : ∀ j (h : j < cs'.length), w.cell? ⟨g', j, none⟩ = some cs'[j])
    (hu' : P.underlying ty' = some d') (hd' : aggD d' = true) (hi' : (P.info? ty').map (·.size) = some cs'.length) :
    (results fn tmps).run P w = .ok (.tuple #[.agg cs.toArray, .agg cs'.toArray, tmps.getD u undef]) w := by
  have hp1 : tmps[p]?.getD undef = .pointer (some ⟨g, 0, none⟩) := by simpa using hp
  have hp2 : tmps[q]?.getD undef = .pointer (some ⟨g', 0, none⟩) := by simpa using hp'
  simp [results, h, hp1, hp2, asAddr, run_loadVar_cells w g ty cs d hg hu hd hi, run_loadVar_cells w g' ty' cs' d' hg' hu' hd' hi']

/-- The places of up's answers: an id, behind it a method. -/
structure UpBox (g : Nat) (w : World) (i1 i2 : Int) (nm ds : ByteArray) (f l s : Int) (ad : Option Addr) (q c : Nat) : Prop where
  c0 : w.cell? ⟨g, 0, none⟩ = some (.int .i64 i1)
  c1 : w.cell? ⟨g, 1, none⟩ = some (.int .i64 i2)
  fi : ∀ j, w.frozen? ⟨g, j, none⟩ = false
  m0 : w.cell? ⟨g + 1, 0, none⟩ = some (.string nm)
  m1 : w.cell? ⟨g + 1, 1, none⟩ = some (.string ds)
  m2 : w.cell? ⟨g + 1, 2, none⟩ = some (.int .i64 f)
  m3 : w.cell? ⟨g + 1, 3, none⟩ = some (.int .i64 l)
  m4 : w.cell? ⟨g + 1, 4, none⟩ = some (.int .i64 s)
  m5 : w.cell? ⟨g + 1, 5, none⟩ = some (.slice ad q c)
  fm : ∀ j, w.frozen? ⟨g + 1, j, none⟩ = false
theorem UpBox.new (w : World) : UpBox w.heap.size ((w.alloc (.cells #[.int .i64 0, .int .i64 0] 24)).alloc zM) 0 0 ⟨#[]⟩ ⟨#[]⟩ 0 0 0 none 0 0 := by
  have hz := ZmAt.new (w.alloc (.cells #[.int .i64 0, .int .i64 0] 24))
  rw [World.size_alloc] at hz
  exact ⟨alloc_old (World.cell?_alloc_new ..), alloc_old (World.cell?_alloc_new ..), fun j => (World.frozen?_of_block (w := w.alloc (.cells #[.int .i64 0, .int .i64 0] 24)) (a := ⟨w.heap.size, j, none⟩) (Below.heap_alloc _ _ _ (by simp))).trans (frozen_new ..), hz.d0, hz.d1, hz.d2, hz.d3, hz.d4, hz.d5, hz.fz⟩
section
variable {g : Nat} {w w' : World} {i1 i2 : Int} {nm ds : ByteArray} {f l s : Int} {ad : Option Addr} {q c : Nat}
theorem UpBox.next (h : UpBox g w i1 i2 nm ds f l s ad q c) (hb : Below w.heap.size w w') : UpBox g w' i1 i2 nm ds f l s ad q c :=
  ⟨below_cell' hb h.c0, below_cell' hb h.c1, fun j => (World.frozen?_of_block (w := w) (a := ⟨g, j, none⟩) (hb.block _ (World.block_lt_of_cell? w ⟨g, 0, none⟩ h.c0))).trans (h.fi j), below_cell' hb h.m0, below_cell' hb h.m1, below_cell' hb h.m2, below_cell' hb h.m3, below_cell' hb h.m4, below_cell' hb h.m5, fun j => (World.frozen?_of_block (w := w) (a := ⟨g + 1, j, none⟩) (hb.block _ (World.block_lt_of_cell? w ⟨g + 1, 0, none⟩ h.m0))).trans (h.fm j)⟩
theorem UpBox.ids (h : UpBox g w i1 i2 nm ds f l s ad q c) (v1 v2 : Int) : UpBox g ((w.setCell ⟨g, 0, none⟩ (.int .i64 v1)).setCell ⟨g, 1, none⟩ (.int .i64 v2)) v1 v2 nm ds f l s ad q c := by
  obtain ⟨e0, e1⟩ := set2 (v0 := .int .i64 v1) (v1 := .int .i64 v2) h.c0 h.c1
  have off : ∀ {j : Nat} {v : Value}, w.cell? ⟨g + 1, j, none⟩ = some v → ((w.setCell ⟨g, 0, none⟩ (.int .i64 v1)).setCell ⟨g, 1, none⟩ (.int .i64 v2)).cell? ⟨g + 1, j, none⟩ = some v := fun hv => (setCell_off (by omega)).trans ((setCell_off (by omega)).trans hv)
  exact ⟨e0, e1, fun j => by rw [World.frozen?_setCell, World.frozen?_setCell]; exact h.fi j, off h.m0, off h.m1, off h.m2, off h.m3, off h.m4, off h.m5, fun j => by rw [World.frozen?_setCell, World.frozen?_setCell]; exact h.fm j⟩
theorem UpBox.meth (h : UpBox g w i1 i2 nm ds f l s ad q c) (nm' ds' : ByteArray) (f' l' s' : Int) (ad' : Option Addr) (q' c' : Nat) : UpBox g ((((((w.setCell ⟨g + 1, 0, none⟩ (.string nm')).setCell ⟨g + 1, 1, none⟩ (.string ds')).setCell ⟨g + 1, 2, none⟩ (.int .i64 f')).setCell ⟨g + 1, 3, none⟩ (.int .i64 l')).setCell ⟨g + 1, 4, none⟩ (.int .i64 s')).setCell ⟨g + 1, 5, none⟩ (.slice ad' q' c')) i1 i2 nm' ds' f' l' s' ad' q' c' := by
  obtain ⟨e0, e1, e2, e3, e4, e5⟩ := set6 (v0 := .string nm') (v1 := .string ds') (v2 := .int .i64 f') (v3 := .int .i64 l') (v4 := .int .i64 s') (v5 := .slice ad' q' c') h.m0 h.m1 h.m2 h.m3 h.m4 h.m5
  refine ⟨?_, ?_, fun j => ?_, e0, e1, e2, e3, e4, e5, fun j => ?_⟩
  · iterate 6 rw [setCell_off (by omega)]
    exact h.c0
  · iterate 6 rw [setCell_off (by omega)]
    exact h.c1
  · iterate 6 rw [World.frozen?_setCell]
    exact h.fi j
  · iterate 6 rw [World.frozen?_setCell]
    exact h.fm j
end
theorem UpBox.ends {g : Nat} {w : World} {i1 i2 : Int} {nm ds : ByteArray} {f l s : Int} {ad : Option Addr} {q c : Nat} (h : UpBox g w i1 i2 nm ds f l s ad q c) : (∀ j (hj : j < [Value.int .i64 i1, .int .i64 i2].length), w.cell? ⟨g, j, none⟩ = some [Value.int .i64 i1, .int .i64 i2][j]) ∧ (∀ j (hj : j < [Value.string nm, .string ds, .int .i64 f, .int .i64 l, .int .i64 s, .slice ad q c].length), w.cell? ⟨g + 1, j, none⟩ = some [Value.string nm, .string ds, .int .i64 f, .int .i64 l, .int .i64 s, .slice ad q c][j]) := by
  refine ⟨fun j hj => ?_, six h.m0 h.m1 h.m2 h.m3 h.m4 h.m5⟩
  match j, hj with
  | 0, _ => exact h.c0
  | 1, _ => exact h.c1
/-- What up may turn. -/
def UpF (g : Nat) (k : Nat) : Prop := k = g ∨ k = g + 1
theorem upF_ids {g : Nat} {w w' : World} (h : Chg (UpF g) w w') (v1 v2 : Value) : Chg (UpF g) w ((w'.setCell ⟨g, 0, none⟩ v1).setCell ⟨g, 1, none⟩ v2) := (h.setCell (.inr (.inl rfl)) _).setCell (.inr (.inl rfl)) _
theorem upF_meth {g : Nat} {w w' : World} (h : Chg (UpF g) w w') (v0 v1 v2 v3 v4 v5 : Value) : Chg (UpF g) w ((((((w'.setCell ⟨g + 1, 0, none⟩ v0).setCell ⟨g + 1, 1, none⟩ v1).setCell ⟨g + 1, 2, none⟩ v2).setCell ⟨g + 1, 3, none⟩ v3).setCell ⟨g + 1, 4, none⟩ v4).setCell ⟨g + 1, 5, none⟩ v5) :=
  (((((h.setCell (.inr (.inr rfl)) _).setCell (.inr (.inr rfl)) _).setCell (.inr (.inr rfl)) _).setCell (.inr (.inr rfl)) _).setCell (.inr (.inr rfl)) _).setCell (.inr (.inr rfl)) _

theorem CUp {B bw : Nat} {w0 w : World} {m : List EntM} (h : Built B bw w0 w m) {cc : Nat} (hc : cc < m.length) (n d : ByteArray) (f0 l0 s0 : Int) (ad0 : Option Addr) (q0 c0 : Nat) :
    Calls Tryz.prog 32 #[.pointer (some ⟨bw, 0, none⟩), .int .i64 cc, .agg #[.string n, .string d, .int .i64 f0, .int .i64 l0, .int .i64 s0, .slice ad0 q0 c0]] w fun e w' => ∃ (i1 i2 : Int) (nm ds : ByteArray) (f l s : Int) (ad : Option Addr) (q c : Nat) (ok : Bool), e = .returned (.tuple #[.agg #[.int .i64 i1, .int .i64 i2], .agg #[.string nm, .string ds, .int .i64 f, .int .i64 l, .int .i64 s, .slice ad q c], .bool ok]) ∧ (ok = false → upE m n d cc = none) ∧ (ok = true → upE m n d cc = some (i1, i2) ∧ ∃ y, methAt m (i1, i2) = some y ∧ f = y.flags) ∧ Below w.heap.size w w' := by
  obtain ⟨wp, hwp⟩ : ∃ wp, (w.alloc (.cells #[.string n, .string d, .int .i64 f0, .int .i64 l0, .int .i64 s0, .slice ad0 q0 c0] 39)) = wp := ⟨_, rfl⟩
  have hbp : Below w.heap.size w wp := by rw [← hwp]; exact (Below.refl _ _).alloc (Nat.le_refl _) _
  have hzp : wp.heap.size = w.heap.size + 1 := by rw [← hwp]; simp
  have x0 : wp.cell? ⟨w.heap.size, 0, none⟩ = some (.string n) := by rw [← hwp]; exact World.cell?_alloc_new ..
  have x1 : wp.cell? ⟨w.heap.size, 1, none⟩ = some (.string d) := by rw [← hwp]; exact World.cell?_alloc_new ..
  have HU := UpBox.new wp
  obtain ⟨wa, hwa⟩ : ∃ wa, ((wp.alloc (.cells #[.int .i64 0, .int .i64 0] 24)).alloc zM) = wa := ⟨_, rfl⟩
  have hba : Below wp.heap.size wp wa := by rw [← hwa]; exact ((Below.refl _ _).alloc (Nat.le_refl _) _).alloc (by simp) _
  have hza : wa.heap.size = wp.heap.size + 2 := by rw [← hwa]; simp
  rw [hwa] at HU
  have hb := hbp.trans (hba.mono hbp.size)
  have HUB := Lib.hid HU
  have HX := Lib.hid (And.intro (below_cell' hba x0) (below_cell' hba x1))
  have HB := Lib.hid hb
  have HC := Lib.hid (Chain (h.next hb).hw (h.next hb).live (cc : Int))
  have HCE : Hid (chainM m (cc : Int) = (ch m cc, 0)) := Lib.hid (by unfold ch chainM; rw [entAt_nat hc])
  rw [HCE.out] at HC
  simp only at HC
  have HH := Lib.hid (fun wr (hr : Below w.heap.size w wr) => h.next hr)
  have HLM : Hid (∀ k (hk : k < (ch m cc).length), ∃ c : Nat, (ch m cc)[k] = (c : Int) ∧ c < m.length) := Lib.hid (fun k hk => by
    obtain ⟨c, e, _, h, _⟩ := ch_mem h.wf hc _ (List.getElem_mem hk)
    exact ⟨c, e, h⟩)
  have hll : (ch m cc).length ≤ 300 := ch_len_le h.wf hc
  have HUE : Hid (upE m n d cc = (ch m cc).findSome? (decM m n d)) := Lib.hid rfl
  obtain ⟨R, hR⟩ : ∃ R, upE m n d cc = R := ⟨_, rfl⟩
  rw [hR] at HUE ⊢
  have HSZ : Hid (wa.heap.size = wp.heap.size + 2 ∧ wp.heap.size = w.heap.size + 1) := Lib.hid ⟨hza, hzp⟩
  generalize ch m cc = L at HC HLM hll HUE
  clear h hR hbp x0 x1 HU hba hb hzp hza HCE
  go_enter Tryz.func32, Tryz.ntmps32
  go_wp2
  try rw [hwp]
  try rw [hwa]
  clear hwp hwa
  go_step3
  go_wp2_with fail
  refine HC.out.mono ?_
  rintro _ w2 ⟨ca, cp, rfl, hcs, hb⟩
  have HB2 := Lib.hid (HB.out.trans (hb.mono HB.out.size))
  have HUB2 := Lib.hid (HUB.out.next hb)
  have HX2 := Lib.hid (And.intro (below_cell' hb HX.out.1) (below_cell' hb HX.out.2))
  have HCS := Lib.hid hcs
  have HSZ2 : Hid (wp.heap.size + 2 ≤ wa.heap.size ∧ wp.heap.size + 2 ≤ w2.heap.size ∧ wp.heap.size = w.heap.size + 1) := Lib.hid (by have := hb.size; have := HSZ.out; omega)
  clear hb hcs HC HB HUB HX HSZ
  go_wp2_with fail
  go_step3
  go_wp2_with fail
  go_loopg [8, 23] L.length (fun gk u8 u23 wr => ∃ (k : Nat) (i1 i2 : Int) (nm ds : ByteArray) (f l s : Int) (ad : Option Addr) (q c : Nat), Hid (k + gk = L.length ∧ ∀ j (hj : j < L.length), j < k → decM m n d L[j] = none) ∧ u8 = .bool false ∧ u23 = .int .i64 k ∧ Hid (UpBox wp.heap.size wr i1 i2 nm ds f l s ad q c ∧ Chg (UpF wp.heap.size) w2 wr))
  case atStart => exact ⟨0, 0, 0, ⟨#[]⟩, ⟨#[]⟩, 0, 0, 0, none, 0, 0, Lib.hid ⟨Nat.zero_add _, fun _ _ h => absurd h (by omega)⟩, rfl, rfl, Lib.hid ⟨HUB2.out, Chg.refl _ _⟩⟩
  case round =>
    obtain ⟨k, i1, i2, nm, ds, f, l, s, ad, q, c, hk, rfl, rfl, HW⟩ := hrel
    have HBR : Hid (Below w.heap.size w wr) := Lib.hid (HB2.out.trans (HW.out.2.below HB2.out.size fun k hk hf => by have := HSZ2.out; rcases hf with rfl | rfl <;> omega))
    by_cases hlt : k < L.length
    · have hlt' : (k : Int) < (L.length : Int) := by omega
      obtain ⟨c, hc, hcm⟩ := HLM.out k hlt
      obtain ⟨cb, co, rfl, hce⟩ := IntSl.elem (HCS.out.alike (Alike.of_chg HW.out.2 fun k hk => ⟨hk.2, fun hf => by have := HSZ2.out; rcases hf with rfl | rfl <;> omega⟩)) (by omega)
      have g0 := hce k c (by rw [List.getElem?_eq_getElem hlt, hc])
      have x0 := HW.out.2.cell_eq HX2.out.1 (by have := HSZ2.out; rintro (h | h) <;> simp at h <;> omega)
      have x1 := HW.out.2.cell_eq HX2.out.2 (by have := HSZ2.out; rintro (h | h) <;> simp at h <;> omega)
      have HF := Lib.hid ((HH.out wr HBR.out).find hcm n d)
      have HU := Lib.hid HW.out.1
      have HCG := Lib.hid HW.out.2
      have HPR : Hid (∀ hn : decM m n d (c : Int) = none, ∀ j (hj : j < L.length), j < k + 1 → decM m n d L[j] = none) := Lib.hid (fun hn j hj hlt => by
        by_cases e : j = k
        · subst e; rw [hc]; exact hn
        · exact hk.out.2 j hj (by omega))
      have HSM : Hid (∀ z, decM m n d (c : Int) = some z → R = some z) := Lib.hid (fun z hz => by
        rw [HUE.out]
        refine List.findSome?_eq_some_iff.2 ⟨L.take k, (c : Int), L.drop (k + 1), ?_, hz, fun a ha => ?_⟩
        · rw [← hc, ← List.drop_eq_getElem_cons hlt, List.take_append_drop]
        · obtain ⟨j, hj, rfl⟩ := List.getElem_of_mem ha
          rw [List.getElem_take]
          exact hk.out.2 j _ (by simp at hj; omega))
      have HGK : Hid (k + gk = L.length) := Lib.hid hk.out.1
      have HDC : Hid (decM m n d (c : Int) = if (findH m c n d).2 = 0 then (match methAt m (c, (findH m c n d).1) with
        | none => none
        | some y => if statF y.flags = true then none else some ((c : Int), (findH m c n d).1)) else none) := Lib.hid rfl
      have HNM : Hid ((findH m c n d).2 = 0 → ∃ y, methAt m ((c : Int), (findH m c n d).1) = some y) := Lib.hid (fun h0 => by
        obtain ⟨b, hb, _, h, _⟩ := find_names hcm h0
        exact ⟨_, h⟩)
      obtain ⟨⟨fi, fe⟩, hF⟩ : ∃ R, findH m c n d = R := ⟨_, rfl⟩
      rw [hF] at HF HDC HNM
      simp only at HF HDC HNM
      clear hF HW hce hk hc
      go_wp2_with fail
      refine HF.out.mono ?_
      rintro _ w3 ⟨rfl, hb⟩
      have HU3 := Lib.hid (HU.out.next hb)
      have HC3 : Hid (Chg (UpF wp.heap.size) w2 w3) := Lib.hid (HCG.out.trans (Chg.of_below (F := fun _ => False) hb) fun _ _ h => h.elim)
      clear hb x0 x1 g0 HU HCG HF HBR
      by_cases hfe : fe = 0
      case neg =>
        have hfe' : (fe != 0) = true := by simpa using hfe
        have HDN := Lib.hid (HPR.out (by rw [HDC.out, if_neg hfe]))
        clear hfe HPR HSM HDC HNM
        go_wp2
        go_roundg (L.length - (k + 1))
        case measure => have := HGK.out; omega
        case rel => exact ⟨k + 1, i1, i2, nm, ds, f, l, s, ad, q, _, Lib.hid ⟨by have := HGK.out; omega, HDN.out⟩, rfl, by go_num, Lib.hid ⟨HU3.out, HC3.out⟩⟩
      subst hfe
      obtain ⟨y, hy⟩ := HNM.out rfl
      have c0 := HU3.out.c0
      have c1 := HU3.out.c1
      have f0 := HU3.out.fi 0
      have f1 := HU3.out.fi 1
      have hi := HU3.out.ids c fi
      have HU4 := Lib.hid hi
      have e0 := hi.c0
      have e1 := hi.c1
      have hc4 := upF_ids HC3.out (.int .i64 c) (.int .i64 fi)
      have HC4 := Lib.hid hc4
      have hb4 : Below w.heap.size w _ := HB2.out.trans (hc4.below HB2.out.size fun k hk hf => by have := HSZ2.out; rcases hf with rfl | rfl <;> omega)
      have HM := Lib.hid (OMethod_some (HH.out _ hb4) hy)
      have HYD : Hid (decM m n d (c : Int) = if statF y.flags = true then none else some ((c : Int), fi)) := Lib.hid (by rw [HDC.out, if_pos rfl, hy])
      have HYY := Lib.hid hy
      clear hi hc4 hb4 hy HNM HDC
      go_wp2_with fail
      refine HM.out.mono ?_
      rintro _ w5 ⟨ya, yq, yc, rfl, hb⟩
      have hu5 := HU4.out.next hb
      have hc5 : Chg (UpF wp.heap.size) w2 w5 := HC4.out.trans (Chg.of_below (F := fun _ => False) hb) fun _ _ h => h.elim
      have d0 := hu5.m0
      have d1 := hu5.m1
      have d2 := hu5.m2
      have d3 := hu5.m3
      have d4 := hu5.m4
      have d5 := hu5.m5
      have v0 := hu5.fm 0
      have v1 := hu5.fm 1
      have v2 := hu5.fm 2
      have v3 := hu5.fm 3
      have v4 := hu5.fm 4
      have v5 := hu5.fm 5
      have hu6 := hu5.meth y.name y.desc y.flags y.locals y.stack ya yq yc
      have hc6 := upF_meth hc5 (.string y.name) (.string y.desc) (.int .i64 y.flags) (.int .i64 y.locals) (.int .i64 y.stack) (.slice ya yq yc)
      obtain ⟨wz, hwz⟩ : ∃ wz, ((((((w5.setCell ⟨wp.heap.size + 1, 0, none⟩ (.string y.name)).setCell ⟨wp.heap.size + 1, 1, none⟩ (.string y.desc)).setCell ⟨wp.heap.size + 1, 2, none⟩ (.int .i64 y.flags)).setCell ⟨wp.heap.size + 1, 3, none⟩ (.int .i64 y.locals)).setCell ⟨wp.heap.size + 1, 4, none⟩ (.int .i64 y.stack)).setCell ⟨wp.heap.size + 1, 5, none⟩ (.slice ya yq yc)) = wz := ⟨_, rfl⟩
      rw [hwz] at hu6 hc6
      have k2 := hu6.m2
      have HU6 := Lib.hid hu6
      have HC6 := Lib.hid hc6
      clear hu5 hc5 hu6 hc6 hb HM HU3 HC3 HU4 HC4 c0 c1 f0 f1 e0 e1
      cases hst : statF y.flags with
      | true =>
        have HDN := Lib.hid (HPR.out (by rw [HYD.out, hst]; rfl))
        have hst' : (bits .and .i64 y.flags 8 == 0) = false := by unfold statF at hst; simpa using hst
        clear hst HPR HSM HYD
        go_wp2
        try rw [hwz]
        go_roundg (L.length - (k + 1))
        case measure => have := HGK.out; omega
        case rel => exact ⟨k + 1, _, _, _, _, _, _, _, _, _, _, Lib.hid ⟨by have := HGK.out; omega, HDN.out⟩, rfl, by go_num, Lib.hid ⟨HU6.out, HC6.out⟩⟩
      | false =>
        have HRS := Lib.hid (HSM.out _ (by rw [HYD.out, hst]; rfl))
        have hst' : (bits .and .i64 y.flags 8 == 0) = true := by unfold statF at hst; simpa using hst
        clear hst HPR HSM HYD
        have hu7 := (HU6.out.ids c fi).meth y.name y.desc y.flags y.locals y.stack ya yq yc
        have hc7 := upF_meth (upF_ids HC6.out (.int .i64 c) (.int .i64 fi)) (.string y.name) (.string y.desc) (.int .i64 y.flags) (.int .i64 y.locals) (.int .i64 y.stack) (.slice ya yq yc)
        have HU7 := Lib.hid (hu7.next (Below.drew (Below.refl _ _)))
        have HB7 := Lib.hid (HB2.out.trans (hc7.drew.below HB2.out.size fun k hk hf => by have := HSZ2.out; rcases hf with rfl | rfl <;> omega))
        clear hu7 hc7
        have c0 := HU6.out.c0
        have c1 := HU6.out.c1
        have f0 := HU6.out.fi 0
        have f1 := HU6.out.fi 1
        have e0 := HU6.out.m0
        have e1 := HU6.out.m1
        have e3 := HU6.out.m3
        have e4 := HU6.out.m4
        have e5 := HU6.out.m5
        have g0 := HU6.out.fm 0
        have g1 := HU6.out.fm 1
        have g2 := HU6.out.fm 2
        have g3 := HU6.out.fm 3
        have g4 := HU6.out.fm 4
        have g5 := HU6.out.fm 5
        go_wp2_with fail
        try rw [hwz]
        clear hwz d0 d1 d2 d3 d4 d5 v0 v1 v2 v3 v4 v5
        go_region_with (fail)
        all_goals
          go_wp2
          try rw [Exit.noGoto_ret]
          refine bodyPost_ret (results_cells_cells_tmp rfl _ _ wp.heap.size (wp.heap.size + 1) [.int .i64 c, .int .i64 fi] [.string y.name, .string y.desc, .int .i64 y.flags, .int .i64 y.locals, .int .i64 y.stack, .slice ya yq yc] _ _ rfl HU7.out.ends.1 Tryz.underlying24 rfl id_info2 rfl HU7.out.ends.2 Tryz.underlying39 rfl meth_info) rfl ⟨_, _, _, _, _, _, _, _, _, _, _, rfl, fun h => Bool.noConfusion h, fun _ => ⟨HRS.out, y, HYY.out, rfl⟩, HB7.out⟩
    · have HRN : Hid (R = none) := Lib.hid (by
        rw [HUE.out]
        refine List.findSome?_eq_none_iff.2 fun a ha => ?_
        obtain ⟨j, hj, rfl⟩ := List.getElem_of_mem ha
        exact hk.out.2 j hj (by omega))
      have hu7 := (HW.out.1.ids i1 i2).meth nm ds f l s ad q c
      have hc7 := upF_meth (upF_ids HW.out.2 (.int .i64 i1) (.int .i64 i2)) (.string nm) (.string ds) (.int .i64 f) (.int .i64 l) (.int .i64 s) (.slice ad q c)
      have HU7 := Lib.hid (hu7.next (Below.drew (Below.refl _ _)))
      have HB7 := Lib.hid (HB2.out.trans (hc7.drew.below HB2.out.size fun k hk hf => by have := HSZ2.out; rcases hf with rfl | rfl <;> omega))
      clear hu7 hc7
      have c0 := HW.out.1.c0
      have c1 := HW.out.1.c1
      have f0 := HW.out.1.fi 0
      have f1 := HW.out.1.fi 1
      have e0 := HW.out.1.m0
      have e1 := HW.out.1.m1
      have e2 := HW.out.1.m2
      have e3 := HW.out.1.m3
      have e4 := HW.out.1.m4
      have e5 := HW.out.1.m5
      have g0 := HW.out.1.fm 0
      have g1 := HW.out.1.fm 1
      have g2 := HW.out.1.fm 2
      have g3 := HW.out.1.fm 3
      have g4 := HW.out.1.fm 4
      have g5 := HW.out.1.fm 5
      clear hk HBR
      go_wp2_with fail
      go_region_with (fail)
      all_goals
        go_wp2
        try rw [Exit.noGoto_ret]
        refine bodyPost_ret (results_cells_cells_tmp rfl _ _ wp.heap.size (wp.heap.size + 1) [.int .i64 i1, .int .i64 i2] [.string nm, .string ds, .int .i64 f, .int .i64 l, .int .i64 s, .slice ad q c] _ _ rfl HU7.out.ends.1 Tryz.underlying24 rfl id_info2 rfl HU7.out.ends.2 Tryz.underlying39 rfl meth_info) rfl ⟨_, _, _, _, _, _, _, _, _, _, _, rfl, fun _ => HRN.out, fun h => Bool.noConfusion h, HB7.out⟩
end Go.Proofs.YtiiebakblkpkeaaGreatDoor.Hi
