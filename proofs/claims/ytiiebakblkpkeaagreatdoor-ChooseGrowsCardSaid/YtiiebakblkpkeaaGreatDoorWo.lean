/- Selection: what an invocation is handed; a reference and a kind together: the walks. -/
import Derived.Test.YtiiebakblkpkeaaGreatDoorWn
set_option maxRecDepth 100000
set_option maxHeartbeats 8000000
set_option linter.unusedVariables false
set_option linter.unusedSimpArgs false
namespace Go.Proofs.YtiiebakblkpkeaaGreatDoor.Hi
open Go.RowKit Go.Shelf Go.Sort Bs

def recvE (m : List EntM) (d kind : Int) (t : TyM) : Int := match entAt m d with
  | none => 3
  | some _ => if (decide (kind < 1) || decide (4 < kind)) = true then 2 else if (kind == 4) = true then 0 else if (holderM m t).2 = 0 then (if isIfaceM m (holderM m t).1 = true then 2 else 0) else (holderM m t).2
def fitsE (kind : Int) (r : RefM) : Int := if Pr.formE (refOk r) ≠ 0 then Pr.formE (refOk r)
  else if ((kind == 1) && r.iface) = true then 35 else if ((kind == 2) && !r.iface) = true then 35 else if ((r.name.toList == initN.toList) && (kind != 3)) = true then 35 else 0

theorem CRecv {B bw : Nat} {w0 w : World} {m : List EntM} (h : Built B bw w0 w m) (d kind : Int) (t : TyM) (hs : t.name.size ≤ maxLen) (he : Lf.Env w) :
    Calls Tryz.prog 37 #[.pointer (some ⟨bw, 0, none⟩), .int .i64 d, .int .i64 kind, .agg #[.int .i64 t.dims, .string t.name]] w fun e w' => e = .returned (.int .i64 (recvE m d kind t)) ∧ Below w.heap.size w w' := by
  obtain ⟨wa, hwa⟩ : ∃ wa, (w.alloc (.cells #[.int .i64 t.dims, .string t.name] 33)) = wa := ⟨_, rfl⟩
  have hba : Below w.heap.size w wa := by rw [← hwa]; exact (Below.refl _ _).alloc (Nat.le_refl _) _
  have t0 : wa.cell? ⟨w.heap.size, 0, none⟩ = some (.int .i64 t.dims) := by rw [← hwa]; exact World.cell?_alloc_new ..
  have t1 : wa.cell? ⟨w.heap.size, 1, none⟩ = some (.string t.name) := by rw [← hwa]; exact World.cell?_alloc_new ..
  have HB := Lib.hid hba
  have HT := Lib.hid (And.intro t0 t1)
  have HHO := Lib.hid (fun wr (hr : Below w.heap.size w wr) => Holder_all (h.next hr) t hs (he.below hr))
  have HI := Lib.hid (fun wr (hr : Below w.heap.size w wr) x => (h.next hr).isIface x)
  obtain ⟨R, hR⟩ : ∃ R, recvE m d kind t = R := ⟨_, rfl⟩
  have HR := Lib.hid hR
  rw [hR]
  unfold recvE at HR
  clear hR
  cases her : entAt m d with
  | none =>
    rw [her] at HR
    have HRX : Hid (3 = R) := HR
    have HC := Lib.hid (Class_none (h.next hba).hw (h.next hba).live her)
    clear h hba he her HR t0 t1
    go_enter Tryz.func37, Tryz.ntmps37
    go_wp2_with fail
    try rw [hwa]
    refine HC.out.mono ?_
    rintro _ w1 ⟨rfl, hb⟩
    have HB1 : Hid (Below w.heap.size w (w1.alloc (.cells #[.string ⟨#[]⟩, .string ⟨#[]⟩, .slice none 0 0, .int .i64 0, .int .i64 0, .slice none 0 0] 62))) := Lib.hid ((HB.out.trans (hb.mono HB.out.size)).alloc (Nat.le_trans HB.out.size hb.size) _)
    clear hb
    go_wp2
    go_ret
    exact ⟨by rw [← HRX.out]; rfl, HB1.out⟩
  | some e =>
    rw [her] at HR
    obtain ⟨k, rfl, hk, _⟩ := entAt_some her
    have HR1 : Hid ((if (decide (kind < 1) || decide (4 < kind)) = true then 2 else if (kind == 4) = true then 0 else if (holderM m t).2 = 0 then (if isIfaceM m (holderM m t).1 = true then 2 else 0) else (holderM m t).2) = R) := HR
    have HC := Lib.hid (Class2 (h.next hba) hk)
    obtain ⟨⟨hh, hhe⟩, hH⟩ : ∃ H, holderM m t = H := ⟨_, rfl⟩
    rw [hH] at HHO HR1
    simp only at HHO HR1
    clear h hba he her HR t0 t1 hH
    go_enter Tryz.func37, Tryz.ntmps37
    go_wp2_with fail
    try rw [hwa]
    clear hwa
    refine HC.out.mono ?_
    rintro _ w1 ⟨v0, v1, ia, ma, il, ic, ml, mc, cf, cl, rfl, hb⟩
    obtain ⟨wb, hwb⟩ : ∃ wb, (w1.alloc (.cells #[.string v0, .string v1, .slice ia il ic, .int .i64 cf, .int .i64 cl, .slice ma ml mc] 62)) = wb := ⟨_, rfl⟩
    have hbb : Below w1.heap.size w1 wb := by rw [← hwb]; exact (Below.refl _ _).alloc (Nat.le_refl _) _
    have hb' := hb.trans (hbb.mono hb.size)
    have HB1 := Lib.hid (HB.out.trans (hb'.mono HB.out.size))
    have t0 := below_cell' hb' HT.out.1
    have t1 := below_cell' hb' HT.out.2
    clear hb hbb hb' HC HB HT
    cases h1 : decide (kind < 1) with
    | true =>
      have HRX : Hid (2 = R) := Lib.hid (by rw [← HR1.out, if_pos (by rw [h1]; rfl)])
      clear HR1 HHO HI
      go_wp2
      try rw [hwb]
      go_ret
      exact ⟨by rw [← HRX.out]; rfl, HB1.out⟩
    | false =>
      cases h4 : decide (4 < kind) with
      | true =>
        have HRX : Hid (2 = R) := Lib.hid (by rw [← HR1.out, if_pos (by rw [h4, Bool.or_true])])
        clear HR1 HHO HI
        go_wp2
        try rw [hwb]
        go_ret
        exact ⟨by rw [← HRX.out]; rfl, HB1.out⟩
      | false =>
        have HR2 : Hid ((if (kind == 4) = true then 0 else if hhe = 0 then (if isIfaceM m hh = true then 2 else 0) else hhe) = R) := Lib.hid (by
          have h := HR1.out
          rw [if_neg (by rw [h1, h4]; decide)] at h
          exact h)
        cases hk4 : (kind == 4) with
        | true =>
          have HRX : Hid (0 = R) := Lib.hid (by rw [← HR2.out, if_pos hk4])
          clear HR1 HR2 HHO HI
          go_wp2
          try rw [hwb]
          go_ret
          exact ⟨by rw [← HRX.out]; rfl, HB1.out⟩
        | false =>
          have HR3 : Hid ((if hhe = 0 then (if isIfaceM m hh = true then 2 else 0) else hhe) = R) := Lib.hid (by
            have h := HR2.out
            rw [if_neg (by rw [hk4]; decide)] at h
            exact h)
          have HHX := Lib.hid (HHO.out wb HB1.out)
          clear HR1 HR2 HHO
          go_wp2_with fail
          try rw [hwb]
          clear hwb
          refine HHX.out.mono ?_
          rintro _ w2 ⟨rfl, hb⟩
          have HB2 := Lib.hid (HB1.out.trans (hb.mono HB1.out.size))
          clear hb HHX t0 t1
          by_cases hz : hhe = 0
          · subst hz
            have HR4 : Hid ((if isIfaceM m hh = true then 2 else 0) = R) := Lib.hid (by
              have h := HR3.out
              rw [if_pos rfl] at h
              exact h)
            have HIX := Lib.hid (HI.out w2 HB2.out hh)
            clear HR3 HI
            go_wp2_with fail
            refine HIX.out.mono ?_
            rintro _ w3 ⟨rfl, hb⟩
            have HB3 := Lib.hid (HB2.out.trans (hb.mono HB2.out.size))
            clear hb HIX
            cases hif : isIfaceM m hh with
            | true =>
              have HRX : Hid (2 = R) := Lib.hid (by rw [← HR4.out, if_pos hif])
              clear HR4
              go_wp2
              go_ret
              exact ⟨by rw [← HRX.out]; rfl, HB3.out⟩
            | false =>
              have HRX : Hid (0 = R) := Lib.hid (by rw [← HR4.out, if_neg (by rw [hif]; decide)])
              clear HR4
              go_wp2
              go_ret
              exact ⟨by rw [← HRX.out]; rfl, HB3.out⟩
          · have hz' : (hhe == 0) = false := by simpa using hz
            have HRX : Hid (hhe = R) := Lib.hid (by rw [← HR3.out, if_neg hz])
            clear HR3 HI hz
            go_wp2
            go_ret
            exact ⟨by rw [← HRX.out]; rfl, HB2.out⟩

theorem CFits (kind : Int) (r : RefM) (w : World) (h1 : r.cls.size ≤ maxLen) (h2 : r.name.size ≤ maxLen) (h3 : r.desc.size ≤ maxLen) (he : Lf.Env w) :
    Calls Tryz.prog 38 #[.int .i64 kind, .agg #[.bool r.iface, .string r.cls, .string r.name, .string r.desc]] w fun e w' => e = .returned (.int .i64 (fitsE kind r)) ∧ Below w.heap.size w w' := by
  obtain ⟨wa, hwa⟩ : ∃ wa, (w.alloc (.cells #[.bool r.iface, .string r.cls, .string r.name, .string r.desc] 30)) = wa := ⟨_, rfl⟩
  have hba : Below w.heap.size w wa := by rw [← hwa]; exact (Below.refl _ _).alloc (Nat.le_refl _) _
  have hr0 : RefAt wa w.heap.size r := by rw [← hwa]; exact RefAt.start w r
  have HB := Lib.hid hba
  have HRF := Lib.hid hr0
  have HCK := Lib.hid (by
    have := Pr.RefCheck r.iface r.cls.data.toList r.name.data.toList r.desc.data.toList wa (by rw [← Pr.ba_size, Pr.ba_of]; exact h1) (by rw [← Pr.ba_size, Pr.ba_of]; exact h2) (by rw [← Pr.ba_size, Pr.ba_of]; exact h3) (he.below hba)
    rw [Pr.ba_of, Pr.ba_of, Pr.ba_of] at this
    exact this)
  have HFE : Hid (Pr.refB r.cls.data.toList r.name.data.toList r.desc.data.toList = refOk r) := Lib.hid rfl
  rw [HFE.out] at HCK
  obtain ⟨R, hR⟩ : ∃ R, fitsE kind r = R := ⟨_, rfl⟩
  have HR := Lib.hid hR
  rw [hR]
  unfold fitsE at HR
  have hinit : initN.toList = [60, 105, 110, 105, 116, 62] := by decide +kernel
  rw [hinit] at HR
  generalize Pr.formE (refOk r) = fm at HCK HR
  have r0 := hr0.r0
  have r1 := hr0.r1
  have r2 := hr0.r2
  have r3 := hr0.r3
  clear hR hba hr0 h1 h2 h3 he HFE hinit
  go_enter Tryz.func38, Tryz.ntmps38
  go_wp2_with fail
  try rw [hwa]
  clear hwa
  refine HCK.out.mono ?_
  rintro _ w1 ⟨rfl, hb⟩
  have HB1 := Lib.hid (HB.out.trans (hb.mono HB.out.size))
  have HRF1 := Lib.hid (HRF.out.next hb)
  clear hb HCK HRF HB r0 r1 r2 r3
  have r0 := HRF1.out.r0
  have r2 := HRF1.out.r2
  by_cases hfm : fm = 0
  case neg =>
    have hfm' : (fm != 0) = true := by simpa using hfm
    have HRX : Hid (fm = R) := Lib.hid (by rw [← HR.out, if_pos hfm])
    clear hfm HR
    go_wp2
    go_ret
    exact ⟨by rw [← HRX.out]; rfl, HB1.out⟩
  subst hfm
  have HR1 : Hid ((if ((kind == 1) && r.iface) = true then 35 else if ((kind == 2) && !r.iface) = true then 35 else if ((r.name.toList == [60, 105, 110, 105, 116, 62]) && (kind != 3)) = true then 35 else 0) = R) := Lib.hid (by
    have h := HR.out
    rw [if_neg (by simp)] at h
    exact h)
  clear HR HRF1
  generalize r.iface = ri at *
  generalize r.name = rn at *
  cases k1 : (kind == 1)
  all_goals
    cases ri
    all_goals
      cases k2 : (kind == 2)
      all_goals
        cases hn : (rn.toList == [60, 105, 110, 105, 116, 62])
        all_goals
          cases k3 : (kind != 3)
          all_goals
            rw [k1, k2, hn, k3] at HR1
            go_wp2
            go_ret
            exact ⟨by rw [← HR1.out]; rfl, HB1.out⟩
end Go.Proofs.YtiiebakblkpkeaaGreatDoor.Hi
