/- LookupIface; what a class that is none answers. -/
import Derived.Test.YtiiebakblkpkeaaGreatDoorVA
import Derived.Test.YtiiebakblkpkeaaGreatDoorFe
set_option maxRecDepth 100000
set_option maxHeartbeats 1000000
set_option linter.unusedVariables false
set_option linter.unusedSimpArgs false
namespace Go.Proofs.YtiiebakblkpkeaaGreatDoor.Hi
open Go.RowKit Bs

theorem find_nat (m : List EntM) {c : Nat} (hc : c < m.length) (n d : ByteArray) : ∃ k : Nat, (findH m (c : Int) n d).1 = k := by
  rw [findH_at hc]
  rcases findE_cases m[c] n d with ⟨k, _, h⟩ | h
  · exact ⟨k, by rw [h]⟩
  · exact ⟨0, by rw [h]; rfl⟩

theorem ObjR {B bw : Nat} {w0 w : World} {m : List EntM} (h : Built B bw w0 w m) (h0 : 0 < m.length) (c : Int) (n d : ByteArray) :
    Calls Tryz.prog 110 #[.pointer (some ⟨bw, 0, none⟩), .int .i64 c, .string n, .string d] w fun r w' => ∃ p e, r = .returned (.tuple #[idV p, .int .i64 e]) ∧ Below w.heap.size w w' := by
  have HS := Lib.hid (IdAt.start w)
  have HO := Lib.hid (OwnR (h.next HS.out.bel) h0 n d)
  obtain ⟨k, hk⟩ := find_nat m h0 n d
  have HQ : Hid (ownR m 0 n d = ((((0 : Nat) : Int), (k : Int)), (findH m ((0 : Nat) : Int) n d).2)) := Lib.hid (by unfold ownR; rw [hk])
  rw [HQ.out] at HO
  have HM := Lib.hid (fun wr (hr : Below w.heap.size w wr) => Method_any (h.next hr).hw (h.next hr).live (b := k) (entAt_nat h0))
  generalize (findH m ((0 : Nat) : Int) n d).2 = er at HO
  unfold idV at *
  clear h hk HQ
  go_enter Tryz.func110, Tryz.ntmps110
  go_wp2_with fail
  refine HO.out.mono ?_
  rintro _ w1 ⟨rfl, hb⟩
  obtain ⟨wx, hwx⟩ : ∃ wx, (w1.alloc (.cells #[.int .i64 0, .int .i64 k] 24)) = wx := ⟨_, rfl⟩
  have hbx : Below w1.heap.size w1 wx := by rw [← hwx]; exact (Below.refl _ _).alloc (Nat.le_refl _) _
  have HB := Lib.hid ((HS.out.next hb).next hbx)
  have k0 : wx.cell? ⟨w1.heap.size, 0, none⟩ = some (.int .i64 0) := by rw [← hwx]; exact alloc_at rfl _ _ rfl
  have k1 : wx.cell? ⟨w1.heap.size, 1, none⟩ = some (.int .i64 k) := by rw [← hwx]; exact alloc_at rfl _ _ rfl
  have HMX := Lib.hid (HM.out wx HB.out.bel)
  clear hb hbx HS HO HM
  go_wp2_with fail
  try rw [hwx]
  clear hwx
  refine HMX.out.mono ?_
  rintro _ w2 ⟨n3, d3, f3, l3, s3, ad3, q3, c3, er3, rfl, _, hb⟩
  obtain ⟨wz, hwz⟩ : ∃ wz, (w2.alloc (.cells #[.string n3, .string d3, .int .i64 f3, .int .i64 l3, .int .i64 s3, .slice ad3 q3 c3] 39)) = wz := ⟨_, rfl⟩
  have hbz : Below w2.heap.size w2 wz := by rw [← hwz]; exact (Below.refl _ _).alloc (Nat.le_refl _) _
  have x2 : wz.cell? ⟨w2.heap.size, 2, none⟩ = some (.int .i64 f3) := by rw [← hwz]; exact alloc_at rfl _ _ rfl
  have q0 := below_cell' hbz (below_cell' hb k0)
  have q1 := below_cell' hbz (below_cell' hb k1)
  have HB2 := Lib.hid ((HB.out.next hb).next hbz)
  have s0 := HB2.out.s0
  have s1 := HB2.out.s1
  have t0 := HB2.out.t 0
  have t1 := HB2.out.t 1
  clear hb hbz k0 k1 HB HMX
  by_cases he : er = 0
  · subst he
    cases hf1 : (bits .and .i64 f3 1 == 0) <;> cases hf2 : (bits .and .i64 f3 8 != 0)
    · go_wp2_with fail
      try rw [hwz]
      clear hwz
      refine bodyPost_ret (results_cells_tmp rfl _ _ w.heap.size [.int .i64 0, .int .i64 k] _ rfl (HB2.out.two _ _) Tryz.underlying24 rfl id_info2) rfl ⟨(0, (k : Int)), 0, rfl, HB2.out.end _ _⟩
    · go_wp2_with fail
      try rw [hwz]
      clear hwz
      refine bodyPost_ret (results_cells_tmp rfl _ _ w.heap.size [.int .i64 0, .int .i64 0] _ rfl (HB2.out.two _ _) Tryz.underlying24 rfl id_info2) rfl ⟨(0, 0), 6, rfl, HB2.out.end _ _⟩
    · go_wp2_with fail
      try rw [hwz]
      clear hwz
      refine bodyPost_ret (results_cells_tmp rfl _ _ w.heap.size [.int .i64 0, .int .i64 0] _ rfl (HB2.out.two _ _) Tryz.underlying24 rfl id_info2) rfl ⟨(0, 0), 6, rfl, HB2.out.end _ _⟩
    · go_wp2_with fail
      try rw [hwz]
      clear hwz
      refine bodyPost_ret (results_cells_tmp rfl _ _ w.heap.size [.int .i64 0, .int .i64 0] _ rfl (HB2.out.two _ _) Tryz.underlying24 rfl id_info2) rfl ⟨(0, 0), 6, rfl, HB2.out.end _ _⟩
  · have he' : (er != 0) = true := by simpa using he
    have he2 : (er == 0) = false := by simpa using he
    go_wp2_with fail
    try rw [hwz]
    clear hwz
    refine bodyPost_ret (results_cells_tmp rfl _ _ w.heap.size [.int .i64 0, .int .i64 0] _ rfl (HB2.out.two _ _) Tryz.underlying24 rfl id_info2) rfl ⟨(0, 0), 6, rfl, HB2.out.end _ _⟩

theorem Look_out {bw : Nat} {w : World} {c : Int} (n d : ByteArray) (b : Bool) (v : Value)
    (HC0 : ∀ wr, Below w.heap.size w wr → Calls Tryz.prog 47 #[.pointer (some ⟨bw, 0, none⟩), .int .i64 c] wr fun r w' => r = .returned (.tuple #[.agg #[.string ⟨#[]⟩, .string ⟨#[]⟩, .slice none 0 0, .int .i64 0, .int .i64 0, .slice none 0 0], .int .i64 3]) ∧ Below wr.heap.size wr w') :
    Calls Tryz.prog 108 #[.pointer (some ⟨bw, 0, none⟩), .int .i64 c, .string n, .string d, .bool b, v] w fun r w' => r = .returned (.tuple #[.agg #[.int .i64 0, .int .i64 0], .int .i64 3]) ∧ Below w.heap.size w w' := by
  have HS := Lib.hid (IdAt.start w)
  have HC := Lib.hid (HC0 _ HS.out.bel)
  clear HC0
  go_enter Tryz.func108, Tryz.ntmps108
  go_wp2_with fail
  refine HC.out.mono ?_
  rintro _ w1 ⟨rfl, hb⟩
  have HB := Lib.hid ((HS.out.next hb).next ((Below.refl w1.heap.size w1).alloc (Nat.le_refl _) (.cells #[.string ⟨#[]⟩, .string ⟨#[]⟩, .slice none 0 0, .int .i64 0, .int .i64 0, .slice none 0 0] 62)))
  have s0 := HB.out.s0
  have s1 := HB.out.s1
  have t0 := HB.out.t 0
  have t1 := HB.out.t 1
  clear hb HS HC
  go_wp2
  refine bodyPost_ret (results_cells_tmp rfl _ _ w.heap.size [.int .i64 0, .int .i64 0] _ rfl (HB.out.two _ _) Tryz.underlying24 rfl id_info2) rfl ⟨rfl, HB.out.end _ _⟩

theorem Look_off {bw : Nat} {w : World} {c : Int} (n d : ByteArray) (b : Bool) (v : Value)
    (HC0 : ∀ wr, Below w.heap.size w wr → Calls Tryz.prog 47 #[.pointer (some ⟨bw, 0, none⟩), .int .i64 c] wr fun r w' => ∃ (v0 v1 : ByteArray) (ia ma : Option Addr) (il ic ml mc : Nat) (f l : Int), r = .returned (.tuple #[.agg #[.string v0, .string v1, .slice ia il ic, .int .i64 f, .int .i64 l, .slice ma ml mc], .int .i64 0]) ∧ Below wr.heap.size wr w')
    (HI0 : ∀ wr, Below w.heap.size w wr → Calls Tryz.prog 17 #[.pointer (some ⟨bw, 0, none⟩), .int .i64 c] wr fun r w' => r = .returned (.bool (!b)) ∧ Below wr.heap.size wr w') :
    Calls Tryz.prog 108 #[.pointer (some ⟨bw, 0, none⟩), .int .i64 c, .string n, .string d, .bool b, v] w fun r w' => r = .returned (.tuple #[.agg #[.int .i64 0, .int .i64 0], .int .i64 23]) ∧ Below w.heap.size w w' := by
  have HS := Lib.hid (IdAt.start w)
  have HC := Lib.hid (HC0 _ HS.out.bel)
  have HI := Lib.hid HI0
  clear HC0 HI0
  cases b
  all_goals
    go_enter Tryz.func108, Tryz.ntmps108
    go_wp2_with fail
    refine HC.out.mono ?_
    rintro _ w1 ⟨v0, v1, ia, ma, il, ic, ml, mc, f, l, rfl, hb⟩
    obtain ⟨wx, hwx⟩ : ∃ wx, (w1.alloc (.cells #[.string v0, .string v1, .slice ia il ic, .int .i64 f, .int .i64 l, .slice ma ml mc] 62)) = wx := ⟨_, rfl⟩
    have hbx : Below w1.heap.size w1 wx := by rw [← hwx]; exact (Below.refl _ _).alloc (Nat.le_refl _) _
    have HB := Lib.hid ((HS.out.next hb).next hbx)
    have HIX := Lib.hid (HI.out wx HB.out.bel)
    clear hb hbx HS HC HI
    go_wp2_with fail
    try rw [hwx]
    clear hwx
    refine HIX.out.mono ?_
    rintro _ w2 ⟨rfl, hb⟩
    have HB2 := Lib.hid (HB.out.next hb)
    have s0 := HB2.out.s0
    have s1 := HB2.out.s1
    have t0 := HB2.out.t 0
    have t1 := HB2.out.t 1
    clear hb HB HIX
    go_wp2
    refine bodyPost_ret (results_cells_tmp rfl _ _ w.heap.size [.int .i64 0, .int .i64 0] _ rfl (HB2.out.two _ _) Tryz.underlying24 rfl id_info2) rfl ⟨rfl, HB2.out.end _ _⟩

/-- Lookup, by what look answers. -/
theorem Lookup_by {bw : Nat} {w : World} {c : Int} (n d : ByteArray) {er : Int} (HL0 : ∀ wr v, Below w.heap.size w wr → Calls Tryz.prog 108 #[.pointer (some ⟨bw, 0, none⟩), .int .i64 c, .string n, .string d, .bool false, v] wr fun r w' => r = .returned (.tuple #[.agg #[.int .i64 0, .int .i64 0], .int .i64 er]) ∧ Below wr.heap.size wr w') :
    Calls Tryz.prog 82 #[.pointer (some ⟨bw, 0, none⟩), .int .i64 c, .string n, .string d] w fun r w' => r = .returned (.tuple #[.agg #[.int .i64 0, .int .i64 0], .int .i64 er]) ∧ Below w.heap.size w w' := by
  have HS := Lib.hid (IdAt.start w)
  obtain ⟨wa, hwa⟩ : ∃ wa, ((w.alloc (.cells #[.int .i64 0, .int .i64 0] 24)).alloc (.cells #[.func (.func 111) #[] #[]] 179)) = wa := ⟨_, rfl⟩
  have hba : Below (w.alloc (.cells #[.int .i64 0, .int .i64 0] 24)).heap.size (w.alloc (.cells #[.int .i64 0, .int .i64 0] 24)) wa := by rw [← hwa]; exact (Below.refl _ _).alloc (Nat.le_refl _) _
  have HSA := Lib.hid (HS.out.next hba)
  have HL := Lib.hid (HL0 wa (.slice (some ⟨w.heap.size + 1, 0, none⟩) 1 1) HSA.out.bel)
  clear HS hba HL0
  go_enter Tryz.func82, Tryz.ntmps82
  go_wp2_with fail
  try rw [hwa]
  clear hwa
  refine HL.out.mono ?_
  rintro _ w1 ⟨rfl, hb⟩
  have HB := Lib.hid (HSA.out.next hb)
  have s0 := HB.out.s0
  have s1 := HB.out.s1
  have t0 := HB.out.t 0
  have t1 := HB.out.t 1
  clear hb HSA HL
  go_wp2
  refine bodyPost_ret (results_cells_tmp rfl _ _ w.heap.size [.int .i64 0, .int .i64 0] _ rfl (HB.out.two _ _) Tryz.underlying24 rfl id_info2) rfl ⟨rfl, HB.out.end _ _⟩

theorem LookupI_in {B bw : Nat} {w0 w : World} {m : List EntM} (h : Built B bw w0 w m) {c : Nat} (hc : c < m.length) (hi : isIfaceM m c = true) (n d : ByteArray) :
    Calls Tryz.prog 81 #[.pointer (some ⟨bw, 0, none⟩), .int .i64 c, .string n, .string d] w fun r w' => ∃ p e, r = .returned (.tuple #[idV p, .int .i64 e]) ∧ ((findH m c n d).2 = 0 → p = (((c : Int), (findH m c n d).1)) ∧ e = 0) ∧ Below w.heap.size w w' := by
  have HS := Lib.hid (IdAt.start w)
  obtain ⟨wa, hwa⟩ : ∃ wa, ((w.alloc (.cells #[.int .i64 0, .int .i64 0] 24)).alloc (.cells #[.func (.func 109) #[] #[], .func (.func 110) #[] #[]] 179)) = wa := ⟨_, rfl⟩
  have hba : Below (w.alloc (.cells #[.int .i64 0, .int .i64 0] 24)).heap.size (w.alloc (.cells #[.int .i64 0, .int .i64 0] 24)) wa := by rw [← hwa]; exact (Below.refl _ _).alloc (Nat.le_refl _) _
  have HSA := Lib.hid (HS.out.next hba)
  have hcell : ∀ j (hj : j < [109, 110].length), wa.cell? ⟨w.heap.size + 1, j, none⟩ = some (roadV [109, 110][j]) := fun j hj => by
    rw [← hwa]
    match j, hj with
    | 0, _ => exact alloc_at (by simp) _ _ rfl
    | 1, _ => exact alloc_at (by simp) _ _ rfl
  have h' := h.next HSA.out.bel
  have h0 : 0 < m.length := by omega
  have HL := Lib.hid (Look_in (bw := bw) (w := wa) (c := c) (ifc := true) (g := w.heap.size + 1) (k := 2) n d (by omega) [109, 110] rfl hcell
      (fun wr hr => Class2 (h'.next hr) hc) (fun wr hr => by rw [← hi]; exact (h'.next hr).isIface c)
      (fun j p e => j = 0 → (p, e) = ownR m c n d)
      (fun j hj => by
        match j, hj with
        | 0, _ => exact .inr (.inl rfl)
        | 1, _ => exact .inr (.inr (.inl rfl))
        | 2, _ => exact .inr (.inr (.inr (.inl rfl)))
        | 3, _ => exact .inr (.inr (.inr (.inr rfl))))
      (fun wr hr j hj => by
        match j, hj with
        | 0, _ => exact (OwnR (h'.next hr) hc n d).mono fun r w' ⟨h1, h2⟩ => ⟨_, _, h1, fun _ => rfl, h2⟩
        | 1, _ => exact (ObjR (h'.next hr) h0 c n d).mono fun r w' ⟨p, e, h1, h2⟩ => ⟨p, e, h1, fun h => (by cases h), h2⟩
        | 2, _ => exact (One (h'.next hr) hc n d).mono fun r w' ⟨h1, h2⟩ => ⟨_, _, h1, fun h => (by cases h), h2⟩
        | 3, _ => exact (SomeR (h'.next hr) hc n d).mono fun r w' ⟨h1, h2⟩ => ⟨_, _, h1, fun h => (by cases h), h2⟩))
  have HQ : Hid (∀ p e, Along (fun j p e => j = 0 → (p, e) = ownR m c n d) (2 + 2) p e → (findH m c n d).2 = 0 → p = (((c : Int), (findH m c n d).1)) ∧ e = 0) := Lib.hid fun p e ha hf =>
    along_own (a := ownR m c n d) (by omega) (fun p e h => h rfl) hf ha
  unfold idV
  generalize findH m c n d = R at *
  clear h h' hba HS hcell
  go_enter Tryz.func81, Tryz.ntmps81
  go_wp2_with fail
  try rw [hwa]
  clear hwa
  refine HL.out.mono ?_
  rintro _ w1 ⟨p, e, rfl, ha, hb⟩
  have HR := Lib.hid (HQ.out p e ha)
  have HB := Lib.hid (HSA.out.next hb)
  have s0 := HB.out.s0
  have s1 := HB.out.s1
  have t0 := HB.out.t 0
  have t1 := HB.out.t 1
  clear ha hb HQ HL HSA
  unfold idV
  go_wp2
  refine bodyPost_ret (results_cells_tmp rfl _ _ w.heap.size [.int .i64 p.1, .int .i64 p.2] _ rfl (HB.out.two _ _) Tryz.underlying24 rfl id_info2) rfl ⟨p, e, rfl, HR.out, HB.out.end _ _⟩
end Go.Proofs.YtiiebakblkpkeaaGreatDoor.Hi
/- A law's world; a class that is none. -/
set_option maxRecDepth 100000
set_option maxHeartbeats 2000000
set_option linter.unusedVariables false
set_option linter.unusedSimpArgs false
namespace Go.Proofs.YtiiebakblkpkeaaGreatDoor.Hi
open Go.RowKit Bs

theorem ClsSl.nextR {w w' : World} {v : Value} {xs : List ClsM} (h : ClsSl (fun b => b < w.heap.size) w v xs) (hb : Below w.heap.size w w') : ClsSl (fun b => b < w'.heap.size) w' v xs :=
  (ClsSl.alike h (Alike.of_below hb fun _ h => h)).mono (fun _ hk => Nat.lt_of_lt_of_le hk hb.size) fun _ _ h => h.mono fun _ hk => Nat.lt_of_lt_of_le hk hb.size

end Go.Proofs.YtiiebakblkpkeaaGreatDoor.Hi
/- Resolving in general: what each step answers. -/
set_option maxRecDepth 100000
set_option maxHeartbeats 1000000
set_option linter.unusedVariables false
set_option linter.unusedSimpArgs false
namespace Go.Proofs.YtiiebakblkpkeaaGreatDoor.Hi
open Go.RowKit Bs

def zeroT : TyM := ⟨0, ⟨#[]⟩⟩

/-- resolve.Class, whatever the steps answer. -/
theorem RClass_any {bw : Nat} {w : World} {dd : Int} {s : ByteArray} (t : TyM) (pe le : Int) (op : Bool)
    (HC0 : ∀ wr, Below w.heap.size w wr → Calls Tryz.prog 47 #[.pointer (some ⟨bw, 0, none⟩), .int .i64 dd] wr fun r w' => ∃ (v0 v1 : ByteArray) (ia ma : Option Addr) (il ic ml mc : Nat) (f l : Int), r = .returned (.tuple #[.agg #[.string v0, .string v1, .slice ia il ic, .int .i64 f, .int .i64 l, .slice ma ml mc], .int .i64 0]) ∧ Below wr.heap.size wr w')
    (HP0 : ∀ wr, Below w.heap.size w wr → Calls Tryz.prog 34 #[.string s] wr fun r w' => r = .returned (.tuple #[.agg #[.int .i64 t.dims, .string t.name], .int .i64 pe]) ∧ Below wr.heap.size wr w')
    (HL0 : pe = 0 → ∀ wr, Below w.heap.size w wr → Calls Tryz.prog 50 #[.pointer (some ⟨bw, 0, none⟩), .agg #[.int .i64 t.dims, .string t.name]] wr fun r w' => r = .returned (.int .i64 le) ∧ Below wr.heap.size wr w')
    (HT0 : pe = 0 → le = 0 → ∀ wr, Below w.heap.size w wr → Calls Tryz.prog 53 #[.pointer (some ⟨bw, 0, none⟩), .int .i64 dd, .agg #[.int .i64 t.dims, .string t.name]] wr fun r w' => r = .returned (.tuple #[.bool op, .int .i64 0]) ∧ Below wr.heap.size wr w')
    (u : TyM) (e : Int) (hu : (u, e) = if pe ≠ 0 then (zeroT, 4) else if le ≠ 0 then (zeroT, le) else if op = true then (t, 0) else (zeroT, 22)) :
    Calls Tryz.prog 24 #[.pointer (some ⟨bw, 0, none⟩), .int .i64 dd, .string s] w fun r w' => r = .returned (.tuple #[.agg #[.int .i64 u.dims, .string u.name], .int .i64 e]) ∧ Below w.heap.size w w' := by
  have HS := Lib.hid (TyAt.start w)
  have HC := Lib.hid (HC0 _ HS.out.bel)
  have HP := Lib.hid HP0
  have HL := Lib.hid HL0
  have HT := Lib.hid HT0
  have HU := Lib.hid hu
  clear HC0 HP0 HL0 HT0 hu
  obtain ⟨dm, nm⟩ := t
  obtain ⟨ud, un⟩ := u
  simp only at HP HL HT ⊢
  go_enter Tryz.func24, Tryz.ntmps24
  go_wp2_with fail
  refine HC.out.mono ?_
  rintro _ w1 ⟨v0, v1, ia, ma, il, ic, ml, mc, f, l, rfl, hb⟩
  have HB1 := Lib.hid ((HS.out.next hb).next ((Below.refl w1.heap.size w1).alloc (Nat.le_refl _) (.cells #[.string v0, .string v1, .slice ia il ic, .int .i64 f, .int .i64 l, .slice ma ml mc] 62)))
  clear hb HC HS
  go_wp2_with fail
  refine (HP.out _ HB1.out.bel).mono ?_
  rintro _ w2 ⟨rfl, hb⟩
  obtain ⟨wx, hwx⟩ : ∃ wx, (w2.alloc (.cells #[.int .i64 dm, .string nm] 33)) = wx := ⟨_, rfl⟩
  have hbx : Below w2.heap.size w2 wx := by rw [← hwx]; exact (Below.refl _ _).alloc (Nat.le_refl _) _
  have HB2 := Lib.hid ((HB1.out.next hb).next hbx)
  have m0 : wx.cell? ⟨w2.heap.size, 0, none⟩ = some (.int .i64 dm) := by rw [← hwx]; exact alloc_at rfl _ _ rfl
  have m1 : wx.cell? ⟨w2.heap.size, 1, none⟩ = some (.string nm) := by rw [← hwx]; exact alloc_at rfl _ _ rfl
  clear hb hbx HP HB1
  by_cases hpe : pe = 0
  · subst hpe
    have HLX := Lib.hid (HL.out (by trivial) wx HB2.out.bel)
    go_wp2_with fail
    try rw [hwx]
    clear hwx HL
    refine HLX.out.mono ?_
    rintro _ w3 ⟨rfl, hb⟩
    have HB3 := Lib.hid (HB2.out.next hb)
    have p0 := below_cell' hb m0
    have p1 := below_cell' hb m1
    clear hb HLX HB2 m0 m1
    by_cases hle : le = 0
    · subst hle
      have HTX := Lib.hid (HT.out (by trivial) (by trivial) w3 HB3.out.bel)
      go_wp2_with fail
      refine HTX.out.mono ?_
      rintro _ w4 ⟨rfl, hb⟩
      have HB4 := Lib.hid (HB3.out.next hb)
      have m0 := below_cell' hb p0
      have m1 := below_cell' hb p1
      clear hb HT HTX HB3 p0 p1
      have s0 := HB4.out.s0
      have s1 := HB4.out.s1
      have t0 := HB4.out.t 0
      have t1 := HB4.out.t 1
      cases op
      · have HE : Hid (ud = 0 ∧ un = ⟨#[]⟩ ∧ e = 22) := Lib.hid (by
          have := HU.out
          simp [zeroT] at this
          exact ⟨this.1.1, this.1.2, this.2⟩)
        go_wp2
        refine bodyPost_ret (results_cells_tmp rfl _ _ w.heap.size [.int .i64 0, .string ⟨#[]⟩] _ rfl (HB4.out.two _ _) Tryz.underlying33 rfl type_info2) rfl ⟨by rw [HE.out.1, HE.out.2.1, HE.out.2.2]; rfl, HB4.out.end _ _⟩
      · have HE : Hid (ud = dm ∧ un = nm ∧ e = 0) := Lib.hid (by
          have := HU.out
          simp at this
          exact ⟨this.1.1, this.1.2, this.2⟩)
        go_wp2
        refine bodyPost_ret (results_cells_tmp rfl _ _ w.heap.size [.int .i64 dm, .string nm] _ rfl (HB4.out.two _ _) Tryz.underlying33 rfl type_info2) rfl ⟨by rw [HE.out.1, HE.out.2.1, HE.out.2.2]; rfl, HB4.out.end _ _⟩
    · have hle1 : (le != 0) = true := by simpa using hle
      have HE : Hid (ud = 0 ∧ un = ⟨#[]⟩ ∧ e = le) := Lib.hid (by
        have := HU.out
        simp [zeroT, hle] at this
        exact ⟨this.1.1, this.1.2, this.2⟩)
      have s0 := HB3.out.s0
      have s1 := HB3.out.s1
      have t0 := HB3.out.t 0
      have t1 := HB3.out.t 1
      clear HT
      go_wp2
      refine bodyPost_ret (results_cells_tmp rfl _ _ w.heap.size [.int .i64 0, .string ⟨#[]⟩] _ rfl (HB3.out.two _ _) Tryz.underlying33 rfl type_info2) rfl ⟨by rw [HE.out.1, HE.out.2.1, HE.out.2.2]; rfl, HB3.out.end _ _⟩
  · have hpe1 : (pe != 0) = true := by simpa using hpe
    have HE : Hid (ud = 0 ∧ un = ⟨#[]⟩ ∧ e = 4) := Lib.hid (by
      have := HU.out
      simp [zeroT, hpe] at this
      exact ⟨this.1.1, this.1.2, this.2⟩)
    have s0 := HB2.out.s0
    have s1 := HB2.out.s1
    have t0 := HB2.out.t 0
    have t1 := HB2.out.t 1
    clear HL HT
    go_wp2_with fail
    try rw [hwx]
    clear hwx
    refine bodyPost_ret (results_cells_tmp rfl _ _ w.heap.size [.int .i64 0, .string ⟨#[]⟩] _ rfl (HB2.out.two _ _) Tryz.underlying33 rfl type_info2) rfl ⟨by rw [HE.out.1, HE.out.2.1, HE.out.2.2]; rfl, HB2.out.end _ _⟩
end Go.Proofs.YtiiebakblkpkeaaGreatDoor.Hi
/- Access in general: a method; a type that is int or an array of it; holders. -/
set_option maxRecDepth 100000
set_option maxHeartbeats 2000000
set_option linter.unusedVariables false
set_option linter.unusedSimpArgs false
namespace Go.Proofs.YtiiebakblkpkeaaGreatDoor.Hi
open Go.RowKit Bs

/-- Is a method open to a class, reached by another one? -/
def moM (m : List EntM) (i : Nat) (a : Nat) (f : Int) (j : Nat) : Bool :=
  if openM f = 1 then true
  else if openM f = 2 then decide (a = i)
  else if homeB (clsAt m i) (clsAt m a) = true then true
  else if openM f = 4 ∧ isIfaceM m a = false ∧ extM m i a = true then ((bits .and .i64 f 8 != 0) || (extM m j i || extM m i j))
  else false

theorem MethodOpen_any {B bw : Nat} {w0 w : World} {m : List EntM} (h : Built B bw w0 w m) {i j a b : Nat} (hi : i < m.length) (hj : j < m.length) (ha : a < m.length) (hb : b < m[a].c.meths.length) :
    Calls Tryz.prog 49 #[.pointer (some ⟨bw, 0, none⟩), .int .i64 i, .agg #[.int .i64 a, .int .i64 b], .int .i64 j] w fun r w' => r = .returned (.tuple #[.bool (moM m i a m[a].c.meths[b].flags j), .int .i64 0]) ∧ Below w.heap.size w w' := by
  have hba : Below w.heap.size w (w.alloc (.cells #[.int .i64 a, .int .i64 b] 24)) := (Below.refl _ _).alloc (Nat.le_refl _) _
  have HB := Lib.hid hba
  have H1 := Lib.hid (HomeOf2 (h.next hba) hi)
  have H2 := Lib.hid (fun wr (hr : Below w.heap.size w wr) => HomeOf2 (h.next hr) ha)
  have HC := Lib.hid (fun wr (hr : Below w.heap.size w wr) => Class2 (h.next hr) hj)
  have HM := Lib.hid (fun wr (hr : Below w.heap.size w wr) => Method2 (h.next hr) ha hb)
  have HF := Lib.hid (fun wr => FOpen m[a].c.meths[b].flags wr)
  have HI := Lib.hid (fun wr (hr : Below w.heap.size w wr) => (h.next hr).isIface a)
  have HX1 := Lib.hid (fun wr (hr : Below w.heap.size w wr) => (h.next hr).extends i a)
  have HX2 := Lib.hid (fun wr (hr : Below w.heap.size w wr) => (h.next hr).extends j i)
  have HX3 := Lib.hid (fun wr (hr : Below w.heap.size w wr) => (h.next hr).extends i j)
  have HE : Hid (moM m i a m[a].c.meths[b].flags j = if openM m[a].c.meths[b].flags = 1 then true else if openM m[a].c.meths[b].flags = 2 then decide (a = i) else if ((m[i].c.loader == m[a].c.loader) && ((pkgM m[i].c.name).toList == (pkgM m[a].c.name).toList)) = true then true else if openM m[a].c.meths[b].flags = 4 ∧ isIfaceM m a = false ∧ extM m i a = true then ((bits .and .i64 m[a].c.meths[b].flags 8 != 0) || (extM m j i || extM m i j)) else false) := Lib.hid (by unfold moM homeB; rw [clsAt_at hi, clsAt_at ha])
  have q0 : (w.alloc (.cells #[.int .i64 a, .int .i64 b] 24)).cell? ⟨w.heap.size, 0, none⟩ = some (.int .i64 a) := World.cell?_alloc_new ..
  have q1 : (w.alloc (.cells #[.int .i64 a, .int .i64 b] 24)).cell? ⟨w.heap.size, 1, none⟩ = some (.int .i64 b) := World.cell?_alloc_new ..
  generalize m[a].c.meths[b] = x at HM HF HE ⊢
  generalize moM m i a x.flags j = R at *
  generalize isIfaceM m a = ifa at *
  generalize extM m i a = x1 at *
  generalize extM m j i = x2 at *
  generalize extM m i j = x3 at *
  clear h hba hb
  generalize m[i].c = c at *
  generalize m[a].c = d at *
  generalize pkgM c.name = pc at *
  generalize pkgM d.name = pd at *
  generalize c.loader = lc at *
  generalize d.loader = ld at *
  generalize openM x.flags = o at *
  go_enter Tryz.func49, Tryz.ntmps49
  go_wp2_with fail
  refine H1.out.mono ?_
  rintro _ w1 ⟨ia, ma, il, ic, ml, mc, rfl, hb⟩
  obtain ⟨wx, hwx⟩ : ∃ wx, ((w1.alloc (.cells #[.int .i64 lc, .string pc] 141)).alloc (.cells #[.string c.name, .string c.super, .slice ia il ic, .int .i64 c.flags, .int .i64 lc, .slice ma ml mc] 62)) = wx := ⟨_, rfl⟩
  have hbx : Below w1.heap.size w1 wx := by rw [← hwx]; exact ((Below.refl _ _).alloc (Nat.le_refl _) _).alloc (by simp) _
  have k0 := below_cell' hbx (below_cell' hb q0)
  have k1 := below_cell' hbx (below_cell' hb q1)
  have a0 : wx.cell? ⟨w1.heap.size, 0, none⟩ = some (.int .i64 lc) := by rw [← hwx]; exact alloc_old (World.cell?_alloc_new ..)
  have a1 : wx.cell? ⟨w1.heap.size, 1, none⟩ = some (.string pc) := by rw [← hwx]; exact alloc_old (World.cell?_alloc_new ..)
  have HBX : Hid (Below w.heap.size w wx) := Lib.hid ((HB.out.trans (hb.mono HB.out.size)).trans (hbx.mono (Nat.le_trans HB.out.size hb.size)))
  have HCX := Lib.hid (HC.out wx HBX.out)
  clear hb hbx q0 q1 HB H1 HC
  go_wp2_with fail
  try rw [hwx]
  clear hwx
  refine HCX.out.mono ?_
  rintro _ w2 ⟨v0, v1, ia2, ma2, il2, ic2, ml2, mc2, f2, l2, rfl, hb⟩
  obtain ⟨wy, hwy⟩ : ∃ wy, (w2.alloc (.cells #[.string v0, .string v1, .slice ia2 il2 ic2, .int .i64 f2, .int .i64 l2, .slice ma2 ml2 mc2] 62)) = wy := ⟨_, rfl⟩
  have hby : Below w2.heap.size w2 wy := by rw [← hwy]; exact (Below.refl _ _).alloc (Nat.le_refl _) _
  have q0 := below_cell' hby (below_cell' hb k0)
  have q1 := below_cell' hby (below_cell' hb k1)
  have b0 := below_cell' hby (below_cell' hb a0)
  have b1 := below_cell' hby (below_cell' hb a1)
  have HBY : Hid (Below w.heap.size w wy) := Lib.hid ((HBX.out.trans (hb.mono HBX.out.size)).trans (hby.mono (Nat.le_trans HBX.out.size hb.size)))
  have HMX := Lib.hid (HM.out wy HBY.out)
  clear hb hby k0 k1 a0 a1 HBX HCX HM
  go_wp2_with fail
  try rw [hwy]
  clear hwy
  refine HMX.out.mono ?_
  rintro _ w3 ⟨ad3, q3, c3, rfl, hb⟩
  obtain ⟨wz, hwz⟩ : ∃ wz, (w3.alloc (.cells #[.string x.name, .string x.desc, .int .i64 x.flags, .int .i64 x.locals, .int .i64 x.stack, .slice ad3 q3 c3] 39)) = wz := ⟨_, rfl⟩
  have hbz : Below w3.heap.size w3 wz := by rw [← hwz]; exact (Below.refl _ _).alloc (Nat.le_refl _) _
  have k0 := below_cell' hbz (below_cell' hb q0)
  have k1 := below_cell' hbz (below_cell' hb q1)
  have a0 := below_cell' hbz (below_cell' hb b0)
  have a1 := below_cell' hbz (below_cell' hb b1)
  have x2' : wz.cell? ⟨w3.heap.size, 2, none⟩ = some (.int .i64 x.flags) := by rw [← hwz]; exact World.cell?_alloc_new ..
  have HBZ : Hid (Below w.heap.size w wz) := Lib.hid ((HBY.out.trans (hb.mono HBY.out.size)).trans (hbz.mono (Nat.le_trans HBY.out.size hb.size)))
  have H1X := Lib.hid (H2.out wz HBZ.out)
  clear hb hbz q0 q1 b0 b1 HBY HMX H2
  go_wp2_with fail
  try rw [hwz]
  clear hwz
  refine H1X.out.mono ?_
  rintro _ w4 ⟨ia4, ma4, il4, ic4, ml4, mc4, rfl, hb⟩
  obtain ⟨wx, hwx⟩ : ∃ wx, ((w4.alloc (.cells #[.int .i64 ld, .string pd] 141)).alloc (.cells #[.string d.name, .string d.super, .slice ia4 il4 ic4, .int .i64 d.flags, .int .i64 ld, .slice ma4 ml4 mc4] 62)) = wx := ⟨_, rfl⟩
  have hbx : Below w4.heap.size w4 wx := by rw [← hwx]; exact ((Below.refl _ _).alloc (Nat.le_refl _) _).alloc (by simp) _
  have q0 := below_cell' hbx (below_cell' hb k0)
  have q1 := below_cell' hbx (below_cell' hb k1)
  have b0 := below_cell' hbx (below_cell' hb a0)
  have b1 := below_cell' hbx (below_cell' hb a1)
  have y2 := below_cell' hbx (below_cell' hb x2')
  have e0 : wx.cell? ⟨w4.heap.size, 0, none⟩ = some (.int .i64 ld) := by rw [← hwx]; exact alloc_old (World.cell?_alloc_new ..)
  have e1 : wx.cell? ⟨w4.heap.size, 1, none⟩ = some (.string pd) := by rw [← hwx]; exact alloc_old (World.cell?_alloc_new ..)
  have HBW : Hid (Below w.heap.size w wx) := Lib.hid ((HBZ.out.trans (hb.mono HBZ.out.size)).trans (hbx.mono (Nat.le_trans HBZ.out.size hb.size)))
  have HFX := Lib.hid (HF.out wx)
  have HIX := Lib.hid (HI.out wx HBW.out)
  clear hb hbx k0 k1 a0 a1 x2' HBZ H1X HF HI
  obtain ⟨nr, hnr⟩ : ∃ nr, ((lc == ld) && (pc.toList == pd.toList)) = nr := ⟨_, rfl⟩
  rw [hnr] at HE
  have near : (lc = ld ∧ pc.toList = pd.toList ∧ nr = true) ∨ (lc = ld ∧ ¬ pc.toList = pd.toList ∧ nr = false) ∨ (¬ lc = ld ∧ nr = false) := by
    by_cases h1 : lc = ld
    · by_cases h2 : pc.toList = pd.toList
      · exact .inl ⟨h1, h2, by rw [← hnr, h1, h2]; simp⟩
      · exact .inr (.inl ⟨h1, h2, by rw [← hnr]; simp [h2]⟩)
    · exact .inr (.inr ⟨h1, by rw [← hnr]; simp [h1]⟩)
  clear hnr
  rcases near with ⟨rfl, hp, rfl⟩ | ⟨rfl, hp, rfl⟩ | ⟨hl, rfl⟩
  · go_wp2_with fail
    try rw [hwx]
    clear hwx
    refine HFX.out.mono ?_
    rintro _ w5 ⟨rfl, rfl⟩
    clear HFX e0 e1 b0 b1
    by_cases h1 : o = 1
    · have G : Hid (R = true) := Lib.hid (by rw [HE.out, if_pos h1])
      subst h1
      go_wp2
      go_ret2
      exact ⟨by rw [G.out]; rfl, HBW.out⟩
    have h1' : (o == 1) = false := by simpa using h1
    by_cases h2 : o = 2
    · have G : Hid (R = decide (a = i)) := Lib.hid (by rw [HE.out, if_neg h1, if_pos h2])
      subst h2
      by_cases hai : a = i
      · subst hai
        go_wp2
        go_ret2
        exact ⟨by rw [G.out]; simp, HBW.out⟩
      · have hai' : ((a : Int) == (i : Int)) = false := by simp; omega
        go_wp2
        go_ret2
        exact ⟨by rw [G.out]; simp [hai], HBW.out⟩
    have h2' : (o == 2) = false := by simpa using h2
    have G : Hid (R = true) := Lib.hid (by rw [HE.out, if_neg h1, if_neg h2]; exact if_pos (by simp))
    clear HE
    go_wp2
    go_ret2
    exact ⟨by rw [G.out]; rfl, HBW.out⟩
  · go_wp2_with fail
    try rw [hwx]
    clear hwx
    refine HFX.out.mono ?_
    rintro _ w5 ⟨rfl, rfl⟩
    clear HFX e0 e1 b0 b1
    by_cases h1 : o = 1
    · have G : Hid (R = true) := Lib.hid (by rw [HE.out, if_pos h1])
      subst h1
      go_wp2
      go_ret2
      exact ⟨by rw [G.out]; rfl, HBW.out⟩
    have h1' : (o == 1) = false := by simpa using h1
    by_cases h2 : o = 2
    · have G : Hid (R = decide (a = i)) := Lib.hid (by rw [HE.out, if_neg h1, if_pos h2])
      subst h2
      by_cases hai : a = i
      · subst hai
        go_wp2
        go_ret2
        exact ⟨by rw [G.out]; simp, HBW.out⟩
      · have hai' : ((a : Int) == (i : Int)) = false := by simp; omega
        go_wp2
        go_ret2
        exact ⟨by rw [G.out]; simp [hai], HBW.out⟩
    have h2' : (o == 2) = false := by simpa using h2
    have HG : Hid (R = if o = 4 ∧ ifa = false ∧ x1 = true then ((bits .and .i64 x.flags 8 != 0) || (x2 || x3)) else false) := Lib.hid (by rw [HE.out, if_neg h1, if_neg h2]; exact if_neg (by simp))
    clear HE
    by_cases h4 : o = 4
    · subst h4
      clear h1 h2
      cases ifa
      · go_wp2_with fail
        refine HIX.out.mono ?_
        rintro _ w6 ⟨rfl, hb⟩
        have k0 := below_cell' hb q0
        have y2' := below_cell' hb y2
        have HB6 := Lib.hid (HBW.out.trans (hb.mono HBW.out.size))
        have HX := Lib.hid (HX1.out w6 HB6.out)
        clear hb q0 y2 HBW HX1
        go_wp2_with fail
        refine HX.out.mono ?_
        rintro _ w7 ⟨rfl, hb⟩
        have q0 := below_cell' hb k0
        have y2 := below_cell' hb y2'
        have HB7 := Lib.hid (HB6.out.trans (hb.mono HB6.out.size))
        clear hb k0 y2' HB6 HX
        cases x1
        · have G : Hid (R = false) := Lib.hid (by rw [HG.out]; rfl)
          go_wp2
          go_ret2
          exact ⟨by rw [G.out]; rfl, HB7.out⟩
        · have HG2 : Hid (R = ((bits .and .i64 x.flags 8 != 0) || (x2 || x3))) := Lib.hid (by rw [HG.out]; rfl)
          clear HG
          have HX := Lib.hid (HX2.out w7 HB7.out)
          cases hst : (bits .and .i64 x.flags 8 != 0)
          · rw [hst] at HG2
            go_wp2_with fail
            refine HX.out.mono ?_
            rintro _ w8 ⟨rfl, hb⟩
            have HB8 := Lib.hid (HB7.out.trans (hb.mono HB7.out.size))
            have HY := Lib.hid (HX3.out w8 HB8.out)
            clear hb HB7 HX
            cases x2
            · go_wp2_with fail
              refine HY.out.mono ?_
              rintro _ w9 ⟨rfl, hb⟩
              have HB9 := Lib.hid (HB8.out.trans (hb.mono HB8.out.size))
              clear hb HB8 HY
              go_wp2
              go_ret2
              exact ⟨by rw [HG2.out]; simp, HB9.out⟩
            · go_wp2
              go_ret2
              exact ⟨by rw [HG2.out]; rfl, HB8.out⟩
          · rw [hst] at HG2
            have G : Hid (R = true) := Lib.hid (by rw [HG2.out]; rfl)
            go_wp2
            go_ret2
            exact ⟨by rw [G.out]; rfl, HB7.out⟩
      · have G : Hid (R = false) := Lib.hid (by rw [HG.out]; rfl)
        go_wp2_with fail
        refine HIX.out.mono ?_
        rintro _ w6 ⟨rfl, hb⟩
        have HB6 := Lib.hid (HBW.out.trans (hb.mono HBW.out.size))
        clear hb
        go_wp2
        go_ret2
        exact ⟨by rw [G.out]; rfl, HB6.out⟩
    · have h4' : (o == 4) = false := by simpa using h4
      have G : Hid (R = false) := Lib.hid (by rw [HG.out, if_neg (fun h => h4 h.1)])
      clear HG
      go_wp2
      go_ret2
      exact ⟨by rw [G.out]; rfl, HBW.out⟩
  · go_wp2_with fail
    try rw [hwx]
    clear hwx
    refine HFX.out.mono ?_
    rintro _ w5 ⟨rfl, rfl⟩
    clear HFX e0 e1 b0 b1
    by_cases h1 : o = 1
    · have G : Hid (R = true) := Lib.hid (by rw [HE.out, if_pos h1])
      subst h1
      go_wp2
      go_ret2
      exact ⟨by rw [G.out]; rfl, HBW.out⟩
    have h1' : (o == 1) = false := by simpa using h1
    by_cases h2 : o = 2
    · have G : Hid (R = decide (a = i)) := Lib.hid (by rw [HE.out, if_neg h1, if_pos h2])
      subst h2
      by_cases hai : a = i
      · subst hai
        go_wp2
        go_ret2
        exact ⟨by rw [G.out]; simp, HBW.out⟩
      · have hai' : ((a : Int) == (i : Int)) = false := by simp; omega
        go_wp2
        go_ret2
        exact ⟨by rw [G.out]; simp [hai], HBW.out⟩
    have h2' : (o == 2) = false := by simpa using h2
    have HG : Hid (R = if o = 4 ∧ ifa = false ∧ x1 = true then ((bits .and .i64 x.flags 8 != 0) || (x2 || x3)) else false) := Lib.hid (by rw [HE.out, if_neg h1, if_neg h2]; exact if_neg (by simp))
    clear HE
    by_cases h4 : o = 4
    · subst h4
      clear h1 h2
      cases ifa
      · go_wp2_with fail
        refine HIX.out.mono ?_
        rintro _ w6 ⟨rfl, hb⟩
        have k0 := below_cell' hb q0
        have y2' := below_cell' hb y2
        have HB6 := Lib.hid (HBW.out.trans (hb.mono HBW.out.size))
        have HX := Lib.hid (HX1.out w6 HB6.out)
        clear hb q0 y2 HBW HX1
        go_wp2_with fail
        refine HX.out.mono ?_
        rintro _ w7 ⟨rfl, hb⟩
        have q0 := below_cell' hb k0
        have y2 := below_cell' hb y2'
        have HB7 := Lib.hid (HB6.out.trans (hb.mono HB6.out.size))
        clear hb k0 y2' HB6 HX
        cases x1
        · have G : Hid (R = false) := Lib.hid (by rw [HG.out]; rfl)
          go_wp2
          go_ret2
          exact ⟨by rw [G.out]; rfl, HB7.out⟩
        · have HG2 : Hid (R = ((bits .and .i64 x.flags 8 != 0) || (x2 || x3))) := Lib.hid (by rw [HG.out]; rfl)
          clear HG
          have HX := Lib.hid (HX2.out w7 HB7.out)
          cases hst : (bits .and .i64 x.flags 8 != 0)
          · rw [hst] at HG2
            go_wp2_with fail
            refine HX.out.mono ?_
            rintro _ w8 ⟨rfl, hb⟩
            have HB8 := Lib.hid (HB7.out.trans (hb.mono HB7.out.size))
            have HY := Lib.hid (HX3.out w8 HB8.out)
            clear hb HB7 HX
            cases x2
            · go_wp2_with fail
              refine HY.out.mono ?_
              rintro _ w9 ⟨rfl, hb⟩
              have HB9 := Lib.hid (HB8.out.trans (hb.mono HB8.out.size))
              clear hb HB8 HY
              go_wp2
              go_ret2
              exact ⟨by rw [HG2.out]; simp, HB9.out⟩
            · go_wp2
              go_ret2
              exact ⟨by rw [HG2.out]; rfl, HB8.out⟩
          · rw [hst] at HG2
            have G : Hid (R = true) := Lib.hid (by rw [HG2.out]; rfl)
            go_wp2
            go_ret2
            exact ⟨by rw [G.out]; rfl, HB7.out⟩
      · have G : Hid (R = false) := Lib.hid (by rw [HG.out]; rfl)
        go_wp2_with fail
        refine HIX.out.mono ?_
        rintro _ w6 ⟨rfl, hb⟩
        have HB6 := Lib.hid (HBW.out.trans (hb.mono HBW.out.size))
        clear hb
        go_wp2
        go_ret2
        exact ⟨by rw [G.out]; rfl, HB6.out⟩
    · have h4' : (o == 4) = false := by simpa using h4
      have G : Hid (R = false) := Lib.hid (by rw [HG.out, if_neg (fun h => h4 h.1)])
      clear HG
      go_wp2
      go_ret2
      exact ⟨by rw [G.out]; rfl, HBW.out⟩
end Go.Proofs.YtiiebakblkpkeaaGreatDoor.Hi
/- found, Method, whatever the steps answer. -/
set_option maxRecDepth 100000
set_option maxHeartbeats 1000000
set_option linter.unusedVariables false
set_option linter.unusedSimpArgs false
namespace Go.Proofs.YtiiebakblkpkeaaGreatDoor.Hi
open Go.RowKit Bs

/-- The places of found: a type, a reference, a method's place (whatever the reference's Iface). -/
structure FndAt2 (w w1 : World) (dm : Int) (nm : ByteArray) (ifc : Bool) (cls n d : ByteArray) : Prop where
  t0 : w1.cell? ⟨w.heap.size, 0, none⟩ = some (.int .i64 dm)
  t1 : w1.cell? ⟨w.heap.size, 1, none⟩ = some (.string nm)
  r0 : w1.cell? ⟨w.heap.size + 1, 0, none⟩ = some (.bool ifc)
  r1 : w1.cell? ⟨w.heap.size + 1, 1, none⟩ = some (.string cls)
  r2 : w1.cell? ⟨w.heap.size + 1, 2, none⟩ = some (.string n)
  r3 : w1.cell? ⟨w.heap.size + 1, 3, none⟩ = some (.string d)
  s0 : w1.cell? ⟨w.heap.size + 1 + 1, 0, none⟩ = some (.int .i64 0)
  s1 : w1.cell? ⟨w.heap.size + 1 + 1, 1, none⟩ = some (.int .i64 0)
  t : ∀ j, w1.frozen? ⟨w.heap.size + 1 + 1, j, none⟩ = false
  bel : Below w.heap.size w w1
  lt : w.heap.size + 1 + 1 < w1.heap.size
theorem FndAt2.start (w : World) (dm : Int) (nm : ByteArray) (ifc : Bool) (cls n d : ByteArray) : FndAt2 w (((w.alloc (.cells #[.int .i64 dm, .string nm] 33)).alloc (.cells #[.bool ifc, .string cls, .string n, .string d] 30)).alloc (.cells #[.int .i64 0, .int .i64 0] 24)) dm nm ifc cls n d := by
  refine ⟨alloc_old (alloc_old (alloc_at rfl _ _ rfl)), alloc_old (alloc_old (alloc_at rfl _ _ rfl)), alloc_old (alloc_at (by simp) _ _ rfl), alloc_old (alloc_at (by simp) _ _ rfl), alloc_old (alloc_at (by simp) _ _ rfl), alloc_old (alloc_at (by simp) _ _ rfl), alloc_at (by simp) _ _ rfl, alloc_at (by simp) _ _ rfl, fun j => ?_, (((Below.refl _ _).alloc (Nat.le_refl _) _).alloc (by simp) _).alloc (by simp; omega) _, by simp⟩
  have := frozen_new ((w.alloc (.cells #[.int .i64 dm, .string nm] 33)).alloc (.cells #[.bool ifc, .string cls, .string n, .string d] 30)) #[.int .i64 0, .int .i64 0] 24 j
  rw [World.size_alloc, World.size_alloc] at this
  exact this
theorem FndAt2.next {w w1 w2 : World} {dm : Int} {nm : ByteArray} {ifc : Bool} {cls n d : ByteArray} (h : FndAt2 w w1 dm nm ifc cls n d) (hb : Below w1.heap.size w1 w2) : FndAt2 w w2 dm nm ifc cls n d :=
  ⟨below_cell' hb h.t0, below_cell' hb h.t1, below_cell' hb h.r0, below_cell' hb h.r1, below_cell' hb h.r2, below_cell' hb h.r3, below_cell' hb h.s0, below_cell' hb h.s1, fun j => (World.frozen?_of_block (w := w1) (a := ⟨w.heap.size + 1 + 1, j, none⟩) (hb.block _ h.lt)).trans (h.t j), h.bel.trans (hb.mono h.bel.size), Nat.lt_of_lt_of_le h.lt hb.size⟩

theorem RFound_any {bw : Nat} {w : World} {ifc : Bool} {cls n d : ByteArray} {hol he : Int} (pe : (Int × Int) × Int) (t : TyM)
    (HH0 : ∀ wr, Below w.heap.size w wr → Calls Tryz.prog 23 #[.pointer (some ⟨bw, 0, none⟩), .agg #[.int .i64 t.dims, .string t.name]] wr fun r w' => r = .returned (.tuple #[.int .i64 hol, .int .i64 he]) ∧ Below wr.heap.size wr w')
    (HI0 : ifc = true → ¬ 0 < t.dims → ∀ wr, Below w.heap.size w wr → Calls Tryz.prog 81 #[.pointer (some ⟨bw, 0, none⟩), .int .i64 hol, .string n, .string d] wr fun r w' => r = .returned (.tuple #[.agg #[.int .i64 pe.1.1, .int .i64 pe.1.2], .int .i64 pe.2]) ∧ Below wr.heap.size wr w')
    (HL0 : ifc = false → ∀ wr, Below w.heap.size w wr → Calls Tryz.prog 82 #[.pointer (some ⟨bw, 0, none⟩), .int .i64 hol, .string n, .string d] wr fun r w' => r = .returned (.tuple #[.agg #[.int .i64 pe.1.1, .int .i64 pe.1.2], .int .i64 pe.2]) ∧ Below wr.heap.size wr w')
    (hx : ifc = true → 0 < t.dims → pe = ((0, 0), 23)) :
    Calls Tryz.prog 48 #[.pointer (some ⟨bw, 0, none⟩), .agg #[.int .i64 t.dims, .string t.name], .agg #[.bool ifc, .string cls, .string n, .string d]] w fun r w' => r = .returned (.tuple #[.agg #[.int .i64 pe.1.1, .int .i64 pe.1.2], .int .i64 hol, .int .i64 pe.2]) ∧ Below w.heap.size w w' := by
  have HS := Lib.hid (FndAt2.start w t.dims t.name ifc cls n d)
  have HH := Lib.hid (HH0 _ HS.out.bel)
  have HI := Lib.hid HI0
  have HL := Lib.hid HL0
  have HX := Lib.hid hx
  clear HH0 HL0 HI0 hx
  obtain ⟨⟨p1, p2⟩, e⟩ := pe
  obtain ⟨dm, nm⟩ := t
  simp only at HS HH HI HL HX ⊢
  go_enter Tryz.func48, Tryz.ntmps48
  go_wp2_with fail
  refine HH.out.mono ?_
  rintro _ w1 ⟨rfl, hb⟩
  have HB := Lib.hid (HS.out.next hb)
  have t0 := HB.out.t0
  have t1 := HB.out.t1
  have r0 := HB.out.r0
  have r1 := HB.out.r1
  have r2 := HB.out.r2
  have r3 := HB.out.r3
  have hq : w.heap.size ≤ w.heap.size + 1 + 1 := by omega
  clear hb HH HS
  cases ifc
  · have HLX := Lib.hid (HL.out (by trivial) w1 HB.out.bel)
    clear HL HI HX
    go_wp2_with fail
    refine HLX.out.mono ?_
    rintro _ w2 ⟨rfl, hb⟩
    have HB2 := Lib.hid (HB.out.next hb)
    clear hb HB HLX t0 t1 r0 r1 r2 r3
    have s0 := HB2.out.s0
    have s1 := HB2.out.s1
    have z0 := HB2.out.t 0
    have z1 := HB2.out.t 1
    go_wp2
    have key0 := set2 (v0 := .int .i64 p1) (v1 := .int .i64 p2) s0 s1
    have key := set2 (v0 := .int .i64 p1) (v1 := .int .i64 p2) key0.1 key0.2
    have hbb := (((HB2.out.bel.setCell hq (.int .i64 p1) (p := ⟨w.heap.size + 1 + 1, 0, none⟩)).setCell hq (.int .i64 p2) (p := ⟨w.heap.size + 1 + 1, 1, none⟩)).setCell hq (.int .i64 p1) (p := ⟨w.heap.size + 1 + 1, 0, none⟩)).setCell hq (.int .i64 p2) (p := ⟨w.heap.size + 1 + 1, 1, none⟩)
    refine bodyPost_ret (results_cells_tmp2 rfl _ _ (w.heap.size + 1 + 1) [.int .i64 p1, .int .i64 p2] _ rfl (two key.1 key.2) Tryz.underlying24 rfl id_info2) rfl ⟨rfl, hbb⟩
  · by_cases hd : 0 < dm
    · have HE := Lib.hid (HX.out (by trivial) hd)
      have hd' : decide (0 < dm) = true := decide_eq_true hd
      have s0 := HB.out.s0
      have s1 := HB.out.s1
      have z0 := HB.out.t 0
      have z1 := HB.out.t 1
      clear HL HI HX hd
      have hbb := (HB.out.bel.setCell hq (.int .i64 0) (p := ⟨w.heap.size + 1 + 1, 0, none⟩)).setCell hq (.int .i64 0) (p := ⟨w.heap.size + 1 + 1, 1, none⟩)
      have key := set2 (v0 := .int .i64 0) (v1 := .int .i64 0) s0 s1
      have HBB := Lib.hid hbb
      have HKEY := Lib.hid key
      clear hbb key
      go_wp2
      have he := HE.out
      injection he with he1 he3
      injection he1 with he1 he2
      refine bodyPost_ret (results_cells_tmp2 rfl _ _ (w.heap.size + 1 + 1) [.int .i64 0, .int .i64 0] _ rfl (two HKEY.out.1 HKEY.out.2) Tryz.underlying24 rfl id_info2) rfl ⟨by rw [he1, he2, he3]; rfl, HBB.out⟩
    · have HIX := Lib.hid (HI.out (by trivial) (by omega) w1 HB.out.bel)
      have hd' : decide (0 < dm) = false := decide_eq_false hd
      clear HL HI HX hd
      go_wp2_with fail
      refine HIX.out.mono ?_
      rintro _ w2 ⟨rfl, hb⟩
      have HB2 := Lib.hid (HB.out.next hb)
      clear hb HB HIX t0 t1 r0 r1 r2 r3
      have s0 := HB2.out.s0
      have s1 := HB2.out.s1
      have z0 := HB2.out.t 0
      have z1 := HB2.out.t 1
      go_wp2
      have key0 := set2 (v0 := .int .i64 p1) (v1 := .int .i64 p2) s0 s1
      have key := set2 (v0 := .int .i64 p1) (v1 := .int .i64 p2) key0.1 key0.2
      have hbb := (((HB2.out.bel.setCell hq (.int .i64 p1) (p := ⟨w.heap.size + 1 + 1, 0, none⟩)).setCell hq (.int .i64 p2) (p := ⟨w.heap.size + 1 + 1, 1, none⟩)).setCell hq (.int .i64 p1) (p := ⟨w.heap.size + 1 + 1, 0, none⟩)).setCell hq (.int .i64 p2) (p := ⟨w.heap.size + 1 + 1, 1, none⟩)
      refine bodyPost_ret (results_cells_tmp2 rfl _ _ (w.heap.size + 1 + 1) [.int .i64 p1, .int .i64 p2] _ rfl (two key.1 key.2) Tryz.underlying24 rfl id_info2) rfl ⟨rfl, hbb⟩

/-- The places of Method: a reference, a method's place (whatever the reference's Iface). -/
structure MetAt2 (w w1 : World) (ifc : Bool) (cls n d : ByteArray) : Prop where
  r0 : w1.cell? ⟨w.heap.size, 0, none⟩ = some (.bool ifc)
  r1 : w1.cell? ⟨w.heap.size, 1, none⟩ = some (.string cls)
  r2 : w1.cell? ⟨w.heap.size, 2, none⟩ = some (.string n)
  r3 : w1.cell? ⟨w.heap.size, 3, none⟩ = some (.string d)
  s0 : w1.cell? ⟨w.heap.size + 1, 0, none⟩ = some (.int .i64 0)
  s1 : w1.cell? ⟨w.heap.size + 1, 1, none⟩ = some (.int .i64 0)
  t : ∀ j, w1.frozen? ⟨w.heap.size + 1, j, none⟩ = false
  bel : Below w.heap.size w w1
  lt : w.heap.size + 1 < w1.heap.size
theorem MetAt2.start (w : World) (ifc : Bool) (cls n d : ByteArray) : MetAt2 w ((w.alloc (.cells #[.bool ifc, .string cls, .string n, .string d] 30)).alloc (.cells #[.int .i64 0, .int .i64 0] 24)) ifc cls n d := by
  refine ⟨alloc_old (alloc_at rfl _ _ rfl), alloc_old (alloc_at rfl _ _ rfl), alloc_old (alloc_at rfl _ _ rfl), alloc_old (alloc_at rfl _ _ rfl), alloc_at (by simp) _ _ rfl, alloc_at (by simp) _ _ rfl, fun j => ?_, ((Below.refl _ _).alloc (Nat.le_refl _) _).alloc (by simp) _, by simp⟩
  have := frozen_new (w.alloc (.cells #[.bool ifc, .string cls, .string n, .string d] 30)) #[.int .i64 0, .int .i64 0] 24 j
  rw [World.size_alloc] at this
  exact this
theorem MetAt2.next {w w1 w2 : World} {ifc : Bool} {cls n d : ByteArray} (h : MetAt2 w w1 ifc cls n d) (hb : Below w1.heap.size w1 w2) : MetAt2 w w2 ifc cls n d :=
  ⟨below_cell' hb h.r0, below_cell' hb h.r1, below_cell' hb h.r2, below_cell' hb h.r3, below_cell' hb h.s0, below_cell' hb h.s1, fun j => (World.frozen?_of_block (w := w1) (a := ⟨w.heap.size + 1, j, none⟩) (hb.block _ h.lt)).trans (h.t j), h.bel.trans (hb.mono h.bel.size), Nat.lt_of_lt_of_le h.lt hb.size⟩
theorem MetAt2.two {w w1 : World} {ifc : Bool} {cls n d : ByteArray} (h : MetAt2 w w1 ifc cls n d) (v0 v1 : Value) : ∀ j (hj : j < [v0, v1].length), ((w1.setCell ⟨w.heap.size + 1, 0, none⟩ v0).setCell ⟨w.heap.size + 1, 1, none⟩ v1).cell? ⟨w.heap.size + 1, j, none⟩ = some [v0, v1][j] := by
  have key := set2 (v0 := v0) (v1 := v1) h.s0 h.s1
  exact Hi.two key.1 key.2
theorem MetAt2.end {w w1 : World} {ifc : Bool} {cls n d : ByteArray} (h : MetAt2 w w1 ifc cls n d) (v0 v1 : Value) : Below w.heap.size w ((w1.setCell ⟨w.heap.size + 1, 0, none⟩ v0).setCell ⟨w.heap.size + 1, 1, none⟩ v1) :=
  (h.bel.setCell (Nat.le_succ _) _).setCell (Nat.le_succ _) _

theorem RMethod_any {bw : Nat} {w : World} {dd : Int} {ifc : Bool} {cls n d : ByteArray} (t : TyM) (re ce fe hol : Int) (p : Int × Int) (op : Bool)
    (HC0 : ∀ wr, Below w.heap.size w wr → Calls Tryz.prog 47 #[.pointer (some ⟨bw, 0, none⟩), .int .i64 dd] wr fun r w' => ∃ (v0 v1 : ByteArray) (ia ma : Option Addr) (il ic ml mc : Nat) (f l : Int), r = .returned (.tuple #[.agg #[.string v0, .string v1, .slice ia il ic, .int .i64 f, .int .i64 l, .slice ma ml mc], .int .i64 0]) ∧ Below wr.heap.size wr w')
    (HR0 : ∀ wr, Below w.heap.size w wr → Calls Tryz.prog 33 #[.agg #[.bool ifc, .string cls, .string n, .string d]] wr fun r w' => r = .returned (.int .i64 re) ∧ Below wr.heap.size wr w')
    (HT0 : re = 0 → ∀ wr, Below w.heap.size w wr → Calls Tryz.prog 24 #[.pointer (some ⟨bw, 0, none⟩), .int .i64 dd, .string cls] wr fun r w' => r = .returned (.tuple #[.agg #[.int .i64 t.dims, .string t.name], .int .i64 ce]) ∧ Below wr.heap.size wr w')
    (HF0 : re = 0 → ce = 0 → ∀ wr, Below w.heap.size w wr → Calls Tryz.prog 48 #[.pointer (some ⟨bw, 0, none⟩), .agg #[.int .i64 t.dims, .string t.name], .agg #[.bool ifc, .string cls, .string n, .string d]] wr fun r w' => r = .returned (.tuple #[.agg #[.int .i64 p.1, .int .i64 p.2], .int .i64 hol, .int .i64 fe]) ∧ Below wr.heap.size wr w')
    (HO0 : re = 0 → ce = 0 → fe = 0 → ∀ wr, Below w.heap.size w wr → Calls Tryz.prog 49 #[.pointer (some ⟨bw, 0, none⟩), .int .i64 dd, .agg #[.int .i64 p.1, .int .i64 p.2], .int .i64 hol] wr fun r w' => r = .returned (.tuple #[.bool op, .int .i64 0]) ∧ Below wr.heap.size wr w')
    (q1 q2 e : Int) (hq : ((q1, q2), e) = if re ≠ 0 then ((0, 0), re) else if ce ≠ 0 then ((0, 0), ce) else if fe ≠ 0 then ((0, 0), fe) else if op = true then (p, 0) else ((0, 0), 22)) :
    Calls Tryz.prog 22 #[.pointer (some ⟨bw, 0, none⟩), .int .i64 dd, .agg #[.bool ifc, .string cls, .string n, .string d]] w fun r w' => r = .returned (.tuple #[.agg #[.int .i64 q1, .int .i64 q2], .int .i64 e]) ∧ Below w.heap.size w w' := by
  have HS := Lib.hid (MetAt2.start w ifc cls n d)
  have HC := Lib.hid (HC0 _ HS.out.bel)
  have HR := Lib.hid HR0
  have HT := Lib.hid HT0
  have HF := Lib.hid HF0
  have HO := Lib.hid HO0
  have HQ := Lib.hid hq
  clear HC0 HR0 HT0 HF0 HO0 hq
  obtain ⟨dm, nm⟩ := t
  obtain ⟨p1, p2⟩ := p
  simp only at HT HF HO
  go_enter Tryz.func22, Tryz.ntmps22
  go_wp2_with fail
  refine HC.out.mono ?_
  rintro _ w1 ⟨v0, v1, ia, ma, il, ic, ml, mc, f, l, rfl, hb⟩
  obtain ⟨wx, hwx⟩ : ∃ wx, (w1.alloc (.cells #[.string v0, .string v1, .slice ia il ic, .int .i64 f, .int .i64 l, .slice ma ml mc] 62)) = wx := ⟨_, rfl⟩
  have hbx : Below w1.heap.size w1 wx := by rw [← hwx]; exact (Below.refl _ _).alloc (Nat.le_refl _) _
  have HB1 := Lib.hid ((HS.out.next hb).next hbx)
  have HRX := Lib.hid (HR.out wx HB1.out.bel)
  clear hb hbx HC HS HR
  have r0 := HB1.out.r0
  have r1 := HB1.out.r1
  have r2 := HB1.out.r2
  have r3 := HB1.out.r3
  go_wp2_with fail
  try rw [hwx]
  clear hwx
  refine HRX.out.mono ?_
  rintro _ w2 ⟨rfl, hb⟩
  have HB2 := Lib.hid (HB1.out.next hb)
  clear hb HB1 HRX r0 r1 r2 r3
  by_cases hre : re = 0
  · subst hre
    have HTX := Lib.hid (HT.out (by trivial) w2 HB2.out.bel)
    have r1 := HB2.out.r1
    clear HT
    go_wp2_with fail
    refine HTX.out.mono ?_
    rintro _ w3 ⟨rfl, hb⟩
    have HB3 := Lib.hid (HB2.out.next hb)
    clear hb HB2 HTX r1
    by_cases hce : ce = 0
    · subst hce
      obtain ⟨wx, hwx⟩ : ∃ wx, (w3.alloc (.cells #[.int .i64 dm, .string nm] 33)) = wx := ⟨_, rfl⟩
      have hbx : Below w3.heap.size w3 wx := by rw [← hwx]; exact (Below.refl _ _).alloc (Nat.le_refl _) _
      have m0 : wx.cell? ⟨w3.heap.size, 0, none⟩ = some (.int .i64 dm) := by rw [← hwx]; exact alloc_at rfl _ _ rfl
      have m1 : wx.cell? ⟨w3.heap.size, 1, none⟩ = some (.string nm) := by rw [← hwx]; exact alloc_at rfl _ _ rfl
      have HB4 := Lib.hid (HB3.out.next hbx)
      have HFX := Lib.hid (HF.out (by trivial) (by trivial) wx HB4.out.bel)
      clear hbx HB3 HF
      have r0 := HB4.out.r0
      have r1 := HB4.out.r1
      have r2 := HB4.out.r2
      have r3 := HB4.out.r3
      go_wp2_with fail
      try rw [hwx]
      clear hwx
      refine HFX.out.mono ?_
      rintro _ w4 ⟨rfl, hb⟩
      clear m0 m1 r0 r1 r2 r3
      have HB5 := Lib.hid (HB4.out.next hb)
      clear hb HB4 HFX
      by_cases hfe : fe = 0
      · subst hfe
        obtain ⟨wx, hwx⟩ : ∃ wx, (w4.alloc (.cells #[.int .i64 p1, .int .i64 p2] 24)) = wx := ⟨_, rfl⟩
        have hbx : Below w4.heap.size w4 wx := by rw [← hwx]; exact (Below.refl _ _).alloc (Nat.le_refl _) _
        have m0 : wx.cell? ⟨w4.heap.size, 0, none⟩ = some (.int .i64 p1) := by rw [← hwx]; exact alloc_at rfl _ _ rfl
        have m1 : wx.cell? ⟨w4.heap.size, 1, none⟩ = some (.int .i64 p2) := by rw [← hwx]; exact alloc_at rfl _ _ rfl
        have HB6 := Lib.hid (HB5.out.next hbx)
        have HOX := Lib.hid (HO.out (by trivial) (by trivial) (by trivial) wx HB6.out.bel)
        clear hbx HB5 HO
        go_wp2_with fail
        try rw [hwx]
        clear hwx
        refine HOX.out.mono ?_
        rintro _ w5 ⟨rfl, hb⟩
        have HB7 := Lib.hid (HB6.out.next hb)
        have k0 := below_cell' hb m0
        have k1 := below_cell' hb m1
        clear hb HB6 HOX m0 m1
        have s0 := HB7.out.s0
        have s1 := HB7.out.s1
        have z0 := HB7.out.t 0
        have z1 := HB7.out.t 1
        cases op
        · have HE : Hid ((q1 = 0 ∧ q2 = 0) ∧ e = 22) := Lib.hid (by simpa using HQ.out)
          go_wp2
          refine bodyPost_ret (results_cells_tmp rfl _ _ (w.heap.size + 1) [.int .i64 0, .int .i64 0] _ rfl (HB7.out.two _ _) Tryz.underlying24 rfl id_info2) rfl ⟨by rw [HE.out.1.1, HE.out.1.2, HE.out.2]; rfl, HB7.out.end _ _⟩
        · have HE : Hid ((q1 = p1 ∧ q2 = p2) ∧ e = 0) := Lib.hid (by simpa using HQ.out)
          go_wp2
          refine bodyPost_ret (results_cells_tmp rfl _ _ (w.heap.size + 1) [.int .i64 p1, .int .i64 p2] _ rfl (HB7.out.two _ _) Tryz.underlying24 rfl id_info2) rfl ⟨by rw [HE.out.1.1, HE.out.1.2, HE.out.2]; rfl, HB7.out.end _ _⟩
      · have HE : Hid ((q1 = 0 ∧ q2 = 0) ∧ e = fe) := Lib.hid (by simpa [hfe] using HQ.out)
        have hne : (fe != 0) = true := by simpa using hfe
        clear HO
        obtain ⟨wx, hwx⟩ : ∃ wx, (w4.alloc (.cells #[.int .i64 p1, .int .i64 p2] 24)) = wx := ⟨_, rfl⟩
        have hbx : Below w4.heap.size w4 wx := by rw [← hwx]; exact (Below.refl _ _).alloc (Nat.le_refl _) _
        have HB6 := Lib.hid (HB5.out.next hbx)
        have s0 := HB6.out.s0
        have s1 := HB6.out.s1
        have z0 := HB6.out.t 0
        have z1 := HB6.out.t 1
        clear hbx HB5
        go_wp2_with fail
        try rw [hwx]
        clear hwx
        refine bodyPost_ret (results_cells_tmp rfl _ _ (w.heap.size + 1) [.int .i64 0, .int .i64 0] _ rfl (HB6.out.two _ _) Tryz.underlying24 rfl id_info2) rfl ⟨by rw [HE.out.1.1, HE.out.1.2, HE.out.2]; rfl, HB6.out.end _ _⟩
    · have HE : Hid ((q1 = 0 ∧ q2 = 0) ∧ e = ce) := Lib.hid (by simpa [hce] using HQ.out)
      have hne : (ce != 0) = true := by simpa using hce
      clear HO HF
      obtain ⟨wx, hwx⟩ : ∃ wx, (w3.alloc (.cells #[.int .i64 dm, .string nm] 33)) = wx := ⟨_, rfl⟩
      have hbx : Below w3.heap.size w3 wx := by rw [← hwx]; exact (Below.refl _ _).alloc (Nat.le_refl _) _
      have HB4 := Lib.hid (HB3.out.next hbx)
      have s0 := HB4.out.s0
      have s1 := HB4.out.s1
      have z0 := HB4.out.t 0
      have z1 := HB4.out.t 1
      clear hbx HB3
      go_wp2_with fail
      try rw [hwx]
      clear hwx
      refine bodyPost_ret (results_cells_tmp rfl _ _ (w.heap.size + 1) [.int .i64 0, .int .i64 0] _ rfl (HB4.out.two _ _) Tryz.underlying24 rfl id_info2) rfl ⟨by rw [HE.out.1.1, HE.out.1.2, HE.out.2]; rfl, HB4.out.end _ _⟩
  · have HE : Hid ((q1 = 0 ∧ q2 = 0) ∧ e = re) := Lib.hid (by simpa [hre] using HQ.out)
    have hne : (re != 0) = true := by simpa using hre
    clear HO HF HT
    have s0 := HB2.out.s0
    have s1 := HB2.out.s1
    have z0 := HB2.out.t 0
    have z1 := HB2.out.t 1
    go_wp2
    refine bodyPost_ret (results_cells_tmp rfl _ _ (w.heap.size + 1) [.int .i64 0, .int .i64 0] _ rfl (HB2.out.two _ _) Tryz.underlying24 rfl id_info2) rfl ⟨by rw [HE.out.1.1, HE.out.1.2, HE.out.2]; rfl, HB2.out.end _ _⟩
end Go.Proofs.YtiiebakblkpkeaaGreatDoor.Hi
