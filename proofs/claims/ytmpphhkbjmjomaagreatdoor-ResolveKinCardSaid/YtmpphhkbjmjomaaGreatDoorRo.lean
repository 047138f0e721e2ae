/- LookupIface; what a class that is none answers. -/
import Derived.Test.YtmpphhkbjmjomaaGreatDoorRl
set_option maxRecDepth 100000
set_option maxHeartbeats 1000000
set_option linter.unusedVariables false
set_option linter.unusedSimpArgs false
namespace Go.Proofs.YtmpphhkbjmjomaaGreatDoor.Hi
open Go.RowKit Bs

theorem find_nat (m : List EntM) {c : Nat} (hc : c < m.length) (n d : ByteArray) : ∃ k : Nat, (findH m (c : Int) n d).1 = k := by
  rw [findH_at hc]
  rcases findE_cases m[c] n d with ⟨k, _, h⟩ | h
  · exact ⟨k, by rw [h]⟩
  · exact ⟨0, by rw [h]; rfl⟩

theorem ObjR {B bw : Nat} {w0 w : World} {m : List EntM} (h : Built B bw w0 w m) (h0 : 0 < m.length) (c : Int) (n d : ByteArray) :
    Calls Tryz.prog 62 #[.pointer (some ⟨bw, 0, none⟩), .int .i64 c, .string n, .string d] w fun r w' => ∃ p e, r = .returned (.tuple #[idV p, .int .i64 e]) ∧ Below w.heap.size w w' := by
  have HS := Lib.hid (IdAt.start w)
  have HO := Lib.hid (OwnR (h.next HS.out.bel) h0 n d)
  obtain ⟨k, hk⟩ := find_nat m h0 n d
  have HQ : Hid (ownR m 0 n d = ((((0 : Nat) : Int), (k : Int)), (findH m ((0 : Nat) : Int) n d).2)) := Lib.hid (by unfold ownR; rw [hk])
  rw [HQ.out] at HO
  have HM := Lib.hid (fun wr (hr : Below w.heap.size w wr) => Method_any (h.next hr).hw (h.next hr).live (b := k) (entAt_nat h0))
  generalize (findH m ((0 : Nat) : Int) n d).2 = er at HO
  unfold idV at *
  clear h hk HQ
  go_enter Tryz.func62, Tryz.ntmps62
  go_wp2_with fail
  refine HO.out.mono ?_
  rintro _ w1 ⟨rfl, hb⟩
  obtain ⟨wx, hwx⟩ : ∃ wx, (w1.alloc (.cells #[.int .i64 0, .int .i64 k] 29)) = wx := ⟨_, rfl⟩
  have hbx : Below w1.heap.size w1 wx := by rw [← hwx]; exact (Below.refl _ _).alloc (Nat.le_refl _) _
  have HB := Lib.hid ((HS.out.next hb).next hbx)
  have k0 : wx.cell? ⟨w1.heap.size, 0, none⟩ = some (.int .i64 0) := by rw [← hwx]; exact alloc_at rfl _ _ rfl
  have k1 : wx.cell? ⟨w1.heap.size, 1, none⟩ = some (.int .i64 k) := by rw [← hwx]; exact alloc_at rfl _ _ rfl
  have HMX := Lib.hid (HM.out wx HB.out.bel)
  clear hb hbx HS HO HM
  go_wp2_with fail
  try rw [hwx]
  clear hwx
  refine HMX.out.mono ?_
  rintro _ w2 ⟨n3, d3, f3, l3, s3, ad3, q3, c3, er3, rfl, _, hb⟩
  obtain ⟨wz, hwz⟩ : ∃ wz, (w2.alloc (.cells #[.string n3, .string d3, .int .i64 f3, .int .i64 l3, .int .i64 s3, .slice ad3 q3 c3] 40)) = wz := ⟨_, rfl⟩
  have hbz : Below w2.heap.size w2 wz := by rw [← hwz]; exact (Below.refl _ _).alloc (Nat.le_refl _) _
  have x2 : wz.cell? ⟨w2.heap.size, 2, none⟩ = some (.int .i64 f3) := by rw [← hwz]; exact alloc_at rfl _ _ rfl
  have q0 := below_cell' hbz (below_cell' hb k0)
  have q1 := below_cell' hbz (below_cell' hb k1)
  have HB2 := Lib.hid ((HB.out.next hb).next hbz)
  have s0 := HB2.out.s0
  have s1 := HB2.out.s1
  have t0 := HB2.out.t 0
  have t1 := HB2.out.t 1
  clear hb hbz k0 k1 HB HMX
  by_cases he : er = 0
  · subst he
    cases hf1 : (bits .and .i64 f3 1 == 0) <;> cases hf2 : (bits .and .i64 f3 8 != 0)
    · go_wp2_with fail
      try rw [hwz]
      clear hwz
      refine bodyPost_ret (results_cells_tmp rfl _ _ w.heap.size [.int .i64 0, .int .i64 k] _ rfl (HB2.out.two _ _) Tryz.underlying29 rfl id_info2) rfl ⟨(0, (k : Int)), 0, rfl, HB2.out.end _ _⟩
    · go_wp2_with fail
      try rw [hwz]
      clear hwz
      refine bodyPost_ret (results_cells_tmp rfl _ _ w.heap.size [.int .i64 0, .int .i64 0] _ rfl (HB2.out.two _ _) Tryz.underlying29 rfl id_info2) rfl ⟨(0, 0), 6, rfl, HB2.out.end _ _⟩
    · go_wp2_with fail
      try rw [hwz]
      clear hwz
      refine bodyPost_ret (results_cells_tmp rfl _ _ w.heap.size [.int .i64 0, .int .i64 0] _ rfl (HB2.out.two _ _) Tryz.underlying29 rfl id_info2) rfl ⟨(0, 0), 6, rfl, HB2.out.end _ _⟩
    · go_wp2_with fail
      try rw [hwz]
      clear hwz
      refine bodyPost_ret (results_cells_tmp rfl _ _ w.heap.size [.int .i64 0, .int .i64 0] _ rfl (HB2.out.two _ _) Tryz.underlying29 rfl id_info2) rfl ⟨(0, 0), 6, rfl, HB2.out.end _ _⟩
  · have he' : (er != 0) = true := by simpa using he
    have he2 : (er == 0) = false := by simpa using he
    go_wp2_with fail
    try rw [hwz]
    clear hwz
    refine bodyPost_ret (results_cells_tmp rfl _ _ w.heap.size [.int .i64 0, .int .i64 0] _ rfl (HB2.out.two _ _) Tryz.underlying29 rfl id_info2) rfl ⟨(0, 0), 6, rfl, HB2.out.end _ _⟩

theorem Look_out {bw : Nat} {w : World} {c : Int} (n d : ByteArray) (b : Bool) (v : Value)
    (HC0 : ∀ wr, Below w.heap.size w wr → Calls Tryz.prog 20 #[.pointer (some ⟨bw, 0, none⟩), .int .i64 c] wr fun r w' => r = .returned (.tuple #[.agg #[.string ⟨#[]⟩, .string ⟨#[]⟩, .slice none 0 0, .int .i64 0, .int .i64 0, .slice none 0 0], .int .i64 3]) ∧ Below wr.heap.size wr w') :
    Calls Tryz.prog 60 #[.pointer (some ⟨bw, 0, none⟩), .int .i64 c, .string n, .string d, .bool b, v] w fun r w' => r = .returned (.tuple #[.agg #[.int .i64 0, .int .i64 0], .int .i64 3]) ∧ Below w.heap.size w w' := by
  have HS := Lib.hid (IdAt.start w)
  have HC := Lib.hid (HC0 _ HS.out.bel)
  clear HC0
  go_enter Tryz.func60, Tryz.ntmps60
  go_wp2_with fail
  refine HC.out.mono ?_
  rintro _ w1 ⟨rfl, hb⟩
  have HB := Lib.hid ((HS.out.next hb).next ((Below.refl w1.heap.size w1).alloc (Nat.le_refl _) (.cells #[.string ⟨#[]⟩, .string ⟨#[]⟩, .slice none 0 0, .int .i64 0, .int .i64 0, .slice none 0 0] 54)))
  have s0 := HB.out.s0
  have s1 := HB.out.s1
  have t0 := HB.out.t 0
  have t1 := HB.out.t 1
  clear hb HS HC
  go_wp2
  refine bodyPost_ret (results_cells_tmp rfl _ _ w.heap.size [.int .i64 0, .int .i64 0] _ rfl (HB.out.two _ _) Tryz.underlying29 rfl id_info2) rfl ⟨rfl, HB.out.end _ _⟩

theorem Look_off {bw : Nat} {w : World} {c : Int} (n d : ByteArray) (b : Bool) (v : Value)
    (HC0 : ∀ wr, Below w.heap.size w wr → Calls Tryz.prog 20 #[.pointer (some ⟨bw, 0, none⟩), .int .i64 c] wr fun r w' => ∃ (v0 v1 : ByteArray) (ia ma : Option Addr) (il ic ml mc : Nat) (f l : Int), r = .returned (.tuple #[.agg #[.string v0, .string v1, .slice ia il ic, .int .i64 f, .int .i64 l, .slice ma ml mc], .int .i64 0]) ∧ Below wr.heap.size wr w')
    (HI0 : ∀ wr, Below w.heap.size w wr → Calls Tryz.prog 14 #[.pointer (some ⟨bw, 0, none⟩), .int .i64 c] wr fun r w' => r = .returned (.bool (!b)) ∧ Below wr.heap.size wr w') :
    Calls Tryz.prog 60 #[.pointer (some ⟨bw, 0, none⟩), .int .i64 c, .string n, .string d, .bool b, v] w fun r w' => r = .returned (.tuple #[.agg #[.int .i64 0, .int .i64 0], .int .i64 23]) ∧ Below w.heap.size w w' := by
  have HS := Lib.hid (IdAt.start w)
  have HC := Lib.hid (HC0 _ HS.out.bel)
  have HI := Lib.hid HI0
  clear HC0 HI0
  cases b
  all_goals
    go_enter Tryz.func60, Tryz.ntmps60
    go_wp2_with fail
    refine HC.out.mono ?_
    rintro _ w1 ⟨v0, v1, ia, ma, il, ic, ml, mc, f, l, rfl, hb⟩
    obtain ⟨wx, hwx⟩ : ∃ wx, (w1.alloc (.cells #[.string v0, .string v1, .slice ia il ic, .int .i64 f, .int .i64 l, .slice ma ml mc] 54)) = wx := ⟨_, rfl⟩
    have hbx : Below w1.heap.size w1 wx := by rw [← hwx]; exact (Below.refl _ _).alloc (Nat.le_refl _) _
    have HB := Lib.hid ((HS.out.next hb).next hbx)
    have HIX := Lib.hid (HI.out wx HB.out.bel)
    clear hb hbx HS HC HI
    go_wp2_with fail
    try rw [hwx]
    clear hwx
    refine HIX.out.mono ?_
    rintro _ w2 ⟨rfl, hb⟩
    have HB2 := Lib.hid (HB.out.next hb)
    have s0 := HB2.out.s0
    have s1 := HB2.out.s1
    have t0 := HB2.out.t 0
    have t1 := HB2.out.t 1
    clear hb HB HIX
    go_wp2
    refine bodyPost_ret (results_cells_tmp rfl _ _ w.heap.size [.int .i64 0, .int .i64 0] _ rfl (HB2.out.two _ _) Tryz.underlying29 rfl id_info2) rfl ⟨rfl, HB2.out.end _ _⟩

/-- Lookup, by what look answers. -/
theorem Lookup_by {bw : Nat} {w : World} {c : Int} (n d : ByteArray) {er : Int} (HL0 : ∀ wr v, Below w.heap.size w wr → Calls Tryz.prog 60 #[.pointer (some ⟨bw, 0, none⟩), .int .i64 c, .string n, .string d, .bool false, v] wr fun r w' => r = .returned (.tuple #[.agg #[.int .i64 0, .int .i64 0], .int .i64 er]) ∧ Below wr.heap.size wr w') :
    Calls Tryz.prog 43 #[.pointer (some ⟨bw, 0, none⟩), .int .i64 c, .string n, .string d] w fun r w' => r = .returned (.tuple #[.agg #[.int .i64 0, .int .i64 0], .int .i64 er]) ∧ Below w.heap.size w w' := by
  have HS := Lib.hid (IdAt.start w)
  obtain ⟨wa, hwa⟩ : ∃ wa, ((w.alloc (.cells #[.int .i64 0, .int .i64 0] 29)).alloc (.cells #[.func (.func 63) #[] #[]] 137)) = wa := ⟨_, rfl⟩
  have hba : Below (w.alloc (.cells #[.int .i64 0, .int .i64 0] 29)).heap.size (w.alloc (.cells #[.int .i64 0, .int .i64 0] 29)) wa := by rw [← hwa]; exact (Below.refl _ _).alloc (Nat.le_refl _) _
  have HSA := Lib.hid (HS.out.next hba)
  have HL := Lib.hid (HL0 wa (.slice (some ⟨w.heap.size + 1, 0, none⟩) 1 1) HSA.out.bel)
  clear HS hba HL0
  go_enter Tryz.func43, Tryz.ntmps43
  go_wp2_with fail
  try rw [hwa]
  clear hwa
  refine HL.out.mono ?_
  rintro _ w1 ⟨rfl, hb⟩
  have HB := Lib.hid (HSA.out.next hb)
  have s0 := HB.out.s0
  have s1 := HB.out.s1
  have t0 := HB.out.t 0
  have t1 := HB.out.t 1
  clear hb HSA HL
  go_wp2
  refine bodyPost_ret (results_cells_tmp rfl _ _ w.heap.size [.int .i64 0, .int .i64 0] _ rfl (HB.out.two _ _) Tryz.underlying29 rfl id_info2) rfl ⟨rfl, HB.out.end _ _⟩

theorem LookupI_in {B bw : Nat} {w0 w : World} {m : List EntM} (h : Built B bw w0 w m) {c : Nat} (hc : c < m.length) (hi : isIfaceM m c = true) (n d : ByteArray) :
    Calls Tryz.prog 42 #[.pointer (some ⟨bw, 0, none⟩), .int .i64 c, .string n, .string d] w fun r w' => ∃ p e, r = .returned (.tuple #[idV p, .int .i64 e]) ∧ ((findH m c n d).2 = 0 → p = (((c : Int), (findH m c n d).1)) ∧ e = 0) ∧ Below w.heap.size w w' := by
  have HS := Lib.hid (IdAt.start w)
  obtain ⟨wa, hwa⟩ : ∃ wa, ((w.alloc (.cells #[.int .i64 0, .int .i64 0] 29)).alloc (.cells #[.func (.func 61) #[] #[], .func (.func 62) #[] #[]] 137)) = wa := ⟨_, rfl⟩
  have hba : Below (w.alloc (.cells #[.int .i64 0, .int .i64 0] 29)).heap.size (w.alloc (.cells #[.int .i64 0, .int .i64 0] 29)) wa := by rw [← hwa]; exact (Below.refl _ _).alloc (Nat.le_refl _) _
  have HSA := Lib.hid (HS.out.next hba)
  have hcell : ∀ j (hj : j < [61, 62].length), wa.cell? ⟨w.heap.size + 1, j, none⟩ = some (roadV [61, 62][j]) := fun j hj => by
    rw [← hwa]
    match j, hj with
    | 0, _ => exact alloc_at (by simp) _ _ rfl
    | 1, _ => exact alloc_at (by simp) _ _ rfl
  have h' := h.next HSA.out.bel
  have h0 : 0 < m.length := by omega
  have HL := Lib.hid (Look_in (bw := bw) (w := wa) (c := c) (ifc := true) (g := w.heap.size + 1) (k := 2) n d (by omega) [61, 62] rfl hcell
      (fun wr hr => Class2 (h'.next hr) hc) (fun wr hr => by rw [← hi]; exact (h'.next hr).isIface c)
      (fun j p e => j = 0 → (p, e) = ownR m c n d)
      (fun j hj => by
        match j, hj with
        | 0, _ => exact .inr (.inl rfl)
        | 1, _ => exact .inr (.inr (.inl rfl))
        | 2, _ => exact .inr (.inr (.inr (.inl rfl)))
        | 3, _ => exact .inr (.inr (.inr (.inr rfl))))
      (fun wr hr j hj => by
        match j, hj with
        | 0, _ => exact (OwnR (h'.next hr) hc n d).mono fun r w' ⟨h1, h2⟩ => ⟨_, _, h1, fun _ => rfl, h2⟩
        | 1, _ => exact (ObjR (h'.next hr) h0 c n d).mono fun r w' ⟨p, e, h1, h2⟩ => ⟨p, e, h1, fun h => (by cases h), h2⟩
        | 2, _ => exact (One (h'.next hr) hc n d).mono fun r w' ⟨h1, h2⟩ => ⟨_, _, h1, fun h => (by cases h), h2⟩
        | 3, _ => exact (SomeR (h'.next hr) hc n d).mono fun r w' ⟨h1, h2⟩ => ⟨_, _, h1, fun h => (by cases h), h2⟩))
  have HQ : Hid (∀ p e, Along (fun j p e => j = 0 → (p, e) = ownR m c n d) (2 + 2) p e → (findH m c n d).2 = 0 → p = (((c : Int), (findH m c n d).1)) ∧ e = 0) := Lib.hid fun p e ha hf =>
    along_own (a := ownR m c n d) (by omega) (fun p e h => h rfl) hf ha
  unfold idV
  generalize findH m c n d = R at *
  clear h h' hba HS hcell
  go_enter Tryz.func42, Tryz.ntmps42
  go_wp2_with fail
  try rw [hwa]
  clear hwa
  refine HL.out.mono ?_
  rintro _ w1 ⟨p, e, rfl, ha, hb⟩
  have HR := Lib.hid (HQ.out p e ha)
  have HB := Lib.hid (HSA.out.next hb)
  have s0 := HB.out.s0
  have s1 := HB.out.s1
  have t0 := HB.out.t 0
  have t1 := HB.out.t 1
  clear ha hb HQ HL HSA
  unfold idV
  go_wp2
  refine bodyPost_ret (results_cells_tmp rfl _ _ w.heap.size [.int .i64 p.1, .int .i64 p.2] _ rfl (HB.out.two _ _) Tryz.underlying29 rfl id_info2) rfl ⟨p, e, rfl, HR.out, HB.out.end _ _⟩
end Go.Proofs.YtmpphhkbjmjomaaGreatDoor.Hi
