/- Resolving in general: a type's openness, its holder, the roads of an interface; what a class that is none answers. -/
import Derived.Test.YtmpphhkbjmjomaaGreatDoorUd
set_option maxRecDepth 100000
set_option maxHeartbeats 1000000
set_option linter.unusedVariables false
set_option linter.unusedSimpArgs false
namespace Go.Proofs.YtmpphhkbjmjomaaGreatDoor.Hi
open Go.RowKit Bs

theorem TypeOpen_none {B bw : Nat} {w0 w : World} {m : List EntM} (h : Built B bw w0 w m) {i : Nat} (hi : i < m.length) (t : TyM) (hs : t.name.size ≤ maxLen) (he : Lf.Env w) (hl : loadedE m t = 0) (hE : t.name.toList.isEmpty = true) :
    Calls Tryz.prog 16 #[.pointer (some ⟨bw, 0, none⟩), .int .i64 i, .agg #[.int .i64 t.dims, .string t.name]] w fun r w' => r = .returned (.tuple #[.bool true, .int .i64 0]) ∧ Below w.heap.size w w' := by
  have hb : Below w.heap.size w (w.alloc (.cells #[.int .i64 t.dims, .string t.name] 34)) := (Below.refl _ _).alloc (Nat.le_refl _) _
  have HB := Lib.hid hb
  have H1 := Lib.hid (HomeOf2 (h.next hb) hi)
  have HL := Lib.hid (fun wr (hr : Below w.heap.size w wr) => Loaded (h.next hr) t hs (he.below hr))
  rw [hl] at HL
  have hE' : (!t.name.toList.isEmpty) = false := by rw [hE]; rfl
  have q0 : (w.alloc (.cells #[.int .i64 t.dims, .string t.name] 34)).cell? ⟨w.heap.size, 0, none⟩ = some (.int .i64 t.dims) := World.cell?_alloc_new ..
  have q1 : (w.alloc (.cells #[.int .i64 t.dims, .string t.name] 34)).cell? ⟨w.heap.size, 1, none⟩ = some (.string t.name) := World.cell?_alloc_new ..
  unfold TyM.val at *
  clear h he hl hb hs
  generalize m[i].c = c at *
  generalize pkgM c.name = pc at *
  generalize t.dims = dm at *
  generalize t.name = nm at *
  go_enter Tryz.func16, Tryz.ntmps16
  go_wp2_with fail
  refine H1.out.mono ?_
  rintro _ w1 ⟨ia, ma, il, ic, ml, mc, rfl, hb⟩
  obtain ⟨wx, hwx⟩ : ∃ wx, ((w1.alloc (.cells #[.int .i64 c.loader, .string pc] 83)).alloc (.cells #[.string c.name, .string c.super, .slice ia il ic, .int .i64 c.flags, .int .i64 c.loader, .slice ma ml mc] 54)) = wx := ⟨_, rfl⟩
  have hbx : Below w1.heap.size w1 wx := by rw [← hwx]; exact ((Below.refl _ _).alloc (Nat.le_refl _) _).alloc (by simp) _
  have k0 := below_cell' hbx (below_cell' hb q0)
  have k1 := below_cell' hbx (below_cell' hb q1)
  have HBX : Hid (Below w.heap.size w wx) := Lib.hid ((HB.out.trans (hb.mono HB.out.size)).trans (hbx.mono (Nat.le_trans HB.out.size hb.size)))
  have HLX := Lib.hid (HL.out wx HBX.out)
  clear hb hbx q0 q1 HB H1 HL
  go_wp2_with fail
  try rw [hwx]
  clear hwx
  refine HLX.out.mono ?_
  rintro _ w2 ⟨rfl, hb⟩
  have q0 := below_cell' hb k0
  have q1 := below_cell' hb k1
  have HB2 := Lib.hid (HBX.out.trans (hb.mono HBX.out.size))
  clear hb k0 k1 HLX HBX
  go_wp2
  go_ret2
  exact ⟨rfl, HB2.out⟩
theorem TypeOpen_any {B bw : Nat} {w0 w : World} {m : List EntM} (h : Built B bw w0 w m) {i : Nat} (hi : i < m.length) (t : TyM) (hs : t.name.size ≤ maxLen) (he : Lf.Env w) (hl : loadedE m t = 0) :
    Calls Tryz.prog 16 #[.pointer (some ⟨bw, 0, none⟩), .int .i64 i, .agg #[.int .i64 t.dims, .string t.name]] w fun r w' => r = .returned (.tuple #[.bool (typeOpenM m i t), .int .i64 0]) ∧ Below w.heap.size w w' := by
  cases hE : t.name.toList.isEmpty
  · obtain ⟨j, hj, hn⟩ := loaded_name hl hE
    have e : typeOpenM m i t = classOpenM m i j := by unfold typeOpenM; rw [hE, hn, Bool.false_or, Int.toNat_natCast]
    rw [e]
    exact TypeOpen_class h hi hj t hs he hl hE hn
  · have e : typeOpenM m i t = true := by unfold typeOpenM; rw [hE, Bool.true_or]
    rw [e]
    exact TypeOpen_none h hi t hs he hl hE

theorem Holder_arr {B bw : Nat} {w0 w : World} {m : List EntM} (h : Built B bw w0 w m) (t : TyM) (hs : t.name.size ≤ maxLen) (he : Lf.Env w) (hl : loadedE m t = 0) (hd : 0 < t.dims) :
    Calls Tryz.prog 12 #[.pointer (some ⟨bw, 0, none⟩), t.val] w fun e w' => e = .returned (.tuple #[.int .i64 (0 : Nat), .int .i64 0]) ∧ Below w.heap.size w w' := by
  have hb : Below w.heap.size w (w.alloc (.cells #[.int .i64 t.dims, .string t.name] 34)) := (Below.refl _ _).alloc (Nat.le_refl _) _
  have HB := Lib.hid hb
  have HT := Lib.hid (Loaded (h.next hb) t hs (he.below hb))
  rw [hl] at HT
  have HI := Lib.hid (fun wr => IsInt t wr)
  have hi : isIntM t = false := by
    unfold isIntM
    have : (t.dims == 0) = false := by simp; omega
    rw [this, Bool.false_and]
  rw [hi] at HI
  have hd' : decide (0 < t.dims) = true := decide_eq_true hd
  have q0 : (w.alloc (.cells #[.int .i64 t.dims, .string t.name] 34)).cell? ⟨w.heap.size, 0, none⟩ = some (.int .i64 t.dims) := World.cell?_alloc_new ..
  have q1 : (w.alloc (.cells #[.int .i64 t.dims, .string t.name] 34)).cell? ⟨w.heap.size, 1, none⟩ = some (.string t.name) := World.cell?_alloc_new ..
  unfold TyM.val at *
  clear hb he h hl hi
  generalize t.name = nm at *
  generalize t.dims = dm at *
  go_enter Tryz.func12, Tryz.ntmps12
  go_wp2_with fail
  refine HT.out.mono ?_
  rintro e w1 ⟨rfl, hb1⟩
  have p0 := below_cell' hb1 q0
  have p1 := below_cell' hb1 q1
  have HB1 : Hid (Below w.heap.size w w1) := Lib.hid (HB.out.trans (hb1.mono (by simp)))
  clear hb1 HT q0 q1
  go_wp2_with fail
  refine (HI.out _).mono ?_
  rintro e w2 ⟨rfl, hb2⟩
  have q0 := below_cell' hb2 p0
  have q1 := below_cell' hb2 p1
  have HB2 : Hid (Below w.heap.size w w2) := Lib.hid (HB1.out.trans (hb2.mono HB1.out.size))
  clear hb2 HI p0 p1
  go_wp2
  go_ret2
  exact ⟨rfl, HB2.out⟩
theorem Holder_any {B bw : Nat} {w0 w : World} {m : List EntM} (h : Built B bw w0 w m) (t : TyM) (hs : t.name.size ≤ maxLen) (he : Lf.Env w) (hl : loadedE m t = 0) (h0 : 0 ≤ t.dims) (hn : t.dims = 0 → t.name.toList.isEmpty = false) :
    Calls Tryz.prog 12 #[.pointer (some ⟨bw, 0, none⟩), .agg #[.int .i64 t.dims, .string t.name]] w fun e w' => e = .returned (.tuple #[.int .i64 (holN m t), .int .i64 0]) ∧ Below w.heap.size w w' := by
  by_cases hd : 0 < t.dims
  · have e : holN m t = 0 := if_pos hd
    rw [e]
    exact Holder_arr h t hs he hl hd
  · have hE := hn (by omega)
    obtain ⟨j, hj, hb⟩ := loaded_name hl hE
    have e : holN m t = j := by unfold holN; rw [if_neg hd, hb, Int.toNat_natCast]
    rw [e]
    refine (Holder_class h t hs he hl (by omega) hE).mono fun r w' ⟨h1, h2⟩ => ⟨?_, h2⟩
    rw [h1, hb]

theorem MethodF {B bw : Nat} {w0 w : World} {m : List EntM} (h : Built B bw w0 w m) (h0 : 0 < m.length) (n d : ByteArray) {k : Nat} (hk : (findH m ((0 : Nat) : Int) n d).1 = (k : Int)) :
    Calls Tryz.prog 11 #[.pointer (some ⟨bw, 0, none⟩), .agg #[.int .i64 (0 : Nat), .int .i64 k]] w fun r w' => ∃ (n3 d3 : ByteArray) (f3 l3 s3 : Int) (ad3 : Option Addr) (q3 c3 : Nat) (er3 : Int), r = .returned (.tuple #[.agg #[.string n3, .string d3, .int .i64 f3, .int .i64 l3, .int .i64 s3, .slice ad3 q3 c3], .int .i64 er3]) ∧ ((findH m ((0 : Nat) : Int) n d).2 = 0 → f3 = flagsAt m (((0 : Nat) : Int), (findH m ((0 : Nat) : Int) n d).1)) ∧ Below w.heap.size w w' := by
  by_cases he : (findH m ((0 : Nat) : Int) n d).2 = 0
  · obtain ⟨b, hb, e, _⟩ := findH_ok h0 he
    obtain rfl : k = b := by omega
    refine (Method2 h h0 hb).mono ?_
    rintro r w' ⟨ad, q, c, rfl, hbl⟩
    exact ⟨_, _, _, _, _, _, _, _, _, rfl, fun _ => by rw [hk, flagsAt_at h0 hb], hbl⟩
  · refine (Method_any h.hw h.live (b := k) (entAt_nat h0)).mono ?_
    rintro r w' ⟨n3, d3, f3, l3, s3, ad3, q3, c3, er3, rfl, _, hb⟩
    exact ⟨_, _, _, _, _, _, _, _, _, rfl, fun h => absurd h he, hb⟩

theorem ObjR2 {B bw : Nat} {w0 w : World} {m : List EntM} (h : Built B bw w0 w m) (h0 : 0 < m.length) (c : Int) (n d : ByteArray) :
    Calls Tryz.prog 62 #[.pointer (some ⟨bw, 0, none⟩), .int .i64 c, .string n, .string d] w fun r w' => r = .returned (.tuple #[idV (objR m n d).1, .int .i64 (objR m n d).2]) ∧ Below w.heap.size w w' := by
  have HS := Lib.hid (IdAt.start w)
  have HO := Lib.hid (OwnR (h.next HS.out.bel) h0 n d)
  obtain ⟨k, hk⟩ := find_nat m h0 n d
  have HQ : Hid (ownR m 0 n d = ((((0 : Nat) : Int), (k : Int)), (findH m ((0 : Nat) : Int) n d).2)) := Lib.hid (by unfold ownR; rw [hk])
  rw [HQ.out] at HO
  have HM := Lib.hid (fun wr (hr : Below w.heap.size w wr) => MethodF (h.next hr) h0 n d hk)
  have HR : Hid (objR m n d = if (findH m ((0 : Nat) : Int) n d).2 = 0 then (if (bits .and .i64 (flagsAt m (((0 : Nat) : Int), (findH m ((0 : Nat) : Int) n d).1)) 1 == 0) = true then noneR else if (bits .and .i64 (flagsAt m (((0 : Nat) : Int), (findH m ((0 : Nat) : Int) n d).1)) 8 != 0) = true then noneR else ((((0 : Nat) : Int), (k : Int)), 0)) else noneR) := Lib.hid (by unfold objR; rw [hk])
  generalize objR m n d = R at *
  generalize flagsAt m (((0 : Nat) : Int), (findH m ((0 : Nat) : Int) n d).1) = F at *
  generalize (findH m ((0 : Nat) : Int) n d).2 = er at *
  unfold idV noneR at *
  clear h hk HQ
  go_enter Tryz.func62, Tryz.ntmps62
  go_wp2_with fail
  refine HO.out.mono ?_
  rintro _ w1 ⟨rfl, hb⟩
  obtain ⟨wx, hwx⟩ : ∃ wx, (w1.alloc (.cells #[.int .i64 0, .int .i64 k] 29)) = wx := ⟨_, rfl⟩
  have hbx : Below w1.heap.size w1 wx := by rw [← hwx]; exact (Below.refl _ _).alloc (Nat.le_refl _) _
  have HB := Lib.hid ((HS.out.next hb).next hbx)
  have k0 : wx.cell? ⟨w1.heap.size, 0, none⟩ = some (.int .i64 0) := by rw [← hwx]; exact alloc_at rfl _ _ rfl
  have k1 : wx.cell? ⟨w1.heap.size, 1, none⟩ = some (.int .i64 k) := by rw [← hwx]; exact alloc_at rfl _ _ rfl
  have HMX := Lib.hid (HM.out wx HB.out.bel)
  clear hb hbx HS HO HM
  go_wp2_with fail
  try rw [hwx]
  clear hwx
  refine HMX.out.mono ?_
  rintro _ w2 ⟨n3, d3, f3, l3, s3, ad3, q3, c3, er3, rfl, hf3, hb⟩
  have HF3 := Lib.hid hf3
  clear hf3
  obtain ⟨wz, hwz⟩ : ∃ wz, (w2.alloc (.cells #[.string n3, .string d3, .int .i64 f3, .int .i64 l3, .int .i64 s3, .slice ad3 q3 c3] 40)) = wz := ⟨_, rfl⟩
  have hbz : Below w2.heap.size w2 wz := by rw [← hwz]; exact (Below.refl _ _).alloc (Nat.le_refl _) _
  have x2 : wz.cell? ⟨w2.heap.size, 2, none⟩ = some (.int .i64 f3) := by rw [← hwz]; exact alloc_at rfl _ _ rfl
  have q0 := below_cell' hbz (below_cell' hb k0)
  have q1 := below_cell' hbz (below_cell' hb k1)
  have HB2 := Lib.hid ((HB.out.next hb).next hbz)
  have s0 := HB2.out.s0
  have s1 := HB2.out.s1
  have t0 := HB2.out.t 0
  have t1 := HB2.out.t 1
  clear hb hbz k0 k1 HB HMX
  by_cases he : er = 0
  · have hf := HF3.out he
    subst hf
    subst he
    cases hf1 : (bits .and .i64 f3 1 == 0) <;> cases hf2 : (bits .and .i64 f3 8 != 0)
    · have HE : Hid (R = ((0, (k : Int)), 0)) := Lib.hid (by rw [HR.out, hf1, hf2]; rfl)
      clear HR HF3
      go_wp2_with fail
      try rw [hwz]
      clear hwz
      refine bodyPost_ret (results_cells_tmp rfl _ _ w.heap.size [.int .i64 0, .int .i64 k] _ rfl (HB2.out.two _ _) Tryz.underlying29 rfl id_info2) rfl ⟨by rw [HE.out]; rfl, HB2.out.end _ _⟩
    · have HE : Hid (R = ((0, 0), 6)) := Lib.hid (by rw [HR.out, hf1, hf2]; rfl)
      clear HR HF3
      go_wp2_with fail
      try rw [hwz]
      clear hwz
      refine bodyPost_ret (results_cells_tmp rfl _ _ w.heap.size [.int .i64 0, .int .i64 0] _ rfl (HB2.out.two _ _) Tryz.underlying29 rfl id_info2) rfl ⟨by rw [HE.out]; rfl, HB2.out.end _ _⟩
    · have HE : Hid (R = ((0, 0), 6)) := Lib.hid (by rw [HR.out, hf1]; rfl)
      clear HR HF3
      go_wp2_with fail
      try rw [hwz]
      clear hwz
      refine bodyPost_ret (results_cells_tmp rfl _ _ w.heap.size [.int .i64 0, .int .i64 0] _ rfl (HB2.out.two _ _) Tryz.underlying29 rfl id_info2) rfl ⟨by rw [HE.out]; rfl, HB2.out.end _ _⟩
    · have HE : Hid (R = ((0, 0), 6)) := Lib.hid (by rw [HR.out, hf1]; rfl)
      clear HR HF3
      go_wp2_with fail
      try rw [hwz]
      clear hwz
      refine bodyPost_ret (results_cells_tmp rfl _ _ w.heap.size [.int .i64 0, .int .i64 0] _ rfl (HB2.out.two _ _) Tryz.underlying29 rfl id_info2) rfl ⟨by rw [HE.out]; rfl, HB2.out.end _ _⟩
  · have HE : Hid (R = ((0, 0), 6)) := Lib.hid (by rw [HR.out, if_neg he])
    have he' : (er != 0) = true := by simpa using he
    have he2 : (er == 0) = false := by simpa using he
    clear HR HF3 he
    go_wp2_with fail
    try rw [hwz]
    clear hwz
    refine bodyPost_ret (results_cells_tmp rfl _ _ w.heap.size [.int .i64 0, .int .i64 0] _ rfl (HB2.out.two _ _) Tryz.underlying29 rfl id_info2) rfl ⟨by rw [HE.out]; rfl, HB2.out.end _ _⟩

theorem alongR {l : List ((Int × Int) × Int)} {n : Nat} (hn : l.length = n) {p : Int × Int} {e : Int} (h : Along (fun j p e => l[j]? = some (p, e)) n p e) : firstR l = (p, e) := by
  have key : ∀ k, (∀ j, j < k → ∃ p' e', l[j]? = some (p', e') ∧ e' ≠ 0) → ∀ (j : Nat) (y : (Int × Int) × Int), j < k → l[j]? = some y → y.2 ≠ 0 := fun k h j y hj hy => by
    obtain ⟨p', e', h1, h2⟩ := h j hj
    rw [h1] at hy
    injection hy with hy
    rw [← hy]
    exact h2
  rcases h with ⟨rfl, k, hk, hq, hp⟩ | ⟨rfl, rfl, hp⟩
  · rw [firstR_at hq (key k hp) rfl]
  · refine firstR_none fun x hx => ?_
    obtain ⟨j, hj, rfl⟩ := List.getElem_of_mem hx
    exact key n hp j _ (by omega) (List.getElem?_eq_getElem hj)

theorem LookI_ifc {B bw : Nat} {w0 w : World} {m : List EntM} (h : Built B bw w0 w m) {c : Nat} (hc : c < m.length) (hi : isIfaceM m c = true) (n d : ByteArray) :
    Calls Tryz.prog 42 #[.pointer (some ⟨bw, 0, none⟩), .int .i64 c, .string n, .string d] w fun r w' => r = .returned (.tuple #[idV (lookIM m c n d).1, .int .i64 (lookIM m c n d).2]) ∧ Below w.heap.size w w' := by
  have HS := Lib.hid (IdAt.start w)
  obtain ⟨wa, hwa⟩ : ∃ wa, ((w.alloc (.cells #[.int .i64 0, .int .i64 0] 29)).alloc (.cells #[.func (.func 61) #[] #[], .func (.func 62) #[] #[]] 137)) = wa := ⟨_, rfl⟩
  have hba : Below (w.alloc (.cells #[.int .i64 0, .int .i64 0] 29)).heap.size (w.alloc (.cells #[.int .i64 0, .int .i64 0] 29)) wa := by rw [← hwa]; exact (Below.refl _ _).alloc (Nat.le_refl _) _
  have HSA := Lib.hid (HS.out.next hba)
  have hcell : ∀ j (hj : j < [61, 62].length), wa.cell? ⟨w.heap.size + 1, j, none⟩ = some (roadV [61, 62][j]) := fun j hj => by
    rw [← hwa]
    match j, hj with
    | 0, _ => exact alloc_at (by simp) _ _ rfl
    | 1, _ => exact alloc_at (by simp) _ _ rfl
  have h' := h.next HSA.out.bel
  have h0 : 0 < m.length := by omega
  have HL := Lib.hid (Look_in (bw := bw) (w := wa) (c := c) (ifc := true) (g := w.heap.size + 1) (k := 2) n d (by omega) [61, 62] rfl hcell
      (fun wr hr => Class2 (h'.next hr) hc) (fun wr hr => by rw [← hi]; exact (h'.next hr).isIface c)
      (fun j p e => [ownR m c n d, objR m n d, oneM m c n d, someM m c n d][j]? = some (p, e))
      (fun j hj => by
        match j, hj with
        | 0, _ => exact .inr (.inl rfl)
        | 1, _ => exact .inr (.inr (.inl rfl))
        | 2, _ => exact .inr (.inr (.inr (.inl rfl)))
        | 3, _ => exact .inr (.inr (.inr (.inr rfl))))
      (fun wr hr j hj => by
        match j, hj with
        | 0, _ => exact (OwnR (h'.next hr) hc n d).mono fun r w' ⟨h1, h2⟩ => ⟨_, _, h1, rfl, h2⟩
        | 1, _ => exact (ObjR2 (h'.next hr) h0 c n d).mono fun r w' ⟨h1, h2⟩ => ⟨_, _, h1, rfl, h2⟩
        | 2, _ => exact (One (h'.next hr) hc n d).mono fun r w' ⟨h1, h2⟩ => ⟨_, _, h1, rfl, h2⟩
        | 3, _ => exact (SomeR (h'.next hr) hc n d).mono fun r w' ⟨h1, h2⟩ => ⟨_, _, h1, rfl, h2⟩))
  have HQ : Hid (∀ p e, Along (fun j p e => [ownR m c n d, objR m n d, oneM m c n d, someM m c n d][j]? = some (p, e)) (2 + 2) p e → lookIM m c n d = (p, e)) := Lib.hid fun p e ha => by
    unfold lookIM
    rw [if_pos hi]
    exact alongR rfl ha
  unfold idV
  generalize lookIM m c n d = R at *
  clear h h' hba HS hcell
  go_enter Tryz.func42, Tryz.ntmps42
  go_wp2_with fail
  try rw [hwa]
  clear hwa
  refine HL.out.mono ?_
  rintro _ w1 ⟨p, e, rfl, ha, hb⟩
  have HR := Lib.hid (HQ.out p e ha)
  have HB := Lib.hid (HSA.out.next hb)
  have s0 := HB.out.s0
  have s1 := HB.out.s1
  have t0 := HB.out.t 0
  have t1 := HB.out.t 1
  clear ha hb HQ HL HSA
  unfold idV
  go_wp2
  refine bodyPost_ret (results_cells_tmp rfl _ _ w.heap.size [.int .i64 p.1, .int .i64 p.2] _ rfl (HB.out.two _ _) Tryz.underlying29 rfl id_info2) rfl ⟨by rw [HR.out]; rfl, HB.out.end _ _⟩

/-- LookupIface, by what look answers. -/
theorem LookI_by {bw : Nat} {w : World} {c : Int} (n d : ByteArray) {er : Int} (HL0 : ∀ wr v, Below w.heap.size w wr → Calls Tryz.prog 60 #[.pointer (some ⟨bw, 0, none⟩), .int .i64 c, .string n, .string d, .bool true, v] wr fun r w' => r = .returned (.tuple #[.agg #[.int .i64 0, .int .i64 0], .int .i64 er]) ∧ Below wr.heap.size wr w') :
    Calls Tryz.prog 42 #[.pointer (some ⟨bw, 0, none⟩), .int .i64 c, .string n, .string d] w fun r w' => r = .returned (.tuple #[.agg #[.int .i64 0, .int .i64 0], .int .i64 er]) ∧ Below w.heap.size w w' := by
  have HS := Lib.hid (IdAt.start w)
  obtain ⟨wa, hwa⟩ : ∃ wa, ((w.alloc (.cells #[.int .i64 0, .int .i64 0] 29)).alloc (.cells #[.func (.func 61) #[] #[], .func (.func 62) #[] #[]] 137)) = wa := ⟨_, rfl⟩
  have hba : Below (w.alloc (.cells #[.int .i64 0, .int .i64 0] 29)).heap.size (w.alloc (.cells #[.int .i64 0, .int .i64 0] 29)) wa := by rw [← hwa]; exact (Below.refl _ _).alloc (Nat.le_refl _) _
  have HSA := Lib.hid (HS.out.next hba)
  have HL := Lib.hid (HL0 wa (.slice (some ⟨w.heap.size + 1, 0, none⟩) 2 2) HSA.out.bel)
  clear HS hba HL0
  go_enter Tryz.func42, Tryz.ntmps42
  go_wp2_with fail
  try rw [hwa]
  clear hwa
  refine HL.out.mono ?_
  rintro _ w1 ⟨rfl, hb⟩
  have HB := Lib.hid (HSA.out.next hb)
  have s0 := HB.out.s0
  have s1 := HB.out.s1
  have t0 := HB.out.t 0
  have t1 := HB.out.t 1
  clear hb HSA HL
  go_wp2
  refine bodyPost_ret (results_cells_tmp rfl _ _ w.heap.size [.int .i64 0, .int .i64 0] _ rfl (HB.out.two _ _) Tryz.underlying29 rfl id_info2) rfl ⟨rfl, HB.out.end _ _⟩
theorem LookI_any {B bw : Nat} {w0 w : World} {m : List EntM} (h : Built B bw w0 w m) {c : Nat} (hc : c < m.length) (n d : ByteArray) :
    Calls Tryz.prog 42 #[.pointer (some ⟨bw, 0, none⟩), .int .i64 c, .string n, .string d] w fun r w' => r = .returned (.tuple #[.agg #[.int .i64 (lookIM m c n d).1.1, .int .i64 (lookIM m c n d).1.2], .int .i64 (lookIM m c n d).2]) ∧ Below w.heap.size w w' := by
  cases hi : isIfaceM m c
  · have e : lookIM m c n d = ((0, 0), 23) := by unfold lookIM; rw [hi]; rfl
    rw [e]
    exact LookI_by n d fun wr v hr => Look_off n d true v (fun wz hz => Class2 ((h.next hr).next hz) hc) (fun wz hz => by rw [show (!true) = isIfaceM m c by rw [hi]; rfl]; exact ((h.next hr).next hz).isIface c)
  · exact LookI_ifc h hc hi n d
theorem Look_any {B bw : Nat} {w0 w : World} {m : List EntM} (h : Built B bw w0 w m) {c : Nat} (hc : c < m.length) (n d : ByteArray) :
    Calls Tryz.prog 43 #[.pointer (some ⟨bw, 0, none⟩), .int .i64 c, .string n, .string d] w fun r w' => r = .returned (.tuple #[.agg #[.int .i64 (lookM m c n d).1.1, .int .i64 (lookM m c n d).1.2], .int .i64 (lookM m c n d).2]) ∧ Below w.heap.size w w' := by
  cases hi : isIfaceM m c
  · have e : lookM m c n d = lookupM m c n d := by unfold lookM; rw [hi]; rfl
    rw [e]
    exact Lookup_in h hc hi n d
  · have e : lookM m c n d = ((0, 0), 23) := by unfold lookM; rw [hi]; rfl
    rw [e]
    exact Lookup_by n d fun wr v hr => Look_off n d false v (fun wz hz => Class2 ((h.next hr).next hz) hc) (fun wz hz => by rw [show (!false) = isIfaceM m c by rw [hi]; rfl]; exact ((h.next hr).next hz).isIface c)

theorem RClass_out {bw : Nat} {w : World} {dd : Int} {s : ByteArray}
    (HC0 : ∀ wr, Below w.heap.size w wr → Calls Tryz.prog 20 #[.pointer (some ⟨bw, 0, none⟩), .int .i64 dd] wr fun r w' => r = .returned (.tuple #[.agg #[.string ⟨#[]⟩, .string ⟨#[]⟩, .slice none 0 0, .int .i64 0, .int .i64 0, .slice none 0 0], .int .i64 3]) ∧ Below wr.heap.size wr w') :
    Calls Tryz.prog 9 #[.pointer (some ⟨bw, 0, none⟩), .int .i64 dd, .string s] w fun r w' => r = .returned (.tuple #[.agg #[.int .i64 0, .string ⟨#[]⟩], .int .i64 3]) ∧ Below w.heap.size w w' := by
  have HS := Lib.hid (TyAt.start w)
  have HC := Lib.hid (HC0 _ HS.out.bel)
  clear HC0
  go_enter Tryz.func9, Tryz.ntmps9
  go_wp2_with fail
  refine HC.out.mono ?_
  rintro _ w1 ⟨rfl, hb⟩
  have HB := Lib.hid ((HS.out.next hb).next ((Below.refl w1.heap.size w1).alloc (Nat.le_refl _) (.cells #[.string ⟨#[]⟩, .string ⟨#[]⟩, .slice none 0 0, .int .i64 0, .int .i64 0, .slice none 0 0] 54)))
  have s0 := HB.out.s0
  have s1 := HB.out.s1
  have t0 := HB.out.t 0
  have t1 := HB.out.t 1
  clear hb HS HC
  go_wp2
  refine bodyPost_ret (results_cells_tmp rfl _ _ w.heap.size [.int .i64 0, .string ⟨#[]⟩] _ rfl (HB.out.two _ _) Tryz.underlying34 rfl type_info2) rfl ⟨rfl, HB.out.end _ _⟩
theorem RMethod_out {bw : Nat} {w : World} {dd : Int} {ifc : Bool} {cls n d : ByteArray}
    (HC0 : ∀ wr, Below w.heap.size w wr → Calls Tryz.prog 20 #[.pointer (some ⟨bw, 0, none⟩), .int .i64 dd] wr fun r w' => r = .returned (.tuple #[.agg #[.string ⟨#[]⟩, .string ⟨#[]⟩, .slice none 0 0, .int .i64 0, .int .i64 0, .slice none 0 0], .int .i64 3]) ∧ Below wr.heap.size wr w') :
    Calls Tryz.prog 8 #[.pointer (some ⟨bw, 0, none⟩), .int .i64 dd, .agg #[.bool ifc, .string cls, .string n, .string d]] w fun r w' => r = .returned (.tuple #[.agg #[.int .i64 0, .int .i64 0], .int .i64 3]) ∧ Below w.heap.size w w' := by
  have HS := Lib.hid (MetAt2.start w ifc cls n d)
  have HC := Lib.hid (HC0 _ HS.out.bel)
  clear HC0
  go_enter Tryz.func8, Tryz.ntmps8
  go_wp2_with fail
  refine HC.out.mono ?_
  rintro _ w1 ⟨rfl, hb⟩
  have HB := Lib.hid ((HS.out.next hb).next ((Below.refl w1.heap.size w1).alloc (Nat.le_refl _) (.cells #[.string ⟨#[]⟩, .string ⟨#[]⟩, .slice none 0 0, .int .i64 0, .int .i64 0, .slice none 0 0] 54)))
  have s0 := HB.out.s0
  have s1 := HB.out.s1
  have t0 := HB.out.t 0
  have t1 := HB.out.t 1
  clear hb HS HC
  go_wp2
  refine bodyPost_ret (results_cells_tmp rfl _ _ (w.heap.size + 1) [.int .i64 0, .int .i64 0] _ rfl (HB.out.two _ _) Tryz.underlying29 rfl id_info2) rfl ⟨rfl, HB.out.end _ _⟩
end Go.Proofs.YtmpphhkbjmjomaaGreatDoor.Hi
