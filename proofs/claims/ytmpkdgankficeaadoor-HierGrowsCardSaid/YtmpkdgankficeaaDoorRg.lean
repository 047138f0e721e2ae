/- Comparisons of the statements' own, of two that are the same. -/
import Derived.Test.YtmpkdgankficeaaDoorRf
import Derived.StillTailTactics
set_option maxRecDepth 100000
set_option maxHeartbeats 1000000
set_option linter.unusedVariables false
set_option linter.unusedSimpArgs false
namespace Go.Proofs.YtmpkdgankficeaaDoor.Hi
open Go.RowKit Bs

theorem RTexts {S S' : Nat → Prop} {w : World} {a a' : Option Addr} {c c' : Nat} {xs : List ByteArray} (h : StrSl S w (.slice a xs.length c) xs) (h' : StrSl S' w (.slice a' xs.length c') xs) :
    Calls Tryd.prog 42 #[.slice a xs.length c, .slice a' xs.length c'] w fun e w' => e = .returned (.bool true) ∧ Below w.heap.size w w' := by
  have HX := Lib.hid h
  have HY := Lib.hid h'
  have hb : xs.length * 16 ≤ 140737488355328 := by obtain ⟨_, _, _, _, h, _⟩ := h; exact h
  clear h h'
  go_enter Tryd.func42, Tryd.ntmps42
  go_wp2_with fail
  go_loopg [5] xs.length (fun gk u wr => ∃ k : Nat, Hid (k + gk = xs.length) ∧ u = .int .i64 k ∧ Hid (Below w.heap.size w wr ∧ wr.heap = w.heap))
  case atStart => exact ⟨0, Lib.hid (Nat.zero_add _), rfl, Lib.hid ⟨Below.refl _ _, rfl⟩⟩
  case round =>
    obtain ⟨k, hk, rfl, hw⟩ := hrel
    have cw : ∀ p : Addr, wr.cell? p = w.cell? p := fun p => World.cell?_of_block (by rw [hw.out.2])
    by_cases hlt : k < xs.length
    · have hlt' : (k : Int) < (xs.length : Int) := by omega
      obtain ⟨_, b, o, rfl, g⟩ := HX.out.elem hlt
      obtain ⟨_, b', o', rfl, g'⟩ := HY.out.elem hlt
      have g := (cw _).trans g
      have g' := (cw _).trans g'
      have hy' : (xs[k].toList != xs[k].toList) = false := by simp
      have hy2 : (xs[k].toList == xs[k].toList) = true := by simp
      clear cw
      generalize xs[k] = x at g g' hy' hy2
      go_wp2_with fail
      go_quiet (fail)
      go_wp2
      go_roundg (xs.length - (k + 1))
      case measure => have := hk.out; omega
      case rel => exact ⟨k + 1, Lib.hid (by omega), by go_num, Lib.hid ⟨below_drewN hw.out.1 _, hw.out.2⟩⟩
    · go_wp2
      go_ret
      exact ⟨rfl, hw.out.1⟩

theorem RRef (r : RefM) (w : World) :
    Calls Tryd.prog 87 #[.agg #[.bool r.iface, .string r.cls, .string r.name, .string r.desc], .agg #[.bool r.iface, .string r.cls, .string r.name, .string r.desc]] w fun e w' => e = .returned (.bool true) ∧ Below w.heap.size w w' := by
  have hb : Below w.heap.size w ((w.alloc (.cells #[.bool r.iface, .string r.cls, .string r.name, .string r.desc] 88)).alloc (.cells #[.bool r.iface, .string r.cls, .string r.name, .string r.desc] 88)) := ((Below.refl _ _).alloc (Nat.le_refl _) _).alloc (by simp) _
  go_enter Tryd.func87, Tryd.ntmps87
  go_wp2
  go_ret
  exact ⟨rfl, hb⟩

theorem RInst (i : InstM) (w : World) :
    Calls Tryd.prog 73 #[.agg #[.int .i64 i.op, .int .i64 i.n, .string i.ty, .bool i.ref.iface, .string i.ref.cls, .string i.ref.name, .string i.ref.desc], .agg #[.int .i64 i.op, .int .i64 i.n, .string i.ty, .bool i.ref.iface, .string i.ref.cls, .string i.ref.name, .string i.ref.desc]] w fun e w' => e = .returned (.bool true) ∧ Below w.heap.size w w' := by
  have HR := Lib.hid (RRef i.ref)
  go_enter Tryd.func73, Tryd.ntmps73
  go_wp2_with fail
  refine (HR.out _).mono ?_
  rintro e w' ⟨rfl, hb⟩
  have HB : Hid (Below w.heap.size w w') := Lib.hid ((((Below.refl w.heap.size w).alloc (Nat.le_refl _) _).alloc (by simp) _).trans (hb.mono (by simp; omega)))
  clear hb
  go_wp2
  go_ret
  exact ⟨rfl, HB.out⟩

theorem InstSl.elem {S : Nat → Prop} {w : World} {a : Option Addr} {c : Nat} {xs : List InstM} (h : InstSl S w (.slice a xs.length c) xs) {k : Nat} (hk : k < xs.length) : ∃ b o, a = some ⟨b, o, none⟩ ∧ w.cell? ⟨b, o + k * 7, none⟩ = some (.int .i64 xs[k].op) ∧ w.cell? ⟨b, o + k * 7 + 1, none⟩ = some (.int .i64 xs[k].n) ∧ w.cell? ⟨b, o + k * 7 + 2, none⟩ = some (.string xs[k].ty) ∧ w.cell? ⟨b, o + k * 7 + 3, none⟩ = some (.bool xs[k].ref.iface) ∧ w.cell? ⟨b, o + k * 7 + 4, none⟩ = some (.string xs[k].ref.cls) ∧ w.cell? ⟨b, o + k * 7 + 5, none⟩ = some (.string xs[k].ref.name) ∧ w.cell? ⟨b, o + k * 7 + 6, none⟩ = some (.string xs[k].ref.desc) := by
  obtain ⟨a', c', hf, h2, h3, h4⟩ := h
  injection hf with f1 f2 f3
  subst f1; subst f3
  rcases h4 with h4 | ⟨b, o, rfl, hS, h4⟩
  · rw [h4] at hk; simp at hk
  · obtain ⟨cs, g1, g2, rfl, _⟩ := h4 k hk
    exact ⟨b, o, rfl, g2 0 (by simp), g2 1 (by simp), g2 2 (by simp), g2 3 (by simp), g2 4 (by simp), g2 5 (by simp), g2 6 (by simp)⟩

theorem RCode {S S' : Nat → Prop} {w : World} {a a' : Option Addr} {c c' : Nat} {xs : List InstM} (h : InstSl S w (.slice a xs.length c) xs) (h' : InstSl S' w (.slice a' xs.length c') xs) (hS : ∀ k, S k → k < w.heap.size) (hS' : ∀ k, S' k → k < w.heap.size) :
    Calls Tryd.prog 60 #[.slice a xs.length c, .slice a' xs.length c'] w fun e w' => e = .returned (.bool true) ∧ Below w.heap.size w w' := by
  have HX := Lib.hid h
  have HY := Lib.hid h'
  have HS := Lib.hid (And.intro hS hS')
  have hb : xs.length * 88 ≤ 140737488355328 := by obtain ⟨_, _, _, _, h, _⟩ := h; exact h
  clear h h' hS hS'
  go_enter Tryd.func60, Tryd.ntmps60
  go_wp2_with fail
  go_loopg [5] xs.length (fun gk u wr => ∃ k : Nat, Hid (k + gk = xs.length) ∧ u = .int .i64 k ∧ Hid (Below w.heap.size w wr))
  case atStart => exact ⟨0, Lib.hid (Nat.zero_add _), rfl, Lib.hid (Below.refl _ _)⟩
  case round =>
    obtain ⟨k, hk, rfl, hw⟩ := hrel
    by_cases hlt : k < xs.length
    · have hlt' : (k : Int) < (xs.length : Int) := by omega
      obtain ⟨b, o, rfl, g0, g1, g2, g3, g4, g5, g6⟩ := InstSl.elem (HX.out.alike (Alike.of_below hw.out HS.out.1)) hlt
      obtain ⟨b', o', rfl, k0, k1, k2, k3, k4, k5, k6⟩ := InstSl.elem (HY.out.alike (Alike.of_below hw.out HS.out.2)) hlt
      have HI := Lib.hid (RInst xs[k])
      generalize xs[k] = x at g0 g1 g2 g3 g4 g5 g6 k0 k1 k2 k3 k4 k5 k6 HI
      go_wp2_with fail
      go_still_tail 8, (by kernel_rfl)
      change wpList _ _ _ _ _ wr.drew
      go_wp2_with fail
      refine (HI.out _).mono ?_
      rintro e w1 ⟨rfl, hb1⟩
      have HB1 : Hid (Below w.heap.size w w1) := Lib.hid (hw.out.drew.trans (hb1.mono hw.out.size))
      clear hb1 g0 g1 g2 g3 g4 g5 g6 k0 k1 k2 k3 k4 k5 k6 HI
      go_wp2
      go_roundg (xs.length - (k + 1))
      case measure => have := hk.out; omega
      case rel => exact ⟨k + 1, Lib.hid (by omega), by go_num, HB1⟩
    · go_wp2
      go_ret
      exact ⟨rfl, hw.out⟩

theorem RMeth {S S' : Nat → Prop} {w : World} {a a' : Option Addr} {c c' : Nat} {m : MethM} (h : InstSl S w (.slice a m.code.length c) m.code) (h' : InstSl S' w (.slice a' m.code.length c') m.code) (hS : ∀ k, S k → k < w.heap.size) (hS' : ∀ k, S' k → k < w.heap.size) :
    Calls Tryd.prog 43 #[.agg #[.string m.name, .string m.desc, .int .i64 m.flags, .int .i64 m.locals, .int .i64 m.stack, .slice a m.code.length c], .agg #[.string m.name, .string m.desc, .int .i64 m.flags, .int .i64 m.locals, .int .i64 m.stack, .slice a' m.code.length c']] w fun e w' => e = .returned (.bool true) ∧ Below w.heap.size w w' := by
  have hb : Below w.heap.size w ((w.alloc (.cells #[.string m.name, .string m.desc, .int .i64 m.flags, .int .i64 m.locals, .int .i64 m.stack, .slice a m.code.length c] 57)).alloc (.cells #[.string m.name, .string m.desc, .int .i64 m.flags, .int .i64 m.locals, .int .i64 m.stack, .slice a' m.code.length c'] 57)) := ((Below.refl _ _).alloc (Nat.le_refl _) _).alloc (by simp) _
  have HC := Lib.hid (RCode (h.alike (Alike.of_below hb hS)) (h'.alike (Alike.of_below hb hS')) (fun k hk => Nat.lt_of_lt_of_le (hS k hk) hb.size) (fun k hk => Nat.lt_of_lt_of_le (hS' k hk) hb.size))
  have HB := Lib.hid hb
  clear h h' hS hS' hb
  go_enter Tryd.func43, Tryd.ntmps43
  go_wp2_with fail
  refine HC.out.mono ?_
  rintro e w1 ⟨rfl, hb1⟩
  have HB1 : Hid (Below w.heap.size w w1) := Lib.hid (HB.out.trans (hb1.mono HB.out.size))
  clear hb1
  go_wp2
  go_ret
  exact ⟨rfl, HB1.out⟩

theorem MethSl.elem {S : Nat → Prop} {w : World} {a : Option Addr} {c : Nat} {xs : List MethM} (h : MethSl S w (.slice a xs.length c) xs) {k : Nat} (hk : k < xs.length) : ∃ b o ca cc, a = some ⟨b, o, none⟩ ∧ w.cell? ⟨b, o + k * 6, none⟩ = some (.string xs[k].name) ∧ w.cell? ⟨b, o + k * 6 + 1, none⟩ = some (.string xs[k].desc) ∧ w.cell? ⟨b, o + k * 6 + 2, none⟩ = some (.int .i64 xs[k].flags) ∧ w.cell? ⟨b, o + k * 6 + 3, none⟩ = some (.int .i64 xs[k].locals) ∧ w.cell? ⟨b, o + k * 6 + 4, none⟩ = some (.int .i64 xs[k].stack) ∧ w.cell? ⟨b, o + k * 6 + 5, none⟩ = some (.slice ca xs[k].code.length cc) ∧ InstSl S w (.slice ca xs[k].code.length cc) xs[k].code := by
  obtain ⟨a', c', hf, h2, h3, h4⟩ := h
  injection hf with f1 f2 f3
  subst f1; subst f3
  rcases h4 with h4 | ⟨b, o, rfl, hS, h4⟩
  · rw [h4] at hk; simp at hk
  · obtain ⟨cs, g1, g2, cv, rfl, _, _, _, _, _, g3⟩ := h4 k hk
    have g3' := g3
    obtain ⟨ca, cc, rfl, _⟩ := g3'
    exact ⟨b, o, ca, cc, rfl, g2 0 (by simp), g2 1 (by simp), g2 2 (by simp), g2 3 (by simp), g2 4 (by simp), g2 5 (by simp), g3⟩

theorem RCls {S S' : Nat → Prop} {w : World} {c : ClsM} {cs cs' : List Value} (h : ClsIs S w cs c) (h' : ClsIs S' w cs' c) (hS : ∀ k, S k → k < w.heap.size) (hS' : ∀ k, S' k → k < w.heap.size) :
    Calls Tryd.prog 20 #[.agg cs.toArray, .agg cs'.toArray] w fun e w' => e = .returned (.bool true) ∧ Below w.heap.size w w' := by
  obtain ⟨iv, mv, rfl, _, _, hi, _, _, hm⟩ := h
  obtain ⟨iv', mv', rfl, _, _, hi', _, _, hm'⟩ := h'
  obtain ⟨ia, ic, rfl, _⟩ := id hi
  obtain ⟨ma, mc, rfl, _, hmb, _⟩ := id hm
  obtain ⟨ia', ic', rfl, _⟩ := id hi'
  obtain ⟨ma', mc', rfl, _⟩ := id hm'
  rw [show [Value.string c.name, .string c.super, .slice ia c.ifaces.length ic, .int .i64 c.flags, .int .i64 c.loader, .slice ma c.meths.length mc].toArray = #[Value.string c.name, .string c.super, .slice ia c.ifaces.length ic, .int .i64 c.flags, .int .i64 c.loader, .slice ma c.meths.length mc] from rfl]
  rw [show [Value.string c.name, .string c.super, .slice ia' c.ifaces.length ic', .int .i64 c.flags, .int .i64 c.loader, .slice ma' c.meths.length mc'].toArray = #[Value.string c.name, .string c.super, .slice ia' c.ifaces.length ic', .int .i64 c.flags, .int .i64 c.loader, .slice ma' c.meths.length mc'] from rfl]
  obtain ⟨w0, hw0⟩ : ∃ w0, w0 = (w.alloc (.cells #[.string c.name, .string c.super, .slice ia c.ifaces.length ic, .int .i64 c.flags, .int .i64 c.loader, .slice ma c.meths.length mc] 32)).alloc (.cells #[.string c.name, .string c.super, .slice ia' c.ifaces.length ic', .int .i64 c.flags, .int .i64 c.loader, .slice ma' c.meths.length mc'] 32) := ⟨_, rfl⟩
  have hb : Below w.heap.size w w0 := by rw [hw0]; exact ((Below.refl _ _).alloc (Nat.le_refl _) _).alloc (by simp) _
  have h5 : w0.cell? ⟨w.heap.size, 5, none⟩ = some (.slice ma c.meths.length mc) := by rw [hw0]; exact alloc_old (World.cell?_alloc_new ..)
  have h5' : w0.cell? ⟨w.heap.size + 1, 5, none⟩ = some (.slice ma' c.meths.length mc') := by
    rw [hw0]
    have := World.cell?_alloc_new (w.alloc (.cells #[.string c.name, .string c.super, .slice ia c.ifaces.length ic, .int .i64 c.flags, .int .i64 c.loader, .slice ma c.meths.length mc] 32)) #[.string c.name, .string c.super, .slice ia' c.ifaces.length ic', .int .i64 c.flags, .int .i64 c.loader, .slice ma' c.meths.length mc'] 32 5
    rw [World.size_alloc] at this
    exact this
  have HT := Lib.hid (RTexts (hi.alike (Alike.of_below hb hS)) (hi'.alike (Alike.of_below hb hS')))
  have HB := Lib.hid hb
  have H5 := Lib.hid (And.intro h5 h5')
  have HM := Lib.hid (And.intro hm hm')
  have HS := Lib.hid (And.intro hS hS')
  clear hi hi' hm hm' hS hS' hb h5 h5'
  go_enter Tryd.func20, Tryd.ntmps20
  go_wp2_with fail
  rw [← hw0]
  clear hw0
  refine HT.out.mono ?_
  rintro e w1 ⟨rfl, hb1⟩
  have HB1 : Hid (Below w.heap.size w w1) := Lib.hid (HB.out.trans (hb1.mono HB.out.size))
  have q1 := below_cell' hb1 H5.out.1
  have q2 := below_cell' hb1 H5.out.2
  have HQ := Lib.hid (And.intro q1 q2)
  clear hb1 HB H5 HT
  go_wp2_with fail
  clear q1 q2
  go_loopg [5] c.meths.length (fun gk u wr => ∃ k : Nat, Hid (k + gk = c.meths.length) ∧ u = .int .i64 k ∧ Hid (Below w1.heap.size w1 wr))
  case atStart => exact ⟨0, Lib.hid (Nat.zero_add _), rfl, Lib.hid (Below.refl _ _)⟩
  case round =>
    obtain ⟨k, hk, rfl, hw⟩ := hrel
    have HBW : Hid (Below w.heap.size w wr) := Lib.hid (HB1.out.trans (hw.out.mono HB1.out.size))
    have q1 := below_cell' hw.out HQ.out.1
    have q2 := below_cell' hw.out HQ.out.2
    by_cases hlt : k < c.meths.length
    · have hlt' : (k : Int) < (c.meths.length : Int) := by omega
      have hS1 := fun q hq => Nat.lt_of_lt_of_le (HS.out.1 q hq) HBW.out.size
      have hS2 := fun q hq => Nat.lt_of_lt_of_le (HS.out.2 q hq) HBW.out.size
      obtain ⟨b, o, ca, cc, rfl, g0, g1, g2, g3, g4, g5, gi⟩ := MethSl.elem (HM.out.1.alike (Alike.of_below HBW.out HS.out.1)) hlt
      obtain ⟨b', o', ca', cc', rfl, k0, k1, k2, k3, k4, k5, ki⟩ := MethSl.elem (HM.out.2.alike (Alike.of_below HBW.out HS.out.2)) hlt
      have HI := Lib.hid (RMeth (w := wr.drew) (gi.alike fun _ _ => rfl) (ki.alike fun _ _ => rfl) hS1 hS2)
      clear gi ki hS1 hS2
      generalize c.meths[k] = x at g0 g1 g2 g3 g4 g5 k0 k1 k2 k3 k4 k5 HI
      go_wp2_with fail
      go_still_tail 10, (by kernel_rfl)
      change wpList _ _ _ _ _ wr.drew
      go_wp2_with fail
      refine HI.out.mono ?_
      rintro e w2 ⟨rfl, hb2⟩
      have HB2 : Hid (Below w1.heap.size w1 w2) := Lib.hid (hw.out.drew.trans (hb2.mono hw.out.size))
      clear hb2 g0 g1 g2 g3 g4 g5 k0 k1 k2 k3 k4 k5 HI q1 q2
      go_wp2
      go_roundg (c.meths.length - (k + 1))
      case measure => have := hk.out; omega
      case rel => exact ⟨k + 1, Lib.hid (by omega), by go_num, HB2⟩
    · go_wp2
      go_ret
      exact ⟨rfl, HBW.out⟩
end Go.Proofs.YtmpkdgankficeaaDoor.Hi
