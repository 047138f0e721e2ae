/- resolve.Class, found, Method: what they answer, in general. -/
import Derived.Test.YtmpphhkbjmjomaaGreatDoorUe
import Derived.Test.YtmpphhkbjmjomaaGreatDoorRq
set_option maxRecDepth 100000
set_option maxHeartbeats 1000000
set_option linter.unusedVariables false
set_option linter.unusedSimpArgs false
namespace Go.Proofs.YtmpphhkbjmjomaaGreatDoor.Hi
open Go.RowKit Bs

theorem fits_2000 : 2000 ≤ maxLen := by decide
theorem name_fits {s : ByteArray} (h : refE s = 0) : (refT s).name.size ≤ maxLen := Nat.le_trans (refT_ok s h).1 fits_2000

theorem RClass {B bw : Nat} {w0 w : World} {m : List EntM} (h : Built B bw w0 w m) {i : Nat} (hi : i < m.length) (s : ByteArray) (hs : s.size ≤ maxLen) (he : Lf.Env w) :
    Calls Tryz.prog 9 #[.pointer (some ⟨bw, 0, none⟩), .int .i64 i, .string s] w fun r w' => r = .returned (.tuple #[.agg #[.int .i64 (classR m i s).1.dims, .string (classR m i s).1.name], .int .i64 (classR m i s).2]) ∧ Below w.heap.size w w' :=
  RClass_any (refT s) (refE s) (loadedE m (refT s)) (typeOpenM m i (refT s))
    (fun wr hr => Class2 (h.next hr) hi)
    (fun wr hr => by
      have := Pr.ParseRef s.data.toList wr (by rw [← Pr.ba_size, Pr.ba_of]; exact hs) (he.below hr)
      rw [Pr.ba_of] at this
      exact this)
    (fun hp wr hr => Loaded (h.next hr) (refT s) (name_fits hp) (he.below hr))
    (fun hp hl wr hr => TypeOpen_any (h.next hr) hi (refT s) (name_fits hp) (he.below hr) hl)
    _ _ rfl

theorem RFound {B bw : Nat} {w0 w : World} {m : List EntM} (h : Built B bw w0 w m) (r : RefM) (t : TyM) (hs : t.name.size ≤ maxLen) (he : Lf.Env w) (hl : loadedE m t = 0) (h0 : 0 ≤ t.dims) (hn : t.dims = 0 → t.name.toList.isEmpty = false) (hc : holN m t < m.length) :
    Calls Tryz.prog 22 #[.pointer (some ⟨bw, 0, none⟩), .agg #[.int .i64 t.dims, .string t.name], .agg #[.bool r.iface, .string r.cls, .string r.name, .string r.desc]] w fun x w' => x = .returned (.tuple #[.agg #[.int .i64 (foundM m t r).1.1, .int .i64 (foundM m t r).1.2], .int .i64 (holN m t), .int .i64 (foundM m t r).2]) ∧ Below w.heap.size w w' :=
  RFound_any (foundM m t r) t (fun wr hr => Holder_any (h.next hr) t hs (he.below hr) hl h0 hn)
    (fun hi hd wr hr => by
      have e : foundM m t r = lookIM m (holN m t) r.name r.desc := by unfold foundM; rw [if_pos hi, if_neg hd]
      rw [e]
      exact LookI_any (h.next hr) hc r.name r.desc)
    (fun hi wr hr => by
      have e : foundM m t r = lookM m (holN m t) r.name r.desc := by unfold foundM; rw [if_neg (by rw [hi]; decide)]
      rw [e]
      exact Look_any (h.next hr) hc r.name r.desc)
    (fun hi hd => by unfold foundM; rw [if_pos hi, if_pos hd])

theorem RMethod {B bw : Nat} {w0 w : World} {m : List EntM} (h : Built B bw w0 w m) {i : Nat} (hi : i < m.length) (r : RefM) (h1 : r.cls.size ≤ maxLen) (h2 : r.name.size ≤ maxLen) (h3 : r.desc.size ≤ maxLen) (he : Lf.Env w) :
    Calls Tryz.prog 8 #[.pointer (some ⟨bw, 0, none⟩), .int .i64 i, .agg #[.bool r.iface, .string r.cls, .string r.name, .string r.desc]] w fun x w' => x = .returned (.tuple #[.agg #[.int .i64 (methodR m i r).1.1, .int .i64 (methodR m i r).1.2], .int .i64 (methodR m i r).2]) ∧ Below w.heap.size w w' :=
  RMethod_any (classR m i r.cls).1 (Pr.formE (refOk r)) (classR m i r.cls).2 (foundM m (refT r.cls) r).2 (holN m (refT r.cls)) (foundM m (refT r.cls) r).1 (openR m i r)
    (fun wr hr => Class2 (h.next hr) hi)
    (fun wr hr => by
      have := Pr.RefCheck r.iface r.cls.data.toList r.name.data.toList r.desc.data.toList wr (by rw [← Pr.ba_size, Pr.ba_of]; exact h1) (by rw [← Pr.ba_size, Pr.ba_of]; exact h2) (by rw [← Pr.ba_size, Pr.ba_of]; exact h3) (he.below hr)
      rw [Pr.ba_of, Pr.ba_of, Pr.ba_of] at this
      exact this)
    (fun _ wr hr => RClass (h.next hr) hi r.cls h1 (he.below hr))
    (fun _ hc wr hr => by
      obtain ⟨e1, e2, e3, e4⟩ := class_ok hc
      obtain ⟨_, t1, t2⟩ := refT_ok r.cls e1
      rw [e4]
      exact RFound (h.next hr) r (refT r.cls) (name_fits e1) (he.below hr) e2 t1 t2 (holN_lt (by omega) e1 e2))
    (fun _ hc hf wr hr => by
      obtain ⟨e1, e2, e3, e4⟩ := class_ok hc
      have hl := holN_lt (by omega) e1 e2
      obtain ⟨⟨a, b, ha, hb, e, _, _⟩, _⟩ := has_found h.wf h.ord hl hf
      have eo : openR m i r = moM m i a m[a].c.meths[b].flags (holN m (refT r.cls)) := by
        unfold openR
        rw [e, flagsAt_at ha hb, Int.toNat_natCast]
      rw [eo, e]
      exact MethodOpen_any (h.next hr) hi hl ha hb)
    _ _ _ rfl

theorem RClass_far {B bw : Nat} {w0 w : World} {m : List EntM} (h : Built B bw w0 w m) {d : Int} (hd : entAt m d = none) (s : ByteArray) :
    Calls Tryz.prog 9 #[.pointer (some ⟨bw, 0, none⟩), .int .i64 d, .string s] w fun r w' => r = .returned (.tuple #[.agg #[.int .i64 0, .string ⟨#[]⟩], .int .i64 3]) ∧ Below w.heap.size w w' :=
  RClass_out fun wr hr => Class_none (h.next hr).hw (h.next hr).live hd
theorem RMethod_far {B bw : Nat} {w0 w : World} {m : List EntM} (h : Built B bw w0 w m) {d : Int} (hd : entAt m d = none) (r : RefM) :
    Calls Tryz.prog 8 #[.pointer (some ⟨bw, 0, none⟩), .int .i64 d, .agg #[.bool r.iface, .string r.cls, .string r.name, .string r.desc]] w fun r w' => r = .returned (.tuple #[.agg #[.int .i64 0, .int .i64 0], .int .i64 3]) ∧ Below w.heap.size w w' :=
  RMethod_out fun wr hr => Class_none (h.next hr).hw (h.next hr).live hd
theorem mEq_ok {n d : ByteArray} {x : MethM} (h : Pr.mEq n d x = true) : x.name = n ∧ x.desc = d := by
  unfold Pr.mEq at h
  rw [str_eq, str_eq] at h
  simpa using h

/-- A reference's four cells. -/
structure RefAt (w : World) (b : Nat) (r : RefM) : Prop where
  r0 : w.cell? ⟨b, 0, none⟩ = some (.bool r.iface)
  r1 : w.cell? ⟨b, 1, none⟩ = some (.string r.cls)
  r2 : w.cell? ⟨b, 2, none⟩ = some (.string r.name)
  r3 : w.cell? ⟨b, 3, none⟩ = some (.string r.desc)
theorem RefAt.start (w : World) (r : RefM) : RefAt (w.alloc (.cells #[.bool r.iface, .string r.cls, .string r.name, .string r.desc] 24)) w.heap.size r :=
  ⟨World.cell?_alloc_new .., World.cell?_alloc_new .., World.cell?_alloc_new .., World.cell?_alloc_new ..⟩
theorem RefAt.next {w w1 : World} {b : Nat} {r : RefM} (h : RefAt w b r) (hb : Below w.heap.size w w1) : RefAt w1 b r :=
  ⟨below_cell' hb h.r0, below_cell' hb h.r1, below_cell' hb h.r2, below_cell' hb h.r3⟩

end Go.Proofs.YtmpphhkbjmjomaaGreatDoor.Hi
