/- Overriding: the asker, its closure, all that override one. -/
import Derived.Test.YtiiebakblkpkeaaGreatDoorOe
import Derived.Test.YtiiebakblkpkeaaGreatDoorOb
set_option maxRecDepth 100000
set_option maxHeartbeats 2000000
set_option linter.unusedVariables false
set_option linter.unusedSimpArgs false
namespace Go.Proofs.YtiiebakblkpkeaaGreatDoor.Hi
open Go.RowKit Bs

theorem OAsk {B bw : Nat} {w0 w : World} {m : List EntM} (h : Built B bw w0 w m) {a b : Nat} (ha : a < m.length) (hb : b < m[a].c.meths.length) :
    Calls Tryz.prog 42 #[.pointer (some ⟨bw, 0, none⟩), .agg #[.int .i64 a, .int .i64 b]] w fun r w' => ∃ q : Nat, r = .returned (.tuple #[.pointer (some ⟨q, 0, none⟩), .int .i64 0]) ∧ AskAt w' q bw ((a : Int), (b : Int)) m[a].c.meths[b] ∧ Below w.heap.size w w' := by
  have hba : Below w.heap.size w (w.alloc (.cells #[.int .i64 a, .int .i64 b] 24)) := (Below.refl _ _).alloc (Nat.le_refl _) _
  have HB := Lib.hid hba
  have HM := Lib.hid (Method2 (h.next hba) ha hb)
  have q0 : (w.alloc (.cells #[.int .i64 a, .int .i64 b] 24)).cell? ⟨w.heap.size, 0, none⟩ = some (.int .i64 a) := World.cell?_alloc_new ..
  have q1 : (w.alloc (.cells #[.int .i64 a, .int .i64 b] 24)).cell? ⟨w.heap.size, 1, none⟩ = some (.int .i64 b) := World.cell?_alloc_new ..
  generalize m[a].c.meths[b] = x at *
  clear h hba hb
  go_enter Tryz.func42, Tryz.ntmps42
  go_wp2_with fail
  refine HM.out.mono ?_
  rintro _ w1 ⟨ad, l, c, rfl, hb⟩
  obtain ⟨wx, hwx⟩ : ∃ wx, (w1.alloc (.cells #[.string x.name, .string x.desc, .int .i64 x.flags, .int .i64 x.locals, .int .i64 x.stack, .slice ad l c] 39)) = wx := ⟨_, rfl⟩
  have hbx : Below w1.heap.size w1 wx := by rw [← hwx]; exact (Below.refl _ _).alloc (Nat.le_refl _) _
  have x0 : wx.cell? ⟨w1.heap.size, 0, none⟩ = some (.string x.name) := by rw [← hwx]; exact World.cell?_alloc_new ..
  have x1 : wx.cell? ⟨w1.heap.size, 1, none⟩ = some (.string x.desc) := by rw [← hwx]; exact World.cell?_alloc_new ..
  have x2 : wx.cell? ⟨w1.heap.size, 2, none⟩ = some (.int .i64 x.flags) := by rw [← hwx]; exact World.cell?_alloc_new ..
  have x3 : wx.cell? ⟨w1.heap.size, 3, none⟩ = some (.int .i64 x.locals) := by rw [← hwx]; exact World.cell?_alloc_new ..
  have x4 : wx.cell? ⟨w1.heap.size, 4, none⟩ = some (.int .i64 x.stack) := by rw [← hwx]; exact World.cell?_alloc_new ..
  have x5 : wx.cell? ⟨w1.heap.size, 5, none⟩ = some (.slice ad l c) := by rw [← hwx]; exact World.cell?_alloc_new ..
  have hb1 := hb.trans (hbx.mono hb.size)
  have HB1 := Lib.hid (HB.out.trans (hb1.mono HB.out.size))
  have p0 := below_cell' hb1 q0
  have p1 := below_cell' hb1 q1
  clear hb hbx hb1 HM HB q0 q1
  go_wp2_with fail
  try rw [hwx]
  clear hwx
  go_ret2
  exact ⟨_, rfl, ⟨World.cell?_alloc_new .., World.cell?_alloc_new .., World.cell?_alloc_new .., World.cell?_alloc_new .., World.cell?_alloc_new .., World.cell?_alloc_new .., World.cell?_alloc_new .., World.cell?_alloc_new .., ⟨_, _, _, World.cell?_alloc_new ..⟩⟩, HB1.out.alloc HB1.out.size _⟩
theorem OAsk_bad {bw : Nat} {w : World} {a b : Int}
    (HM0 : ∀ wr, Below w.heap.size w wr → Calls Tryz.prog 15 #[.pointer (some ⟨bw, 0, none⟩), .agg #[.int .i64 a, .int .i64 b]] wr fun r w' => r = .returned (.tuple #[zeroMeth, .int .i64 3]) ∧ Below wr.heap.size wr w') :
    Calls Tryz.prog 42 #[.pointer (some ⟨bw, 0, none⟩), .agg #[.int .i64 a, .int .i64 b]] w fun r w' => r = .returned (.tuple #[.pointer none, .int .i64 3]) ∧ Below w.heap.size w w' := by
  have hba : Below w.heap.size w (w.alloc (.cells #[.int .i64 a, .int .i64 b] 24)) := (Below.refl _ _).alloc (Nat.le_refl _) _
  have HB := Lib.hid hba
  have HM := Lib.hid (HM0 _ hba)
  have q0 : (w.alloc (.cells #[.int .i64 a, .int .i64 b] 24)).cell? ⟨w.heap.size, 0, none⟩ = some (.int .i64 a) := World.cell?_alloc_new ..
  have q1 : (w.alloc (.cells #[.int .i64 a, .int .i64 b] 24)).cell? ⟨w.heap.size, 1, none⟩ = some (.int .i64 b) := World.cell?_alloc_new ..
  clear hba HM0
  unfold zeroMeth at HM
  go_enter Tryz.func42, Tryz.ntmps42
  go_wp2_with fail
  refine HM.out.mono ?_
  rintro _ w1 ⟨rfl, hb⟩
  have HB1 := Lib.hid ((HB.out.trans (hb.mono HB.out.size)).alloc (Nat.le_trans HB.out.size hb.size) (.cells #[Value.string ⟨#[]⟩, .string ⟨#[]⟩, .int .i64 0, .int .i64 0, .int .i64 0, .slice none 0 0] 39))
  clear hb HM HB q0 q1
  go_wp2
  go_ret2
  exact ⟨rfl, HB1.out⟩

theorem ODown1 {B bw : Nat} {w0 w : World} {m : List EntM} (h : Built B bw w0 w m) {q qq cb : Nat} {a0 : Int × Int} {x0 : MethM} (hq : AskAt w q bw a0 x0) {c a b : Nat} (hqq : w.cell? ⟨qq, 0, none⟩ = some (.pointer (some ⟨q, 0, none⟩))) (hcb : w.cell? ⟨cb, 0, none⟩ = some (.int .i64 c)) (hc : c < m.length) (ha : a < m.length) (hb : b < m[a].c.meths.length) :
    Calls Tryz.prog 76 #[.agg #[.int .i64 a, .int .i64 b], .pointer (some ⟨qq, 0, none⟩), .pointer (some ⟨cb, 0, none⟩)] w fun r w' => r = .returned (.bool (seenM m c ((a : Int), (b : Int)))) ∧ Below w.heap.size w w' := by
  have hba : Below w.heap.size w (w.alloc (.cells #[.int .i64 a, .int .i64 b] 24)) := (Below.refl _ _).alloc (Nat.le_refl _) _
  have HB := Lib.hid hba
  have HS := Lib.hid (OSeen (h.next hba) (hq.next hba) hc ha hb)
  have q0 : (w.alloc (.cells #[.int .i64 a, .int .i64 b] 24)).cell? ⟨w.heap.size, 0, none⟩ = some (.int .i64 a) := World.cell?_alloc_new ..
  have q1 : (w.alloc (.cells #[.int .i64 a, .int .i64 b] 24)).cell? ⟨w.heap.size, 1, none⟩ = some (.int .i64 b) := World.cell?_alloc_new ..
  have k0 := below_cell' hba hqq
  have k1 := below_cell' hba hcb
  generalize seenM m c ((a : Int), (b : Int)) = R at *
  clear h hba hq hb hqq hcb
  go_enter Tryz.func76, Tryz.ntmps76
  go_wp2_with fail
  refine HS.out.mono ?_
  rintro _ w1 ⟨rfl, hb⟩
  have HB1 := Lib.hid (HB.out.trans (hb.mono HB.out.size))
  clear hb
  go_wp2
  go_ret
  exact ⟨rfl, HB1.out⟩
end Go.Proofs.YtiiebakblkpkeaaGreatDoor.Hi
