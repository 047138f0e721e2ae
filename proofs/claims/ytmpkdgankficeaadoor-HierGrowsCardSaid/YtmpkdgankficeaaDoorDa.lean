/- Packages; one run-time package; a class by its number. -/
import Derived.Test.YtmpkdgankficeaaDoorCb
import Derived.Test.YtmpkdgankficeaaDoorSe
import Derived.Lib.LastIndexByte
import Derived.Deep.RegionHeld3
import Derived.WalkSmall
set_option maxRecDepth 100000
set_option maxHeartbeats 2000000
set_option linter.unusedVariables false
set_option linter.unusedSimpArgs false
namespace Go.Proofs.YtmpkdgankficeaaDoor.Hi
open Go.RowKit Bs

/-- What stands ahead of the last '/'. -/
def pkgM (s : ByteArray) : ByteArray := s.extract 0 (Lib.lastIndexByte s 47).toNat

theorem Package (s : ByteArray) (hs : s.size < 4611686018427387904) (w : World) :
    Calls Tryd.prog 61 #[.string s] w fun e w' => e = .returned (.string (pkgM s)) ∧ w = w' := by
  have hb : (Lib.lastIndexByte s 47 = -1) ∨ ∃ i : Nat, i < s.size ∧ Lib.lastIndexByte s 47 = i := by
    rcases Lib.lastIndexByte_spec s 47 with ⟨h, _⟩ | ⟨i, h1, h2, _⟩
    · exact .inl h
    · exact .inr ⟨i, h1, h2⟩
  have HP : Hid (pkgM s = s.extract 0 (Lib.lastIndexByte s 47).toNat) := Lib.hid rfl
  have HL := Lib.hid (Tryd.strings_LastIndexByte s 47 hs)
  generalize Lib.lastIndexByte s 47 = l at hb HP HL
  rcases hb with rfl | ⟨i, hi, rfl⟩
  · have h0 : max (0 : Int) (-1) = 0 := by omega
    go_enter Tryd.func61, Tryd.ntmps61
    go_wp2_with fail
    refine (HL.out _).mono ?_
    rintro e _ ⟨rfl, rfl⟩
    have hx : s.extract 0 (-1 : Int).toNat = ByteArray.empty := by
      rw [show (-1 : Int).toNat = 0 from rfl]
      simp
    go_wp2
    go_ret
    exact ⟨by rw [HP.out, hx]; rfl, rfl⟩
  · have h0 : max (0 : Int) (i : Int) = i := by omega
    go_enter Tryd.func61, Tryd.ntmps61
    go_wp2_with fail
    refine (HL.out _).mono ?_
    rintro e _ ⟨rfl, rfl⟩
    have h1 : (i : Int) ≤ (s.size : Int) := by omega
    go_wp2
    go_ret
    exact ⟨by rw [HP.out]; rfl, rfl⟩

theorem Iface (v0 v1 v2 v4 v5 : Value) (f : Int) (w : World) :
    Calls Tryd.prog 40 #[.agg #[v0, v1, v2, .int .i64 f, v4, v5]] w fun e w' => e = .returned (.bool (bits .and .i64 f 512 != 0)) ∧ Below w.heap.size w w' := by
  go_enter Tryd.func40, Tryd.ntmps40
  go_wp2
  go_ret
  exact ⟨rfl, (Below.refl _ _).alloc (Nat.le_refl _) _⟩

/-- Are both of one run-time package? -/
def togB (n1 n2 : ByteArray) (l1 l2 : Int) : Bool := (l1 == l2) && ((pkgM n1).toList == (pkgM n2).toList)

theorem Together (n1 n2 : ByteArray) (l1 l2 : Int) (v1 v2 v3 v5 u1 u2 u3 u5 : Value) (w : World) (h1 : n1.size < 4611686018427387904) (h2 : n2.size < 4611686018427387904) :
    Calls Tryd.prog 44 #[.agg #[.string n1, v1, v2, v3, .int .i64 l1, v5], .agg #[.string n2, u1, u2, u3, .int .i64 l2, u5]] w fun e w' => e = .returned (.bool (togB n1 n2 l1 l2)) ∧ Below w.heap.size w w' := by
  have HB := Lib.hid (((Below.refl w.heap.size w).alloc (Nat.le_refl _) (.cells #[.string n1, v1, v2, v3, .int .i64 l1, v5] 32)).alloc (by simp) (.cells #[.string n2, u1, u2, u3, .int .i64 l2, u5] 32))
  have HP1 := Lib.hid (Package n1 h1)
  have HP2 := Lib.hid (Package n2 h2)
  have HT : Hid (togB n1 n2 l1 l2 = ((l1 == l2) && ((pkgM n1).toList == (pkgM n2).toList))) := Lib.hid rfl
  have hc0 : (((w.alloc (.cells #[.string n1, v1, v2, v3, .int .i64 l1, v5] 32)).alloc (.cells #[.string n2, u1, u2, u3, .int .i64 l2, u5] 32))).cell? ⟨w.heap.size, 0, none⟩ = some (.string n1) := alloc_old (World.cell?_alloc_new ..)
  have hc4 : (((w.alloc (.cells #[.string n1, v1, v2, v3, .int .i64 l1, v5] 32)).alloc (.cells #[.string n2, u1, u2, u3, .int .i64 l2, u5] 32))).cell? ⟨w.heap.size, 4, none⟩ = some (.int .i64 l1) := alloc_old (World.cell?_alloc_new ..)
  have hd : ∀ j : Nat, (((w.alloc (.cells #[.string n1, v1, v2, v3, .int .i64 l1, v5] 32)).alloc (.cells #[.string n2, u1, u2, u3, .int .i64 l2, u5] 32))).cell? ⟨w.heap.size + 1, j, none⟩ = (#[Value.string n2, u1, u2, u3, .int .i64 l2, u5])[j]? := fun j => by
    have := World.cell?_alloc_new (w.alloc (.cells #[.string n1, v1, v2, v3, .int .i64 l1, v5] 32)) #[.string n2, u1, u2, u3, .int .i64 l2, u5] 32 j
    rw [World.size_alloc] at this
    exact this
  have hd0 := hd 0
  have hd4 := hd 4
  have e1 : (#[Value.string n2, u1, u2, u3, .int .i64 l2, u5])[0]? = some (.string n2) := rfl
  have e2 : (#[Value.string n2, u1, u2, u3, .int .i64 l2, u5])[4]? = some (.int .i64 l2) := rfl
  rw [e1] at hd0
  rw [e2] at hd4
  clear hd e1 e2
  obtain ⟨y, hy⟩ : ∃ y, (l1 == l2) = y := ⟨_, rfl⟩
  rw [hy] at HT
  generalize pkgM n1 = p1 at HP1 HT
  generalize pkgM n2 = p2 at HP2 HT
  obtain ⟨y2, hy2⟩ : ∃ y2, (p1.toList == p2.toList) = y2 := ⟨_, rfl⟩
  rw [hy2] at HT
  cases y
  · go_enter Tryd.func44, Tryd.ntmps44
    go_wp2_with fail
    go_quiet (fail)
    go_wp2
    go_ret
    exact ⟨by rw [HT.out]; rfl, below_drewN HB.out _⟩
  · go_enter Tryd.func44, Tryd.ntmps44
    go_wp2_with fail
    go_region_held3 (fun w' => w'.cell? ⟨w.heap.size, 0, none⟩ = some (.string n1) ∧ w'.cell? ⟨w.heap.size, 4, none⟩ = some (.int .i64 l1) ∧ w'.cell? ⟨w.heap.size + 1, 0, none⟩ = some (.string n2) ∧ w'.cell? ⟨w.heap.size + 1, 4, none⟩ = some (.int .i64 l2))
      (first | exact ⟨hc0, hc4, hd0, hd4⟩)
      (first | (go_at_call 61; refine (HP1.out _).mono ?_; rintro e _ ⟨rfl, rfl⟩) | (go_at_call 61; refine (HP2.out _).mono ?_; rintro e _ ⟨rfl, rfl⟩))
    go_wp2
    go_ret
    exact ⟨by rw [HT.out]; rfl, HB.out.drew⟩
end Go.Proofs.YtmpkdgankficeaaDoor.Hi
