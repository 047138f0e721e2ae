/- Interface tables: Marks, Lookup; the same entries; awake14, built14: the walks. -/
import Derived.Test.YtipinmbpdgjalaaGreatDoorBd
import Derived.Test.YtipinmbpdgjalaaGreatDoorJh
set_option maxRecDepth 100000
set_option maxHeartbeats 4000000
set_option linter.unusedVariables false
set_option linter.unusedSimpArgs false
namespace Go.Proofs.YtipinmbpdgjalaaGreatDoor.Hi
open Go.RowKit Go.Shelf Go.Sort Bs

theorem results_tmp5 {fn : Func} {a b c d e : Tmp} (h : fn.results = #[.tmp a, .tmp b, .tmp c, .tmp d, .tmp e]) (tmps : Array Value) (P : Program) (w : World) :
    (results fn tmps).run P w = .ok (.tuple #[tmps.getD a undef, tmps.getD b undef, tmps.getD c undef, tmps.getD d undef, tmps.getD e undef]) w := by
  simp [results, h]

theorem IMarks {B bw : Nat} {w0 w : World} {m : List EntM} (h : Built B bw w0 w m) (hml : ∀ e ∈ m, e.c.meths.length ≤ 40) (r : Int) :
    Calls Tryz.prog 34 #[.pointer (some ⟨bw, 0, none⟩), .int .i64 r] w fun e w' => e = .returned (.tuple #[.int .i64 (errN (itbM m r).1 0), .int .i64 (errN (itbM m r).1 24), .int .i64 (errN (itbM m r).1 23), .int .i64 (errN (itbM m r).1 22), .int .i64 (itbM m r).2]) ∧ Below w.heap.size w w' := by
  have HB := Lib.hid (IBuild h hml r)
  have HLN : Hid ((itbM m r).1.length ≤ 12040) := Lib.hid (by rw [itb_len]; exact rootM_len h.wf h.ord hml r)
  generalize itbM m r = R at *
  obtain ⟨T, te⟩ := R
  dsimp only at HB HLN ⊢
  have hTl : (T.length : Int) ≤ 12040 := by have := HLN.out; omega
  clear h
  go_enter Tryz.func34, Tryz.ntmps34
  go_wp2_with fail
  refine HB.out.mono ?_
  rintro _ w1 ⟨ra, rc, rfl, hrow, hb⟩
  have HS1 : Hid (EtySl (fun b => b < w1.heap.size) w1 (.slice ra T.length rc) T) := Lib.hid (Sl.mono (etySl_row hrow (by have := HLN.out; omega)) (fun b hb => hb.2) fun _ _ h => h)
  have HB1 := Lib.hid hb
  clear hb hrow HB
  go_wp2_with fail
  go_loopg [4, 5, 6, 7, 20] T.length (fun gk u4 u5 u6 u7 u20 wr => ∃ k : Nat, Hid (k + gk = T.length) ∧ u4 = .int .i64 (errN (T.take k) 0) ∧ u5 = .int .i64 (errN (T.take k) 24) ∧ u6 = .int .i64 (errN (T.take k) 23) ∧ u7 = .int .i64 (errN (T.take k) 22) ∧ u20 = .int .i64 k ∧ Hid (Below w1.heap.size w1 wr))
  case atStart => exact ⟨0, Lib.hid (Nat.zero_add _), rfl, rfl, rfl, rfl, rfl, Lib.hid (Below.refl _ _)⟩
  case round =>
    obtain ⟨k, hk, rfl, rfl, rfl, rfl, rfl, HBR⟩ := hrel
    by_cases hlt : k < T.length
    · have hlt' : (k : Int) < (T.length : Int) := by omega
      obtain ⟨b, o, rfl, _, g0, g1, g2, g3, g4, g5, g6, g7⟩ := EtySl.elem (HS1.out.carry (Alike.of_below HBR.out fun _ h => h)) hlt
      have HN : Hid (∀ e, errN (T.take (k + 1)) e = errN (T.take k) e + if T[k].2.1.2 = e then 1 else 0) := Lib.hid (fun e => by rw [List.take_succ_eq_append_getElem hlt, errN_snoc])
      have l1 := errN_le (T.take k) 0
      have l2 := errN_le (T.take k) 24
      have l3 := errN_le (T.take k) 23
      have l4 := errN_le (T.take k) 22
      have hk0 : (T.take k).length ≤ 12040 := by simp; omega
      have HBX : Hid (∀ o, Below w1.heap.size w1 (wr.alloc o)) := Lib.hid (fun o => HBR.out.alloc HBR.out.size o)
      generalize T[k] = t at g0 g1 g2 g3 g4 g5 g6 g7 HN
      obtain ⟨⟨e1, e2⟩, ⟨⟨e3, e4⟩, e5⟩, ⟨⟨e6, e7⟩, e8⟩⟩ := t
      dsimp only at g0 g1 g2 g3 g4 g5 g6 g7 HN
      have HN0 := Lib.hid (HN.out 0)
      have HN1 := Lib.hid (HN.out 24)
      have HN2 := Lib.hid (HN.out 23)
      have HN3 := Lib.hid (HN.out 22)
      clear HN
      generalize errN (T.take k) 0 = n0 at *
      generalize errN (T.take k) 24 = n1 at *
      generalize errN (T.take k) 23 = n2 at *
      generalize errN (T.take k) 22 = n3 at *
      by_cases h0 : e5 = 0
      · subst h0
        go_wp2
        go_roundg (T.length - (k + 1))
        case measure => have := hk.out; omega
        case rel => exact ⟨k + 1, Lib.hid (by have := hk.out; omega), by rw [HN0.out, if_pos trivial]; go_num, by rw [HN1.out, if_neg (by omega)]; rfl, by rw [HN2.out, if_neg (by omega)]; rfl, by rw [HN3.out, if_neg (by omega)]; rfl, by go_num, Lib.hid (HBX.out _)⟩
      have h0' : (e5 == 0) = false := by simpa using h0
      by_cases h1 : e5 = 24
      · subst h1
        clear h0 h0'
        go_wp2
        go_roundg (T.length - (k + 1))
        case measure => have := hk.out; omega
        case rel => exact ⟨k + 1, Lib.hid (by have := hk.out; omega), by rw [HN0.out, if_neg (by omega)]; rfl, by rw [HN1.out, if_pos trivial]; go_num, by rw [HN2.out, if_neg (by omega)]; rfl, by rw [HN3.out, if_neg (by omega)]; rfl, by go_num, Lib.hid (HBX.out _)⟩
      have h1' : (e5 == 24) = false := by simpa using h1
      by_cases h2 : e5 = 23
      · subst h2
        clear h0 h0' h1 h1'
        go_wp2
        go_roundg (T.length - (k + 1))
        case measure => have := hk.out; omega
        case rel => exact ⟨k + 1, Lib.hid (by have := hk.out; omega), by rw [HN0.out, if_neg (by omega)]; rfl, by rw [HN1.out, if_neg (by omega)]; rfl, by rw [HN2.out, if_pos trivial]; go_num, by rw [HN3.out, if_neg (by omega)]; rfl, by go_num, Lib.hid (HBX.out _)⟩
      have h2' : (e5 == 23) = false := by simpa using h2
      by_cases h3 : e5 = 22
      · subst h3
        clear h0 h0' h1 h1' h2 h2'
        go_wp2
        go_roundg (T.length - (k + 1))
        case measure => have := hk.out; omega
        case rel => exact ⟨k + 1, Lib.hid (by have := hk.out; omega), by rw [HN0.out, if_neg (by omega)]; rfl, by rw [HN1.out, if_neg (by omega)]; rfl, by rw [HN2.out, if_neg (by omega)]; rfl, by rw [HN3.out, if_pos trivial]; go_num, by go_num, Lib.hid (HBX.out _)⟩
      have h3' : (e5 == 22) = false := by simpa using h3
      have HN0' := Lib.hid (HN0.out.trans (by rw [if_neg h0]))
      have HN1' := Lib.hid (HN1.out.trans (by rw [if_neg h1]))
      have HN2' := Lib.hid (HN2.out.trans (by rw [if_neg h2]))
      have HN3' := Lib.hid (HN3.out.trans (by rw [if_neg h3]))
      clear h0 h1 h2 h3
      go_wp2
      go_roundg (T.length - (k + 1))
      case measure => have := hk.out; omega
      case rel => exact ⟨k + 1, Lib.hid (by have := hk.out; omega), by rw [HN0'.out]; rfl, by rw [HN1'.out]; rfl, by rw [HN2'.out]; rfl, by rw [HN3'.out]; rfl, by go_num, Lib.hid (HBX.out _)⟩
    · have hkn : k = T.length := by have := hk.out; omega
      subst hkn
      have HBE := Lib.hid (HB1.out.trans (HBR.out.mono HB1.out.size))
      go_wp2
      refine bodyPost_ret (results_tmp5 rfl _ _ _) rfl ⟨by rw [List.take_length]; rfl, HBE.out⟩
theorem built14 (a : Option Addr) (c : Nat) (xs : List ClsM) (w : World) (hx : ClsSl (fun b => b < w.heap.size) w (.slice a xs.length c) xs) (he : Lf.Env w) :
    Calls Tryz.prog 25 #[.slice a xs.length c] w fun e w' => e = .returned (.pointer (some ⟨w.heap.size + 1, 0, none⟩)) ∧ Built w.heap.size (w.heap.size + 1) w w' (defs xs) := by
  have HX := Lib.hid hx
  have HE := Lib.hid he
  obtain ⟨a', c', hf, hle, hby, hcells⟩ := hx
  injection hf with hf1 hf2 hf3
  subst hf1; subst hf3
  clear hcells he
  go_enter Tryz.func25, Tryz.ntmps25
  go_wp2_with fail
  refine (built_new _).mono ?_
  rintro e w2 ⟨rfl, h2⟩
  have H0 := Lib.hid h2
  clear h2
  obtain ⟨B, hB⟩ : ∃ B, w.heap.size = B := ⟨_, rfl⟩
  rw [hB] at H0 ⊢
  have HBE := Lib.hid hB
  clear hB
  go_wp2_with fail
  go_loopg [4] xs.length (fun gk u wr => ∃ (k : Nat) (m : List EntM), Hid (k + gk = xs.length ∧ m = defs (xs.take k)) ∧ u = .int .i64 k ∧ Hid (Built B (B + 1) w wr m))
  case atStart => exact ⟨0, startM, Lib.hid ⟨Nat.zero_add _, by simp [defs]⟩, rfl, H0⟩
  case round =>
    clear H0
    obtain ⟨k, m, hk, rfl, HB⟩ := hrel
    by_cases hlt : k < xs.length
    · have hlt' : (k : Int) < (xs.length : Int) := by omega
      obtain ⟨b, o, v2, v5, rfl, g0, g1, g2, g3, g4, g5, hcl, ⟨ia, ic, rfl⟩, ⟨ma, mc, rfl⟩⟩ := cls_elem HX.out (fun _ h => h) HB.out.below hlt
      have HD := Lib.hid (Define HB.out.hw HB.out.ord.short hcl (fun q hq => Nat.lt_of_lt_of_le hq HB.out.below.size) HB.out.live (HE.out.below HB.out.below))
      have HM : Hid (defs (xs.take (k + 1)) = defM m xs[k]) := Lib.hid (by rw [List.take_succ_eq_append_getElem hlt, defs_snoc, hk.out.2])
      clear hcl
      generalize xs[k] = c at g0 g1 g2 g3 g4 g5 HD HM
      go_wp2_with fail
      refine HD.out.mono ?_
      rintro e w3 ⟨rfl, hw3, hc3⟩
      have HB3 := Lib.hid (HB.out.define c hw3 hc3)
      clear hw3 hc3 g0 g1 g2 g3 g4 g5 HD
      go_wp2
      go_roundg (xs.length - (k + 1))
      case measure => have := hk.out.1; omega
      case rel => exact ⟨k + 1, defM m c, Lib.hid ⟨by omega, HM.out.symm⟩, by go_num, HB3⟩
    · have hkn : k = xs.length := by have := hk.out.1; omega
      have HM : Hid (m = defs xs) := Lib.hid (by rw [hk.out.2, hkn, List.take_length])
      clear hkn
      go_wp2
      go_ret
      have hb := HBE.out
      subst hb
      exact ⟨rfl, by rw [← HM.out]; exact HB.out⟩

theorem awake_root : (rootM startM (0 : Int)) = ([((0 : Int), (1 : Int))], 0) := by decide +kernel
theorem awake14 (w : World) : Calls Tryz.prog 24 #[] w fun r w' => r = .returned (.bool true) ∧ Below w.heap.size w w' := by
  go_enter Tryz.func24, Tryz.ntmps24
  go_wp2_with fail
  refine (built_new _).mono ?_
  rintro e w2 ⟨rfl, h2⟩
  have HS := IRoots h2 (mlA_defs []) 0
  rw [awake_root] at HS
  have HS := Lib.hid HS
  have HB := Lib.hid h2.below
  clear h2
  go_wp2_with fail
  refine HS.out.mono ?_
  rintro _ w3 ⟨ra, rc, rfl, hrow, hb⟩
  have HB3 := Lib.hid (HB.out.trans (hb.mono HB.out.size))
  rcases id hrow with ⟨_, ⟨_, h0⟩ | ⟨g, cap, cur, e, _⟩⟩
  · cases h0
  injection e with e1 e2 e3
  subst e1; subst e3
  have c1 : w3.cell? ⟨g, 1, none⟩ = some (.int .i64 1) := (own_at hrow).2.1 1 _ rfl
  clear hb HS HB hrow
  go_wp2
  go_ret
  exact ⟨rfl, HB3.out⟩

/-- What Lookup answers. -/
def lkM (m : List EntM) (r : Int) (q : Int × Int) : Ety × Int := match entAt m r, methAt m q with
  | some _, some _ => if isIfaceM m r = true then (((0, 0), ((0, 0), 0), ((0, 0), 0)), 23) else if (rootM m r).1.contains q = true then (etyM m r q, 0) else (((0, 0), ((0, 0), 0), ((0, 0), 0)), 6)
  | _, _ => (((0, 0), ((0, 0), 0), ((0, 0), 0)), 3)
end Go.Proofs.YtipinmbpdgjalaaGreatDoor.Hi
