/- Interface tables: Roots: the walk. -/
import Derived.Test.YtipinmbpdgjalaaGreatDoorBa
import Derived.Laws.AppendOwnNone
set_option maxRecDepth 100000
set_option maxHeartbeats 4000000
set_option linter.unusedVariables false
set_option linter.unusedSimpArgs false
namespace Go.Proofs.YtipinmbpdgjalaaGreatDoor.Hi
open Go.RowKit Go.Shelf Go.Sort Bs

/-- append of one own row onto another. -/
theorem wpList_append_rows {P : Program} (w : World) {ops : Array Oper} {rest : List Oper} {o : Oper} {a : Act} {Q : Exit → Act → World → Prop} (hgd : o.guard = none) (s x : Operand) (t : TypeId)
    (ho : o.op = .call { callee := .builtin .append, args := #[s, x], argTypes := #[t, t] })
    (base base2 : Nat) (e : TypeId) (i : TypeInfo) (z : Value) (size bytes : Nat) (ht : P.underlying t = some (.slice e)) (hi : P.info? e = some i) (hz : i.zero = some z)
    (hsize : i.size = size) (hby : i.bytes = bytes) (hzs : z.cells.size = size) (hsz : 0 < size)
    (v : Value) (n : Nat) (xs : List Value) (hs : a.eval s = v) (hown : w.ownsRow base e size v n xs)
    (vx : Value) (m : Nat) (news : List Value) (hx : a.eval x = vx) (hown2 : w.ownsRow base2 e size vx m news) (h1 : ∀ u ∈ news, u.oneCell' = true)
    (h63 : n + m ≤ maxLen) (hbytes : (n + m) * bytes ≤ 140737488355328) (hbase : base ≤ w.heap.size)
    (h : ∀ v' w', w'.ownsRow base e size v' (n + m) (xs ++ news) → w.grownBy w' v.ownBlock → wpList P ops Q rest (a.put o.dst v') w') : wpList P ops Q (o :: rest) a w := by
  have hl := hown2.1
  rcases id hown2 with ⟨_, ⟨rfl, rfl⟩ | ⟨g, cap, cur, rfl, _⟩⟩
  · have : news = [] := List.eq_nil_of_length_eq_zero (by simpa using hl)
    subst this
    exact wpList_append_own_none hgd s x t ho base e i size ht hi v n xs hs hown hx (h v w (by simpa using hown) ⟨rfl, rfl, rfl, Nat.le_refl _, fun _ _ _ => rfl⟩)
  · refine wpList_append_own w hgd s x t ho base e i z size bytes ht hi hz hsize hby hzs hsz v n xs hs hown ⟨g, 0, none⟩ m cap news hx hl (fun j u hj => ?_) h1 h63 hbytes hbase fun v' w' h2 h3 _ => h v' w' h2 h3
    rw [show (⟨g, 0, none⟩ : Addr).add j = ⟨g, j, none⟩ by unfold Addr.add; split <;> simp_all]
    exact (own_at hown2).2.1 j u hj

/-- The Roots of a list of interfaces. -/
def rootL (m : List EntM) (l : List Int) : List (Int × Int) := mthM m 0 8 1 ++ l.flatMap fun i => mthM m i.toNat 10 0
def rootM (m : List EntM) (r : Int) : List (Int × Int) × Int := match entAt m r with
  | none => ([], 3)
  | some _ => if isIfaceM m r = true then ([], 23) else (rootL m (clo m r.toNat), 0)
theorem rootM_ok {m : List EntM} {r : Nat} (hr : r < m.length) (hi : isIfaceM m (r : Int) = false) : rootM m (r : Int) = (rootL m (clo m r), 0) := by
  unfold rootM
  rw [entAt_nat hr]
  simp only
  rw [if_neg (by rw [hi]; decide), Int.toNat_natCast]
theorem rootM_iface {m : List EntM} {r : Nat} (hr : r < m.length) (hi : isIfaceM m (r : Int) = true) : rootM m (r : Int) = ([], 23) := by
  unfold rootM
  rw [entAt_nat hr]
  simp only
  rw [if_pos hi]
theorem rootM_out {m : List EntM} {r : Int} (hr : entAt m r = none) : rootM m r = ([], 3) := by
  unfold rootM
  rw [hr]
theorem mth_len {m : List EntM} (hml : ∀ e ∈ m, e.c.meths.length ≤ 40) {c : Nat} (hc : c < m.length) (wo wi : Int) : (mthM m c wo wi).length ≤ 40 := by
  unfold mthM idsI
  have h1 := List.length_filter_le (mthB m wo wi) ((List.range (clsAt m c).meths.length).map fun (i : Nat) => (((c : Nat) : Int), (i : Int)))
  rw [List.length_map, List.length_range, clsAt_at hc] at h1
  rw [clsAt_at hc]
  have := hml m[c] (List.getElem_mem hc)
  omega
theorem rootL_snoc (m : List EntM) (l : List Int) (x : Int) : rootL m (l ++ [x]) = rootL m l ++ mthM m x.toNat 10 0 := by
  unfold rootL
  rw [List.flatMap_append, List.append_assoc]
  simp
theorem rootL_len {m : List EntM} (hml : ∀ e ∈ m, e.c.meths.length ≤ 40) (h0 : 0 < m.length) : ∀ (l : List Int), (∀ x ∈ l, ∃ k : Nat, x = k ∧ k < m.length) → (rootL m l).length ≤ (l.length + 1) * 40 := fun l => by
  intro h
  have key : ∀ (l : List Int), (∀ x ∈ l, ∃ k : Nat, x = k ∧ k < m.length) → (l.flatMap fun i => mthM m i.toNat 10 0).length ≤ l.length * 40 := fun l => by
    induction l with
    | nil => intro _; simp
    | cons x l ih =>
      intro h
      obtain ⟨k, rfl, hk⟩ := h x (List.mem_cons_self ..)
      have h1 := ih fun y hy => h y (List.mem_cons_of_mem _ hy)
      have h2 := mth_len hml hk 10 0
      rw [List.flatMap_cons, List.length_append, List.length_cons, Int.toNat_natCast]
      omega
  have h1 := key l h
  have h2 := mth_len hml h0 8 1
  unfold rootL
  rw [List.length_append]
  omega
theorem ids_one {L : List (Int × Int)} : ∀ u ∈ (L.map idCells).flatten, u.oneCell' = true := by
  intro u hu
  obtain ⟨cs, hc, hu⟩ := List.mem_flatten.1 hu
  obtain ⟨p, _, rfl⟩ := List.mem_map.1 hc
  simp only [idCells, List.mem_cons, List.not_mem_nil, or_false] at hu
  rcases hu with rfl | rfl <;> rfl
theorem clo_nat {m : List EntM} (hw : WFm m) (ho : OrdM m) {r : Nat} (hr : r < m.length) : ∀ x ∈ clo m r, ∃ k : Nat, x = k ∧ k < m.length := fun x hx => by
  obtain ⟨k, e, hk, _⟩ := clo_mem hw ho hr x hx
  exact ⟨k, e, by omega⟩
theorem clo_len {m : List EntM} (hw : WFm m) {r : Nat} (hr : r < m.length) : (clo m r).length ≤ 300 := by
  rw [clo_at hr]
  exact (clo_fits hw hr).2
theorem rootM_len {m : List EntM} (hw : WFm m) (ho : OrdM m) (hml : ∀ e ∈ m, e.c.meths.length ≤ 40) (r : Int) : (rootM m r).1.length ≤ 12040 := by
  cases her : entAt m r with
  | none => rw [rootM_out her]; simp
  | some e =>
    obtain ⟨r, rfl, hr, _⟩ := entAt_some her
    cases hi : isIfaceM m (r : Int) with
    | true => rw [rootM_iface hr hi]; simp
    | false =>
      rw [rootM_ok hr hi]
      have h1 := rootL_len hml (by omega) (clo m r) (clo_nat hw ho hr)
      have h2 := clo_len hw hr
      simp only
      omega

theorem IRoots {B bw : Nat} {w0 w : World} {m : List EntM} (h : Built B bw w0 w m) (hml : ∀ e ∈ m, e.c.meths.length ≤ 40) (r : Int) :
    Calls Tryz.prog 31 #[.pointer (some ⟨bw, 0, none⟩), .int .i64 r] w fun e w' => ∃ ad k, e = .returned (.tuple #[.slice ad (rootM m r).1.length k, .int .i64 (rootM m r).2]) ∧ w'.ownsRow w.heap.size 38 2 (.slice ad (rootM m r).1.length k) (rootM m r).1.length ((rootM m r).1.map idCells).flatten ∧ Below w.heap.size w w' := by
  have HCL := Closure h.hw r
  have HWF := Lib.hid h.wf
  have HO := Lib.hid h.ord
  have HH := Lib.hid (fun wr (hr : Below w.heap.size w wr) => h.next hr)
  have HLIV : Hid (0 < m.length) := Lib.hid h.ord.root.1
  obtain ⟨i0, hi0, hiz0, hiz1, hiz2⟩ := info_parts info_id
  cases her : entAt m r with
  | none =>
    rw [show closureM m r = ([], 3) by unfold closureM; rw [her]] at HCL
    have HCX := Lib.hid HCL
    rw [rootM_out her]
    clear h her HCL
    go_enter Tryz.func31, Tryz.ntmps31
    go_wp2_with fail
    refine HCX.out.mono ?_
    rintro _ w1 ⟨ca, cc, rfl, _, hb⟩
    have HB1 := Lib.hid hb
    clear hb HCX
    go_wp2
    go_ret2
    exact ⟨_, _, rfl, World.ownsRow_nil _ _ _ _, HB1.out⟩
  | some ee =>
    obtain ⟨r, rfl, hr, hme⟩ := entAt_some her
    clear hme
    have HCM : Hid (closureM m (r : Int) = (clo m r, 0)) := Lib.hid (by unfold clo closureM; rw [her])
    rw [HCM.out] at HCL
    have HCX := Lib.hid HCL
    have HIF := Lib.hid (fun wr (hr : Below w.heap.size w wr) => (h.next hr).isIface (r : Int))
    cases hif : isIfaceM m (r : Int) with
    | true =>
      rw [rootM_iface hr hif]
      rw [hif] at HIF
      clear h her hif HCL HCM
      go_enter Tryz.func31, Tryz.ntmps31
      go_wp2_with fail
      refine HCX.out.mono ?_
      rintro _ w1 ⟨ca, cc, rfl, _, hb⟩
      have HB1 := Lib.hid hb
      have HIX := Lib.hid (HIF.out w1 hb)
      clear hb HCX HIF
      go_wp2_with fail
      refine HIX.out.mono ?_
      rintro _ w2 ⟨rfl, hb⟩
      have HB2 := Lib.hid (HB1.out.trans (hb.mono HB1.out.size))
      clear hb HIX
      go_wp2
      go_ret2
      exact ⟨_, _, rfl, World.ownsRow_nil _ _ _ _, HB2.out⟩
    | false =>
      rw [rootM_ok hr hif]
      rw [hif] at HIF
      have HCN := Lib.hid (clo_nat h.wf h.ord hr)
      have HCLN := Lib.hid (clo_len h.wf hr)
      have HRL : Hid (∀ l : List Int, (∀ x ∈ l, ∃ k : Nat, x = k ∧ k < m.length) → (rootL m l).length ≤ (l.length + 1) * 40) := Lib.hid (rootL_len hml (by omega))
      have HSN := Lib.hid (rootL_snoc m)
      have HZ : Hid (rootL m [] = mthM m 0 8 1) := Lib.hid (by unfold rootL; simp)
      have HMT := Lib.hid (fun wr (hr : Below w.heap.size w wr) (c : Nat) (hc : c < m.length) wo wi => IMethods (h.next hr) hc wo wi)
      have HMLN := Lib.hid (fun (c : Nat) (hc : c < m.length) wo wi => mth_len hml hc wo wi)
      clear h her hif HCL HCM HH
      obtain ⟨L, hL⟩ : ∃ L, clo m r = L := ⟨_, rfl⟩
      rw [hL] at HCX HCN HCLN ⊢
      clear hL hr
      dsimp only at HCX ⊢
      generalize rootL m = rl at *
      go_enter Tryz.func31, Tryz.ntmps31
      go_wp2_with fail
      refine HCX.out.mono ?_
      rintro _ w1 ⟨ca, cc, rfl, hs, hb⟩
      have HB1 := Lib.hid hb
      have HS1 := Lib.hid hs
      have HIX := Lib.hid (HIF.out w1 hb)
      clear hb hs HCX HIF
      go_wp2_with fail
      refine HIX.out.mono ?_
      rintro _ w2 ⟨rfl, hb⟩
      have HB2 := Lib.hid (HB1.out.trans (hb.mono HB1.out.size))
      have HS2 := Lib.hid (HS1.out.alike (Alike.of_below hb fun k hk => hk.2))
      have HM0 := Lib.hid (HMT.out w2 HB2.out 0 HLIV.out 8 1)
      rw [← HZ.out] at HM0
      have HZ2 : Hid (w1.heap.size ≤ w2.heap.size) := Lib.hid hb.size
      clear hb HIX HS1 HB1
      go_wp2_with fail
      refine HM0.out.mono ?_
      rintro _ w3 ⟨ra, rc, rfl, hrow, hb⟩
      have HB3 := Lib.hid (HB2.out.trans (hb.mono HB2.out.size))
      have HS3 := Lib.hid (HS2.out.alike (Alike.of_below hb fun k hk => Nat.lt_of_lt_of_le hk.2 HZ2.out))
      have HR3 := Lib.hid hrow
      have HBX3 := Lib.hid hb
      have HZ3 : Hid (w2.heap.size ≤ w3.heap.size ∧ w1.heap.size ≤ w2.heap.size ∧ w.heap.size ≤ w2.heap.size) := Lib.hid ⟨hb.size, HZ2.out, HB2.out.size⟩
      clear hb hrow HM0 HS2 HB2 HZ2
      have hLl : (L.length : Int) ≤ 300 := by have := HCLN.out; omega
      go_wp2_with fail
      go_loopg [8, 31] L.length (fun gk u uu wr => ∃ (k : Nat), Hid (k + gk = L.length) ∧ uu = .int .i64 k ∧ Hid (wr.ownsRow w2.heap.size 38 2 u (rl (L.take k)).length ((rl (L.take k)).map idCells).flatten) ∧ Hid (Below w2.heap.size w2 wr ∧ Below w.heap.size w wr ∧ IntSl (fun b => w.heap.size ≤ b ∧ b < w1.heap.size) wr (.slice ca L.length cc) L))
      case atStart => exact ⟨0, Lib.hid (Nat.zero_add _), rfl, by simpa using HR3, by have := HS3.out; exact Lib.hid ⟨HBX3.out, HB3.out, this⟩⟩
      case round =>
        clear HR3 HS3 HBX3
        obtain ⟨k, hk, rfl, hrow, HL⟩ := hrel
        obtain ⟨ra, rc, rfl⟩ := own_slice hrow.out
        by_cases hlt : k < L.length
        · have hlt' : (k : Int) < (L.length : Int) := by omega
          obtain ⟨b, o, rfl, hel⟩ := IntSl.elem HL.out.2.2 (by omega)
          have e0 := hel k _ (List.getElem?_eq_getElem hlt)
          obtain ⟨q, hq, hqm⟩ := HCN.out L[k] (List.getElem_mem hlt)
          have HRN : Hid (rl (L.take (k + 1)) = rl (L.take k) ++ mthM m q 10 0) := Lib.hid (by rw [List.take_succ_eq_append_getElem hlt, HSN.out, hq, Int.toNat_natCast])
          have HLEN : Hid ((rl (L.take k)).length ≤ 12040 ∧ (mthM m q 10 0).length ≤ 40) := Lib.hid ⟨by
            have h1 := HRL.out (L.take k) (fun x hx => HCN.out x (List.mem_of_mem_take hx))
            have h2 := HCLN.out
            rw [List.length_take] at h1
            omega, HMLN.out q hqm 10 0⟩
          rw [hq] at e0
          have HMX := Lib.hid (HMT.out wr HL.out.2.1 q hqm 10 0)
          clear hel hq hqm
          generalize mthM m q 10 0 = news at HRN HLEN HMX
          generalize rl (L.take k) = old at HRN HLEN hrow
          go_wp2_with fail
          refine HMX.out.mono ?_
          rintro _ w4 ⟨na, nc, rfl, hnew, hb⟩
          have hrow4 := Lib.hid (row_of_block hrow.out fun q hq => hb.block q (own_live hrow.out hq).2)
          have HNW := Lib.hid hnew
          have HL4 : Hid (Below w2.heap.size w2 w4 ∧ Below w.heap.size w w4 ∧ IntSl (fun b => w.heap.size ≤ b ∧ b < w1.heap.size) w4 (.slice (some ⟨b, o, none⟩) L.length cc) L) := Lib.hid ⟨HL.out.1.trans (hb.mono HL.out.1.size), HL.out.2.1.trans (hb.mono HL.out.2.1.size), HL.out.2.2.alike (Alike.of_below hb fun k hk => by have := HZ3.out; have := HL.out.1.size; omega)⟩
          clear hb hnew HMX hrow HL e0
          go_wp2_with (first | (at_builtin; refine wpList_append_rows _ rfl _ _ 72 rfl w2.heap.size wr.heap.size 38 i0 (.agg #[.int .i64 0, .int .i64 0]) 2 16 Tryz.underlying72 hi0 hiz0 hiz1 hiz2 rfl (by decide) (.slice ra old.length rc) old.length (old.map idCells).flatten rfl hrow4.out (.slice na news.length nc) news.length (news.map idCells).flatten rfl HNW.out ids_one (by have := HLEN.out; unfold maxLen; omega) (by have := HLEN.out; omega) HL4.out.1.size ?_; intro v1 w6 hown1 hgrow1; obtain ⟨g1', cap1, rfl⟩ := own_slice hown1))
          have HL6 : Hid (Below w2.heap.size w2 w6 ∧ Below w.heap.size w w6 ∧ IntSl (fun b => w.heap.size ≤ b ∧ b < w1.heap.size) w6 (.slice (some ⟨b, o, none⟩) L.length cc) L) := Lib.hid ⟨HL4.out.1.grown hgrow1 HL4.out.1.size (fun q hq => (own_live hrow4.out hq).1), HL4.out.2.1.grown hgrow1 HL4.out.2.1.size (fun q hq => by have := (own_live hrow4.out hq).1; have := HZ3.out; omega), HL4.out.2.2.alike (fun k hk => hgrow1.block k (by have := HZ3.out; have := HL4.out.1.size; omega) (fun e => by have := (own_live hrow4.out e.symm).1; have := HZ3.out; omega))⟩
          have HR6 : Hid (w6.ownsRow w2.heap.size 38 2 (.slice g1' (old.length + news.length) cap1) (old ++ news).length ((old ++ news).map idCells).flatten) := Lib.hid (by simpa using hown1)
          rw [← HRN.out] at HR6
          go_roundg (L.length - (k + 1))
          case measure => have := hk.out; omega
          case rel => exact ⟨k + 1, Lib.hid (by have := hk.out; omega), by go_num, HR6, HL6⟩
        · have hkn : k = L.length := by have := hk.out; omega
          have HE : Hid (rl (L.take k) = rl L) := Lib.hid (by rw [hkn, List.take_length])
          clear hkn
          rw [HE.out] at hrow ⊢
          go_wp2
          go_ret2
          exact ⟨_, _, rfl, row_less hrow.out (by have := HZ3.out; omega), HL.out.2.1⟩
end Go.Proofs.YtipinmbpdgjalaaGreatDoor.Hi
