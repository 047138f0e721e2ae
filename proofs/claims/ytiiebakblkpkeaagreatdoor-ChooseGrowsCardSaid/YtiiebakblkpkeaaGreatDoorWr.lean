/- What a class that arrives later leaves of a call (plain). -/
import Derived.Test.YtiiebakblkpkeaaGreatDoorWp
import Derived.Test.YtiiebakblkpkeaaGreatDoorUj
import Derived.Test.YtiiebakblkpkeaaGreatDoorOj
set_option maxRecDepth 100000
set_option maxHeartbeats 1000000
set_option linter.unusedVariables false
set_option linter.unusedSimpArgs false
namespace Go.Proofs.YtiiebakblkpkeaaGreatDoor.Hi
open Go.RowKit Bs

section
variable {m : List EntM} {e : EntM}
theorem fnd_app {q : Int × Int} {y : MethM} (h : methAt m q = some y) : fndM (m ++ [e]) q = fndM m q := by
  unfold fndM
  have h2 : methAt (m ++ [e]) q = methAt m q := by
    obtain ⟨i, j, hi, _, rfl, _⟩ := methAt_some h
    exact methAt_app hi _
  rw [h2]
theorem meth_app {q : Int × Int} {y : MethM} (h : methAt m q = some y) : methAt (m ++ [e]) q = some y := by
  obtain ⟨i, j, hi, _, rfl, _⟩ := methAt_some h
  rw [methAt_app hi]
  exact h
theorem first_app12 (hw : WFm m) {x : MethM} {p : Int × Int} (hx : methAt m p = some x) {r : Nat} (hr : r < m.length) : firstE (m ++ [e]) x p r = firstE m x p r := by
  obtain ⟨i, j, hi, _, rfl, _⟩ := methAt_some hx
  unfold firstE firstL
  rw [down_app hw hi _ hr, ch_app hw hr]
theorem dec_app {n d : ByteArray} {c : Nat} (hc : c < m.length) : decM (m ++ [e]) n d (c : Int) = decM m n d (c : Int) := by
  unfold decM
  rw [findO_app hc, methAt_app hc]
theorem findSome_eq {α β : Type} {f g : α → Option β} : ∀ {l : List α}, (∀ a ∈ l, f a = g a) → l.findSome? f = l.findSome? g
  | [], _ => rfl
  | a :: l, h => by
    rw [List.findSome?_cons, List.findSome?_cons, h a (List.mem_cons_self ..), findSome_eq (fun b hb => h b (List.mem_cons_of_mem _ hb))]
theorem up_app (hw : WFm m) {n d : ByteArray} {r : Nat} (hr : r < m.length) : upE (m ++ [e]) n d r = upE m n d r := by
  unfold upE
  rw [ch_app hw hr]
  refine findSome_eq fun c hc => ?_
  obtain ⟨k, rfl, _, hk, _⟩ := ch_mem hw hr c hc
  exact dec_app hk
theorem vir_app (hw : WFm m) (ho : OrdM m) {x : MethM} {p : Int × Int} (hx : methAt m p = some x) {r : Nat} (hr : r < m.length) : virM (m ++ [e]) (r : Int) p = virM m (r : Int) p := by
  rw [(virM_some (m := m ++ [e]) (by simp; omega) (meth_app hx)).1, (virM_some hr hx).1]
  unfold virE
  rw [ifaceO_app hr, first_app12 hw hx hr, one_app hw ho hr]
  split
  · rfl
  split
  · rfl
  split
  · next h0 =>
    obtain ⟨y, hy⟩ := first_there hw ho hx hr h0
    exact fnd_app hy
  · rfl
theorem itf_app (hw : WFm m) (ho : OrdM m) {x : MethM} {p : Int × Int} (hx : methAt m p = some x) {r : Nat} (hr : r < m.length) : itfM (m ++ [e]) (r : Int) p = itfM m (r : Int) p := by
  rw [(virM_some (m := m ++ [e]) (by simp; omega) (meth_app hx)).2, (virM_some hr hx).2]
  unfold itfE
  rw [ifaceO_app hr, up_app hw hr, one_app hw ho hr]
  split
  · rfl
  split
  · rfl
  cases hu : upE m x.name x.desc r with
  | none => rfl
  | some q =>
    obtain ⟨_, y, hy, _⟩ := up_spec hw ho hr hu
    simp only
    rw [meth_app hy, fnd_app hy, hy]
theorem besK_app {c k : Nat} (hk : k < m.length) {n d : ByteArray} : besK (m ++ [e]) c k n d = besK m c k n d := by
  unfold besK
  rw [findO_app hk, methAt_app hk]
theorem bes_app {c : Nat} (hc : c < m.length) {n d : ByteArray} : besM (m ++ [e]) c n d = besM m c n d := by
  unfold besM
  rw [besK_app hc, besK_app (by omega)]
theorem super_app {d : Nat} (hd : d < m.length) : superM (m ++ [e]) (d : Int) = superM m (d : Int) := by
  unfold superM
  rw [entAt_app hd]
theorem start_app (hw : WFm m) {d h : Nat} (hd : d < m.length) (hh : h < m.length) (t : TyM) (i : Bool) : startC (m ++ [e]) d (h : Int) t i = startC m d (h : Int) t i := by
  unfold startC
  rw [ifaceO_app hh, ext_app hw hd hh, clsAt_app hd, super_app hd]
theorem spA_app (hw : WFm m) (ho : OrdM m) {c : Nat} (hc : c < m.length) {n d : ByteArray} : spA (m ++ [e]) c n d = spA m c n d := by
  have hq : spQ (m ++ [e]) c n d = spQ m c n d := by
    unfold spQ
    rw [ifaceO_app hc, bes_app hc, up_app hw hc]
  unfold spA
  rw [hq, one_app hw ho hc]
  cases h : spQ m c n d with
  | none => rfl
  | some q =>
    obtain ⟨y, hy⟩ := spQ_there hw ho hc h
    exact fnd_app hy
theorem holder_app {t : TyM} (h : (holderM m t).2 ≠ 20) : holderM (m ++ [e]) t = holderM m t := by
  by_cases hl : loadedE m t = 0
  · have hl2 := loaded_app (e := e) hl
    unfold holderM
    rw [if_pos hl, if_pos hl2]
    split
    · rfl
    next hi =>
    split
    · rfl
    next hd =>
    have hd0 : t.dims = 0 := by have := (tyOk_dims (loaded_tyOk hl)).1; omega
    obtain ⟨j, hj, hb⟩ := loaded_name hl (by
      unfold isIntM at hi
      rw [hd0] at hi
      simpa using hi)
    rw [byName_app hb, hb]
  · have h20 : loadedE m t ≠ 20 := fun h2 => by
      unfold holderM at h
      rw [if_neg hl] at h
      exact h h2
    have e1 := loaded_form (e := e) hl h20
    unfold holderM
    rw [e1, if_neg hl, if_neg hl]
theorem sp_app (hw : WFm m) (ho : OrdM m) {d : Nat} (hd : d < m.length) {r : RefM} {x : MethM} {p : Int × Int} (hx : methAt m p = some x) (h20 : (spM m (d : Int) r p).2 ≠ 20) : spM (m ++ [e]) (d : Int) r p = spM m (d : Int) r p := by
  rw [spM_some hd hx] at h20 ⊢
  rw [spM_some (m := m ++ [e]) (by simp; omega) (meth_app hx)]
  unfold spE at *
  split
  · rfl
  next hf =>
  rw [if_neg hf] at h20
  have hh : (holderM m (refT r.cls)).2 ≠ 20 := fun h => by
    rw [if_pos (by rw [h]; decide), h] at h20
    exact h20 rfl
  rw [holder_app hh]
  split
  · rfl
  next hz =>
  split
  · rfl
  split
  · split
    · rfl
    · exact fnd_app hx
  · obtain ⟨_, k, hk, hke⟩ := holder_lt (by omega) (Classical.not_not.1 hz)
    rw [hke, start_app hw hd hk]
    obtain ⟨c, hc, hce⟩ := start_lt12 hw hd hk (refT r.cls) r.iface
    rw [hce, Int.toNat_natCast]
    exact spA_app hw ho hc
theorem below_app (hw : WFm m) {s t : TyM} (hs : loadedE m s = 0) (ht : loadedE m t = 0) : belowM (m ++ [e]) s t = belowM m s t := by
  unfold belowM baseM
  split
  · rfl
  next hi =>
  split
  · rfl
  next h1 =>
  split
  · rfl
  next h2 =>
  have b1 := tyOk_dims (loaded_tyOk hs)
  have b2 := tyOk_dims (loaded_tyOk ht)
  have key : ∀ x : TyM, loadedE m x = 0 → ∀ k : Int, isIntM (cutBy x k) = false → ¬ 0 < (cutBy x k).dims → 0 ≤ (cutBy x k).dims → ∃ j : Nat, j < m.length ∧ byNameM m (cutBy x k).name = ((j : Int), 0) := fun x hx k hxi hxd hx0 => by
    show ∃ j : Nat, j < m.length ∧ byNameM m x.name = ((j : Int), 0)
    refine loaded_name hx ?_
    have h0 : (cutBy x k).dims = 0 := by omega
    have hxi2 : ((cutBy x k).dims == 0 && x.name.toList.isEmpty) = false := hxi
    rw [h0] at hxi2
    simpa using hxi2
  have d1 : 0 ≤ (cutBy s (min s.dims t.dims)).dims := by show 0 ≤ s.dims - min s.dims t.dims; omega
  have d2 : 0 ≤ (cutBy t (min s.dims t.dims)).dims := by show 0 ≤ t.dims - min s.dims t.dims; omega
  simp only [Bool.or_eq_true, not_or, Bool.not_eq_true] at hi
  obtain ⟨j1, hj1, e1⟩ := key s hs _ hi.1 h1 d1
  obtain ⟨j2, hj2, e2⟩ := key t ht _ hi.2 h2 d2
  rw [e1, e2, byName_app e1, byName_app e2]
  exact ext_app hw hj1 hj2
theorem recv_app {d kind : Int} {t : TyM} (h3 : recvE m d kind t ≠ 3) (h20 : recvE m d kind t ≠ 20) (h0 : 0 < m.length) : recvE (m ++ [e]) d kind t = recvE m d kind t := by
  unfold recvE at *
  cases her : entAt m d with
  | none => rw [her] at h3; exact absurd rfl h3
  | some x =>
    obtain ⟨k, rfl, hk, _⟩ := entAt_some her
    rw [her] at h20
    rw [entAt_app hk, her]
    simp only at h20 ⊢
    split
    · rfl
    next h1 =>
    split
    · rfl
    next h2 =>
    rw [if_neg h1, if_neg h2] at h20
    have hh : (holderM m t).2 ≠ 20 := fun h => by
      rw [if_neg (by rw [h]; decide)] at h20
      exact h20 h
    rw [holder_app hh]
    split
    · next hz =>
      obtain ⟨_, j, hj, hje⟩ := holder_lt h0 hz
      rw [hje, ifaceO_app hj]
    · rfl
theorem callT_app (hw : WFm m) (ho : OrdM m) {d : Nat} (hd : d < m.length) {kind : Int} {r : RefM} {t : TyM} {f : Int} {q : Int × Int} {y : MethM} (hq : methAt m q = some y) (hT : loadedE m (refT r.cls) = 0) (hk : kind ≠ 4 → (holderM m t).2 = 0) (h20 : (callT m d kind r t f q).2 ≠ 20) : callT (m ++ [e]) d kind r t f q = callT m d kind r t f q := by
  unfold callT at *
  split
  · rfl
  next h1 =>
  rw [if_neg h1] at h20
  split
  · rfl
  next h2 =>
  rw [if_neg h2] at h20
  split
  · rfl
  next h3 =>
  rw [if_neg h3] at h20
  have hk4 : kind ≠ 4 := fun h => by
    rw [h] at h1
    simp only [Bool.not_eq_true] at h3
    rw [h3] at h1
    exact h1 rfl
  obtain ⟨hlt, k, hkl, hke⟩ := holder_lt (by omega) (hk hk4)
  rw [below_app hw hlt hT]
  split
  · next hb =>
    rw [if_pos hb] at h20
    rw [holder_app (by rw [hk hk4]; decide), hke]
    rw [hke] at h20
    unfold callS at *
    split
    · exact vir_app hw ho hq hkl
    next k1 =>
    rw [if_neg k1] at h20
    split
    · exact itf_app hw ho hq hkl
    next k2 =>
    rw [if_neg k2] at h20
    exact sp_app hw ho hd hq h20
  · rfl
theorem call_app (hw : WFm m) (ho : OrdM m) {d kind : Int} {r : RefM} {t : TyM} (h3 : (callE m d kind r t).2 ≠ 3) (h20 : (callE m d kind r t).2 ≠ 20) : callE (m ++ [e]) d kind r t = callE m d kind r t := by
  have h0 := ho.root.1
  unfold callE at *
  by_cases hr : recvE m d kind t = 0
  · have hr2 := recv_app (e := e) (m := m) (d := d) (kind := kind) (t := t) (by rw [hr]; decide) (by rw [hr]; decide) h0
    rw [hr2]
    rw [if_neg (c := recvE m d kind t ≠ 0) (by simpa using hr)] at h3 h20 ⊢
    rw [if_neg (c := recvE m d kind t ≠ 0) (by simpa using hr)]
    split
    · rfl
    next hf =>
    rw [if_neg hf] at h3 h20
    obtain ⟨k, rfl, hk, _, _, hkk⟩ := recv_ok hr
    rw [Int.toNat_natCast] at h3 h20 ⊢
    have hm20 : (methodR m k r).2 ≠ 20 := fun h => by
      rw [if_pos (by rw [h]; decide)] at h20
      exact h20 h
    rw [method_app hw ho hk hm20]
    split
    · rfl
    next hz =>
    rw [if_neg hz] at h3 h20
    obtain ⟨y, hy, hfl, _, _⟩ := meth_there hw ho hk (Classical.not_not.1 hz)
    have hcl := class_ok (method_ok (Classical.not_not.1 hz)).1
    have hfa : flagsAt (m ++ [e]) (methodR m k r).1 = flagsAt m (methodR m k r).1 := by
      obtain ⟨i, j, hi, _, he, _⟩ := methAt_some hy
      rw [he]
      exact flags_app hi _
    rw [hfa]
    exact callT_app hw ho hk hy hcl.2.1 (fun h => (hkk h).1) h20
  · rw [if_pos hr] at h3 h20
    rw [if_pos hr, recv_app h3 h20 h0, if_pos hr]
end
/-- Nothing that a call answered is turned by a class that arrives, but that a class is not there. -/
theorem call_later {m : List EntM} (hw : WFm m) (ho : OrdM m) (c : ClsM) {d kind : Int} {r : RefM} {t : TyM} (h3 : (callE m d kind r t).2 ≠ 3) (h20 : (callE m d kind r t).2 ≠ 20) : callE (defM m c) d kind r t = callE m d kind r t := by
  rcases defM_cases m c with ⟨_, h, _⟩ | ⟨_, h, _⟩
  · rw [h]; exact call_app hw ho h3 h20
  · rw [h]
end Go.Proofs.YtiiebakblkpkeaaGreatDoor.Hi
