/- put: from cells to worlds of classes. -/
import Derived.Test.YtmpkdgankficeaaDoorHs
set_option maxRecDepth 100000
set_option linter.unusedVariables false
set_option linter.unusedSimpArgs false
namespace Go.Proofs.YtmpkdgankficeaaDoor.Hi
open Go.RowKit Bs

def depthAt (m : List EntM) (i : Int) : Int := ((m[i.toNat]?).map EntM.depth).getD 0
/-- The entry that put lays. -/
def putEnt (m : List EntM) (c : ClsM) (ab : Int) (is : List Int) : EntM :=
  { c := c, above := ab, depth := if ab < 0 then 0 else depthAt m ab + 1, closure := is.foldl (stepC m) (if ab < 0 then [] else closAt m ab) }

theorem closAt_at {m : List EntM} {i : Nat} (h : i < m.length) : closAt m i = m[i].closure := by unfold closAt; simp [h]
theorem depthAt_at {m : List EntM} {i : Nat} (h : i < m.length) : depthAt m i = m[i].depth := by unfold depthAt; simp [h]

/-- Where a class may be laid. -/
def PutAt (m : List EntM) (ab : Int) (is : List Int) : Prop := (m = [] ∧ ab = -1 ∧ is = []) ∨ (0 ≤ ab ∧ ab < m.length ∧ ∀ x ∈ is, 0 ≤ x ∧ x < m.length)

theorem WFm.put {m : List EntM} (h : WFm m) (c : ClsM) {ab : Int} {is : List Int} (hp : PutAt m ab is) (hl : m.length < 300) (hn : nameIx m c.name = none) : WFm (m ++ [putEnt m c ab is]) := by
  have hclos : ∀ x y, y ∈ closAt m x → 0 ≤ y ∧ y < m.length := fun x y hy => by
    unfold closAt at hy
    cases hx : m[x.toNat]? with
    | none => rw [hx] at hy; simp at hy
    | some e =>
      rw [hx] at hy
      obtain ⟨hl, rfl⟩ := List.getElem?_eq_some_iff.1 hx
      have := (h.closed _ hl).2 y (by simpa using hy)
      omega
  refine ⟨by simp; omega, fun i hi => ?_, fun i hi => ?_, fun i hi => ?_, fun i hi => ?_⟩
  · by_cases e : i < m.length
    · simp only [List.getElem_append_left e]; exact h.above i e
    · have e' : i = m.length := by simp at hi; omega
      subst e'
      simp [putEnt]
      rcases hp with ⟨rfl, rfl, _⟩ | ⟨h1, h2, _⟩
      · simp
      · refine ⟨by omega, h2, ?_⟩
        constructor
        · intro; omega
        · rintro rfl; simp at h2; omega
  · by_cases e : i < m.length
    · simp only [List.getElem_append_left e]
      obtain ⟨d1, d2, d3, d4⟩ := h.depth i e
      refine ⟨d1, d2, fun k hk ha => ?_, d4⟩
      have := (h.above i e).2.1
      have hk' : k < m.length := by omega
      rw [List.getElem_append_left hk']
      exact d3 k hk' ha
    · have e' : i = m.length := by simp at hi; omega
      subst e'
      simp only [List.getElem_concat_length]
      rcases hp with ⟨rfl, rfl, _⟩ | ⟨h1, h2, _⟩
      · simp [putEnt]
      · obtain ⟨a, rfl⟩ : ∃ a : Nat, ab = a := ⟨ab.toNat, by omega⟩
        have ha : a < m.length := by omega
        obtain ⟨d1, d2, d3, d4⟩ := h.depth a ha
        simp only [putEnt, show ¬((a : Int) < 0) by omega, if_false, depthAt_at ha]
        refine ⟨by omega, by omega, fun k hk hk2 => ?_, fun e => by omega⟩
        obtain rfl : a = k := by omega
        rw [List.getElem_append_left ha]
  · by_cases e : i < m.length
    · simp only [List.getElem_append_left e]; exact h.closed i e
    · have e' : i = m.length := by simp at hi; omega
      subst e'
      simp only [List.getElem_concat_length]
      have : Okl m.length (putEnt m c ab is).closure := by
        rcases hp with ⟨rfl, rfl, rfl⟩ | ⟨h1, h2, h3⟩
        · exact Okl.nil _
        · obtain ⟨a, rfl⟩ : ∃ a : Nat, ab = a := ⟨ab.toNat, by omega⟩
          have ha : a < m.length := by omega
          simp only [putEnt, show ¬((a : Int) < 0) by omega, if_false]
          refine Okl.steps hclos ⟨?_, hclos a⟩ h3
          rw [closAt_at ha]
          exact (h.closed a ha).1
      exact this
  · rw [nameIx_append]
    by_cases e : i < m.length
    · simp only [List.getElem_append_left e]
      rw [h.names i e]; rfl
    · have e' : i = m.length := by simp at hi; omega
      subst e'
      simp only [List.getElem_concat_length]
      simp [putEnt, hn]

theorem own_live {w : World} {B : Nat} {E : TypeId} {v : Value} {n size : Nat} {xs : List Value} (h : w.ownsRow B E size v n xs) {g : Nat} (hg : v.ownBlock = some g) : B ≤ g ∧ g < w.heap.size := h.lt g hg

theorem PutRaw.world {T S0 S : Nat → Prop} {w w' : World} {bw bm : Nat} {va : Value} {ps : List Value} {D : DataW Unit} {m : List EntM} {c : ClsM} {iv mv : Value} {ab : Int} {is : List Int}
    (hr : PutRaw w w' bw bm m.length va ps D c.name (.string c.super) iv mv c.flags c.loader ab (putEnt m c ab is).depth (putEnt m c ab is).closure) (h : HWF T bw va bm ps D w m)
    (hS : S bw ∧ S bm ∧ (∀ g, va.ownBlock = some g → S g) ∧ ∀ k, T k → S k)
    (hc : ClsIs S0 w [.string c.name, .string c.super, iv, .int .i64 c.flags, .int .i64 c.loader, mv] c) (hS0 : ∀ k, S0 k → k < w.heap.size ∧ ¬ S k)
    (hp : PutAt m ab is) (hl : m.length < 300) (hn : nameIx m c.name = none) :
    HW (fun k => S k ∨ S0 k ∨ (w.heap.size ≤ k ∧ k < w'.heap.size)) bw w' (m ++ [putEnt m c ab is]) ∧ Chg S w w' := by
  have wf' := h.wf.put c hp hl hn
  obtain ⟨⟨W, ⟨pa, pc, hL, hown⟩, hblk, hsz, hos, htp, hout, v', hv', hrow', hat'⟩, hbn, hth, hmap'⟩ := hr
  have hz := hL.size
  have hbw : bw < w.heap.size := World.block_lt_of_cell? _ _ h.all
  have hbm := h.map.lt
  have hro : ∀ g, va.ownBlock = some g → g < w.heap.size := fun g hg => (own_live h.row hg).2
  have hT : ∀ k, T k → w'.heap[k]? = w.heap[k]? := fun k hk => by
    have := h.live k hk
    refine (hblk k (by omega) (fun e => (h.apart.2.2.1 k e).1 hk) (fun e => h.apart.1 (e ▸ hk)) (fun e => h.apart.2.1 (e ▸ hk))).trans (hL.old k this)
  have hT0 : ∀ k, S0 k → w'.heap[k]? = w.heap[k]? := fun k hk => by
    obtain ⟨h1, h2⟩ := hS0 k hk
    exact (hblk k (by omega) (fun e => h2 (hS.2.2.1 k e)) (fun e => h2 (e ▸ hS.1)) (fun e => h2 (e ▸ hS.2.1))).trans (hL.old k h1)
  have hne : ∀ k, w.heap.size ≤ k → k < W.heap.size → w'.heap[k]? = W.heap[k]? := fun k h1 h2 =>
    hblk k h2 (fun e => by have := hro k e; omega) (by omega) (by omega)
  have cel : ∀ {j : Nat} {v : Value}, W.cell? ⟨w.heap.size + 1, j, none⟩ = some v → w'.cell? ⟨w.heap.size + 1, j, none⟩ = some v := fun hv =>
    (World.cell?_of_block (w := W) (hne (w.heap.size + 1) (by omega) (by omega))).trans hv
  have hlen := (wf'.closed m.length (by simp))
  simp only [List.getElem_concat_length] at hlen
  refine ⟨⟨fun k => T k ∨ S0 k ∨ (w.heap.size ≤ k ∧ k < W.heap.size), v', bm, ps ++ [.pointer (some ⟨w.heap.size + 1, 0, none⟩)], D.put (keyL c.name) (numD m.length), ⟨hv', hbn, hth, ?_, ?_, h.reads.put h.map.isMap (putEnt m c ab is) hn, ?_, ?_, ?_, wf'⟩, .inl hS.1, .inl hS.2.1, ?_, ?_⟩, ?_⟩
  · simpa using hrow'
  · simpa using hmap'
  · intro i hi
    have hpl : ps.length = m.length := by have := h.row.1; simpa using this
    by_cases e : i < m.length
    · obtain ⟨v, h1, h2⟩ := h.ents i e
      refine ⟨v, by rw [List.getElem?_append_left (by omega)]; exact h1, ?_⟩
      rw [List.getElem_append_left e]
      exact (h2.alike hT).mono fun k hk => .inl hk
    · have e' : i = m.length := by simp at hi; omega
      subst e'
      refine ⟨.pointer (some ⟨w.heap.size + 1, 0, none⟩), by rw [← hpl]; simp, ?_⟩
      simp only [List.getElem_concat_length]
      refine ⟨w.heap.size + 1, _, _, rfl, .inr (.inr ⟨by omega, by omega⟩), rfl, ?_, (hc.alike hT0).mono fun k hk => .inr (.inl hk), cel hL.c6, cel hL.c7, cel hL.c8, ?_⟩
      · intro j hj
        match j, hj with
        | 0, _ => exact cel hL.c0
        | 1, _ => exact cel hL.c1
        | 2, _ => exact cel hL.c2
        | 3, _ => exact cel hL.c3
        | 4, _ => exact cel hL.c4
        | 5, _ => exact cel hL.c5
      · have hown' := row_of_block (w' := w') hown fun k hk => by
          obtain ⟨h1, h2⟩ := own_live hown hk
          exact hne k (by omega) h2
        have hok : Okl m.length (putEnt m c ab is).closure := hlen
        have := hok.len
        refine IntSl.of_own hown' (fun x hx => ?_) (by omega) _ fun b hb => ?_
        · have := hok.2 x hx
          unfold Fits; omega
        · obtain ⟨h1, h2⟩ := own_live hown hb
          exact .inr (.inr ⟨by omega, h2⟩)
  · rintro k (hk | hk | hk)
    · have := h.live k hk; omega
    · have := (hS0 k hk).1; omega
    · omega
  · have hx : ∀ k, k < w.heap.size → ¬ T k → ¬ S0 k → ¬ (T k ∨ S0 k ∨ (w.heap.size ≤ k ∧ k < W.heap.size)) := fun k h1 h2 h3 => by
      rintro (h | h | h)
      · exact h2 h
      · exact h3 h
      · omega
    refine ⟨hx bw hbw h.apart.1 fun e => (hS0 _ e).2 hS.1, hx bm hbm h.apart.2.1 fun e => (hS0 _ e).2 hS.2.1, fun g hg => ?_, h.apart.2.2.2⟩
    rcases hat' g hg with hg' | hg'
    · obtain ⟨a1, a2, a3⟩ := h.apart.2.2.1 g hg'
      exact ⟨hx g (hro g hg') a1 fun e => (hS0 _ e).2 (hS.2.2.1 g hg'), a2, a3⟩
    · refine ⟨?_, by omega, by omega⟩
      rintro (h' | h' | h')
      · have := h.live g h'; omega
      · have := (hS0 g h').1; omega
      · omega
  · intro g hg
    rcases hat' g hg with hg' | hg'
    · exact .inl (hS.2.2.1 g hg')
    · have := (own_live hrow' hg).2
      exact .inr (.inr ⟨by omega, this⟩)
  · rintro k (hk | hk | hk)
    · exact .inl (hS.2.2.2 k hk)
    · exact .inr (.inl hk)
    · exact .inr (.inr ⟨hk.1, by omega⟩)
  · refine ⟨hos.trans hL.os, htp.trans hL.tape, hout.trans hL.output, by omega, fun k h1 h2 => ?_⟩
    exact (hblk k (by omega) (fun e => h2 (hS.2.2.1 k e)) (fun e => h2 (e ▸ hS.1)) (fun e => h2 (e ▸ hS.2.1))).trans (hL.old k h1)

/-- put's contract, at the first class. -/
theorem put_first {T S S0 : Nat → Prop} {bw bm : Nat} {D : DataW Unit} {c : ClsM} {cs : List Value} {w : World}
    (h : HWF T bw (.slice none 0 0) bm [] D w []) (hS : S bw ∧ S bm ∧ ∀ k, T k → S k) (hc : ClsIs S0 w cs c) (hS0 : ∀ k, S0 k → k < w.heap.size ∧ ¬ S k) :
    Calls Tryd.prog 33 #[.pointer (some ⟨bw, 0, none⟩), .agg cs.toArray, .int .i64 (-1), .slice none 0 0] w fun e w' => e = .returned (.int .i64 0) ∧
      HW (fun k => S k ∨ S0 k ∨ (w.heap.size ≤ k ∧ k < w'.heap.size)) bw w' [putEnt [] c (-1) []] ∧ Chg S w w' := by
  have hc' := hc
  obtain ⟨iv', mv, rfl, c1, c2, c3, c4, c5, c6⟩ := hc
  refine (put_root bw bm D (.string c.super) iv' mv c.name c.flags c.loader w h.all h.map h.byName h.thaw h.apart.2.2.2 c1).mono ?_
  rintro e w' ⟨rfl, hr⟩
  exact ⟨rfl, PutRaw.world (m := []) hr h ⟨hS.1, hS.2.1, fun g hg => by simp [Value.ownBlock] at hg, hS.2.2⟩ hc' hS0 (.inl ⟨rfl, rfl, rfl⟩) (by simp) rfl⟩

/-- put's contract. -/
theorem put {S S0 SI : Nat → Prop} {bw : Nat} {m : List EntM} {c : ClsM} {cs : List Value} {ab : Int} {iv : Value} {is : List Int} {w : World}
    (h : HW S bw w m) (hc : ClsIs S0 w cs c) (hS0 : ∀ k, S0 k → k < w.heap.size ∧ ¬ S k) (hp : 0 ≤ ab ∧ ab < m.length ∧ ∀ x ∈ is, 0 ≤ x ∧ x < m.length) (hl : m.length < 300) (hn : nameIx m c.name = none)
    (hi : IntSl SI w iv is) (hSI : ∀ k, SI k → k < w.heap.size) :
    Calls Tryd.prog 33 #[.pointer (some ⟨bw, 0, none⟩), .agg cs.toArray, .int .i64 ab, iv] w fun e w' => e = .returned (.int .i64 m.length) ∧
      HW (fun k => S k ∨ S0 k ∨ (w.heap.size ≤ k ∧ k < w'.heap.size)) bw w' (m ++ [putEnt m c ab is]) ∧ Chg S w w' := by
  obtain ⟨T, va, bm, ps, D, h1, h2, h3, h4, h5⟩ := h
  have hc' := hc
  obtain ⟨iv', mv, rfl, c1, c2, c3, c4, c5, c6⟩ := hc
  obtain ⟨p1, p2, p3⟩ := hp
  obtain ⟨a, rfl⟩ : ∃ a : Nat, ab = a := ⟨ab.toNat, by omega⟩
  have ha : a < m.length := by omega
  obtain ⟨ia, ic, rfl⟩ := hi.form
  obtain ⟨g, cap, rfl, hk⟩ := h1.looks (by omega)
  refine (put_walk T SI bw g cap a m.length bm ps D m (.string c.super) iv' mv c.name c.flags c.loader ia ic is w hk ha hi hSI p3 h1.row h1.map h1.byName h1.thaw
    (fun k hk => ⟨(h1.apart.2.2.1 k hk).2.1, (h1.apart.2.2.1 k hk).2.2, (own_live h1.row hk).2⟩) h1.apart.2.2.2 c1).mono ?_
  rintro e w' ⟨rfl, hr⟩
  refine ⟨rfl, PutRaw.world (T := T) ?_ h1 ⟨h2, h3, h4, h5⟩ hc' hS0 (.inr ⟨p1, p2, p3⟩) hl hn⟩
  simpa [putEnt, show ¬((a : Int) < 0) by omega, closAt_at ha, depthAt_at ha] using hr
end Go.Proofs.YtmpkdgankficeaaDoor.Hi
