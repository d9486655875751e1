/- The law of a loop over the units of a string ('for u := range units(s)'), out of the iterator's walk. -/
import Derived.Test.YtaaegelefknkeabMkB
namespace Go.Proofs.Ytaaegelefknkeab

open Go.RowKit Go.Shelf
attribute [local go_sem] Oper.semAt_some

abbrev U := Nat × Nat × Nat

/-- What the loop's caller may not touch: the string's box and the loop's four blocks. -/
abbrev Four (bs B : Nat) : Nat → Prop := fun k => k = bs ∨ (B ≤ k ∧ k < B + 4)

/-- The caller's invariant abides whatever happens to the loop's four blocks. -/
def StabF (B : Nat) (I : List U → World → Prop) : Prop :=
  ∀ s W W' row, I s W → W.grownBy W' row → (∀ r, row = some r → B ≤ r ∧ r < B + 4) → I s W'

/-- How the body of a round may be left. -/
def postF (bs B : Nat) (I : List U → World → Prop) (Ix : Code → List U → World → Prop) (xs : List U) (W : World) : Exit → Act → World → Prop
  | .normal, _, W' => KeepsB (Four bs B) W W' ∧ I xs W'
  | .ret, _, W' => KeepsB (Four bs B) W W' ∧ Ix .ret xs W'
  | .exit id, _, W' => KeepsB (Four bs B) W W' ∧ Ix (.exit id) xs W'
  | .goto t, _, W' => KeepsB (Four bs B) W W' ∧ Ix (.goto t) xs W'
  | .panic _, _, _ => False
  | .outgrown, _, _ => False

theorem KeepsB.refl (S : Nat → Prop) (W : World) : KeepsB S W W := ⟨Nat.le_refl _, fun _ _ => rfl⟩
theorem KeepsB.trans {S : Nat → Prop} {A B C : World} (h : KeepsB S A B) (k : KeepsB S B C) : KeepsB S A C :=
  ⟨Nat.le_trans h.size k.size, fun i hi => (k.same i hi).trans (h.same i hi)⟩
theorem KeepsB.grown {S : Nat → Prop} {A W W' : World} {row : Option Nat} (h : KeepsB S A W) (hg : W.grownBy W' row) (hlt : ∀ k, S k → k < A.heap.size) (hr : ∀ k, row = some k → ¬ S k) : KeepsB S A W' :=
  ⟨Nat.le_trans h.size hg.size, fun k hk => (hg.block k (Nat.lt_of_lt_of_le (hlt k hk) h.size) (fun e => hr k e.symm hk)).trans (h.same k hk)⟩
theorem KeepsB.alloc {S : Nat → Prop} {A W : World} (h : KeepsB S A W) (hlt : ∀ k, S k → k < A.heap.size) (o : Obj) : KeepsB S A (W.alloc o) :=
  h.grown (World.grownBy_alloc W o none) hlt (by simp)
theorem KeepsB.setCell {S : Nat → Prop} {A W : World} (h : KeepsB S A W) {p : Addr} (hp : ¬ S p.block) (v : Value) : KeepsB S A (W.setCell p v) :=
  ⟨Nat.le_trans h.size (grown_setCell W p v).size, fun k hk => (Below.heap_setCell _ _ _ k (fun e => hp (e ▸ hk))).trans (h.same k hk)⟩
theorem KeepsB.drew {S : Nat → Prop} {A W : World} (h : KeepsB S A W) : KeepsB S A W.drew := ⟨h.size, h.same⟩

theorem KeepsB.putObj_other {S : Nat → Prop} {W : World} {l : Nat} (o : Obj) (h : ∀ k, S k → k ≠ l) : KeepsB S W (W.putObj l o) :=
  ⟨by simp, fun k hk => World.putObj_heap_other (h k hk)⟩

/-- What the loop's four blocks are. -/
structure FourK (s : ByteArray) (B : Nat) (W : World) : Prop where
  d : W.heap[B]? = some (.deferred (some []))
  l : ∃ r, W.heap[B + 1]? = some (.loop r)
  u : ∃ r a z, UB W (B + 2) r a z
  i : ∃ p, W.heap[B + 3]? = some (.stringIter s p)
/-- A block of cells of another type is none of the four. -/
theorem FourK.ne {s : ByteArray} {B : Nat} {W : World} (h : FourK s B W) {k : Nat} {c : Array Value} {e : TypeId} {fr : Nat × Nat} (hk : W.heap[k]? = some (.cells c e fr)) (he : e ≠ 75) : ¬ (B ≤ k ∧ k < B + 4) := by
  rintro ⟨h1, h2⟩
  obtain ⟨r, hl⟩ := h.l
  obtain ⟨r, a, z, hu⟩ := h.u
  obtain ⟨p, hi⟩ := h.i
  have hd := h.d
  rcases (by omega : k = B ∨ k = B + 1 ∨ k = B + 2 ∨ k = B + 3) with rfl | rfl | rfl | rfl
  · rw [hd] at hk; cases hk
  · rw [hl] at hk; cases hk
  · rw [show W.heap[B + 2]? = _ from hu] at hk; cases hk; exact he rfl
  · rw [hi] at hk; cases hk

set_option maxHeartbeats 4000000 in
theorem range_units {n : Nat} {g : Operand} {ps : Array Tmp} {assign body : Code} {Q : Exit → Act → World → Prop} {a : Act} {w : World} (bs : Nat) (s : ByteArray) (hs : s.size ≤ 140737488351232)
    (hg : a.eval g = .func (.func 57) #[] #[.pointer (some ⟨bs, 0, none⟩)]) (hps : ps.size = 1)
    (hbs : w.heap[bs]? = some (.cells #[.string s] 9 (0, 0)))
    (I : List U → World → Prop) (Ix : Code → List U → World → Prop) (hI : StabF w.heap.size I) (hIx : ∀ c, StabF w.heap.size (Ix c)) (h0 : I [] w) (a₁ : U → Nat → Act)
    (hassign : ∀ (l : Nat) (x : U) (W : World) (K : Act → World → Prop), K (a₁ x W.heap.size) (W.alloc (.cells #[.int .i32 x.1, .int .i64 x.2.1, .int .i64 x.2.2] 75)) →
      assign.wpIn (Fence.wide.inRound l) (n - 1 - 1) Try.prog (Exit.then K (fun _ _ _ => False)) { tmps := (ps.zip #[.agg #[.int .i32 x.1, .int .i64 x.2.1, .int .i64 x.2.2]]).foldl (fun t (p, v) => t.setIfInBounds p v) a.tmps, defers := [] } W)
    (hbody : ∀ (l : Nat) (pre : List U) (x : U) (rest : List U) (W : World) (ub : Nat), unitsOf s = pre ++ x :: rest → I pre W → UB W ub x.1 x.2.1 x.2.2 → w.heap.size + 4 ≤ ub → FourK s w.heap.size W →
      body.wpIn (Fence.wide.inRound l) (n - 1 - 1) Try.prog (postF bs w.heap.size I Ix (pre ++ [x]) W) (a₁ x ub) W)
    (hdone : ∀ (W : World), I (unitsOf s) W → W.heap[w.heap.size]? = some (.deferred (some [])) → Q .normal { a with defers := { target := .collected w.heap.size, args := #[] } :: a.defers } W)
    (hstop : ∀ (c : Code) (pre rest : List U) (W : World), unitsOf s = pre ++ rest → Ix c pre W → W.heap[w.heap.size]? = some (.deferred (some [])) → c.wpIn Fence.wide n Try.prog Q { a with defers := { target := .collected w.heap.size, args := #[] } :: a.defers } W) :
    (Code.rangeFunc g ps assign body).wpIn Fence.wide n Try.prog Q a w := by
  have hblt : bs < w.heap.size := (Array.getElem?_eq_some_iff.1 hbs).1
  refine wpIn_rangeFunc ?_
  intro fn hfn
  obtain ⟨rec, hrec⟩ : ∃ rec : LoopState → Option Code → Loop, rec = fun st pe => { state := st, pending := pe, fn, tmps := a.tmps, params := ps, assign, body, defers := w.heap.size } := ⟨_, rfl⟩
  obtain ⟨W1, hW1⟩ : ∃ W1, (w.alloc (.deferred (some []))).alloc (.loop (rec .ready none)) = W1 := ⟨_, rfl⟩
  have hL1 : W1.heap[w.heap.size + 1]? = some (.loop (rec .ready none)) := by
    rw [← hW1]; have := World.alloc_heap_new (w.alloc (.deferred (some []))) (.loop (rec .ready none)); rwa [World.size_alloc] at this
  have hK1 : W1.heap[w.heap.size]? = some (.deferred (some [])) := by
    rw [← hW1]; exact (Below.heap_alloc _ _ _ (by simp)).trans (World.alloc_heap_new w _)
  have hI1 : I [] W1 := by
    rw [← hW1]; exact hI _ _ _ none (hI _ _ _ none h0 (World.grownBy_alloc _ _ none) (by simp)) (World.grownBy_alloc _ _ none) (by simp)
  have hs1 : W1.heap.size = w.heap.size + 2 := by rw [← hW1]; simp
  have hb1 : W1.heap[bs]? = some (.cells #[.string s] 9 (0, 0)) := by
    rw [← hW1]; exact (Below.heap_alloc _ _ _ (by simp; omega)).trans ((Below.heap_alloc _ _ _ hblt).trans hbs)
  refine ⟨w.heap.size + 1, [{ target := .collected w.heap.size, args := #[] }], W1, { target := .fn (.func 57) #[.pointer (some ⟨bs, 0, none⟩)], args := #[.func (.yield (w.heap.size + 1)) #[] #[]] }, W1, 57,
    #[.func (.yield (w.heap.size + 1)) #[] #[]] ++ #[.pointer (some ⟨bs, 0, none⟩)], W1, ?_, ?_, fun _ _ => trivial, ?_, fun h => (by cases h), ?_⟩
  · rw [← hW1, hrec]; exact run_enterLoop_outer _ _ _ _ _
  · simp only [resolve, hg]
    simp [go_sem]
  · simp [invoke, go_sem]
  · refine (units1 (n - 1) (w.heap.size + 1) bs s hs
      (fun pre W => I pre W ∧ W.heap[w.heap.size + 1]? = some (.loop (rec .ready none)) ∧ W.heap[w.heap.size]? = some (.deferred (some [])))
      (fun pre W => ∃ c, Ix c pre W ∧ W.heap[w.heap.size + 1]? = some (.loop (rec .done (some c))) ∧ W.heap[w.heap.size]? = some (.deferred (some [])))
      W1 hb1 ?_ ?_ ⟨hI1, hL1, hK1⟩).mono ?_
    · rintro k W W' row ⟨hi, hl, hk⟩ hg hr
      rw [hs1] at hr
      refine ⟨hI k W W' row hi hg (fun r e => by have := hr r e; omega), (hg.block _ (Array.getElem?_eq_some_iff.1 hl).1 (fun e => by have := hr _ e.symm; omega)).trans hl, (hg.block _ (Array.getElem?_eq_some_iff.1 hk).1 (fun e => by have := hr _ e.symm; omega)).trans hk⟩
    · -- ONE ROUND
      rintro pre x rest W hun ⟨hi, hl, hk⟩ hsz hkU hkI
      rw [hs1] at hsz hkU hkI
      have hlt : w.heap.size + 1 < W.heap.size := (Array.getElem?_eq_some_iff.1 hl).1
      have hy := run_yield (P := Try.prog) (args := #[unitV x]) hl (by rw [hrec]; exact hps.symm)
      rw [hrec] at hy
      refine ⟨fn, _, assign, body, hy, roundIn_of_wpIn hfn (hassign _ x W _ ?_)⟩
      clear hy
      obtain ⟨Wa, hWa⟩ : ∃ Wa, W.alloc (.cells #[.int .i32 x.1, .int .i64 x.2.1, .int .i64 x.2.2] 75) = Wa := ⟨_, rfl⟩
      have hga : W.grownBy Wa none := by rw [← hWa]; exact World.grownBy_alloc _ _ none
      have hua : UB Wa W.heap.size x.1 x.2.1 x.2.2 := by rw [← hWa]; exact World.alloc_heap_new W _
      have hla := (hga.block _ hlt (by simp)).trans hl
      have hka := (hga.block _ (Array.getElem?_eq_some_iff.1 hk).1 (by simp)).trans hk
      have hia := hI _ _ _ none hi hga (by simp)
      have hlta : w.heap.size + 1 < Wa.heap.size := (Array.getElem?_eq_some_iff.1 hla).1
      rw [hWa]
      refine ⟨_, run_beginRound hla (by rw [hrec]), ?_⟩
      obtain ⟨W2, hW2⟩ : ∃ W2, Wa.putObj (w.heap.size + 1) (.loop { rec .ready none with state := .busy }) = W2 := ⟨_, rfl⟩
      have hg2 : Wa.grownBy W2 (some (w.heap.size + 1)) := by rw [← hW2]; exact grownBy_putObj' _ _ _
      have hl2 : W2.heap[w.heap.size + 1]? = some (.loop { rec .ready none with state := .busy }) := by rw [← hW2]; exact World.putObj_heap_same hlta
      have hk2 : W2.heap[w.heap.size]? = some (.deferred (some [])) := by rw [← hW2]; exact (World.putObj_heap_other (by omega)).trans hka
      have hu2 : UB W2 W.heap.size x.1 x.2.1 x.2.2 := by rw [← hW2]; exact (World.putObj_heap_other (by omega)).trans hua
      have hi2 : I pre W2 := hI _ _ _ _ hia hg2 (fun r e => by cases e; omega)
      rw [show Wa.putObj (w.heap.size + 1) (.loop { rec .ready none with state := .busy }) = W2 from hW2]
      refine wpIn_mono (hbody (w.heap.size + 1) pre x rest W2 W.heap.size hun hi2 hu2 (by omega) ⟨hk2, ⟨_, hl2⟩, ?kU, ?kI⟩) ?_
      case kU =>
        obtain ⟨r, a, z, h⟩ := hkU
        exact ⟨r, a, z, (hg2.block _ (by have := hga.size; have := (Array.getElem?_eq_some_iff.1 h).1; omega) (by simp)).trans ((hga.block _ (Array.getElem?_eq_some_iff.1 h).1 (by simp)).trans h)⟩
      case kI =>
        obtain ⟨p, h⟩ := hkI
        exact ⟨p, (hg2.block _ (by have := hga.size; have := (Array.getElem?_eq_some_iff.1 h).1; omega) (by simp)).trans ((hga.block _ (Array.getElem?_eq_some_iff.1 h).1 (by simp)).trans h)⟩
      have kk : ∀ (W3 : World) (o : Obj), KeepsB (Four bs w.heap.size) W2 W3 → KeepsB (fun k => k = bs ∨ k = W1.heap.size ∨ k = W1.heap.size + 1) W (W3.putObj (w.heap.size + 1) o) := fun W3 o h3 =>
        ⟨by have h4 := hga.size; have h5 := hg2.size; have h6 := h3.size; simp; omega, fun k hk => by
          have hne : k ≠ w.heap.size + 1 := by rw [hs1] at hk; omega
          have hlt' : k < W.heap.size := by rw [hs1] at hk; omega
          exact (World.putObj_heap_other hne).trans ((h3.same k (by rw [hs1] at hk; show _ ∨ _; omega)).trans ((hg2.block k (by have := hga.size; omega) (fun e => hne (by cases e; rfl))).trans (hga.block k hlt' (by simp))))⟩
      have fin : ∀ (jump : Option Code) (W3 : World), KeepsB (Four bs w.heap.size) W2 W3 →
          (Instr.endRound (w.heap.size + 1) jump).run Try.prog W3 = .ok (.bool jump.isNone) (W3.putObj (w.heap.size + 1) (.loop (rec (if jump.isNone then .ready else .done) jump))) ∧
          (W3.putObj (w.heap.size + 1) (.loop (rec (if jump.isNone then .ready else .done) jump))).heap[w.heap.size + 1]? = some (.loop (rec (if jump.isNone then .ready else .done) jump)) ∧
          (W3.putObj (w.heap.size + 1) (.loop (rec (if jump.isNone then .ready else .done) jump))).heap[w.heap.size]? = some (.deferred (some [])) := fun jump W3 hk3 => by
        have hl3 := (hk3.same (w.heap.size + 1) (.inr (by omega))).trans hl2
        have hk3' := (hk3.same w.heap.size (.inr (by omega))).trans hk2
        have := run_endRound (P := Try.prog) jump hl3
        rw [hrec] at this ⊢
        exact ⟨this, World.putObj_heap_same (Array.getElem?_eq_some_iff.1 hl3).1, (World.putObj_heap_other (by omega)).trans hk3'⟩
      have st : ∀ (I' : List U → World → Prop), StabF w.heap.size I' → ∀ (W3 : World) (o : Obj), I' (pre ++ [x]) W3 → I' (pre ++ [x]) (W3.putObj (w.heap.size + 1) o) := fun I' hI' W3 o h3 =>
        hI' _ _ _ _ h3 (grownBy_putObj' W3 (w.heap.size + 1) o) (fun r e => by cases e; omega)
      rintro e a3 W3 hp
      cases e with
      | normal =>
        obtain ⟨hk3, hi3⟩ := hp
        obtain ⟨hr, hl4, hk4⟩ := fin none W3 hk3
        exact ⟨_, _, hr, .inl ⟨rfl, ⟨st I hI _ _ hi3, hl4, hk4⟩, kk _ _ hk3⟩⟩
      | ret =>
        obtain ⟨hk3, hi3⟩ := hp
        obtain ⟨hr, hl4, hk4⟩ := fin (some .ret) W3 hk3
        exact ⟨_, _, hr, .inr ⟨rfl, .ret, st _ (hIx _) _ _ hi3, hl4, hk4⟩⟩
      | exit id =>
        obtain ⟨hk3, hi3⟩ := hp
        obtain ⟨hr, hl4, hk4⟩ := fin (some (.exit id)) W3 hk3
        exact ⟨_, _, hr, .inr ⟨rfl, .exit id, st _ (hIx _) _ _ hi3, hl4, hk4⟩⟩
      | goto t =>
        obtain ⟨hk3, hi3⟩ := hp
        obtain ⟨hr, hl4, hk4⟩ := fin (some (.goto t)) W3 hk3
        exact ⟨_, _, hr, .inr ⟨rfl, .goto t, st _ (hIx _) _ _ hi3, hl4, hk4⟩⟩
      | panic ch => exact hp.elim
      | outgrown => exact hp.elim
    · -- BEHIND THE ITERATOR
      have st : ∀ (I' : List U → World → Prop), StabF w.heap.size I' → ∀ (k : List U) (W3 : World) (o : Obj), I' k W3 → I' k (W3.putObj (w.heap.size + 1) o) := fun I' hI' k W3 o h3 =>
        hI' _ _ _ _ h3 (grownBy_putObj' W3 (w.heap.size + 1) o) (fun r e => by cases e; omega)
      rintro e W2 ⟨⟨v, rfl⟩, (⟨hi, hl, hk⟩ | ⟨pre, rest, hun, c, hi, hl, hk⟩)⟩
      · exact ⟨none, _, by have := run_endLoop (P := Try.prog) hl (by rw [hrec]; simp); rw [hrec] at this; exact this, hdone _ (st I hI _ _ _ hi) ((World.putObj_heap_other (by omega)).trans hk)⟩
      · exact ⟨some c, _, by have := run_endLoop (P := Try.prog) hl (by rw [hrec]; simp); rw [hrec] at this; exact this, hstop c pre rest _ hun (st _ (hIx c) _ _ _ hi) ((World.putObj_heap_other (by omega)).trans hk)⟩

end Go.Proofs.Ytaaegelefknkeab
