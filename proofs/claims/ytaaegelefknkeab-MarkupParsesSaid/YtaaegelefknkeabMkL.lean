/- Rows of the reference's units; the walk of the reference's Units. -/
import Derived.Test.YtaaegelefknkeabMkJ
namespace Go.Proofs.Ytaaegelefknkeab

open Go.RowKit Go.Shelf
set_option linter.unusedSimpArgs false

/-- The cells of one of the reference's units. -/
def cellR (x : U × Bool) : List Value := [.int .i32 x.1.1, .int .i64 x.1.2.1, .int .i64 x.1.2.2, .bool x.2]
def cellsR (us : List (U × Bool)) : List Value := us.flatMap cellR
theorem cellsR_append (a b : List (U × Bool)) : cellsR (a ++ b) = cellsR a ++ cellsR b := by simp [cellsR]
theorem cellsR_one (x : U × Bool) : cellsR [x] = cellR x := by simp [cellsR]
theorem cellsR_length (us : List (U × Bool)) : (cellsR us).length = us.length * 4 := by
  induction us with
  | nil => rfl
  | cons u us ih => simp only [cellsR, cellR, List.flatMap_cons, List.length_append, List.length_cons, List.length_nil] at ih ⊢; omega
theorem cellsR_get (us : List (U × Bool)) : ∀ (k : Nat) (x : U × Bool), us[k]? = some x → ∀ o, o < 4 → (cellsR us)[k * 4 + o]? = (cellR x)[o]? := by
  induction us with
  | nil => intro k x hk; simp at hk
  | cons u us ih =>
    intro k x hk o ho
    show (cellR u ++ cellsR us)[k * 4 + o]? = _
    cases k with
    | zero =>
      obtain rfl : u = x := by simpa using hk
      rw [List.getElem?_append_left (by simp [cellR]; omega)]
      simp
    | succ k =>
      rw [List.getElem?_append_right (by simp [cellR]; omega)]
      rw [← ih k x (by simpa using hk) o ho]
      congr 1
      simp [cellR]; omega
theorem cellsR_set (us : List (U × Bool)) : ∀ (k : Nat) (x : U × Bool) (o : Nat) (v : Value) (y : U × Bool), us[k]? = some x → o < 4 → cellR y = (cellR x).set o v → (cellsR us).set (k * 4 + o) v = cellsR (us.set k y) := by
  induction us with
  | nil => intro k x o v y hk; simp at hk
  | cons u us ih =>
    intro k x o v y hk ho hy
    show (cellR u ++ cellsR us).set (k * 4 + o) v = _
    cases k with
    | zero =>
      obtain rfl : u = x := by simpa using hk
      rw [List.set_append_left _ _ (by simp [cellR]; omega)]
      simp only [List.set_cons_zero, Nat.zero_mul, Nat.zero_add]
      rw [← hy]; rfl
    | succ k =>
      rw [List.set_append_right _ _ (by simp [cellR]; omega)]
      simp only [List.set_cons_succ]
      show _ = cellR u ++ cellsR (us.set k y)
      rw [← ih k x o v y (by simpa using hk) ho hy]
      congr 2
      simp [cellR]; omega

/-- v is a slice of the reference's units that owns us. -/
def OwnsR (w : World) (base : Nat) (v : Value) (us : List (U × Bool)) : Prop := w.ownsRow base 79 4 v us.length (cellsR us)
theorem Try.info79 : (Try.prog.info? 79).map (fun i => (i.zero, i.size, i.bytes)) = some (some (.agg #[.int .i32 0, .int .i64 0, .int .i64 0, .bool false]), 4, 32) := by kernel_rfl

theorem cell_four_new (w : World) (a b c d : Value) (t : TypeId) : ∀ j u, [a, b, c, d][j]? = some u → (w.alloc (.cells #[a, b, c, d] t)).cell? ((⟨w.heap.size, 0, none⟩ : Addr).add j) = some u := by
  intro j u hu
  have hadd : (⟨w.heap.size, 0, none⟩ : Addr).add j = ⟨w.heap.size, j, none⟩ := by unfold Addr.add; split <;> simp_all
  rw [hadd, cell_of_row _ w.heap.size j #[a, b, c, d] t (0, 0) (heap_alloc_new w _)]
  simpa using hu

theorem cell_four_at (w : World) (k : Nat) (hk : k = w.heap.size) (a b c d : Value) (t : TypeId) : ∀ j u, [a, b, c, d][j]? = some u → (w.alloc (.cells #[a, b, c, d] t)).cell? ((⟨k, 0, none⟩ : Addr).add j) = some u := by
  subst hk
  exact cell_four_new w a b c d t
/-- The units, the first k with their flags. -/
def flagged (us : List U) (k : Nat) : List (U × Bool) := (us.take k).map (fun u => (u, okU u)) ++ (us.drop k).map (fun u => (u, false))
theorem flagged_length (us : List U) (k : Nat) : (flagged us k).length = us.length := by simp [flagged]; omega
theorem flagged_zero (us : List U) : flagged us 0 = us.map (fun u => (u, false)) := by simp [flagged]
theorem flagged_all (us : List U) : flagged us us.length = us.map (fun u => (u, okU u)) := by simp [flagged]
theorem flagged_get {us : List U} {k : Nat} {u : U} (h : us[k]? = some u) : (flagged us k)[k]? = some (u, false) := by
  obtain ⟨hk, rfl⟩ := List.getElem?_eq_some_iff.1 h
  unfold flagged
  rw [List.getElem?_append_right (by simp; omega)]
  simp [Nat.min_eq_left (Nat.le_of_lt hk)]
theorem flagged_set {us : List U} {k : Nat} {u : U} (h : us[k]? = some u) : (flagged us k).set k (u, okU u) = flagged us (k + 1) := by
  obtain ⟨hk, rfl⟩ := List.getElem?_eq_some_iff.1 h
  unfold flagged
  rw [List.set_append_right _ _ (by simp; omega), List.drop_eq_getElem_cons hk, List.take_succ_eq_append_getElem hk]
  simp only [List.map_cons, List.length_map, List.length_take, Nat.min_eq_left (Nat.le_of_lt hk), Nat.sub_self, List.set_cons_zero, List.map_append, List.map_nil, List.append_assoc, List.cons_append, List.nil_append]
/-- What can be read of an owned row, and where. -/
theorem OwnsR.cells {w : World} {base : Nat} {v : Value} {us : List (U × Bool)} (h : OwnsR w base v us) : ∃ A cap, v = .slice A us.length cap ∧ us.length ≤ cap ∧
    ∀ k x, us[k]? = some x → ∃ g, A = some ⟨g, 0, none⟩ ∧ base ≤ g ∧ g < w.heap.size ∧ w.cell? ⟨g, k * 4, none⟩ = some (.int .i32 x.1.1) ∧ w.cell? ⟨g, k * 4 + 1, none⟩ = some (.int .i64 x.1.2.1) ∧ w.cell? ⟨g, k * 4 + 2, none⟩ = some (.int .i64 x.1.2.2) ∧ w.cell? ⟨g, k * 4 + 3, none⟩ = some (.bool x.2) ∧
      ∀ j, w.frozen? ⟨g, j, none⟩ = false := by
  rcases h.2 with ⟨rfl, h0⟩ | ⟨g, cap, cur, rfl, hbg, hg, hle, hm, hcs, htk⟩
  · have : us = [] := List.eq_nil_of_length_eq_zero h0
    subst this
    exact ⟨none, 0, rfl, Nat.le_refl _, fun k x hx => by simp at hx⟩
  · refine ⟨_, cap, rfl, hle, fun k x hx => ⟨g, rfl, hbg, (Array.getElem?_eq_some_iff.1 hg).1, ?_⟩⟩
    have hk : k < us.length := (List.getElem?_eq_some_iff.1 hx).1
    have e : ∀ o, o < 4 → w.cell? ⟨g, k * 4 + o, none⟩ = (cellR x)[o]? := by
      intro o ho
      rw [cell_of_row w g _ cur 79 (0, 0) hg, ← cellsR_get us k x hx o ho, ← htk, List.getElem?_take, if_pos (by omega), Array.getElem?_toList]
    exact ⟨e 0 (by omega), e 1 (by omega), e 2 (by omega), e 3 (by omega), fun j => by simp [World.frozen?, hg]⟩

/-- A store into an owned row. -/
theorem OwnsR.store {w : World} {base g n cap : Nat} {us : List (U × Bool)} (h : OwnsR w base (.slice (some ⟨g, 0, none⟩) n cap) us) {k o : Nat} {x y : U × Bool} {v : Value} (hx : us[k]? = some x) (ho : o < 4) (hy : cellR y = (cellR x).set o v) :
    OwnsR (w.setCell ⟨g, k * 4 + o, none⟩ v) base (.slice (some ⟨g, 0, none⟩) n cap) (us.set k y) := by
  have hk : k < us.length := (List.getElem?_eq_some_iff.1 hx).1
  rcases h.2 with ⟨h0, _⟩ | ⟨g', cap', cur, hv, hbg, hg, hle, hm, hcs, htk⟩
  · cases h0
  · cases hv
    refine ⟨cellsR_length _, .inr ⟨g, cap, cur.setIfInBounds (k * 4 + o) v, by rw [List.length_set], hbg, setCell_heap_same hg _ _, by rw [List.length_set]; exact hle, hm, by rw [Array.size_setIfInBounds]; exact hcs, ?_⟩⟩
    rw [← cellsR_set us k x o v y hx ho hy, Array.toList_setIfInBounds, List.length_set, ← htk, List.take_set]

end Go.Proofs.Ytaaegelefknkeab
