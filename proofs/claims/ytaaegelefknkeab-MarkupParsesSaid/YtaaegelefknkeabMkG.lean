/- Rows of units and of bytes that a call owns; the walk of list. -/
import Derived.Test.YtaaegelefknkeabMkF
import Derived.Maps.AppendAt
import Derived.Lib.AppendStr
import Derived.Laws.BytesArg
namespace Go.Proofs.Ytaaegelefknkeab

open Go.RowKit Go.Shelf
attribute [local go_sem] Oper.semAt_some

theorem ownsRow_base {w : World} {b b' : Nat} {e : TypeId} {size : Nat} {v : Value} {n : Nat} {xs : List Value} (h : w.ownsRow b e size v n xs) (hb : b' ≤ b) : w.ownsRow b' e size v n xs := by
  refine ⟨h.1, ?_⟩
  rcases h.2 with hn | ⟨g, cap, cur, rfl, hbg, rest⟩
  · exact .inl hn
  · exact .inr ⟨g, cap, cur, rfl, Nat.le_trans hb hbg, rest⟩

/-- The block of a row that lies at or beyond 'base' and is of the element's type is none of those that hold another type. -/
theorem ownsRow_ne {w : World} {base k : Nat} {e : TypeId} {size : Nat} {v : Value} {n : Nat} {xs : List Value} (h : w.ownsRow base e size v n xs) (hk : k < base) : v.ownBlock ≠ some k := by
  intro e'
  have := (h.lt k e').1
  omega

theorem ownsRow_stab {w w' : World} {base : Nat} {e : TypeId} {size : Nat} {v : Value} {n : Nat} {xs : List Value} {row : Option Nat} (h : w.ownsRow base e size v n xs) (hg : w.grownBy w' row) (hr : ∀ k, row = some k → k < base) : w'.ownsRow base e size v n xs := by
  refine h.kept hg ?_
  cases hv : v.ownBlock with
  | none => exact .inl rfl
  | some k =>
    refine .inr fun e' => ?_
    have h1 := hr k e'.symm
    have h2 := (h.lt k hv).1
    omega

/-- The cells of units. -/
def cellsU (us : List U) : List Value := us.flatMap fun u => [.int .i32 u.1, .int .i64 u.2.1, .int .i64 u.2.2]
theorem cellsU_append (a b : List U) : cellsU (a ++ b) = cellsU a ++ cellsU b := by simp [cellsU]
theorem cellsU_length (us : List U) : (cellsU us).length = us.length * 3 := by
  induction us with
  | nil => rfl
  | cons u us ih => simp only [cellsU, List.flatMap_cons, List.length_append, List.length_cons, List.length_nil] at ih ⊢; omega
theorem cellsU_get (us : List U) : ∀ (k : Nat) (hk : k < us.length), (cellsU us)[3 * k]? = some (.int .i32 us[k].1) ∧ (cellsU us)[3 * k + 1]? = some (.int .i64 us[k].2.1) ∧ (cellsU us)[3 * k + 2]? = some (.int .i64 us[k].2.2) := by
  induction us with
  | nil => intro k hk; simp at hk
  | cons u us ih =>
    intro k hk
    cases k with
    | zero => simp [cellsU]
    | succ k =>
      have h := ih k (by simpa using hk)
      have e : ∀ o, (cellsU (u :: us))[3 * (k + 1) + o]? = (cellsU us)[3 * k + o]? := by
        intro o
        show ([.int .i32 u.1, .int .i64 u.2.1, .int .i64 u.2.2] ++ cellsU us)[3 * (k + 1) + o]? = _
        rw [List.getElem?_append_right (by simp; omega)]
        congr 1
        simp; omega
      have e0 := e 0; have e1 := e 1; have e2 := e 2
      simp only [Nat.add_zero] at e0
      rw [e0, e1, e2]
      simpa using h

theorem cell_three_new (w : World) (a b c : Value) (t : TypeId) : ∀ j u, [a, b, c][j]? = some u → (w.alloc (.cells #[a, b, c] t)).cell? ((⟨w.heap.size, 0, none⟩ : Addr).add j) = some u := by
  intro j u hu
  have hadd : (⟨w.heap.size, 0, none⟩ : Addr).add j = ⟨w.heap.size, j, none⟩ := by unfold Addr.add; split <;> simp_all
  rw [hadd, cell_of_row _ w.heap.size j #[a, b, c] t (0, 0) (heap_alloc_new w _)]
  simpa using hu

end Go.Proofs.Ytaaegelefknkeab
