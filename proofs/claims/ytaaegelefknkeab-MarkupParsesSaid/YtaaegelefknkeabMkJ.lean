/- The walk of Reverse. -/
import Derived.Test.YtaaegelefknkeabMkI
import Derived.Deep.RegionHeld3
import Derived.Deep.Draws
import Derived.StillTailTactics
namespace Go.Proofs.Ytaaegelefknkeab

open Go.RowKit Go.Shelf
set_option linter.unusedSimpArgs false

/-- The cells of an owned row of units. -/
structure UnitsAt (w : World) (v : Value) (us : List U) : Prop where
  ex : ∃ A cap, v = .slice A us.length cap ∧ (us = [] ∨ ∃ g, A = some ⟨g, 0, none⟩ ∧ ∀ (k : Nat) (hk : k < us.length), w.cell? ⟨g, k * 3, none⟩ = some (.int .i32 us[k].1) ∧ w.cell? ⟨g, k * 3 + 1, none⟩ = some (.int .i64 us[k].2.1) ∧ w.cell? ⟨g, k * 3 + 2, none⟩ = some (.int .i64 us[k].2.2))
theorem drop_cons {α : Type} {l : List α} {k : Nat} {x : α} (h : l[k]? = some x) : l.drop k = x :: l.drop (k + 1) := by
  obtain ⟨hk, rfl⟩ := List.getElem?_eq_some_iff.1 h
  exact List.drop_eq_getElem_cons hk
theorem nil_append_b (o : ByteArray) : (⟨#[]⟩ : ByteArray) ++ o = o := ByteArray.ext (by simp)
theorem append_nil_b (o : ByteArray) : o ++ (⟨#[]⟩ : ByteArray) = o := ByteArray.ext (by simp)
end Go.Proofs.Ytaaegelefknkeab
