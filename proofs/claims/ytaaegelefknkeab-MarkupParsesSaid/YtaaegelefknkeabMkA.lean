/- Walks of the leaves of package codepoint: Count. -/
import Derived.Test.YtaaegelefknkeabProg
import Derived.KernelRfl
import Derived.WalkKit
import Derived.LoopTactic
import Derived.Lib.OthersKept
import Derived.WalkSmall
import Derived.Lib.Hide
import Derived.Outline
namespace Go.Proofs.Ytaaegelefknkeab

open Go.RowKit

/-- The units of s from place pos on, by at most 'fuel' units: code point, place, size. -/
def unitsFrom (s : ByteArray) : Nat → Nat → List (Nat × Nat × Nat)
  | 0, _ => []
  | fuel + 1, pos => if pos < s.size then ((Utf8.decode s pos).1, pos, (Utf8.decode s pos).2) :: unitsFrom s fuel (pos + (Utf8.decode s pos).2) else []
def unitsOf (s : ByteArray) : List (Nat × Nat × Nat) := unitsFrom s s.size 0

theorem width_pos (s : ByteArray) (pos : Nat) (h : pos < s.size) : 1 ≤ (Utf8.decode s pos).2 := by
  by_cases ha : (s[pos]'h).toNat < 128
  · rw [decode_ascii s pos h ha]
    exact Nat.le_refl _
  · exact (decode_high s pos h (by omega)).2

theorem unitsFrom_end (s : ByteArray) (fuel pos : Nat) (h : ¬ pos < s.size) : unitsFrom s fuel pos = [] := by
  cases fuel with
  | zero => rfl
  | succ f => simp [unitsFrom, h]

theorem unitsFrom_len (s : ByteArray) : ∀ fuel pos, (unitsFrom s fuel pos).length ≤ fuel := by
  intro fuel
  induction fuel with
  | zero => intro pos; exact Nat.le_refl _
  | succ f ih => intro pos; unfold unitsFrom; split <;> simp; have := ih (pos + (Utf8.decode s pos).2); omega

end Go.Proofs.Ytaaegelefknkeab
