/- Walks of the leaves of package codepoint: Count. -/
import Derived.Test.YtaaegelefknkeaaProg
import Derived.KernelRfl
import Derived.WalkKit
import Derived.LoopTactic
import Derived.Lib.OthersKept
import Derived.WalkSmall
import Derived.Lib.Hide
import Derived.Outline
namespace Go.Proofs.Ytaaegelefknkeaa
open Go.RowKit

/-- The units of s from place pos on, by at most 'fuel' units: code point, place, size. -/
def unitsFrom (s : ByteArray) : Nat → Nat → List (Nat × Nat × Nat)
  | 0, _ => []
  | fuel + 1, pos => if pos < s.size then ((Utf8.decode s pos).1, pos, (Utf8.decode s pos).2) :: unitsFrom s fuel (pos + (Utf8.decode s pos).2) else []
def unitsOf (s : ByteArray) : List (Nat × Nat × Nat) := unitsFrom s s.size 0

theorem width_pos (s : ByteArray) (pos : Nat) (h : pos < s.size) : 1 ≤ (Utf8.decode s pos).2 := by
  by_cases ha : (s[pos]'h).toNat < 128
  · rw [decode_ascii s pos h ha]
    exact Nat.le_refl _
  · exact (decode_high s pos h (by omega)).2

theorem unitsFrom_end (s : ByteArray) (fuel pos : Nat) (h : ¬ pos < s.size) : unitsFrom s fuel pos = [] := by
  cases fuel with
  | zero => rfl
  | succ f => simp [unitsFrom, h]

theorem unitsFrom_len (s : ByteArray) : ∀ fuel pos, (unitsFrom s fuel pos).length ≤ fuel := by
  intro fuel
  induction fuel with
  | zero => intro pos; exact Nat.le_refl _
  | succ f ih => intro pos; unfold unitsFrom; split <;> simp; have := ih (pos + (Utf8.decode s pos).2); omega

set_option maxHeartbeats 1000000 in
theorem Count_any (s : ByteArray) (w : World) (hs : s.size ≤ 140737488351232) :
    Calls Try.prog 22 #[.string s] w fun e w' => e = .returned (.int .i64 (unitsOf s).length) ∧ Below w.heap.size w w' := by
  go_enter Try.func22, Try.ntmps22
  go_wp2
  go_loopw [3] (fun n wr => ∃ (pos fuel k : Nat), wr.heap[w.heap.size]? = some (.stringIter s pos) ∧ n = .int .i64 k ∧ k + (unitsFrom s fuel pos).length = (unitsOf s).length ∧ s.size ≤ pos + fuel ∧ Below w.heap.size w wr) (fun _ wr => s.size - wr.iterPos w.heap.size)
  case atStart => exact ⟨0, s.size, 0, World.iter_heap w s 0, rfl, by simp [unitsOf], by omega, (Below.refl _ w).alloc (Nat.le_refl _) _⟩
  case round =>
    obtain ⟨pos, fuel, k, hit, rfl, hk, hf, hb⟩ := hrel
    by_cases hp : pos < s.size
    · have hnx : ∀ ty, (Instr.next (.pointer (some ⟨w.heap.size, 0, none⟩)) true ty).run Try.prog wr = _ := fun ty => Lib.run_next_any_at wr w.heap.size s pos ty hit hp
      have hl := unitsFrom_len s s.size 0
      have hkb : (k : Int) < 140737488351232 := by
        have : (unitsOf s).length ≤ s.size := hl
        have hw : 1 ≤ (unitsFrom s fuel pos).length := by
          obtain ⟨f, rfl⟩ : ∃ f, fuel = f + 1 := ⟨fuel - 1, by omega⟩
          simp [unitsFrom, hp]
        omega
      have hwd := width_pos s pos hp
      have HK : Hid _ := Lib.hid hk
      clear hk hl
      go_wp2
      go_roundw
      case rel =>
        obtain ⟨f, rfl⟩ : ∃ f, fuel = f + 1 := ⟨fuel - 1, by omega⟩
        refine ⟨pos + (Utf8.decode s pos).2, f, k + 1, Lib.iterAt_heap wr w.heap.size s pos _ hit, by go_num, ?_, by omega, Lib.below_iterAt hb (Nat.le_refl _) s _⟩
        rw [← HK.out]; simp [unitsFrom, hp]; omega
      case measure =>
        simp only [World.iterPos, hit, Lib.iterAt_heap wr w.heap.size s pos _ hit]
        omega
    · have hnx : ∀ ty, (Instr.next (.pointer (some ⟨w.heap.size, 0, none⟩)) true ty).run Try.prog wr = _ := fun ty => Lib.run_next_end_at wr w.heap.size s pos ty hit hp
      rw [unitsFrom_end s fuel pos hp] at hk
      obtain rfl : k = (unitsOf s).length := by simpa using hk
      clear hk
      go_wp2
      go_ret
      exact ⟨rfl, hb⟩
end Go.Proofs.Ytaaegelefknkeaa
