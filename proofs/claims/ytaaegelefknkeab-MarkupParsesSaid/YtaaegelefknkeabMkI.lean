/- The walk of Fold. -/
import Derived.Test.YtaaegelefknkeabMkH
namespace Go.Proofs.Ytaaegelefknkeab

open Go.RowKit Go.Shelf
attribute [local go_sem] Oper.semAt_some
set_option linter.unusedSimpArgs false

theorem unitsFrom_mem (s : ByteArray) (u : U) : ∀ fuel pos, u ∈ unitsFrom s fuel pos → u.1 = (Utf8.decode s u.2.1).1 ∧ u.2.2 = (Utf8.decode s u.2.1).2 ∧ u.2.1 < s.size := by
  intro fuel
  induction fuel with
  | zero => intro pos h; cases h
  | succ f ih =>
    intro pos h
    unfold unitsFrom at h
    split at h
    · rename_i hp
      rcases List.mem_cons.1 h with rfl | h
      · exact ⟨rfl, rfl, hp⟩
      · exact ih _ h
    · cases h
theorem decode_max (s : ByteArray) (pos : Nat) : (Utf8.decode s pos).1 ≤ 1114111 := by
  have hb : ∀ k, (s.get! (pos + k)).toNat < 256 := fun k => (s.get! (pos + k)).toNat_lt
  have h0 := hb 0; have h1 := hb 1; have h2 := hb 2; have h3 := hb 3
  simp only [Utf8.decode]
  repeat' split
  all_goals simp_all [Utf8.runeError, Utf8.valid]
  all_goals omega

structure GoodU (s : ByteArray) (u : U) : Prop where
  r : u.1 ≤ 1114111
  fit : u.2.1 + u.2.2 ≤ s.size
  w1 : 1 ≤ u.2.2
  w4 : u.2.2 ≤ 4
theorem goodU {s : ByteArray} {u : U} (h : u ∈ unitsOf s) : GoodU s u := by
  obtain ⟨h1, h2, h3⟩ := unitsFrom_mem s u _ _ h
  exact ⟨by rw [h1]; exact decode_max s _, by rw [h2]; exact decode_fits s _ h3, by rw [h2]; exact width_pos s _ h3, by rw [h2]; exact decode_size s _⟩

/-- The bytes of a unit. -/
def bytesU (s : ByteArray) (u : U) : ByteArray := s.extract u.2.1 (u.2.1 + u.2.2)
theorem bytesU_size (s : ByteArray) (u : U) : (bytesU s u).size ≤ u.2.2 := by
  unfold bytesU
  rw [ByteArray.size_extract]
  omega
end Go.Proofs.Ytaaegelefknkeab
