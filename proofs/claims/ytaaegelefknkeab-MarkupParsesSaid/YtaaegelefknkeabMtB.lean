/- Lists of pairs as they lie; has. -/
import Derived.Test.YtaaegelefknkeabMsA
namespace Go.Proofs.Ytaaegelefknkeab
open Go.RowKit Go.Shelf
set_option linter.unusedSimpArgs false
abbrev Pr := ByteArray × ByteArray
/-- A list of pairs has the name n. -/
def hasF (l : List Pr) (n : ByteArray) : Bool := l.any fun p => p.1.toList == n.toList

/-- The slice v holds the pairs l. -/
structure RdP (W : World) (v : Value) (l : List Pr) (a : Option Addr) (cap : Nat) : Prop where
  eq : v = .slice a l.length cap
  le : l.length ≤ cap
  max : cap ≤ maxLen
  cells : ∀ i p, l[i]? = some p → ∃ b o, a = some ⟨b, o, none⟩ ∧ W.cell? ⟨b, o + i * 2, none⟩ = some (.string p.1) ∧ W.cell? ⟨b, o + i * 2 + 1, none⟩ = some (.string p.2)
theorem RdP.below {W W' : World} {v : Value} {l : List Pr} {a : Option Addr} {cap : Nat} (h : RdP W v l a cap) (hb : Below W.heap.size W W') : RdP W' v l a cap := by
  refine ⟨h.eq, h.le, h.max, fun i p hi => ?_⟩
  obtain ⟨b, o, h1, h2, h3⟩ := h.cells i p hi
  refine ⟨b, o, h1, ?_, ?_⟩
  · rw [← h2]; exact World.cell?_of_block (hb.block _ (World.block_lt_of_cell? W _ h2))
  · rw [← h3]; exact World.cell?_of_block (hb.block _ (World.block_lt_of_cell? W _ h3))

set_option maxHeartbeats 4000000 in
theorem has_any (l : List Pr) (n : ByteArray) (v : Value) (a : Option Addr) (cap : Nat) (w : World) (h : RdP w v l a cap) :
    Calls Try.prog 56 #[v, .string n] w fun e w' => e = .returned (.bool (hasF l n)) ∧ Below w.heap.size w w' := by
  obtain rfl := h.eq
  have hmx : l.length ≤ 9223372036854775807 := Nat.le_trans h.le h.max
  have HR := Lib.hid h
  clear h
  obtain ⟨r, hr⟩ : ∃ r, r = hasF l n := ⟨_, rfl⟩
  rw [← hr]
  have HE := Lib.hid hr
  clear hr
  go_enter Try.func56, Try.ntmps56
  go_wp2_with fail
  go_loopw [9] (fun i wr => ∃ k : Nat, i = .int .i64 k ∧ k ≤ l.length ∧ hasF (l.drop k) n = r ∧ Below w.heap.size w wr) (fun i _ => l.length - (intOf i).toNat)
  case atStart => exact ⟨0, rfl, by omega, HE.out.symm, Below.refl _ _⟩
  case round =>
    obtain ⟨k, rfl, hk, hh, hb⟩ := hrel
    have HB := Lib.hid hb
    have HR2 := Lib.hid (HR.out.below hb)
    clear hb
    by_cases hk1 : k < l.length
    · have hk1' : (k : Int) < l.length := by omega
      obtain ⟨p, hp⟩ : ∃ p, l[k]? = some p := ⟨l[k], List.getElem?_eq_getElem hk1⟩
      obtain ⟨b, o, rfl, hc0, hc1⟩ := HR2.out.cells k p hp
      have hd : l.drop k = p :: l.drop (k + 1) := by
        rw [List.drop_eq_getElem_cons hk1]
        rw [List.getElem?_eq_getElem hk1] at hp
        cases hp
        rfl
      have hh2 : (p.1.toList == n.toList || hasF (l.drop (k + 1)) n) = r := by
        rw [hd] at hh
        exact hh
      clear hd hh hp
      cases hq : (p.1.toList == n.toList) with
      | true =>
        rw [hq, Bool.true_or] at hh2
        subst hh2
        go_wp2
        go_ret
        exact ⟨rfl, HB.out.alloc HB.out.size _⟩
      | false =>
        rw [hq, Bool.false_or] at hh2
        have HH := Lib.hid hh2
        clear hh2
        go_wp2
        go_roundw
        case rel => exact ⟨k + 1, by go_num, by omega, HH.out, HB.out.alloc HB.out.size _⟩
        case measure => simp [intOf]; omega
    · have hk1' : ¬ (k : Int) < l.length := by omega
      have h0 : r = false := by
        rw [← hh, List.drop_eq_nil_of_le (by omega)]
        rfl
      subst h0
      go_wp2
      go_ret
      exact ⟨rfl, HB.out⟩
end Go.Proofs.Ytaaegelefknkeab
