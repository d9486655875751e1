/- equal, at equal tags. -/
import Derived.Test.YtaaegelefknkeabNtQ
namespace Go.Proofs.Ytaaegelefknkeab
open Go.RowKit Go.Shelf
set_option linter.unusedSimpArgs false

theorem tag_of_any {W : World} {B : Nat} {x y z : Value} {t : TypeId} (h : W.heap[B]? = some (.cells #[x, y, z] t (0, 0))) :
    W.cell? ⟨B, 0, none⟩ = some x ∧ W.cell? ⟨B, 1, none⟩ = some y ∧ W.cell? ⟨B, 2, none⟩ = some z := ⟨(tag_of_row h).1, (tag_of_row h).2.1, (tag_of_row h).2.2.1⟩

set_option maxHeartbeats 4000000 in
theorem equal_same (c : Bool) (n : ByteArray) (l : List Pr) (v v' : Value) (a a' : Option Addr) (cap cap' : Nat) (w : World) (h : RdP w v l a cap) (h' : RdP w v' l a' cap') :
    Calls Try.prog 25 #[.agg #[.bool c, .string n, v], .agg #[.bool c, .string n, v']] w fun e w' => e = .returned (.bool true) ∧ Below w.heap.size w w' := by
  obtain rfl := h.eq
  obtain rfl := h'.eq
  have hmx : l.length ≤ 9223372036854775807 := Nat.le_trans h.le h.max
  obtain ⟨W1, hW1⟩ : ∃ W1, w.alloc (.cells #[.bool c, .string n, .slice a l.length cap] 33) = W1 := ⟨_, rfl⟩
  obtain ⟨W2, hW2⟩ : ∃ W2, W1.alloc (.cells #[.bool c, .string n, .slice a' l.length cap'] 36) = W2 := ⟨_, rfl⟩
  have z1 : W1.heap.size = w.heap.size + 1 := by rw [← hW1, World.size_alloc]
  have b1 : Below w.heap.size w W1 := by rw [← hW1]; exact b0 w _
  have b2 : Below W1.heap.size W1 W2 := by rw [← hW2]; exact b0 W1 _
  have r1 : W2.heap[w.heap.size]? = some (.cells #[.bool c, .string n, .slice a l.length cap] 33 (0, 0)) := by
    rw [b2.block _ (by omega), ← hW1]; exact heap_alloc_new w _
  have r2 : W2.heap[w.heap.size + 1]? = some (.cells #[.bool c, .string n, .slice a' l.length cap'] 36 (0, 0)) := by
    rw [← hW2, ← z1]; exact heap_alloc_new W1 _
  have hb : Below w.heap.size w W2 := bchain b1 b2
  have HR := Lib.hid (h.below hb)
  have HR' := Lib.hid (h'.below hb)
  have HB := Lib.hid hb
  have HR1 := Lib.hid r1
  have HR2 := Lib.hid r2
  have HW : Hid ((w.alloc (.cells #[.bool c, .string n, .slice a l.length cap] 33)).alloc (.cells #[.bool c, .string n, .slice a' l.length cap'] 36) = W2) := Lib.hid (by rw [hW1, hW2])
  clear h h' hb r1 r2 b1 b2 z1 hW1 hW2
  obtain ⟨x0, x1, x2⟩ := tag_of_any HR1.out
  obtain ⟨y0, y1, y2⟩ := tag_of_any HR2.out
  go_enter Try.func25, Try.ntmps25
  go_wp2_with fail
  rw [HW.out]
  clear x0 x1 x2 y0 y1 y2
  go_loopw [30] (fun i wr => ∃ k : Nat, i = .int .i64 k ∧ k ≤ l.length ∧ Below W2.heap.size W2 wr) (fun i _ => l.length - (intOf i).toNat)
  case atStart => exact ⟨0, rfl, by omega, Below.refl _ _⟩
  case round =>
    obtain ⟨k, rfl, hk, hb⟩ := hrel
    have HBr := Lib.hid hb
    obtain ⟨x0, x1, x2⟩ := tag_of_any ((hb.block _ (Array.getElem?_eq_some_iff.1 HR1.out).1).trans HR1.out)
    obtain ⟨y0, y1, y2⟩ := tag_of_any ((hb.block _ (Array.getElem?_eq_some_iff.1 HR2.out).1).trans HR2.out)
    have HK := Lib.hid (HR.out.below hb)
    have HK' := Lib.hid (HR'.out.below hb)
    clear hb
    by_cases hk1 : k < l.length
    · have hk1' : (k : Int) < l.length := by omega
      obtain ⟨p, hp⟩ : ∃ p, l[k]? = some p := ⟨l[k], List.getElem?_eq_getElem hk1⟩
      obtain ⟨b, o, rfl, hc0, hc1⟩ := HK.out.cells k p hp
      obtain ⟨b', o', rfl, hc0', hc1'⟩ := HK'.out.cells k p hp
      clear hp
      go_wp2_with fail
      go_quiet (fail)
      go_wp2
      go_roundw
      case rel => exact ⟨k + 1, by go_num, by omega, HBr.out.trans ((below_drewN (Below.refl _ _) nq).mono HBr.out.size)⟩
      case measure => simp [intOf]; omega
    · have hk1' : ¬ (k : Int) < l.length := by omega
      go_wp2
      go_ret
      exact ⟨rfl, HB.out.trans (HBr.out.mono HB.out.size)⟩
end Go.Proofs.Ytaaegelefknkeab
