/- ParseTag. -/
import Derived.Test.YtaaegelefknkeabMtG
import Derived.Recover
namespace Go.Proofs.Ytaaegelefknkeab
open Go.RowKit Go.Shelf
set_option linter.unusedSimpArgs false

/-- What a recovered fault leaves in the results' cells. -/
structure TC (W : World) (A B C : Nat) (a n : Int) : Prop where
  x0 : W.cell? ⟨A, 0, none⟩ = some (.bool false)
  x1 : W.cell? ⟨A, 1, none⟩ = some (.string ⟨#[]⟩)
  x2 : W.cell? ⟨A, 2, none⟩ = some (.slice none 0 0)
  xa : W.cell? ⟨B, 0, none⟩ = some (.int .i64 a)
  xe : W.cell? ⟨C, 0, none⟩ = some (.int .i64 n)
theorem below_set {K : Nat} {w W : World} (h : Below K w W) {B : Nat} (hB : K ≤ B) (o : Nat) (v : Value) : Below K w (W.setCell ⟨B, o, none⟩ v) :=
  h.trans ⟨rfl, rfl, rfl, (KeepsWalks.setCell W _ v).size, fun k hk => Below.heap_setCell _ _ _ _ (show k ≠ B by omega)⟩
theorem below_drew1 {K : Nat} {w W : World} (h : Below K w W) : Below K w W.drew := h.trans ⟨rfl, rfl, rfl, Nat.le_refl _, fun _ _ => rfl⟩
theorem one_of_row {W : World} {B : Nat} {x : Value} {t : TypeId} (h : W.heap[B]? = some (.cells #[x] t (0, 0))) : W.cell? ⟨B, 0, none⟩ = some x ∧ W.frozen? ⟨B, 0, none⟩ = false := by
  refine ⟨?_, ?_⟩
  · rw [cell_of_row _ B 0 _ t (0, 0) h]; rfl
  · simp [World.frozen?, h]
theorem two_of_row {W : World} {B : Nat} {x y : Value} {t : TypeId} (h : W.heap[B]? = some (.cells #[x, y] t (0, 0))) : W.cell? ⟨B, 0, none⟩ = some x ∧ W.cell? ⟨B, 1, none⟩ = some y := by
  refine ⟨?_, ?_⟩
  · rw [cell_of_row _ B 0 _ t (0, 0) h]; rfl
  · rw [cell_of_row _ B 1 _ t (0, 0) h]; rfl
set_option maxHeartbeats 1000000 in
theorem catch_panicking (A B C : Nat) (x y z b c : Value) (a n : Int) (older : List PanicEntry) (w : World)
    (hA : w.heap[A]? = some (.cells #[x, y, z] 33 (0, 0))) (hB : w.heap[B]? = some (.cells #[b] 3 (0, 0))) (hC : w.heap[C]? = some (.cells #[c] 24 (0, 0))) (K : Nat) (hKA : K ≤ A) (hKB : K ≤ B) (hKC : K ≤ C) (hKw : K ≤ w.heap.size) :
    CallsD Try.prog 40 #[.pointer (some ⟨A, 0, none⟩), .pointer (some ⟨B, 0, none⟩), .pointer (some ⟨C, 0, none⟩)] (.panicking ({ v := .iface 59 (.agg #[.int .i64 a, .int .i64 n]), recovered := false } :: older)) w fun e u' w' =>
      e = .returned (.tuple #[]) ∧ u' = .panicking ({ v := .iface 59 (.agg #[.int .i64 a, .int .i64 n]), recovered := true } :: older) ∧ Below K w w' ∧ TC w' A B C a n := by
  refine callsD_of_wpS Try.func40 rfl fun c₀ cs hu => ?_
  apply wpS_seq
  apply wpS_region
  have hta : ∀ w : World, (Instr.typeAssert (.iface 59 (.agg #[.int .i64 a, .int .i64 n])) 20 59 true).run Try.prog w = .ok (.tuple #[.agg #[.int .i64 a, .int .i64 n], .bool true]) w := fun w => by
    kernel_rfl
  have hrep : Array.replicate 13 undef = #[undef, undef, undef, undef, undef, undef, undef, undef, undef, undef, undef, undef, undef] := rfl
  have hz : (zeroValue 59).run Try.prog w = .ok (.agg #[.int .i64 0, .int .i64 0]) w := by kernel_rfl
  simp [wpOpsS, go_sem, recoverD, hu, Try.ntmps40, Exit.thenS, hta, hrep]
  apply wpS_seq
  apply wpS_region
  simp [wpOpsS, go_sem, recoverD, Exit.thenS]
  refine wpS_cond (t := true) (by simp [Act.eval]) ?_
  simp only [if_true]
  refine wpS_of_wp ?_
  obtain ⟨W1, hW1⟩ : ∃ W1, w.alloc (.cells #[.int .i64 a, .int .i64 n] 59) = W1 := ⟨_, rfl⟩
  have hb := b0 w (.cells #[.int .i64 a, .int .i64 n] 59)
  have hN := heap_alloc_new w (.cells #[.int .i64 a, .int .i64 n] 59)
  have hA2 := (hb.block A (Array.getElem?_eq_some_iff.1 hA).1).trans hA
  have hB2 := (hb.block B (Array.getElem?_eq_some_iff.1 hB).1).trans hB
  have hC2 := (hb.block C (Array.getElem?_eq_some_iff.1 hC).1).trans hC
  rw [hW1] at hN hA2 hB2 hC2 hb ⊢
  obtain ⟨a0, a1, a2, af0, af1, af2⟩ := tag_of_row hA2
  obtain ⟨b0, bf0⟩ := one_of_row hB2
  obtain ⟨c0, cf0⟩ := one_of_row hC2
  obtain ⟨n0, n1⟩ := two_of_row hN
  have eAB : A ≠ B := by rintro rfl; rw [hA] at hB; simp at hB
  have eAC : A ≠ C := by rintro rfl; rw [hA] at hC; simp at hC
  have eBC : B ≠ C := by rintro rfl; rw [hB] at hC; simp at hC
  have eBA := Ne.symm eAB
  have eCA := Ne.symm eAC
  have eCB := Ne.symm eBC
  have eAN : A ≠ w.heap.size := Nat.ne_of_lt (Array.getElem?_eq_some_iff.1 hA).1
  have eBN : B ≠ w.heap.size := Nat.ne_of_lt (Array.getElem?_eq_some_iff.1 hB).1
  have eCN : C ≠ w.heap.size := Nat.ne_of_lt (Array.getElem?_eq_some_iff.1 hC).1
  have eNA := Ne.symm eAN
  have eNB := Ne.symm eBN
  have eNC := Ne.symm eCN
  have HA := Lib.hid hA2
  have HB := Lib.hid hB2
  have HC := Lib.hid hC2
  have HBL := Lib.hid hb
  have HA0 := Lib.hid hA
  have HB0 := Lib.hid hB
  have HC0 := Lib.hid hC
  clear hA2 hB2 hC2 hb hA hB hC hN hW1 hu hta
  go_region_held3 (fun w' => w'.cell? ⟨w.heap.size, 0, none⟩ = some (.int .i64 a) ∧ w'.cell? ⟨w.heap.size, 1, none⟩ = some (.int .i64 n)) (go_keep) (fail)
  all_goals
    simp [bodyPostS, results, Try.results40]
    refine ⟨?_, ?_⟩
    · repeat' first | exact HBL.out.mono hKw | (refine below_drew1 ?_) | (refine below_set ?_ (by assumption) _ _)
    · constructor <;> simp [*, World.cell?_setCell_far, World.cell?_setCell_same', World.cell?_setCell_other]
set_option maxHeartbeats 1000000 in
theorem catch_idle (A B C : Nat) (w : World) :
    CallsD Try.prog 40 #[.pointer (some ⟨A, 0, none⟩), .pointer (some ⟨B, 0, none⟩), .pointer (some ⟨C, 0, none⟩)] .returning w fun e u' w' =>
      e = .returned (.tuple #[]) ∧ u' = .returning ∧ Below w.heap.size w w' := by
  refine callsD_of_wpS Try.func40 rfl fun c₀ cs hu => ?_
  apply wpS_seq
  apply wpS_region
  have hta : ∀ w : World, (Instr.typeAssert .nilIface 20 59 true).run Try.prog w = .ok (.tuple #[.agg #[.int .i64 0, .int .i64 0], .bool false]) w := fun w => by
    kernel_rfl
  have hrep : Array.replicate 13 undef = #[undef, undef, undef, undef, undef, undef, undef, undef, undef, undef, undef, undef, undef] := rfl
  simp [wpOpsS, go_sem, recoverD, hu, Try.ntmps40, Exit.thenS, hta, hrep]
  apply wpS_seq
  apply wpS_region
  simp [wpOpsS, go_sem, recoverD, Exit.thenS]
  refine wpS_cond (t := false) (by simp [Act.eval]) ?_
  simp only [Bool.false_eq_true, if_false]
  refine wpS_of_wp (wp_skip ?_)
  have hb := b0 w (.cells #[.int .i64 0, .int .i64 0] 59)
  cases c₀
  simp_all [bodyPostS, results, Try.results40]

theorem tag_ok {X : Nat} {s : ByteArray} {q : Tg} (hs : s.size ≤ 1000000) (h : tagF s = .ok q) (w : World) (hx : SX w X s 0) :
    Calls Try.prog 41 #[.pointer (some ⟨X, 0, none⟩)] w fun e w' => ∃ v, e = .returned (.agg #[.bool q.1, .string q.2.1, v]) ∧ Sc X w w' ∧ OwnsP w' w.heap.size v q.2.2 := by
  refine (tag_any X s hs w hx).mono ?_
  rintro e w' ⟨h1, h2⟩
  rw [h] at h2
  obtain ⟨v, h3, h4⟩ := h2
  exact ⟨v, h3, h1, h4⟩
theorem tag_err {X : Nat} {s : ByteArray} {q : Nat × Int} (hs : s.size ≤ 1000000) (h : tagF s = .error q) (w : World) (hx : SX w X s 0) :
    Calls Try.prog 41 #[.pointer (some ⟨X, 0, none⟩)] w fun e w' => e = .panicked [{ v := .iface 59 (.agg #[.int .i64 q.1, .int .i64 q.2]), recovered := false }] ∧ Sc X w w' := by
  refine (tag_any X s hs w hx).mono ?_
  rintro e w' ⟨h1, h2⟩
  rw [h] at h2
  exact ⟨h2, h1⟩
/-- How ParseTag ends. -/
def PtPost (base : Nat) (r : Except (Nat × Int) Tg) (e : Ending) (w' : World) : Prop :=
  match r with
  | .ok q => ∃ v, e = .returned (.tuple #[.agg #[.bool q.1, .string q.2.1, v], .int .i64 0, .int .i64 0]) ∧ OwnsP w' base v q.2.2
  | .error q => e = .returned (.tuple #[.agg #[.bool false, .string ⟨#[]⟩, .slice none 0 0], .int .i64 q.1, .int .i64 q.2])

set_option maxHeartbeats 1000000 in
theorem ParseTag_any (s : ByteArray) (hs : s.size ≤ 1000000) (w : World) :
    Calls Try.prog 23 #[.string s] w fun e w' => PtPost w.heap.size (tagF s) e w' ∧ Below w.heap.size w w' := by
  have hmf : ∀ (fn : Fn) (first cap : Array Value) (w : World), (Instr.makeFunc fn first cap).run Try.prog w = .ok (.func fn first cap) w := fun _ _ _ _ => rfl
  obtain ⟨W1, hW1⟩ : ∃ W1, W1 = w.alloc (.cells #[.bool false, .string ⟨#[]⟩, .slice none 0 0] 33) := ⟨_, rfl⟩
  obtain ⟨W2, hW2⟩ : ∃ W2, W2 = W1.alloc (.cells #[.int .i64 0] 3) := ⟨_, rfl⟩
  obtain ⟨W3, hW3⟩ : ∃ W3, W3 = W2.alloc (.cells #[.int .i64 0] 24) := ⟨_, rfl⟩
  obtain ⟨W4, hW4⟩ : ∃ W4, W4 = W3.alloc (.cells #[.string s, .int .i64 0] 62) := ⟨_, rfl⟩
  have z1 : W1.heap.size = w.heap.size + 1 := by rw [hW1, World.size_alloc]
  have z2 : W2.heap.size = w.heap.size + 2 := by rw [hW2, World.size_alloc, z1]
  have z3 : W3.heap.size = w.heap.size + 3 := by rw [hW3, World.size_alloc, z2]
  have b1 : Below w.heap.size w W1 := by rw [hW1]; exact b0 w _
  have b2 : Below W1.heap.size W1 W2 := by rw [hW2]; exact b0 W1 _
  have b3 : Below W2.heap.size W2 W3 := by rw [hW3]; exact b0 W2 _
  have b4 : Below W3.heap.size W3 W4 := by rw [hW4]; exact b0 W3 _
  have rA : W4.heap[w.heap.size]? = some (.cells #[.bool false, .string ⟨#[]⟩, .slice none 0 0] 33 (0, 0)) := by
    rw [b4.block _ (by omega), b3.block _ (by omega), b2.block _ (by omega), hW1]; exact heap_alloc_new w _
  have rB : W4.heap[w.heap.size + 1]? = some (.cells #[.int .i64 0] 3 (0, 0)) := by
    rw [b4.block _ (by omega), b3.block _ (by omega), hW2, ← z1]; exact heap_alloc_new W1 _
  have rC : W4.heap[w.heap.size + 2]? = some (.cells #[.int .i64 0] 24 (0, 0)) := by
    rw [b4.block _ (by omega), hW3, ← z2]; exact heap_alloc_new W2 _
  have rX : SX W4 (w.heap.size + 3) s 0 := by
    show W4.heap[w.heap.size + 3]? = _
    rw [hW4, ← z3]; exact heap_alloc_new W3 _
  have hb4 : Below w.heap.size w W4 := bchain (bchain (bchain b1 b2) b3) b4
  have hw4 : w.heap.size ≤ W4.heap.size := hb4.size
  have HX4 := Lib.hid rX
  have hz4 : W4.heap.size = w.heap.size + 4 := by rw [hW4, World.size_alloc, z3]
  have HRA := Lib.hid rA
  have HRB := Lib.hid rB
  have HRC := Lib.hid rC
  have HB4 := Lib.hid hb4
  clear rA rB rC hb4 b1 b2 b3 b4 z1 z2 z3 rX
  have HW : Hid ((((w.alloc (.cells #[.bool false, .string ⟨#[]⟩, .slice none 0 0] 33)).alloc (.cells #[.int .i64 0] 3)).alloc (.cells #[.int .i64 0] 24)).alloc (.cells #[.string s, .int .i64 0] 62) = W4) := Lib.hid (by rw [hW4, hW3, hW2, hW1])
  clear hW1 hW2 hW3 hW4
  cases hr : tagF s with
  | error q =>
    obtain ⟨q1, q2⟩ := q
    have HT := Lib.hid hr
    clear hr
    go_enter_defers Try.func23, Try.ntmps23
    go_wp2_with (go_at_call 41; rw [HW.out]; refine (tag_err hs HT.out _ HX4.out).mono ?_; rintro e w5 ⟨rfl, hsc⟩)
    refine leaves_cons (f := 40) (args := #[.pointer (some ⟨w.heap.size, 0, none⟩), .pointer (some ⟨w.heap.size + 1, 0, none⟩), .pointer (some ⟨w.heap.size + 2, 0, none⟩)]) (by simp) (by simp [go_sem]) ?_
    have hsz := hsc.size
    refine (catch_panicking w.heap.size (w.heap.size + 1) (w.heap.size + 2) _ _ _ _ _ q1 q2 [] w5 (hsc.kept HRA.out (by omega)) (hsc.kept HRB.out (by omega)) (hsc.kept HRC.out (by omega)) w.heap.size (Nat.le_refl _) (by omega) (by omega) (by omega)).mono ?_
    rintro e u' w6 ⟨rfl, rfl, hb6, hc6⟩
    have hB : Below w.heap.size w w6 := (HB4.out.trans ⟨hsc.os, hsc.tape, hsc.output, hsc.size, fun k hk => hsc.block k (by omega) (by omega)⟩).trans hb6
    simp [Leaves, settle, results, Try.results23, go_sem, hc6.x0, hc6.x1, hc6.x2, hc6.xa, hc6.xe]
    exact ⟨rfl, hB⟩
  | ok q =>
    obtain ⟨q1, q2, q3⟩ := q
    have HT := Lib.hid hr
    clear hr
    go_enter_defers Try.func23, Try.ntmps23
    go_wp2_with (go_at_call 41; rw [HW.out]; refine (tag_ok hs HT.out _ HX4.out).mono ?_; rintro e w5 ⟨v, rfl, hsc, hown⟩; obtain ⟨o5, c5, rfl⟩ := hown.lenv; have hrA := hsc.kept HRA.out (by omega); have hrB := hsc.kept HRB.out (by omega); have hrC := hsc.kept HRC.out (by omega); obtain ⟨a0, a1, a2, af0, af1, af2⟩ := tag_of_row hrA; obtain ⟨b0, bf0⟩ := one_of_row hrB; obtain ⟨c0, cf0⟩ := one_of_row hrC)
    refine leaves_cons (f := 40) (args := #[.pointer (some ⟨w.heap.size, 0, none⟩), .pointer (some ⟨w.heap.size + 1, 0, none⟩), .pointer (some ⟨w.heap.size + 2, 0, none⟩)]) (by simp) (by simp [go_sem]) ?_
    refine (catch_idle w.heap.size (w.heap.size + 1) (w.heap.size + 2) _).mono ?_
    rintro e u' w7 ⟨rfl, rfl, hb7⟩
    have hb5 : Below w.heap.size w w5 := HB4.out.trans ⟨hsc.os, hsc.tape, hsc.output, hsc.size, fun k hk => hsc.block k (by omega) (by omega)⟩
    have hT0 : w7.cell? ⟨w.heap.size, 0, none⟩ = some (.bool q1) := by
      rw [World.cell?_of_block (hb7.block _ (World.block_lt_of_cell? _ _ (show _ = some (Value.bool q1) by simp [*, World.cell?_setCell_far, World.cell?_setCell_same', World.cell?_setCell_other])))]
      simp [*, World.cell?_setCell_far, World.cell?_setCell_same', World.cell?_setCell_other]
    have hT1 : w7.cell? ⟨w.heap.size, 1, none⟩ = some (.string q2) := by
      rw [World.cell?_of_block (hb7.block _ (World.block_lt_of_cell? _ _ (show _ = some (Value.string q2) by simp [*, World.cell?_setCell_far, World.cell?_setCell_same', World.cell?_setCell_other])))]
      simp [*, World.cell?_setCell_far, World.cell?_setCell_same', World.cell?_setCell_other]
    have hT2 : w7.cell? ⟨w.heap.size, 2, none⟩ = some (.slice o5 q3.length c5) := by
      rw [World.cell?_of_block (hb7.block _ (World.block_lt_of_cell? _ _ (show _ = some (Value.slice o5 q3.length c5) by simp [*, World.cell?_setCell_far, World.cell?_setCell_same', World.cell?_setCell_other])))]
      simp [*, World.cell?_setCell_far, World.cell?_setCell_same', World.cell?_setCell_other]
    have hT3 : w7.cell? ⟨w.heap.size + 1, 0, none⟩ = some (.int .i64 0) := by
      rw [World.cell?_of_block (hb7.block _ (World.block_lt_of_cell? _ _ (show _ = some (Value.int .i64 0) by simp [*, World.cell?_setCell_far, World.cell?_setCell_same', World.cell?_setCell_other])))]
      simp [*, World.cell?_setCell_far, World.cell?_setCell_same', World.cell?_setCell_other]
    have hT4 : w7.cell? ⟨w.heap.size + 2, 0, none⟩ = some (.int .i64 0) := by
      rw [World.cell?_of_block (hb7.block _ (World.block_lt_of_cell? _ _ (show _ = some (Value.int .i64 0) by simp [*, World.cell?_setCell_far, World.cell?_setCell_same', World.cell?_setCell_other])))]
      simp [*, World.cell?_setCell_far, World.cell?_setCell_same', World.cell?_setCell_other]
    have hB : Below w.heap.size w w7 := (below_set (below_set (below_set (below_set (below_set hb5 (Nat.le_refl _) _ _) (Nat.le_refl _) _ _) (Nat.le_refl _) _ _) (Nat.le_succ _) _ _) (by omega) _ _).trans (hb7.mono (below_set (below_set (below_set (below_set (below_set hb5 (Nat.le_refl _) 0 (.bool q1)) (Nat.le_refl _) 1 (.string q2)) (Nat.le_refl _) 2 (.slice o5 q3.length c5)) (Nat.le_succ _) 0 (.int .i64 0)) (show w.heap.size ≤ w.heap.size + 1 + 1 by omega) 0 (.int .i64 0)).size)
    have hown7 : OwnsP w7 w.heap.size (.slice o5 q3.length c5) q3 :=
      OwnsP.mono (OwnsP.below (ownsRow_setCell_below (ownsRow_setCell_below (ownsRow_setCell_below (ownsRow_setCell_below (ownsRow_setCell_below hown (by show w.heap.size < _; omega) _) (by show w.heap.size < _; omega) _) (by show w.heap.size < _; omega) _) (by show w.heap.size + 1 < _; omega) _) (by show w.heap.size + 1 + 1 < _; omega) _) hb7) (by omega)
    simp [Leaves, settle, results, Try.results23, go_sem, hT0, hT1, hT2, hT3, hT4]
    exact ⟨⟨_, rfl, hown7⟩, hB⟩
end Go.Proofs.Ytaaegelefknkeab
