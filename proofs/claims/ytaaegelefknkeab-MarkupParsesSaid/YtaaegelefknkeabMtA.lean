/- What a tag is, said plainly: keys, their list, their order. -/
import Derived.Test.YtaaegelefknkeabMsI
import Derived.Test.YtaaegelefknkeabMtC
namespace Go.Proofs.Ytaaegelefknkeab
open Go.RowKit Go.Shelf
set_option linter.unusedSimpArgs false

/-- How far spaces go. -/
def spTo (s : ByteArray) : Nat → Nat → Nat
  | 0, a => a
  | f + 1, a => if seesF s a 32 = true then spTo s f (a + 1) else a
theorem spTo_ge (s : ByteArray) : ∀ f a, a ≤ spTo s f a := by
  intro f
  induction f with
  | zero => intro a; exact Nat.le_refl _
  | succ f ih =>
    intro a
    unfold spTo
    split
    · have := ih (a + 1); omega
    · exact Nat.le_refl _
theorem seesF_lt {s : ByteArray} {a : Nat} {c : Int} (h : seesF s a c = true) : a < s.size := by
  unfold seesF at h
  split at h
  · assumption
  · cases h
theorem spTo_le (s : ByteArray) : ∀ f a, a ≤ s.size → spTo s f a ≤ s.size := by
  intro f
  induction f with
  | zero => intro a h; exact h
  | succ f ih =>
    intro a h
    unfold spTo
    split
    · rename_i hc; exact ih (a + 1) (seesF_lt hc)
    · exact h
theorem nameF_ok {s : ByteArray} {a b : Nat} (h : nameF s a = .ok b) : a < b ∧ b ≤ s.size ∧ b ≤ a + 32 := by
  unfold nameF at h
  split at h
  · rename_i ha
    split at h
    · rename_i hb
      split at h
      · cases h
      · cases h
        have h1 := nameTo_le s s.size a (by omega)
        have h2 : a + 1 ≤ nameTo s s.size a := by
          obtain ⟨g, hg⟩ : ∃ g, s.size = g + 1 := ⟨s.size - 1, by omega⟩
          rw [hg, nameTo, dif_pos ha, if_pos (onF_of hb)]
          exact nameTo_ge s _ _
        omega
    · cases h
  · cases h
theorem nameF_err {s : ByteArray} {a : Nat} {q : Nat × Int} (h : nameF s a = .error q) : q.1 = a ∧ (q.2 = 2 ∨ q.2 = 3) := by
  unfold nameF at h
  repeat' split at h
  all_goals cases h
  all_goals simp
theorem rawTo_ge (s : ByteArray) : ∀ f a, a ≤ rawTo s f a := by
  intro f
  induction f with
  | zero => intro a; exact Nat.le_refl _
  | succ f ih =>
    intro a
    unfold rawTo
    repeat' split
    all_goals first | exact Nat.le_refl _ | (have := ih (a + 1); omega)
theorem rawTo_le (s : ByteArray) : ∀ f a, a ≤ s.size → rawTo s f a ≤ s.size := by
  intro f
  induction f with
  | zero => intro a h; exact h
  | succ f ih =>
    intro a h
    unfold rawTo
    repeat' split
    all_goals first | exact h | exact ih (a + 1) (by omega)
theorem valueF_ok {s : ByteArray} {a : Nat} {q : ByteArray × Nat} (h : valueF s a = .ok q) : a < q.2 ∧ q.2 ≤ s.size ∧ q.1.size ≤ 120 := by
  unfold valueF at h
  split at h
  · rename_i hc
    split at h
    · cases h
    · split at h
      · rename_i hv
        cases h
        refine ⟨by have := rawTo_ge s s.size a; show _ < _ + 1; omega, seesF_lt hc, ?_⟩
        unfold vvF at hv
        split at hv
        · cases hv
        · dsimp only; omega
      · cases h
  · cases h
/-- A key at place a behind the keys l. -/
def keyF (s : ByteArray) (a : Nat) (l : List Pr) : Except (Nat × Int) (Pr × Nat) :=
  match nameF s a with
  | .error q => .error q
  | .ok b =>
    if hasF l (s.extract a b) = true then .error (a, 5)
    else if l.length = 8 then .error (a, 2)
    else if seesF s b 61 = true then
      if seesF s (b + 1) 34 = true then
        match valueF s (b + 2) with
        | .error q => .error q
        | .ok q => .ok ((s.extract a b, q.1), q.2)
      else .error (b + 1, 3)
    else .error (b, 3)
theorem keyF_ok {s : ByteArray} {a : Nat} {l : List Pr} {q : Pr × Nat} (h : keyF s a l = .ok q) : a < q.2 ∧ q.2 ≤ s.size ∧ l.length ≠ 8 ∧ q.1.1.size ≤ 32 ∧ q.1.2.size ≤ 120 := by
  unfold keyF at h
  split at h
  · cases h
  · rename_i b hb
    have hn := nameF_ok hb
    split at h
    · cases h
    split at h
    · cases h
    rename_i h8
    split at h
    · split at h
      · split at h
        · cases h
        · rename_i q hq
          have hv := valueF_ok hq
          cases h
          refine ⟨by dsimp only; omega, hv.2.1, h8, ?_, hv.2.2⟩
          rw [ByteArray.size_extract]; omega
      · cases h
    · cases h
/-- The keys from place a on, behind the keys l. -/
def keysF (s : ByteArray) : Nat → Nat → List Pr → Except (Nat × Int) (List Pr × Nat)
  | 0, a, l => .ok (l, a)
  | f + 1, a, l =>
    if seesF s a 32 = true then
      match keyF s (spTo s s.size a) l with
      | .error q => .error q
      | .ok q => keysF s f q.2 (l ++ [q.1])
    else .ok (l, a)
/-- Where a name belongs among the first i of the pairs: behind the last that is not greater. -/
def lessAt (o : List Pr) (n : ByteArray) (i : Nat) : Bool := match o[i]? with | some q => Op.bytesLess n.toList q.1.toList | none => false
def idxF (o : List Pr) (n : ByteArray) : Nat → Nat
  | 0 => 0
  | i + 1 => if lessAt o n i = true then idxF o n i else i + 1
theorem idxF_le (o : List Pr) (n : ByteArray) : ∀ i, idxF o n i ≤ i := by
  intro i
  induction i with
  | zero => exact Nat.le_refl _
  | succ i ih =>
    unfold idxF
    split
    · omega
    · exact Nat.le_refl _
def insF (o : List Pr) (p : Pr) : List Pr := o.take (idxF o p.1 o.length) ++ p :: o.drop (idxF o p.1 o.length)
def sortF (l : List Pr) : List Pr := l.foldl insF []
theorem insF_length (o : List Pr) (p : Pr) : (insF o p).length = o.length + 1 := by
  have := idxF_le o p.1 o.length
  unfold insF
  simp
  omega
/-- How a key's reading ends. -/
def KeyPost (X : Nat) (s : ByteArray) (r : Except (Nat × Int) (Pr × Nat)) (e : Ending) (w' : World) : Prop :=
  match r with | .ok q => e = .returned (.agg #[.string q.1.1, .string q.1.2]) ∧ SX w' X s q.2 | .error q => e = faultV q.1 q.2
theorem name_ok {X : Nat} {s : ByteArray} {a b : Nat} (hs : s.size ≤ 140737488351232) (h : nameF s a = .ok b) (w : World) (hx : SX w X s a) (ha : a ≤ s.size) :
    Calls Try.prog 54 #[.pointer (some ⟨X, 0, none⟩)] w fun e w' => e = .returned (.string (s.extract a b)) ∧ Sc X w w' ∧ SX w' X s b := by
  refine (name_any X s a hs w hx ha).mono ?_
  rintro e w' ⟨h1, h2⟩
  rw [h] at h2
  exact ⟨h2.1, h1, h2.2⟩
theorem name_err {X : Nat} {s : ByteArray} {a : Nat} {q : Nat × Int} (hs : s.size ≤ 140737488351232) (h : nameF s a = .error q) (w : World) (hx : SX w X s a) (ha : a ≤ s.size) :
    Calls Try.prog 54 #[.pointer (some ⟨X, 0, none⟩)] w fun e w' => e = .panicked [{ v := .iface 59 (.agg #[.int .i64 q.1, .int .i64 q.2]), recovered := false }] ∧ Sc X w w' := by
  refine (name_any X s a hs w hx ha).mono ?_
  rintro e w' ⟨h1, h2⟩
  rw [h] at h2
  exact ⟨h2, h1⟩
theorem value_ok {X : Nat} {s : ByteArray} {a : Nat} {q : ByteArray × Nat} (hs : s.size ≤ 1000000) (h : valueF s a = .ok q) (w : World) (hx : SX w X s a) (ha : a ≤ s.size) :
    Calls Try.prog 59 #[.pointer (some ⟨X, 0, none⟩)] w fun e w' => e = .returned (.string q.1) ∧ Sc X w w' ∧ SX w' X s q.2 := by
  refine (value_any X s a hs w hx ha).mono ?_
  rintro e w' ⟨h1, h2⟩
  rw [h] at h2
  exact ⟨h2.1, h1, h2.2⟩
theorem value_err {X : Nat} {s : ByteArray} {a : Nat} {q : Nat × Int} (hs : s.size ≤ 1000000) (h : valueF s a = .error q) (w : World) (hx : SX w X s a) (ha : a ≤ s.size) :
    Calls Try.prog 59 #[.pointer (some ⟨X, 0, none⟩)] w fun e w' => e = .panicked [{ v := .iface 59 (.agg #[.int .i64 q.1, .int .i64 q.2]), recovered := false }] ∧ Sc X w w' := by
  refine (value_any X s a hs w hx ha).mono ?_
  rintro e w' ⟨h1, h2⟩
  rw [h] at h2
  exact ⟨h2, h1⟩
/-- A list of pairs lies apart from a scanner. -/
theorem RdP.sc {W W' : World} {v : Value} {l : List Pr} {a : Option Addr} {cap X : Nat} {s : ByteArray} {n : Nat} (h : RdP W v l a cap) (hx : SX W X s n) (hs : Sc X W W') : RdP W' v l a cap := by
  refine ⟨h.eq, h.le, h.max, fun i p hi => ?_⟩
  obtain ⟨b, o, h1, h2, h3⟩ := h.cells i p hi
  have hb : b ≠ X := by
    rintro rfl
    rw [cell_of_row _ b _ _ 62 (0, 0) hx] at h3
    have hz : o + i * 2 + 1 = 1 ∨ 2 ≤ o + i * 2 + 1 := by omega
    rcases hz with hz | hz
    · rw [hz] at h3
      cases h3
    · rw [Array.getElem?_eq_none (by simpa using hz)] at h3
      cases h3
  refine ⟨b, o, h1, ?_, ?_⟩
  · rw [← h2]; exact World.cell?_of_block (hs.block _ (World.block_lt_of_cell? W _ h2) hb)
  · rw [← h3]; exact World.cell?_of_block (hs.block _ (World.block_lt_of_cell? W _ h3) hb)
end Go.Proofs.Ytaaegelefknkeab
