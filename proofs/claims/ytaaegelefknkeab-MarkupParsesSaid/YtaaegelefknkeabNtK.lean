/- Two ways to sort pairs by insertion agree: from behind (the program's), from the front (the reference's). -/
import Derived.Test.YtaaegelefknkeabMtJ
namespace Go.Proofs.Ytaaegelefknkeab
set_option linter.unusedSimpArgs false
set_option linter.unusedVariables false

theorem less_le : ∀ x y : List UInt8, (Op.bytesLess x y || x == y) = !Op.bytesLess y x := by
  intro x
  induction x with
  | nil => intro y; cases y <;> rfl
  | cons a x ih =>
    intro y
    cases y with
    | nil => rfl
    | cons b y =>
      have h := ih y
      simp only [Op.bytesLess, List.cons_beq_cons]
      rcases Nat.lt_trichotomy a.toNat b.toNat with h1 | h1 | h1
      · have e1 : decide (a < b) = true := decide_eq_true (UInt8.lt_iff_toNat_lt.2 h1)
        have e2 : decide (b < a) = false := decide_eq_false (fun h => by have := UInt8.lt_iff_toNat_lt.1 h; omega)
        have e3 : (b == a) = false := by rw [beq_eq_false_iff_ne]; rintro rfl; omega
        simp [e1, e2, e3]
      · have e0 : a = b := UInt8.toNat_inj.1 h1
        subst e0
        have e1 : decide (a < a) = false := decide_eq_false (fun h => by have := UInt8.lt_iff_toNat_lt.1 h; omega)
        simp [e1] at h ⊢
        exact h
      · have e1 : decide (b < a) = true := decide_eq_true (UInt8.lt_iff_toNat_lt.2 h1)
        have e2 : decide (a < b) = false := decide_eq_false (fun h => by have := UInt8.lt_iff_toNat_lt.1 h; omega)
        have e3 : (a == b) = false := by rw [beq_eq_false_iff_ne]; rintro rfl; omega
        simp [e1, e2, e3]
theorem less_trans : ∀ x y z : List UInt8, Op.bytesLess x y = true → Op.bytesLess y z = true → Op.bytesLess x z = true := by
  intro x
  induction x with
  | nil =>
    intro y z h1 h2
    cases z with
    | nil => cases y <;> simp [Op.bytesLess] at h2
    | cons c z => rfl
  | cons a x ih =>
    intro y z h1 h2
    cases y with
    | nil => simp [Op.bytesLess] at h1
    | cons b y =>
      cases z with
      | nil => simp [Op.bytesLess] at h2
      | cons c z =>
        simp only [Op.bytesLess, Bool.or_eq_true, decide_eq_true_eq, Bool.and_eq_true, beq_iff_eq] at h1 h2 ⊢
        rcases h1 with h1 | ⟨rfl, h1⟩
        · rcases h2 with h2 | ⟨rfl, h2⟩
          · exact .inl (UInt8.lt_trans h1 h2)
          · exact .inl h1
        · rcases h2 with h2 | ⟨rfl, h2⟩
          · exact .inl h2
          · exact .inr ⟨rfl, ih y z h1 h2⟩
theorem less_of_le {p a b : List UInt8} (h1 : Op.bytesLess p a = true) (h2 : Op.bytesLess b a = false) : Op.bytesLess p b = true := by
  have h := less_le a b
  rw [h2] at h
  simp only [Bool.not_false, Bool.or_eq_true, beq_iff_eq] at h
  rcases h with h | rfl
  · exact less_trans _ _ _ h1 h
  · exact h1
/-- The place from the front. -/
def idxR (n : ByteArray) : List Pr → Nat
  | [] => 0
  | q :: l => if Op.bytesLess n.toList q.1.toList = true then 0 else idxR n l + 1
theorem idxR_le (n : ByteArray) : ∀ l, idxR n l ≤ l.length := by
  intro l
  induction l with
  | nil => exact Nat.le_refl _
  | cons q l ih => unfold idxR; split <;> simp; omega
def insR (o : List Pr) (p : Pr) : List Pr := o.take (idxR p.1 o) ++ p :: o.drop (idxR p.1 o)
def sortR (l : List Pr) : List Pr := l.foldl insR []
/-- No pair stands behind a greater one. -/
def Asc (o : List Pr) : Prop := o.Pairwise fun a b => Op.bytesLess b.1.toList a.1.toList = false
theorem idxR_before (n : ByteArray) : ∀ (o : List Pr) (i : Nat) (q : Pr), i < idxR n o → o[i]? = some q → Op.bytesLess n.toList q.1.toList = false := by
  intro o
  induction o with
  | nil => intro i q h; simp [idxR] at h
  | cons a o ih =>
    intro i q h hq
    unfold idxR at h
    split at h
    · omega
    · rename_i ha
      cases i with
      | zero => simp at hq; subst hq; simpa using ha
      | succ i => exact ih i q (by omega) (by simpa using hq)
theorem idxR_at (n : ByteArray) : ∀ (o : List Pr) (q : Pr), o[idxR n o]? = some q → Op.bytesLess n.toList q.1.toList = true := by
  intro o
  induction o with
  | nil => intro q h; simp [idxR] at h
  | cons a o ih =>
    intro q h
    unfold idxR at h
    split at h
    · rename_i ha; simp at h; subst h; exact ha
    · exact ih q (by simpa using h)
theorem idxR_behind {n : ByteArray} {o : List Pr} (ho : Asc o) {i : Nat} {q : Pr} (hi : idxR n o ≤ i) (hq : o[i]? = some q) : Op.bytesLess n.toList q.1.toList = true := by
  have hil := (List.getElem?_eq_some_iff.1 hq).1
  obtain ⟨a, ha⟩ : ∃ a, o[idxR n o]? = some a := ⟨o[idxR n o]'(by omega), List.getElem?_eq_getElem (by omega)⟩
  have h1 := idxR_at n o a ha
  by_cases e : idxR n o = i
  · rw [e] at ha
    rw [ha] at hq
    cases hq
    exact h1
  · have hp := List.pairwise_iff_getElem.1 ho (idxR n o) i (by omega) hil (by omega)
    rw [List.getElem?_eq_getElem (by omega)] at ha
    rw [List.getElem?_eq_getElem hil] at hq
    cases ha
    cases hq
    exact less_of_le h1 hp
theorem idx_same {o : List Pr} (ho : Asc o) (n : ByteArray) : ∀ i, idxR n o ≤ i → i ≤ o.length → idxF o n i = idxR n o := by
  intro i
  induction i with
  | zero => intro h _; unfold idxF; omega
  | succ i ih =>
    intro h hl
    obtain ⟨q, hq⟩ : ∃ q, o[i]? = some q := ⟨o[i]'(by omega), List.getElem?_eq_getElem (by omega)⟩
    unfold idxF
    have hle : lessAt o n i = Op.bytesLess n.toList q.1.toList := by unfold lessAt; rw [hq]
    rw [hle]
    by_cases e : idxR n o = i + 1
    · rw [idxR_before n o i q (by omega) hq, if_neg (by simp), e]
    · rw [idxR_behind ho (by omega) hq, if_pos rfl]
      exact ih (by omega) (by omega)
theorem ins_same {o : List Pr} (ho : Asc o) (p : Pr) : insF o p = insR o p := by
  unfold insF insR
  rw [idx_same ho p.1 o.length (idxR_le _ _) (Nat.le_refl _)]
theorem asc_ins {o : List Pr} (ho : Asc o) (p : Pr) : Asc (insR o p) := by
  unfold insR Asc
  rw [List.pairwise_append]
  refine ⟨List.Pairwise.sublist (List.take_sublist _ _) ho, ?_, ?_⟩
  · rw [List.pairwise_cons]
    refine ⟨fun q hq => ?_, List.Pairwise.sublist (List.drop_sublist _ _) ho⟩
    obtain ⟨i, hi⟩ := mem_get hq
    rw [List.getElem?_drop] at hi
    have h1 := idxR_behind (n := p.1) ho (Nat.le_add_right _ _) hi
    have h2 := less_le p.1.toList q.1.toList
    rw [h1, Bool.true_or] at h2
    simpa using h2.symm
  · intro a ha b hb
    obtain ⟨i, hi⟩ := mem_get ha
    rw [List.getElem?_take] at hi
    split at hi
    · rename_i hlt
      have h1 := idxR_before p.1 o i a hlt hi
      rw [List.mem_cons] at hb
      rcases hb with rfl | hb
      · exact h1
      · obtain ⟨j, hj⟩ := mem_get hb
        rw [List.getElem?_drop] at hj
        have hil := (List.getElem?_eq_some_iff.1 hi).1
        have hjl := (List.getElem?_eq_some_iff.1 hj).1
        have hp := List.pairwise_iff_getElem.1 ho i (idxR p.1 o + j) hil hjl (by omega)
        rw [List.getElem?_eq_getElem hil] at hi
        rw [List.getElem?_eq_getElem hjl] at hj
        cases hi
        cases hj
        exact hp
    · cases hi
theorem sort_same (l : List Pr) : sortF l = sortR l := by
  have : ∀ (l o : List Pr), Asc o → l.foldl insF o = l.foldl insR o := by
    intro l
    induction l with
    | nil => intro o _; rfl
    | cons p l ih =>
      intro o ho
      rw [List.foldl_cons, List.foldl_cons, ins_same ho p]
      exact ih _ (asc_ins ho p)
  exact this l [] List.Pairwise.nil
theorem asc_sort (l : List Pr) : Asc (sortR l) := by
  have : ∀ (l o : List Pr), Asc o → Asc (l.foldl insR o) := by
    intro l
    induction l with
    | nil => intro o ho; exact ho
    | cons p l ih => intro o ho; exact ih _ (asc_ins ho p)
  exact this l [] List.Pairwise.nil
end Go.Proofs.Ytaaegelefknkeab
