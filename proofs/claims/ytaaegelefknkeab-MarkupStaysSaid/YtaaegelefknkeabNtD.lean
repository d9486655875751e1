/- An error in front of a string's end stays, whatever follows behind a further '>'. -/
import Derived.Test.YtaaegelefknkeabMtK
namespace Go.Proofs.Ytaaegelefknkeab
open Go.RowKit Go.Shelf
set_option linter.unusedSimpArgs false
set_option linter.unusedVariables false

/-- t is s, a '>', and more. -/
structure Ext (s t : ByteArray) : Prop where
  lt : s.size < t.size
  same : ∀ k (h : k < s.size) (h' : k < t.size), t[k]'h' = s[k]'h
  gt : ∀ h : s.size < t.size, (t[s.size]'h).toNat = 62
  ext : ∀ a b, b ≤ s.size → t.extract a b = s.extract a b
theorem Ext.mk' (s x : ByteArray) : Ext s (s ++ ⟨#[62]⟩ ++ x) := by
  have hsz : (s ++ ⟨#[62]⟩ ++ x).size = s.size + 1 + x.size := by rw [ByteArray.size_append, ByteArray.size_append]; rfl
  refine ⟨by omega, fun k h h' => ?_, fun h => ?_, fun a b hb => ?_⟩
  · rw [ByteArray.getElem_append_left (by rw [ByteArray.size_append]; omega), ByteArray.getElem_append_left h]
  · rw [ByteArray.getElem_append_left (by rw [ByteArray.size_append]; show _ < _ + 1; omega), ByteArray.getElem_append_right (Nat.le_refl _)]
    simp
    rfl
  · apply ByteArray.ext
    apply Array.ext'
    rw [ByteArray.data_extract, ByteArray.data_extract, Array.toList_extract, Array.toList_extract, ByteArray.data_append, ByteArray.data_append, Array.toList_append, Array.toList_append, List.append_assoc]
    have hl : s.data.toList.length = s.size := rfl
    simp only [List.extract]
    by_cases ha : a ≤ s.size
    · rw [List.drop_append_of_le_length (by omega), List.take_append_of_le_length (by rw [List.length_drop]; omega)]
    · rw [show b - a = 0 by omega, List.take_zero, List.take_zero]
section
variable {s t : ByteArray}
theorem Ext.sees (h : Ext s t) {a : Nat} {c : Int} (ha : a < s.size) : seesF t a c = seesF s a c := by
  unfold seesF
  rw [dif_pos ha, dif_pos (Nat.lt_trans ha h.lt), h.same a ha]
theorem Ext.seesEnd (h : Ext s t) {c : Int} (hc : c ≠ 62) : seesF t s.size c = false := by
  unfold seesF
  rw [dif_pos h.lt, h.gt h.lt]
  exact decide_eq_false (by omega)
theorem Ext.sees' (h : Ext s t) {a : Nat} {c : Int} (ha : a ≤ s.size) (hc : c ≠ 62) : seesF t a c = seesF s a c := by
  by_cases h1 : a < s.size
  · exact h.sees h1
  · obtain rfl : a = s.size := by omega
    rw [h.seesEnd hc]
    unfold seesF
    rw [dif_neg (by omega)]
theorem Ext.nameTo (h : Ext s t) : ∀ f g a, a ≤ s.size → s.size ≤ a + f → t.size ≤ a + g → Go.Proofs.Ytaaegelefknkeab.nameTo t g a = Go.Proofs.Ytaaegelefknkeab.nameTo s f a := by
  intro f
  induction f with
  | zero =>
    intro g a ha hf hg
    obtain rfl : a = s.size := by omega
    obtain ⟨g, rfl⟩ : ∃ k, g = k + 1 := ⟨g - 1, by have := h.lt; omega⟩
    unfold Go.Proofs.Ytaaegelefknkeab.nameTo
    rw [dif_pos h.lt, h.gt h.lt, if_neg (by decide)]
  | succ f ih =>
    intro g a ha hf hg
    obtain ⟨g, rfl⟩ : ∃ k, g = k + 1 := ⟨g - 1, by have := h.lt; omega⟩
    by_cases h1 : a < s.size
    · rw [Go.Proofs.Ytaaegelefknkeab.nameTo, Go.Proofs.Ytaaegelefknkeab.nameTo, dif_pos h1, dif_pos (Nat.lt_trans h1 h.lt), h.same a h1, ih g (a + 1) (by omega) (by omega) (by omega)]
    · obtain rfl : a = s.size := by omega
      rw [nameTo_end s _ _ (by omega), Go.Proofs.Ytaaegelefknkeab.nameTo, dif_pos h.lt, h.gt h.lt, if_neg (by decide)]
theorem Ext.rawTo (h : Ext s t) : ∀ f g a, a ≤ s.size → s.size ≤ a + f → t.size ≤ a + g → Go.Proofs.Ytaaegelefknkeab.rawTo t g a = Go.Proofs.Ytaaegelefknkeab.rawTo s f a := by
  intro f
  induction f with
  | zero =>
    intro g a ha hf hg
    obtain rfl : a = s.size := by omega
    obtain ⟨g, rfl⟩ : ∃ k, g = k + 1 := ⟨g - 1, by have := h.lt; omega⟩
    unfold Go.Proofs.Ytaaegelefknkeab.rawTo
    rw [dif_pos h.lt, h.gt h.lt, if_neg (by decide)]
  | succ f ih =>
    intro g a ha hf hg
    obtain ⟨g, rfl⟩ : ∃ k, g = k + 1 := ⟨g - 1, by have := h.lt; omega⟩
    by_cases h1 : a < s.size
    · rw [Go.Proofs.Ytaaegelefknkeab.rawTo, Go.Proofs.Ytaaegelefknkeab.rawTo, dif_pos h1, dif_pos (Nat.lt_trans h1 h.lt), h.same a h1, ih g (a + 1) (by omega) (by omega) (by omega)]
    · obtain rfl : a = s.size := by omega
      rw [rawTo_end s _ _ (by omega), Go.Proofs.Ytaaegelefknkeab.rawTo, dif_pos h.lt, h.gt h.lt, if_neg (by decide)]
theorem spTo_end (s : ByteArray) (f a : Nat) (h : ¬ a < s.size) : spTo s f a = a := by
  cases f with
  | zero => rfl
  | succ f =>
    rw [spTo, if_neg]
    unfold seesF
    rw [dif_neg h]
    simp
theorem Ext.spTo (h : Ext s t) : ∀ f g a, a ≤ s.size → s.size ≤ a + f → t.size ≤ a + g → Go.Proofs.Ytaaegelefknkeab.spTo t g a = Go.Proofs.Ytaaegelefknkeab.spTo s f a := by
  intro f
  induction f with
  | zero =>
    intro g a ha hf hg
    obtain rfl : a = s.size := by omega
    obtain ⟨g, rfl⟩ : ∃ k, g = k + 1 := ⟨g - 1, by have := h.lt; omega⟩
    rw [spTo_end s _ _ (by omega), Go.Proofs.Ytaaegelefknkeab.spTo, h.seesEnd (by decide), if_neg (by simp)]
  | succ f ih =>
    intro g a ha hf hg
    obtain ⟨g, rfl⟩ : ∃ k, g = k + 1 := ⟨g - 1, by have := h.lt; omega⟩
    by_cases h1 : a < s.size
    · rw [Go.Proofs.Ytaaegelefknkeab.spTo, Go.Proofs.Ytaaegelefknkeab.spTo, h.sees h1, ih g (a + 1) (by omega) (by omega) (by omega)]
    · obtain rfl : a = s.size := by omega
      rw [spTo_end s _ _ (by omega), Go.Proofs.Ytaaegelefknkeab.spTo, h.seesEnd (by decide), if_neg (by simp)]
/-- What stays of a reading: what is read with success, and an error in front of the end. -/
def Stays {α : Type} (s : ByteArray) (x y : Except (Nat × Int) α) : Prop := match x with | .ok r => y = .ok r | .error q => q.1 < s.size → y = .error q
theorem Ext.name (h : Ext s t) {a : Nat} (ha : a ≤ s.size) : Stays s (nameF s a) (nameF t a) := by
  have hlt := h.lt
  unfold nameF
  by_cases h1 : a < s.size
  · rw [dif_pos h1, dif_pos (Nat.lt_trans h1 hlt), h.same a h1, h.nameTo s.size t.size a ha (by omega) (by omega)]
    split
    · split
      · exact fun _ => rfl
      · rfl
    · exact fun _ => rfl
  · rw [dif_neg h1]
    exact fun h2 => absurd h2 h1
theorem Ext.value (h : Ext s t) {a : Nat} (ha : a ≤ s.size) : Stays s (valueF s a) (valueF t a) := by
  have hlt := h.lt
  have hr := h.rawTo s.size t.size a ha (by omega) (by omega)
  have hle := rawTo_le s s.size a ha
  unfold valueF
  rw [hr, h.sees' hle (by decide), h.ext _ _ hle]
  split
  · split
    · exact fun _ => rfl
    · split
      · rfl
      · exact fun _ => rfl
  · exact fun _ => rfl
theorem Ext.key (h : Ext s t) {a : Nat} (ha : a ≤ s.size) (l : List Pr) : Stays s (keyF s a l) (keyF t a l) := by
  have hn := h.name ha
  unfold keyF
  cases hs : nameF s a with
  | error q =>
    rw [hs] at hn
    exact fun hq => by rw [hn hq]
  | ok b =>
    rw [hs] at hn
    have hb := nameF_ok hs
    rw [show nameF t a = .ok b from hn]
    dsimp only
    rw [h.ext a b hb.2.1, h.sees' hb.2.1 (by decide)]
    split
    · exact fun _ => rfl
    split
    · exact fun _ => rfl
    split
    · rename_i h61
      have h1 := seesF_lt h61
      rw [h.sees' (show b + 1 ≤ s.size by omega) (by decide)]
      split
      · rename_i h34
        have h2 := seesF_lt h34
        have hv := h.value (show b + 2 ≤ s.size by omega)
        cases hs2 : valueF s (b + 2) with
        | error q => rw [hs2] at hv; exact fun hq => by rw [hv hq]
        | ok q => rw [hs2] at hv; rw [show valueF t (b + 2) = .ok q from hv]; rfl
      · exact fun _ => rfl
    · exact fun _ => rfl
theorem Ext.keys (h : Ext s t) : ∀ f g a l, a ≤ s.size → s.size ≤ a + f → t.size ≤ a + g → Stays s (keysF s f a l) (keysF t g a l) := by
  intro f
  induction f with
  | zero =>
    intro g a l ha hf hg
    obtain rfl : a = s.size := by omega
    obtain ⟨g, rfl⟩ : ∃ k, g = k + 1 := ⟨g - 1, by have := h.lt; omega⟩
    rw [keysF, keysF, h.seesEnd (by decide), if_neg (by simp)]
    rfl
  | succ f ih =>
    intro g a l ha hf hg
    have hlt := h.lt
    obtain ⟨g, rfl⟩ : ∃ k, g = k + 1 := ⟨g - 1, by omega⟩
    rw [keysF, keysF, h.sees' ha (by decide)]
    cases hc : seesF s a 32 with
    | false => rw [if_neg (by simp), if_neg (by simp)]; rfl
    | true =>
      have ha1 := seesF_lt hc
      rw [if_pos rfl, if_pos rfl, h.spTo s.size t.size a ha (by omega) (by omega)]
      have hk := h.key (spTo_le s s.size a ha) l
      cases hs : keyF s (Go.Proofs.Ytaaegelefknkeab.spTo s s.size a) l with
      | error q => rw [hs] at hk; exact fun hq => by rw [hk hq]
      | ok q =>
        rw [hs] at hk
        rw [show keyF t (Go.Proofs.Ytaaegelefknkeab.spTo s s.size a) l = .ok q from hk]
        have hko := keyF_ok hs
        have hge := spTo_ge s s.size a
        exact ih g q.2 _ hko.2.1 (by omega) (by omega)
theorem keysF_le (s : ByteArray) : ∀ f a l q, a ≤ s.size → keysF s f a l = .ok q → q.2 ≤ s.size := by
  intro f
  induction f with
  | zero => intro a l q ha h; rw [keysF] at h; cases h; exact ha
  | succ f ih =>
    intro a l q ha h
    rw [keysF] at h
    split at h
    · split at h
      · cases h
      · rename_i q' hq'
        exact ih _ _ _ (keyF_ok hq').2.1 h
    · cases h; exact ha
theorem Ext.fin (h : Ext s t) (c : Bool) (n : ByteArray) {q : List Pr × Nat} (hq : q.2 ≤ s.size) : ∀ e, endF s c n (.ok q) = .error e → e.1 < s.size → endF t c n (.ok q) = .error e := by
  intro e he hlt
  rw [endF] at he ⊢
  by_cases h62 : seesF s q.2 62 = true
  · rw [if_pos h62] at he
    have h1 := seesF_lt h62
    rw [h.sees h1, h62, if_pos rfl]
    split at he
    · rw [if_pos (by have := h.lt; omega)]; exact he
    · cases he
  · rw [if_neg h62] at he
    cases he
    rw [h.sees hlt, if_neg h62]
/-- An error in front of the end stays. -/
theorem Ext.tag (h : Ext s t) {q : Nat × Int} (hq : tagF s = .error q) (hlt : q.1 < s.size) : tagF t = .error q := by
  have hst := h.lt
  unfold tagF at hq ⊢
  by_cases h0 : s.size = 0
  · omega
  rw [h.sees (show 0 < s.size by omega)]
  split at hq
  · rename_i h60
    rw [if_pos h60, h.sees' (show 1 ≤ s.size by omega) (by decide)]
    generalize hc : seesF s 1 47 = c at hq ⊢
    have hale : (if c = true then 2 else 1 : Nat) ≤ s.size := by
      split
      · rename_i hc2; subst hc2; have := seesF_lt hc; omega
      · omega
    generalize (if c = true then 2 else 1 : Nat) = a at hq hale ⊢
    have hn := h.name hale
    cases hs : nameF s a with
    | error e =>
      rw [hs] at hn hq
      cases hq
      rw [show nameF t a = .error q from hn hlt]
    | ok b =>
      rw [hs] at hn hq
      have hb := nameF_ok hs
      rw [show nameF t a = .ok b from hn]
      dsimp only at hq ⊢
      rw [h.ext a b hb.2.1]
      unfold keysC at hq ⊢
      cases c with
      | true =>
        rw [if_pos rfl] at hq ⊢
        exact h.fin true _ hb.2.1 q hq hlt
      | false =>
        rw [if_neg (by simp)] at hq ⊢
        have hk := h.keys s.size t.size b [] hb.2.1 (by omega) (by omega)
        cases hks : keysF s s.size b [] with
        | error e =>
          rw [hks] at hk hq
          cases hq
          rw [show keysF t t.size b [] = .error q from hk hlt]
          rfl
        | ok k =>
          rw [hks] at hk hq
          rw [show keysF t t.size b [] = .ok k from hk]
          exact h.fin false _ (keysF_le s _ _ _ _ hb.2.1 hks) q hq hlt
  · rename_i h60
    rw [if_neg h60]
    exact hq
end
end Go.Proofs.Ytaaegelefknkeab
