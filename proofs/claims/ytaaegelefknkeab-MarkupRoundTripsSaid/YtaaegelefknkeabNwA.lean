/- A tag's text is read back as the tag, its keys sorted. -/
import Derived.Test.YtaaegelefknkeabNtB
import Derived.Test.YtaaegelefknkeabNtK
namespace Go.Proofs.Ytaaegelefknkeab
open Go.RowKit Go.Shelf
set_option linter.unusedSimpArgs false
set_option linter.unusedVariables false

theorem cons_at (A : List UInt8) (x : UInt8) (B : List UInt8) (h : A.length < (A ++ x :: B).length) : (A ++ x :: B)[A.length]'h = x := by
  rw [List.getElem_append_right (Nat.le_refl _)]
  simp
theorem ofL_at (A : List UInt8) (x : UInt8) (B : List UInt8) (h : A.length < (ofL (A ++ x :: B)).size) : (ofL (A ++ x :: B))[A.length]'h = x := cons_at A x B h
theorem sees_ofL (A : List UInt8) (x : UInt8) (B : List UInt8) (c : Int) : seesF (ofL (A ++ x :: B)) A.length c = decide ((x.toNat : Int) = c) := by
  unfold seesF
  have h : A.length < (ofL (A ++ x :: B)).size := by rw [ofL_size]; simp
  rw [dif_pos h, ofL_at]
theorem ofL_lt (A : List UInt8) (x : UInt8) (B : List UInt8) : A.length < (ofL (A ++ x :: B)).size := by rw [ofL_size]; simp
theorem ofL_mid (A m B : List UInt8) : (ofL (A ++ (m ++ B))).extract A.length (A.length + m.length) = ofL m := by
  apply ByteArray.ext
  apply Array.ext'
  rw [ByteArray.data_extract, Array.toList_extract]
  show (A ++ (m ++ B)).extract A.length (A.length + m.length) = m
  simp [List.extract]
/-- What follows goes on no name. -/
def Off (B : List UInt8) : Prop := ∀ x B', B = x :: B' → onF (x.toNat : Int) = false
theorem nameTo_ofL : ∀ (m A B : List UInt8) (f : Nat), (∀ x ∈ m, onF (x.toNat : Int) = true) → Off B → m.length ≤ f → nameTo (ofL (A ++ (m ++ B))) f A.length = A.length + m.length := by
  intro m
  induction m with
  | nil =>
    intro A B f _ hB _
    cases f with
    | zero => rfl
    | succ f =>
      cases B with
      | nil => exact nameTo_end _ _ _ (by rw [ofL_size]; simp)
      | cons x B =>
        rw [List.nil_append, nameTo, dif_pos (ofL_lt A x B), ofL_at, hB x B rfl]
        simp
  | cons x m ih =>
    intro A B f hm hB hf
    obtain ⟨f, rfl⟩ : ∃ g, f = g + 1 := ⟨f - 1, by simp at hf; omega⟩
    rw [List.cons_append, nameTo, dif_pos (ofL_lt A x (m ++ B)), ofL_at, if_pos (hm x (List.mem_cons_self ..))]
    have := ih (A ++ [x]) B f (fun y hy => hm y (List.mem_cons_of_mem _ hy)) hB (by simp at hf; omega)
    simp only [List.length_append, List.length_cons, List.length_nil, List.append_assoc, List.cons_append, List.nil_append] at this ⊢
    rw [this]
    omega
/-- A name's bytes. -/
theorem nameTo_all (s : ByteArray) : ∀ f a, nameTo s f a = s.size → s.size ≤ a + f → ∀ k (h : k < s.size), a ≤ k → onF ((s[k]'h).toNat : Int) = true := by
  intro f
  induction f with
  | zero => intro a h1 h2 k hk ha; omega
  | succ f ih =>
    intro a h1 h2 k hk ha
    rw [nameTo] at h1
    rw [dif_pos (by omega : a < s.size)] at h1
    split at h1
    · rename_i hon
      by_cases e : a = k
      · subst e; exact hon
      · exact ih (a + 1) h1 (by omega) k hk (by omega)
    · omega
theorem vnF_bytes {s : ByteArray} (h : vnF s = true) : ∃ x m, s.data.toList = x :: m ∧ begF (x.toNat : Int) = true ∧ (∀ y ∈ x :: m, onF (y.toNat : Int) = true) ∧ m.length < 32 := by
  have hsz := vnF_size h
  unfold vnF at h
  rw [dif_pos (by omega : 0 < s.size), Bool.and_eq_true, Bool.and_eq_true, decide_eq_true_eq, decide_eq_true_eq] at h
  have hl : s.data.toList.length = s.size := rfl
  cases he : s.data.toList with
  | nil => rw [he] at hl; simp at hl; omega
  | cons x m =>
    rw [he] at hl
    simp at hl
    refine ⟨x, m, rfl, ?_, fun y hy => ?_, by omega⟩
    · have h0 : s[0]'(by omega) = x := by
        show s.data.toList[0]'(by rw [he]; simp) = x
        simp [he]
      rw [← h0]
      exact h.1.2
    · obtain ⟨k, hk, e⟩ := List.getElem_of_mem hy
      have hks : k < s.size := by simp at hk; omega
      have := nameTo_all s s.size 0 h.2 (by omega) k hks (Nat.zero_le _)
      have h0 : s[k]'hks = y := by
        show s.data.toList[k]'(by rw [he]; exact hk) = y
        simp only [he]; exact e
      rw [h0] at this
      exact this
theorem nameF_ofL {n : ByteArray} (hn : vnF n = true) (A B : List UInt8) (hB : Off B) : nameF (ofL (A ++ (n.data.toList ++ B))) A.length = .ok (A.length + n.size) := by
  obtain ⟨x, m, he, hb, hon, hl⟩ := vnF_bytes hn
  have hsz := vnF_size hn
  have hnl : n.data.toList.length = n.size := rfl
  have hto := nameTo_ofL n.data.toList A B (ofL (A ++ (n.data.toList ++ B))).size (by rw [he]; exact hon) hB (by rw [ofL_size]; simp; omega)
  unfold nameF
  rw [hto]
  rw [he] at hnl ⊢
  rw [List.cons_append, dif_pos (ofL_lt A x (m ++ B)), ofL_at, hb, if_pos rfl, if_neg, hnl]
  rw [hnl]; omega
theorem beg_ne {x : UInt8} {c : Int} (h : begF (x.toNat : Int) = true) (hc : begF c = false) : decide ((x.toNat : Int) = c) = false := by
  apply decide_eq_false
  intro e
  rw [e, hc] at h
  cases h
/-- Spaces, and something else. -/
theorem spTo_ofL : ∀ (g : Nat) (A B : List UInt8) (f : Nat), (∀ x B', B = x :: B' → ((x.toNat : Int) = 32) = False) → g ≤ f → spTo (ofL (A ++ (List.replicate g 32 ++ B))) f A.length = A.length + g := by
  intro g
  induction g with
  | zero =>
    intro A B f hB _
    cases f with
    | zero => rfl
    | succ f =>
      rw [List.replicate_zero, List.nil_append, spTo]
      cases B with
      | nil =>
        rw [if_neg]
        · rfl
        · unfold seesF
          rw [dif_neg (by rw [ofL_size]; simp)]
          simp
      | cons x B =>
        rw [sees_ofL, if_neg]
        · rfl
        · simp [hB x B rfl]
  | succ g ih =>
    intro A B f hB hf
    obtain ⟨f, rfl⟩ : ∃ k, f = k + 1 := ⟨f - 1, by omega⟩
    rw [List.replicate_succ, List.cons_append, spTo, sees_ofL, if_pos (by rfl)]
    have := ih (A ++ [32]) B f hB (by omega)
    simp only [List.length_append, List.length_cons, List.length_nil, List.append_assoc, List.cons_append, List.nil_append] at this ⊢
    rw [this]
    omega
/-- No byte of an escaped form ends a raw value. -/
theorem esL_raw (l : List UInt8) : ∀ x ∈ esL l, x.toNat ≠ 34 ∧ x.toNat ≠ 60 ∧ x.toNat ≠ 62 := by
  intro x hx
  unfold esL at hx
  rw [List.mem_flatMap] at hx
  obtain ⟨y, _, hx⟩ := hx
  unfold escL escB at hx
  repeat' split at hx
  all_goals
    simp at hx
    first
      | (rcases hx with rfl | rfl | rfl | rfl | rfl | rfl <;> decide)
      | (rcases hx with rfl | rfl | rfl | rfl | rfl <;> decide)
      | (rcases hx with rfl | rfl | rfl | rfl <;> decide)
      | (subst hx; exact ⟨by assumption, by assumption, by assumption⟩)
theorem rawTo_ofL : ∀ (m A B : List UInt8) (f : Nat), (∀ x ∈ m, x.toNat ≠ 34 ∧ x.toNat ≠ 60 ∧ x.toNat ≠ 62) → m.length ≤ f → rawTo (ofL (A ++ (m ++ 34 :: B))) f A.length = A.length + m.length := by
  intro m
  induction m with
  | nil =>
    intro A B f _ _
    cases f with
    | zero => rfl
    | succ f =>
      rw [List.nil_append, rawTo, dif_pos (ofL_lt A 34 B), ofL_at, if_neg (by decide)]
      rfl
  | cons x m ih =>
    intro A B f hm hf
    obtain ⟨f, rfl⟩ : ∃ g, f = g + 1 := ⟨f - 1, by simp at hf; omega⟩
    rw [List.cons_append, rawTo, dif_pos (ofL_lt A x (m ++ 34 :: B)), ofL_at, if_pos (hm x (List.mem_cons_self ..))]
    have := ih (A ++ [x]) B f (fun y hy => hm y (List.mem_cons_of_mem _ hy)) (by simp at hf; omega)
    simp only [List.length_append, List.length_cons, List.length_nil, List.append_assoc, List.cons_append, List.nil_append] at this ⊢
    rw [this]
    omega
theorem valueF_ofL {v : ByteArray} (hv : vvF v = 0) (A B : List UInt8) : valueF (ofL (A ++ (esL v.data.toList ++ 34 :: B))) A.length = .ok (v, A.length + (esL v.data.toList).length + 1) := by
  have hr := rawTo_ofL (esL v.data.toList) A B (ofL (A ++ (esL v.data.toList ++ 34 :: B))).size (esL_raw _) (by rw [ofL_size]; simp; omega)
  have hs : seesF (ofL (A ++ (esL v.data.toList ++ 34 :: B))) (A.length + (esL v.data.toList).length) 34 = true := by
    have := sees_ofL (A ++ esL v.data.toList) 34 B 34
    rw [List.append_assoc, List.length_append] at this
    rw [this]
    rfl
  unfold valueF
  rw [hr, hs, if_pos rfl, ofL_mid, ← escT_list, unF_escT]
  dsimp only
  rw [if_pos hv]
/-- A key's text without its space. -/
def kt (p : Pr) : List UInt8 := p.1.data.toList ++ ([61, 34] ++ (esL p.2.data.toList ++ [34]))
theorem keyT_list (p : Pr) : keyT p = ofL (32 :: kt p) := by
  unfold keyT kt
  rw [escT_list]
  apply ByteArray.ext
  apply Array.ext'
  simp [ByteArray.data_append, ofL]
theorem keyF_ofL {p : Pr} {l : List Pr} (hn : vnF p.1 = true) (hv : vvF p.2 = 0) (hh : hasF l p.1 = false) (h8 : l.length ≠ 8) (A B : List UInt8) :
    keyF (ofL (A ++ (kt p ++ B))) A.length l = .ok (p, A.length + (kt p).length) := by
  have hs : A ++ (kt p ++ B) = A ++ (p.1.data.toList ++ (61 :: 34 :: (esL p.2.data.toList ++ 34 :: B))) := by unfold kt; simp [List.append_assoc]
  have hnl : p.1.data.toList.length = p.1.size := rfl
  have h1 := nameF_ofL hn A (61 :: 34 :: (esL p.2.data.toList ++ 34 :: B)) (by intro x B' e; cases e; decide)
  have h2 : (ofL (A ++ (p.1.data.toList ++ (61 :: 34 :: (esL p.2.data.toList ++ 34 :: B))))).extract A.length (A.length + p.1.size) = p.1 := by
    rw [← hnl, ofL_mid]
    exact ofL_toL _
  have h3 : seesF (ofL (A ++ (p.1.data.toList ++ (61 :: 34 :: (esL p.2.data.toList ++ 34 :: B))))) (A.length + p.1.size) 61 = true := by
    have := sees_ofL (A ++ p.1.data.toList) 61 (34 :: (esL p.2.data.toList ++ 34 :: B)) 61
    rw [List.append_assoc, List.length_append, hnl] at this
    rw [this]; rfl
  have h4 : seesF (ofL (A ++ (p.1.data.toList ++ (61 :: 34 :: (esL p.2.data.toList ++ 34 :: B))))) (A.length + p.1.size + 1) 34 = true := by
    have := sees_ofL (A ++ p.1.data.toList ++ [61]) 34 (esL p.2.data.toList ++ 34 :: B) 34
    simp only [List.append_assoc, List.length_append, hnl, List.cons_append, List.nil_append, List.length_cons, List.length_nil] at this
    rw [Nat.add_assoc, this]; rfl
  have h5 : valueF (ofL (A ++ (p.1.data.toList ++ (61 :: 34 :: (esL p.2.data.toList ++ 34 :: B))))) (A.length + p.1.size + 2) = .ok (p.2, A.length + p.1.size + 2 + (esL p.2.data.toList).length + 1) := by
    have := valueF_ofL hv (A ++ p.1.data.toList ++ [61, 34]) B
    simp only [List.append_assoc, List.length_append, hnl, List.cons_append, List.nil_append, List.length_cons, List.length_nil] at this
    rw [show A.length + p.1.size + 2 = A.length + (p.1.size + (0 + 1 + 1)) by omega]
    exact this
  rw [hs]
  unfold keyF
  rw [h1]
  dsimp only
  rw [h2, hh, if_neg (by simp), if_neg h8, h3, if_pos rfl, h4, if_pos rfl, h5]
  dsimp only
  congr 2
  unfold kt
  simp only [List.length_append, hnl, List.length_cons, List.length_nil]
  omega
/-- Keys, each behind a space. -/
def bodyL (ks : List Pr) : List UInt8 := ks.flatMap fun p => 32 :: kt p
/-- Keys that may stand behind the keys l. -/
def Good : List Pr → List Pr → Prop
  | _, [] => True
  | l, p :: ks => vnF p.1 = true ∧ vvF p.2 = 0 ∧ hasF l p.1 = false ∧ l.length ≠ 8 ∧ Good (l ++ [p]) ks
theorem kt_head {p : Pr} (hn : vnF p.1 = true) (B : List UInt8) : ∀ x B', kt p ++ B = x :: B' → ((x.toNat : Int) = 32) = False := by
  intro x B' e
  obtain ⟨y, m, he, hb, _, _⟩ := vnF_bytes hn
  unfold kt at e
  rw [he] at e
  simp only [List.cons_append, List.append_assoc, List.cons.injEq] at e
  rw [← e.1]
  have := beg_ne hb (show begF 32 = false from by decide)
  simpa using this
theorem keysF_one {p : Pr} {l : List Pr} (hn : vnF p.1 = true) (hv : vvF p.2 = 0) (hh : hasF l p.1 = false) (h8 : l.length ≠ 8) (g : Nat) (A B : List UInt8) (f : Nat) :
    keysF (ofL (A ++ (List.replicate (g + 1) 32 ++ (kt p ++ B)))) (f + 1) A.length l =
      keysF (ofL ((A ++ List.replicate (g + 1) 32 ++ kt p) ++ B)) f (A ++ List.replicate (g + 1) 32 ++ kt p).length (l ++ [p]) := by
  have h1 : seesF (ofL (A ++ (List.replicate (g + 1) 32 ++ (kt p ++ B)))) A.length 32 = true := by
    rw [List.replicate_succ, List.cons_append, sees_ofL]; rfl
  have h2 := spTo_ofL (g + 1) A (kt p ++ B) (ofL (A ++ (List.replicate (g + 1) 32 ++ (kt p ++ B)))).size (kt_head hn B) (by rw [ofL_size]; simp; omega)
  have h3 := keyF_ofL hn hv hh h8 (A ++ List.replicate (g + 1) 32) B
  rw [List.append_assoc, List.length_append, List.length_replicate] at h3
  rw [keysF, h1, if_pos rfl, h2, h3]
  dsimp only
  simp only [List.append_assoc, List.length_append, List.length_replicate, Nat.add_assoc]
theorem keysF_ofL : ∀ (ks l : List Pr) (A B : List UInt8) (f : Nat), Good l ks → (∀ x B', B = x :: B' → ((x.toNat : Int) = 32) = False) → B ≠ [] → ks.length ≤ f →
    keysF (ofL (A ++ (bodyL ks ++ B))) f A.length l = .ok (l ++ ks, A.length + (bodyL ks).length) := by
  intro ks
  induction ks with
  | nil =>
    intro l A B f _ hB h0 _
    cases B with
    | nil => exact absurd rfl h0
    | cons x B =>
      cases f with
      | zero => simp [keysF, bodyL]
      | succ f =>
        have : bodyL [] ++ x :: B = x :: B := rfl
        rw [this, keysF, sees_ofL, if_neg (by simp [hB x B rfl])]
        simp [bodyL]
  | cons p ks ih =>
    intro l A B f hg hB h0 hf
    obtain ⟨f, rfl⟩ : ∃ g, f = g + 1 := ⟨f - 1, by simp at hf; omega⟩
    obtain ⟨hn, hv, hh, h8, hg⟩ := hg
    have e : A ++ (bodyL (p :: ks) ++ B) = A ++ (List.replicate (0 + 1) 32 ++ (kt p ++ (bodyL ks ++ B))) := by
      simp [bodyL, List.append_assoc]
    rw [e, keysF_one hn hv hh h8 0, ih _ _ _ _ hg hB h0 (by simp at hf; omega)]
    simp [bodyL, List.append_assoc]
    omega
/-- An opening tag's text, g more spaces in front of the keys. -/
def openL (n : ByteArray) (g : Nat) (ks : List Pr) : List UInt8 := [60] ++ (n.data.toList ++ (List.replicate g 32 ++ (bodyL ks ++ [62])))
theorem tagF_open {n : ByteArray} {ks : List Pr} (hn : vnF n = true) (hg : Good [] ks) (h8 : ks.length ≤ 8) (g : Nat) (h0 : ks = [] → g = 0) :
    tagF (ofL (openL n g ks)) = .ok (false, n, sortF ks) := by
  have hnl : n.data.toList.length = n.size := rfl
  have hoff : Off (List.replicate g 32 ++ (bodyL ks ++ [62])) := by
    intro x B' e
    cases g with
    | succ g => rw [List.replicate_succ] at e; cases e; decide
    | zero =>
      cases ks with
      | nil => cases e; decide
      | cons p ks => cases e; decide
  have h60 : seesF (ofL (openL n g ks)) 0 60 = true := by
    have := sees_ofL [] 60 (n.data.toList ++ (List.replicate g 32 ++ (bodyL ks ++ [62]))) 60
    simpa [openL] using this
  have h47 : seesF (ofL (openL n g ks)) 1 47 = false := by
    obtain ⟨y, m, he, hb, _, _⟩ := vnF_bytes hn
    have := sees_ofL [60] y (m ++ (List.replicate g 32 ++ (bodyL ks ++ [62]))) 47
    unfold openL
    rw [he]
    rw [beg_ne hb (by decide)] at this
    exact this
  have h1 := nameF_ofL hn [60] _ hoff
  have h2 : (ofL (openL n g ks)).extract 1 (1 + n.size) = n := by
    have := ofL_mid [60] n.data.toList (List.replicate g 32 ++ (bodyL ks ++ [62]))
    rw [hnl] at this
    exact this.trans (ofL_toL n)
  have h3 : keysF (ofL (openL n g ks)) (ofL (openL n g ks)).size (1 + n.size) [] = .ok (ks, 1 + n.size + g + (bodyL ks).length) := by
    cases ks with
    | nil =>
      obtain rfl := h0 rfl
      have := keysF_ofL [] [] ([60] ++ n.data.toList) [62] (ofL (openL n 0 [])).size trivial (by intro x B' e; cases e; decide) (by simp) (by simp)
      rw [List.length_append, hnl] at this
      simp only [openL, List.replicate_zero, List.nil_append, List.append_assoc, bodyL, List.flatMap_nil, List.length_nil, Nat.add_zero, List.length_cons, Nat.zero_add] at this ⊢
      exact this
    | cons p ks =>
      obtain ⟨hn', hv, hh, h8', hg'⟩ := hg
      obtain ⟨f, hf⟩ : ∃ f, (ofL (openL n g (p :: ks))).size = f + 1 := ⟨(ofL (openL n g (p :: ks))).size - 1, by rw [ofL_size]; simp [openL]⟩
      have e : openL n g (p :: ks) = ([60] ++ n.data.toList) ++ (List.replicate (g + 1) 32 ++ (kt p ++ (bodyL ks ++ [62]))) := by
        unfold openL
        rw [List.replicate_succ']
        simp [bodyL, List.append_assoc]
      have hlen : ks.length ≤ f := by
        have h1 : (ofL (openL n g (p :: ks))).size = (openL n g (p :: ks)).length := ofL_size _
        have h2 : ∀ l : List Pr, l.length ≤ (bodyL l).length := by
          intro l
          induction l with
          | nil => simp
          | cons q l ih => simp only [bodyL, List.flatMap_cons, List.length_append, List.length_cons] at ih ⊢; omega
        have h3 := h2 ks
        rw [h1, e] at hf
        simp only [List.length_append, List.length_replicate, List.length_cons, List.length_nil] at hf
        omega
      rw [hf]
      have h4 := keysF_one hn' hv hh h8' g ([60] ++ n.data.toList) (bodyL ks ++ [62]) f
      have h5 := keysF_ofL ks ([] ++ [p]) ([60] ++ n.data.toList ++ List.replicate (g + 1) 32 ++ kt p) [62] f hg' (by intro x B' e; cases e; decide) (by simp) hlen
      rw [e]
      rw [h5] at h4
      have hl : ([60] ++ n.data.toList).length = 1 + n.size := by rw [List.length_append, hnl]; rfl
      rw [hl] at h4
      rw [h4]
      simp only [List.length_append, List.length_replicate, hnl, List.length_cons, List.length_nil, List.nil_append, List.cons_append, bodyL, List.flatMap_cons]
      congr 2
      omega
  have h62 : seesF (ofL (openL n g ks)) (1 + n.size + g + (bodyL ks).length) 62 = true := by
    have := sees_ofL ([60] ++ n.data.toList ++ List.replicate g 32 ++ bodyL ks) 62 [] 62
    simp only [List.append_assoc, List.length_append, List.length_replicate, hnl, List.length_cons, List.length_nil] at this
    unfold openL
    rw [show 1 + n.size + g + (bodyL ks).length = 0 + 1 + (n.size + (g + (bodyL ks).length)) by omega]
    rw [this]
    rfl
  unfold tagF
  rw [h60, if_pos rfl, h47]
  simp only [Bool.false_eq_true, if_false]
  have h1' : nameF (ofL (openL n g ks)) 1 = .ok (1 + n.size) := h1
  rw [h1']
  dsimp only
  rw [h2]
  unfold keysC
  simp only [Bool.false_eq_true, if_false]
  rw [h3, endF, h62, if_pos rfl, if_neg]
  rw [ofL_size]
  simp only [openL, List.length_append, List.length_replicate, hnl, List.length_cons, List.length_nil]
  omega
theorem tagF_close {n : ByteArray} (hn : vnF n = true) : tagF (ofL ([60, 47] ++ (n.data.toList ++ [62]))) = .ok (true, n, []) := by
  have hnl : n.data.toList.length = n.size := rfl
  have h60 : seesF (ofL ([60, 47] ++ (n.data.toList ++ [62]))) 0 60 = true := sees_ofL [] 60 (47 :: (n.data.toList ++ [62])) 60
  have h47 : seesF (ofL ([60, 47] ++ (n.data.toList ++ [62]))) 1 47 = true := sees_ofL [60] 47 (n.data.toList ++ [62]) 47
  have h1 : nameF (ofL ([60, 47] ++ (n.data.toList ++ [62]))) 2 = .ok (2 + n.size) := nameF_ofL hn [60, 47] [62] (by intro x B' e; cases e; decide)
  have h2 : (ofL ([60, 47] ++ (n.data.toList ++ [62]))).extract 2 (2 + n.size) = n := (ofL_mid [60, 47] n.data.toList [62]).trans (ofL_toL n)
  have h62 : seesF (ofL ([60, 47] ++ (n.data.toList ++ [62]))) (2 + n.size) 62 = true := by
    have := sees_ofL ([60, 47] ++ n.data.toList) 62 [] 62
    rw [List.append_assoc, List.length_append, hnl] at this
    exact this.trans rfl
  unfold tagF
  rw [h60, if_pos rfl, h47, if_pos rfl, h1]
  dsimp only
  rw [h2]
  unfold keysC
  rw [if_pos rfl, endF, h62, if_pos rfl, if_neg]
  · rfl
  · rw [ofL_size]
    simp only [List.length_append, hnl, List.length_cons, List.length_nil]
    omega
end Go.Proofs.Ytaaegelefknkeab
