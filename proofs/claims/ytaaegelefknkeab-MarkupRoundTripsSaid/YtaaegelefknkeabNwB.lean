/- A tag that has a text is read back from it, also with more spaces in front of the keys. -/
import Derived.Test.YtaaegelefknkeabNwA
namespace Go.Proofs.Ytaaegelefknkeab
open Go.RowKit Go.Shelf
set_option linter.unusedSimpArgs false
set_option linter.unusedVariables false

theorem idxR_all (n : ByteArray) : ∀ o : List Pr, (∀ q ∈ o, Op.bytesLess n.toList q.1.toList = false) → idxR n o = o.length := by
  intro o
  induction o with
  | nil => intro _; rfl
  | cons q o ih =>
    intro h
    rw [idxR, h q (List.mem_cons_self ..), if_neg (by simp), ih (fun r hr => h r (List.mem_cons_of_mem _ hr))]
    rfl
theorem insR_last {o : List Pr} {p : Pr} (h : Asc (o ++ [p])) : insR o p = o ++ [p] := by
  unfold insR
  unfold Asc at h
  rw [List.pairwise_append] at h
  rw [idxR_all p.1 o (fun q hq => h.2.2 q hq p (List.mem_cons_self ..)), List.take_length, List.drop_length]
theorem sortR_asc {l : List Pr} (h : Asc l) : sortR l = l := by
  have : ∀ (l o : List Pr), Asc (o ++ l) → l.foldl insR o = o ++ l := by
    intro l
    induction l with
    | nil => intro o _; simp
    | cons p l ih =>
      intro o ho
      have e : o ++ p :: l = (o ++ [p]) ++ l := by simp
      rw [e] at ho ⊢
      have h1 : Asc (o ++ [p]) := List.Pairwise.sublist (List.sublist_append_left _ _) ho
      rw [List.foldl_cons, insR_last h1]
      exact ih _ ho
  exact this l [] h
theorem sortF_idem (l : List Pr) : sortF (sortF l) = sortR l := by
  rw [sort_same, sort_same, sortR_asc (asc_sort l)]
theorem insF_perm (o : List Pr) (p : Pr) : (insF o p).Perm (p :: o) := by
  unfold insF
  have h := List.perm_middle (a := p) (l₁ := o.take (idxF o p.1 o.length)) (l₂ := o.drop (idxF o p.1 o.length))
  rw [List.take_append_drop] at h
  exact h
theorem sortF_perm (l : List Pr) : (sortF l).Perm l := by
  have : ∀ (l o : List Pr), (l.foldl insF o).Perm (o ++ l) := by
    intro l
    induction l with
    | nil => intro o; simp
    | cons p l ih =>
      intro o
      rw [List.foldl_cons]
      refine (ih _).trans ?_
      refine ((insF_perm o p).append_right l).trans ?_
      exact (List.perm_middle (a := p) (l₁ := o) (l₂ := l)).symm
  exact this l []
/-- Names that part. -/
def Apart (l : List Pr) : Prop := l.Pairwise fun p q => p.1.toList ≠ q.1.toList
theorem good_of : ∀ (ks l : List Pr), (∀ p ∈ ks, vnF p.1 = true ∧ vvF p.2 = 0) → Apart ks → (∀ q ∈ l, ∀ p ∈ ks, q.1.toList ≠ p.1.toList) → l.length + ks.length ≤ 8 → Good l ks := by
  intro ks
  induction ks with
  | nil => intro l _ _ _ _; trivial
  | cons p ks ih =>
    intro l h1 h2 h3 h4
    unfold Apart at h2
    rw [List.pairwise_cons] at h2
    simp at h4
    refine ⟨(h1 p (List.mem_cons_self ..)).1, (h1 p (List.mem_cons_self ..)).2, ?_, by omega, ih _ (fun q hq => h1 q (List.mem_cons_of_mem _ hq)) h2.2 ?_ (by simp; omega)⟩
    · unfold hasF
      rw [List.any_eq_false]
      intro q hq
      simpa using h3 q hq p (List.mem_cons_self ..)
    · intro q hq r hr
      rw [List.mem_append] at hq
      rcases hq with hq | hq
      · exact h3 q hq r (List.mem_cons_of_mem _ hr)
      · simp at hq
        subst hq
        exact h2.1 r hr
theorem apart_of {l : List Pr} (h : ∀ j p, l[j]? = some p → hasF (l.take j) p.1 = false) : Apart l := by
  unfold Apart
  rw [List.pairwise_iff_getElem]
  intro i j hi hj hij e
  have h1 := h j _ (List.getElem?_eq_getElem hj)
  unfold hasF at h1
  rw [List.any_eq_false] at h1
  refine h1 (l[i]) ?_ (by simpa using e)
  rw [List.mem_iff_getElem?]
  exact ⟨i, by rw [List.getElem?_take, if_pos hij, List.getElem?_eq_getElem hi]⟩
theorem chkF_parts {c : Bool} {n : ByteArray} {l : List Pr} (h : chkF c n l = 0) : vnF n = true ∧ (c = true → l = []) ∧ l.length ≤ 8 ∧ Good [] (sortF l) := by
  unfold chkF at h
  split at h
  · cases h
  rename_i hn
  split at h
  · cases h
  rename_i hc
  split at h
  · cases h
  rename_i h8
  have hz := chkK_zero l l.length 0 (by omega) h
  refine ⟨by simpa using hn, fun e => ?_, by omega, ?_⟩
  · subst e
    simpa using hc
  · refine good_of _ _ (fun p hp => ?_) ?_ (fun q hq => by cases hq) (by rw [sortF_len]; simp; omega)
    · obtain ⟨j, hj⟩ := List.mem_iff_getElem?.1 (mem_sortF hp)
      have := hz j p (Nat.zero_le _) hj
      exact ⟨this.1, this.2.2⟩
    · have := apart_of (l := l) (fun j p hj => (hz j p (Nat.zero_le _) hj).2.1)
      exact (List.Perm.pairwise_iff (fun {x y} hxy => Ne.symm hxy) (sortF_perm l)).2 this
theorem fmtK_list : ∀ (ks : List Pr) (o : List UInt8), fmtK ks (ofL o) = ofL (o ++ bodyL ks) := by
  intro ks
  induction ks with
  | nil => intro o; simp [fmtK, bodyL]
  | cons p ks ih =>
    intro o
    unfold fmtK
    rw [List.foldl_cons, keyT_list, ofL_append]
    have := ih (o ++ 32 :: kt p)
    unfold fmtK at this
    rw [this]
    simp [bodyL, List.append_assoc]
def gapB (g : Nat) : ByteArray := ofL (List.replicate g 32)
theorem gapB_succ (g : Nat) : gapB g ++ ⟨#[32]⟩ = gapB (g + 1) := by
  unfold gapB
  rw [List.replicate_succ']
  exact ofL_append _ [32]
theorem gapB_size (g : Nat) : (gapB g).size = g := by unfold gapB; rw [ofL_size, List.length_replicate]
theorem ofL_extract' (A B : List UInt8) : (ofL (A ++ B)).extract A.length (ofL (A ++ B)).size = ofL B := by
  rw [ofL_extract, List.drop_left]
theorem ofL_extract0' (A B : List UInt8) : (ofL (A ++ B)).extract 0 A.length = ofL A := by
  rw [ofL_extract0, List.take_left']
  rfl
theorem body_len : ∀ (ks l : List Pr), Good l ks → (bodyL ks).length ≤ 800 * ks.length := by
  intro ks
  induction ks with
  | nil => intro l _; simp [bodyL]
  | cons p ks ih =>
    intro l hg
    obtain ⟨hn, hv, _, _, hg⟩ := hg
    have h1 := ih _ hg
    have h2 := vnF_size hn
    have h3 := vvF_size hv
    have h4 := escT_len p.2
    rw [escT_list, ofL_size] at h4
    have h5 : p.1.data.toList.length = p.1.size := rfl
    have h6 : (kt p).length = p.1.size + (2 + ((esL p.2.data.toList).length + 1)) := by
      unfold kt
      simp only [List.length_append, h5, List.length_cons, List.length_nil]
    have h7 : (bodyL (p :: ks)).length = 1 + (kt p).length + (bodyL ks).length := by
      simp [bodyL]
      omega
    rw [h7, h6, List.length_cons]
    omega
theorem round_plain {c : Bool} {n : ByteArray} {l : List Pr} (h : chkF c n l = 0) : ∃ T, fmtF (c, n, l) = (T, 0) ∧ tagF T = .ok (c, n, sortR l) ∧ T.size ≤ 100000 ∧
    (l ≠ [] → 1 + n.size ≤ T.size ∧ ∀ g, g ≤ 20 → (T.extract 0 (1 + n.size) ++ gapB g ++ T.extract (1 + n.size) T.size).size ≤ 1000000 ∧ tagF (T.extract 0 (1 + n.size) ++ gapB g ++ T.extract (1 + n.size) T.size) = .ok (c, n, sortR l)) := by
  obtain ⟨hn, hc, h8, hg⟩ := chkF_parts h
  have hnl : n.data.toList.length = n.size := rfl
  have hns := vnF_size hn
  unfold fmtF
  rw [if_pos h]
  cases c with
  | true =>
    obtain rfl := hc rfl
    refine ⟨_, rfl, ?_, ?_, fun e => absurd rfl e⟩
    rotate_left
    · show (⟨#[60, 47]⟩ ++ n ++ ⟨#[62]⟩ : ByteArray).size ≤ 100000
      rw [ByteArray.size_append, ByteArray.size_append]
      show 2 + n.size + 1 ≤ 100000
      omega
    have e : (⟨#[60, 47]⟩ ++ n ++ ⟨#[62]⟩ : ByteArray) = ofL ([60, 47] ++ (n.data.toList ++ [62])) := by
      rw [← List.append_assoc, ← ofL_append, ← ofL_append]
      rfl
    rw [e, tagF_close hn]
    rfl
  | false =>
    simp only [Bool.false_eq_true, if_false]
    have e : fmtK (sortF l) (⟨#[60]⟩ ++ n) ++ ⟨#[62]⟩ = ofL (openL n 0 (sortF l)) := by
      have e1 : (⟨#[60]⟩ ++ n : ByteArray) = ofL ([60] ++ n.data.toList) := by rw [← ofL_append]; rfl
      rw [e1, fmtK_list]
      have e2 : (⟨#[62]⟩ : ByteArray) = ofL [62] := rfl
      rw [e2, ofL_append]
      simp [openL, List.append_assoc]
    have hl8 : (sortF l).length ≤ 8 := by rw [sortF_len]; exact h8
    have hbl := body_len _ _ hg
    have hol : ∀ g, (openL n g (sortF l)).length = 1 + (n.size + (g + ((bodyL (sortF l)).length + 1))) := fun g => by
      simp only [openL, List.length_append, List.length_replicate, hnl, List.length_cons, List.length_nil]
    rw [e]
    refine ⟨_, rfl, ?_, ?_, fun hne => ⟨?_, fun g hg20 => ?_⟩⟩
    · rw [tagF_open hn hg hl8 0 (fun _ => rfl), sortF_idem]
    · rw [ofL_size, hol]
      omega
    · rw [ofL_size]
      simp only [openL, List.length_append, hnl, List.length_cons, List.length_nil]
      omega
    · have e3 : openL n 0 (sortF l) = ([60] ++ n.data.toList) ++ (bodyL (sortF l) ++ [62]) := by simp [openL]
      have e4 : 1 + n.size = ([60] ++ n.data.toList).length := by rw [List.length_append, hnl]; rfl
      have e5 : (ofL (openL n 0 (sortF l))).extract 0 (1 + n.size) ++ gapB g ++ (ofL (openL n 0 (sortF l))).extract (1 + n.size) (ofL (openL n 0 (sortF l))).size = ofL (openL n g (sortF l)) := by
        rw [e3, e4, ofL_extract', ofL_extract0']
        unfold gapB
        rw [ofL_append, ofL_append]
        simp [openL, List.append_assoc]
      rw [e5]
      refine ⟨by rw [ofL_size, hol]; omega, ?_⟩
      rw [tagF_open hn hg hl8 g, sortF_idem]
      intro hs
      exact absurd (List.length_eq_zero_iff.1 (by rw [← sortF_len, hs]; rfl)) hne
end Go.Proofs.Ytaaegelefknkeab
