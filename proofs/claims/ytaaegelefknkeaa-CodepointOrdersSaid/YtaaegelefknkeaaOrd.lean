/- Compare as an order. -/
import Derived.Test.YtaaegelefknkeaaLnk
import Derived.Lib.Strings
namespace Go.Proofs.Ytaaegelefknkeaa
set_option linter.unusedSimpArgs false
open Go.Lib (decodeL decodeL_N decodeN)

/-- Lists of numbers in their order. -/
def cmpN : List Nat → List Nat → Int
  | x :: l, y :: m => if sgn x y = 0 then cmpN l m else sgn x y
  | l, m => sgn l.length m.length

theorem sgn_neg (a b : Int) : sgn b a = - sgn a b := by unfold sgn; repeat' split; all_goals omega
theorem sgn_zero_iff (a b : Int) : sgn a b = 0 ↔ a = b := by unfold sgn; repeat' split; all_goals (constructor <;> intro h <;> omega)
theorem sgn_lt (a b : Int) : sgn a b < 0 ↔ a < b := by unfold sgn; repeat' split; all_goals (constructor <;> intro h <;> omega)
theorem sgn_le (a b : Int) : sgn a b ≤ 0 ↔ a ≤ b := by unfold sgn; repeat' split; all_goals (constructor <;> intro h <;> omega)
theorem sgn_val (a b : Int) : sgn a b = -1 ∨ sgn a b = 0 ∨ sgn a b = 1 := by unfold sgn; repeat' split; all_goals omega

/-- What makes a comparison an order. -/
structure OrdC {α : Type} (c : α → α → Int) : Prop where
  val : ∀ a b, c a b = -1 ∨ c a b = 0 ∨ c a b = 1
  neg : ∀ a b, c b a = - c a b
  le : ∀ a b d, c a b ≤ 0 → c b d ≤ 0 → c a d ≤ 0

theorem OrdC.eq0 {α : Type} {c : α → α → Int} (h : OrdC c) {a b d : α} (h1 : c a b ≤ 0) (h2 : c b d ≤ 0) (h3 : c a d = 0) : c a b = 0 ∧ c b d = 0 := by
  have n1 := h.neg a d
  have n2 := h.neg a b
  have n3 := h.neg b d
  have k1 := h.le b d a h2 (by omega)
  have k2 := h.le d a b (by omega) h1
  omega
/-- One order behind another. -/
theorem OrdC.lex {α β : Type} {c : α → α → Int} {e : β → β → Int} (h : OrdC c) (k : OrdC e) : OrdC (fun a b : α × β => if c a.1 b.1 = 0 then e a.2 b.2 else c a.1 b.1) := by
  refine ⟨fun a b => ?_, fun a b => ?_, fun a b d h1 h2 => ?_⟩
  · split
    · exact k.val _ _
    · exact h.val _ _
  · rw [h.neg a.1 b.1]
    by_cases e0 : c a.1 b.1 = 0
    · rw [if_pos e0, if_pos (by omega)]; exact k.neg _ _
    · rw [if_neg e0, if_neg (by omega)]
  · have g1 : c a.1 b.1 ≤ 0 := by split at h1 <;> omega
    have g2 : c b.1 d.1 ≤ 0 := by split at h2 <;> omega
    have g3 := h.le _ _ _ g1 g2
    split
    · rename_i e0
      obtain ⟨z1, z2⟩ := h.eq0 g1 g2 e0
      rw [if_pos z1] at h1
      rw [if_pos z2] at h2
      exact k.le _ _ _ h1 h2
    · exact g3
theorem cmpN_val : ∀ a b, cmpN a b = -1 ∨ cmpN a b = 0 ∨ cmpN a b = 1
  | [], b => by rw [cmpN]; exact sgn_val _ _; simp
  | _ :: _, [] => by rw [cmpN]; exact sgn_val _ _; simp
  | x :: l, y :: m => by
    rw [cmpN]
    split
    · exact cmpN_val l m
    · exact sgn_val _ _
theorem cmpN_neg : ∀ a b, cmpN b a = - cmpN a b
  | [], [] => by simp [cmpN, sgn]
  | [], _ :: _ => by simp only [cmpN]; exact sgn_neg _ _
  | _ :: _, [] => by simp only [cmpN]; exact sgn_neg _ _
  | x :: l, y :: m => by
    rw [cmpN, cmpN, sgn_neg x y]
    by_cases e : sgn (x : Int) y = 0
    · rw [if_pos e, if_pos (by omega)]; exact cmpN_neg l m
    · rw [if_neg e, if_neg (by omega)]
theorem cmpN_le : ∀ a b d, cmpN a b ≤ 0 → cmpN b d ≤ 0 → cmpN a d ≤ 0
  | [], _, [], _, _ => by simp [cmpN, sgn]
  | [], _, _ :: _, _, _ => by simp only [cmpN]; rw [sgn_le]; simp only [List.length_nil, List.length_cons]; omega
  | _ :: _, [], _, h, _ => by simp only [cmpN] at h; rw [sgn_le] at h; simp at h; omega
  | _ :: _, _ :: _, [], _, h => by simp only [cmpN] at h; rw [sgn_le] at h; simp at h; omega
  | x :: l, y :: m, z :: n, h1, h2 => by
    rw [cmpN] at h1 h2 ⊢
    have g1 : sgn (x : Int) y ≤ 0 := by split at h1 <;> omega
    have g2 : sgn (y : Int) z ≤ 0 := by split at h2 <;> omega
    rw [sgn_le] at g1 g2
    split
    · rename_i e0
      rw [sgn_zero_iff] at e0
      rw [if_pos (by rw [sgn_zero_iff]; omega)] at h1 h2
      exact cmpN_le l m n h1 h2
    · rw [sgn_le]; omega
theorem cmpN_ord : OrdC cmpN := ⟨cmpN_val, cmpN_neg, cmpN_le⟩
theorem cmpN_zero : ∀ {a b}, cmpN a b = 0 → a = b
  | [], [], _ => rfl
  | [], _ :: _, h => by simp only [cmpN] at h; rw [sgn_zero_iff] at h; simp at h; omega
  | _ :: _, [], h => by simp only [cmpN] at h; rw [sgn_zero_iff] at h; simp at h; omega
  | x :: l, y :: m, h => by
    rw [cmpN] at h
    split at h
    · rename_i e0
      rw [sgn_zero_iff] at e0
      rw [cmpN_zero h, show x = y by omega]
    · rename_i e0; exact absurd h e0
theorem cmpN_self : ∀ a, cmpN a a = 0
  | [] => by simp [cmpN, sgn]
  | x :: l => by rw [cmpN, if_pos (by rw [sgn_zero_iff]), cmpN_self l]

theorem cmpL_N : ∀ l m : List U, cmpL l m = cmpN (l.map (·.1)) (m.map (·.1))
  | [], m => by cases m <;> simp [cmpL, cmpN]
  | _ :: _, [] => by simp [cmpL, cmpN]
  | x :: l, y :: m => by
    rw [List.map_cons, List.map_cons, cmpL, cmpN, cmpL_N l m]
def nums (l : List UInt8) : List Nat := l.map UInt8.toNat
theorem bytesLess_N : ∀ l m : List UInt8, Op.bytesLess l m = true ↔ cmpN (nums l) (nums m) < 0
  | [], [] => by simp [Op.bytesLess, nums, cmpN, sgn]
  | [], _ :: _ => by simp [Op.bytesLess, nums, cmpN, sgn]
  | _ :: _, [] => by
    simp only [Op.bytesLess, nums, List.map_cons, List.map_nil, cmpN]; rw [sgn_lt]; simp; omega
  | x :: l, y :: m => by
    have ih := bytesLess_N l m
    unfold nums at ih ⊢
    rw [List.map_cons, List.map_cons, cmpN, Op.bytesLess]
    rw [Bool.or_eq_true, Bool.and_eq_true, ih]
    have h1 : (decide (x < y) = true) ↔ x.toNat < y.toNat := by rw [decide_eq_true_eq, UInt8.lt_iff_toNat_lt]
    have h2 : ((x == y) = true) ↔ x.toNat = y.toNat := by rw [beq_iff_eq]; exact ⟨fun h => by rw [h], fun h => UInt8.toNat_inj.1 h⟩
    rw [h1, h2]
    split
    · rename_i e0
      rw [sgn_zero_iff] at e0
      constructor
      · rintro (h | h)
        · omega
        · exact h.2
      · intro h; exact .inr ⟨by omega, h⟩
    · rename_i e0
      rw [sgn_zero_iff] at e0
      rw [sgn_lt]
      constructor
      · rintro (h | h)
        · omega
        · omega
      · intro h; exact .inl (by omega)
theorem nums_inj {l m : List UInt8} (h : nums l = nums m) : l = m := by
  induction l generalizing m with
  | nil => cases m with | nil => rfl | cons y m => cases h
  | cons x l ih =>
    cases m with
    | nil => cases h
    | cons y m =>
      have h1 := (List.cons.inj h).1
      have h2 := (List.cons.inj h).2
      rw [UInt8.toNat_inj.1 h1, ih h2]
theorem toList_lst (s : ByteArray) : s.toList = lst s := Lib.toList_data s
theorem strC_N (a b : ByteArray) : strC a b = cmpN (nums (lst a)) (nums (lst b)) := by
  unfold strC
  rw [toList_lst, toList_lst]
  have hb := bytesLess_N (lst a) (lst b)
  have hv := cmpN_val (nums (lst a)) (nums (lst b))
  by_cases h : Op.bytesLess (lst a) (lst b) = true
  · rw [if_pos h]; have := hb.1 h; omega
  · rw [if_neg h]
    by_cases e : (lst a == lst b) = true
    · rw [if_pos e, eq_of_beq e, cmpN_self]
    · rw [if_neg e]
      have : cmpN (nums (lst a)) (nums (lst b)) ≠ 0 := fun k => e (by rw [nums_inj (cmpN_zero k)]; exact beq_self_eq_true _)
      have h' : ¬ cmpN (nums (lst a)) (nums (lst b)) < 0 := fun k => h (hb.2 k)
      omega
/-- What Compare is. -/
def keyC (s : ByteArray) : List Nat × List Nat := ((pcs s).map (·.1), nums (lst s))
theorem cmpF_key (a b : ByteArray) : cmpF a b = (fun a b : List Nat × List Nat => if cmpN a.1 b.1 = 0 then cmpN a.2 b.2 else cmpN a.1 b.1) (keyC a) (keyC b) := by
  have h : cmpL (unitsOf a) (unitsOf b) = cmpN ((pcs a).map (·.1)) ((pcs b).map (·.1)) := by
    rw [cmpL_N]
    unfold pcs
    rw [List.map_map, List.map_map]
    rfl
  unfold cmpF keyC
  rw [h, strC_N]
theorem cmpF_ord : OrdC cmpF := by
  have h := OrdC.lex cmpN_ord cmpN_ord
  refine ⟨fun a b => ?_, fun a b => ?_, fun a b d => ?_⟩
  · rw [cmpF_key]; exact h.val _ _
  · rw [cmpF_key, cmpF_key]; exact h.neg _ _
  · rw [cmpF_key, cmpF_key, cmpF_key]; exact h.le _ _ _
theorem cmpF_self (a : ByteArray) : cmpF a a = 0 := by
  rw [cmpF_key]; dsimp only; rw [if_pos (cmpN_self _), cmpN_self]
theorem cmpF_zero {a b : ByteArray} (h : cmpF a b = 0) : a = b := by
  rw [cmpF_key] at h
  dsimp only at h
  split at h
  · exact lst_inj (nums_inj (cmpN_zero h))
  · rename_i e; exact absurd h e

/-! ### valid strings stand in their bytewise order -/
/-- The bytes of a good piece. -/
theorem enc_shape {x : P} (h : FromP x) (hk : okP x = true) :
    (x.1 < 128 ∧ nums x.2 = [x.1]) ∨ (128 ≤ x.1 ∧ x.1 < 2048 ∧ nums x.2 = [192 + x.1 / 64, 128 + x.1 % 64]) ∨
    (2048 ≤ x.1 ∧ x.1 < 65536 ∧ nums x.2 = [224 + x.1 / 4096, 128 + x.1 / 64 % 64, 128 + x.1 % 64]) ∨
    (65536 ≤ x.1 ∧ x.1 < 2097152 ∧ nums x.2 = [240 + x.1 / 262144, 128 + x.1 / 4096 % 64, 128 + x.1 / 64 % 64, 128 + x.1 % 64]) := by
  have hg := h.good hk
  have hd := hg.dec
  have hne : 0 < x.2.length := List.length_pos_iff.2 hg.ne
  obtain ⟨r, l⟩ := x
  dsimp only at hd hne ⊢
  rw [decodeL_N] at hd
  have k0 := (l.getD 0 0).toNat_lt
  have k1 := (l.getD 1 0).toNat_lt
  have k2 := (l.getD 2 0).toNat_lt
  have k3 := (l.getD 3 0).toNat_lt
  rcases Lib.decodeN_shape l.length (l.getD 0 0).toNat (l.getD 1 0).toNat (l.getD 2 0).toNat (l.getD 3 0).toNat with ⟨c, e⟩ | ⟨c1, c2, c3, cv, e⟩ | ⟨c1, c2, c3, c4, cv, cs, e⟩ | ⟨c1, c2, c3, c4, c5, cv, cw, e⟩ | e
  · rw [e] at hd
    obtain ⟨h1, h2⟩ := Prod.mk.inj hd
    have hl : l = [l.getD 0 0] := by rw [← Lib.takeA l hne, List.take_of_length_le (by omega)]
    refine .inl ⟨by omega, ?_⟩
    rw [hl]
    simp only [nums, List.map_cons, List.map_nil, List.getD_cons_zero]
    rw [h1]
  · rw [e] at hd
    obtain ⟨h1, h2⟩ := Prod.mk.inj hd
    have hl : l = [l.getD 0 0, l.getD 1 0] := by rw [← Lib.takeB l c2, List.take_of_length_le (by omega)]
    refine .inr (.inl ⟨by omega, by omega, ?_⟩)
    rw [hl]
    simp only [nums, List.map_cons, List.map_nil, List.getD_cons_zero, List.getD_cons_succ]
    rw [show (l.getD 0 0).toNat = 192 + r / 64 by omega, show (l.getD 1 0).toNat = 128 + r % 64 by omega]
  · rw [e] at hd
    obtain ⟨h1, h2⟩ := Prod.mk.inj hd
    have hl : l = [l.getD 0 0, l.getD 1 0, l.getD 2 0] := by rw [← Lib.takeC l c2, List.take_of_length_le (by omega)]
    refine .inr (.inr (.inl ⟨by omega, by omega, ?_⟩))
    rw [hl]
    simp only [nums, List.map_cons, List.map_nil, List.getD_cons_zero, List.getD_cons_succ]
    rw [show (l.getD 0 0).toNat = 224 + r / 4096 by omega, show (l.getD 1 0).toNat = 128 + r / 64 % 64 by omega, show (l.getD 2 0).toNat = 128 + r % 64 by omega]
  · rw [e] at hd
    obtain ⟨h1, h2⟩ := Prod.mk.inj hd
    have hl : l = [l.getD 0 0, l.getD 1 0, l.getD 2 0, l.getD 3 0] := by rw [← Lib.takeD l c2, List.take_of_length_le (by omega)]
    refine .inr (.inr (.inr ⟨by omega, by omega, ?_⟩))
    rw [hl]
    simp only [nums, List.map_cons, List.map_nil, List.getD_cons_zero, List.getD_cons_succ]
    rw [show (l.getD 0 0).toNat = 240 + r / 262144 by omega, show (l.getD 1 0).toNat = 128 + r / 4096 % 64 by omega, show (l.getD 2 0).toNat = 128 + r / 64 % 64 by omega, show (l.getD 3 0).toNat = 128 + r % 64 by omega]
  · rw [e] at hd
    obtain ⟨h1, h2⟩ := Prod.mk.inj hd
    exact absurd ⟨h1.symm, h2.symm⟩ (okP_iff.1 hk)

theorem cmpN_step (x y : Nat) (l m : List Nat) : cmpN (x :: l) (y :: m) = if x = y then cmpN l m else if x < y then -1 else 1 := by
  rw [cmpN]
  by_cases e : x = y
  · rw [if_pos e, if_pos (by rw [sgn_zero_iff]; omega)]
  · rw [if_neg e, if_neg (by rw [sgn_zero_iff]; omega)]
    unfold sgn
    by_cases h : x < y
    · rw [if_pos h, if_pos (by omega)]
    · rw [if_neg h, if_neg (by omega), if_pos (by omega)]
theorem nums_append (l m : List UInt8) : nums (l ++ m) = nums l ++ nums m := by simp [nums]
set_option maxHeartbeats 1000000 in
theorem piece_lt {x y : P} (hx : FromP x) (hy : FromP y) (kx : okP x = true) (ky : okP y = true) (h : x.1 < y.1) (s t : List Nat) : cmpN (nums x.2 ++ s) (nums y.2 ++ t) = -1 := by
  rcases enc_shape hx kx with ⟨a1, e⟩ | ⟨a1, a2, e⟩ | ⟨a1, a2, e⟩ | ⟨a1, a2, e⟩ <;>
  rcases enc_shape hy ky with ⟨b1, e'⟩ | ⟨b1, b2, e'⟩ | ⟨b1, b2, e'⟩ | ⟨b1, b2, e'⟩
  all_goals first
    | (exfalso; omega)
    | (rw [e, e']
       simp only [List.cons_append, List.nil_append, cmpN_step]
       repeat' split
       all_goals first | rfl | (exfalso; omega))
theorem flat_N {xs ys : List P} (hx : ∀ x ∈ xs, FromP x ∧ okP x = true) (hy : ∀ y ∈ ys, FromP y ∧ okP y = true) : cmpN (nums (flat xs)) (nums (flat ys)) = cmpN (xs.map (·.1)) (ys.map (·.1)) := by
  induction xs generalizing ys with
  | nil =>
    cases ys with
    | nil => rfl
    | cons y ys =>
      have hl := (hy y (List.mem_cons_self ..)).1.len
      have : sgn ((0 : Nat) : Int) (((flat (y :: ys)).length : Nat) : Int) = -1 := by
        rw [flat_cons, List.length_append]; unfold sgn; rw [if_pos (by omega)]
      simp only [flat, List.flatMap_nil, nums, List.map_nil, cmpN, List.length_map, List.length_nil, List.map_cons, List.length_cons]
      unfold sgn
      rw [if_pos (by simp only [List.flatMap_cons, List.length_append]; omega), if_pos (by omega)]
  | cons x xs ih =>
    have hl := (hx x (List.mem_cons_self ..)).1.len
    cases ys with
    | nil =>
      rw [cmpN_neg, cmpN_neg _ (List.map _ (x :: xs))]
      congr 1
      simp only [flat, List.flatMap_nil, nums, List.map_nil, cmpN, List.length_map, List.length_nil, List.map_cons, List.length_cons]
      unfold sgn
      rw [if_pos (by simp only [List.flatMap_cons, List.length_append]; omega), if_pos (by omega)]
    | cons y ys =>
      have px := hx x (List.mem_cons_self ..)
      have py := hy y (List.mem_cons_self ..)
      rw [flat_cons, flat_cons, nums_append, nums_append, List.map_cons, List.map_cons, cmpN_step]
      by_cases e : x.1 = y.1
      · rw [if_pos e, ← ih (fun z hz => hx z (List.mem_cons_of_mem _ hz)) (fun z hz => hy z (List.mem_cons_of_mem _ hz))]
        have e2 : x.2 = y.2 := by rw [← px.1.enc px.2, ← py.1.enc py.2, e]
        rw [e2]
        generalize nums y.2 = p
        induction p with
        | nil => rfl
        | cons q p ih2 => rw [List.cons_append, List.cons_append, cmpN_step, if_pos rfl, ih2]
      · rw [if_neg e]
        by_cases h : x.1 < y.1
        · rw [if_pos h]; exact piece_lt px.1 py.1 px.2 py.2 h _ _
        · rw [if_neg h, cmpN_neg, piece_lt py.1 px.1 py.2 px.2 (by omega)]; rfl
/-- Valid strings stand in their bytewise order. -/
theorem cmpF_less {a b : ByteArray} (ha : validF a = true) (hb : validF b = true) : cmpF a b < 0 ↔ Op.bytesLess a.toList b.toList = true := by
  have h := flat_N (xs := pcs a) (ys := pcs b) (fun x hx => ⟨pcs_from a x hx, valid_iff.1 ha x hx⟩) (fun x hx => ⟨pcs_from b x hx, valid_iff.1 hb x hx⟩)
  rw [pcs_flat, pcs_flat] at h
  rw [toList_lst, toList_lst, bytesLess_N, cmpF_key, h]
  dsimp only [keyC]
  rw [h]
  split
  · rfl
  · rfl
end Go.Proofs.Ytaaegelefknkeaa
