/- The walk of the law CodepointOrders. -/
import Derived.Test.YtaaegelefknkeaaCpU
import Derived.Test.YtaaegelefknkeaaOrd
namespace Go.Proofs.Ytaaegelefknkeaa
open Go.RowKit Go.Shelf
set_option linter.unusedSimpArgs false

/-- Compare's answers hang together. -/
theorem cmp_cases (a b c : ByteArray) :
    (cmpF a b = 0 ∧ a = b ∧ (cmpF b c = -1 ∧ cmpF a c = -1 ∨ cmpF b c = 0 ∧ cmpF a c = 0 ∨ cmpF b c = 1 ∧ cmpF a c = 1)) ∨
    (cmpF a b = -1 ∧ a ≠ b ∧ (cmpF b c = -1 ∧ cmpF a c = -1 ∨ cmpF b c = 0 ∧ cmpF a c = -1 ∨ cmpF b c = 1 ∧ cmpF a c = -1 ∨ cmpF b c = 1 ∧ cmpF a c = 0 ∨ cmpF b c = 1 ∧ cmpF a c = 1)) ∨
    (cmpF a b = 1 ∧ a ≠ b ∧ (cmpF b c = 1 ∧ cmpF a c = 1 ∨ cmpF b c = 0 ∧ cmpF a c = 1 ∨ cmpF b c = -1 ∧ cmpF a c = -1 ∨ cmpF b c = -1 ∧ cmpF a c = 0 ∨ cmpF b c = -1 ∧ cmpF a c = 1)) := by
  have o := cmpF_ord
  have v1 := o.val a b
  have v2 := o.val b c
  have v3 := o.val a c
  by_cases e : a = b
  · subst e
    have := cmpF_self a
    refine .inl ⟨this, rfl, ?_⟩
    omega
  · have hne : cmpF a b ≠ 0 := fun k => e (cmpF_zero k)
    have n1 := o.neg a b
    have n2 := o.neg b c
    have n3 := o.neg a c
    have t1 := o.le a b c
    have t2 := o.le c b a
    by_cases h : cmpF a b = -1
    · refine .inr (.inl ⟨h, e, ?_⟩)
      have : cmpF b c ≤ 0 → cmpF a c = -1 := fun k => by
        have k2 := t1 (by omega) k
        by_cases z : cmpF a c = 0
        · have := (o.eq0 (a := a) (b := b) (d := c) (by omega) k z).1; omega
        · omega
      omega
    · have h1 : cmpF a b = 1 := by omega
      refine .inr (.inr ⟨h1, e, ?_⟩)
      have : 0 ≤ cmpF b c → cmpF a c = 1 := fun k => by
        have k2 := t2 (by omega) (by omega)
        by_cases z : cmpF a c = 0
        · have := (o.eq0 (a := c) (b := b) (d := a) (by omega) (by omega) (by omega)).2; omega
        · omega
      omega

/-- What the calls of a round give. -/
structure OrdK (a b c : ByteArray) (x y z : Int) (va vb : Bool) : Prop where
  c1 : ∀ w, Calls Try.prog 27 #[.string a, .string b] w fun e w' => e = .returned (.int .i64 x) ∧ Below w.heap.size w w'
  c2 : ∀ w, Calls Try.prog 27 #[.string b, .string c] w fun e w' => e = .returned (.int .i64 y) ∧ Below w.heap.size w w'
  c3 : ∀ w, Calls Try.prog 27 #[.string a, .string c] w fun e w' => e = .returned (.int .i64 z) ∧ Below w.heap.size w w'
  c4 : ∀ w, Calls Try.prog 27 #[.string b, .string a] w fun e w' => e = .returned (.int .i64 (-x)) ∧ Below w.heap.size w w'
  v1 : ∀ w, Calls Try.prog 23 #[.string a] w fun e w' => e = .returned (.bool va) ∧ Below w.heap.size w w'
  v2 : ∀ w, Calls Try.prog 23 #[.string b] w fun e w' => e = .returned (.bool vb) ∧ Below w.heap.size w w'
  long : (decide (400 < a.size) || decide (400 < b.size) || decide (400 < c.size)) = false

theorem ordK {a b c : ByteArray} (ha : a.size ≤ 400) (hb : b.size ≤ 400) (hc : c.size ≤ 400) : OrdK a b c (cmpF a b) (cmpF b c) (cmpF a c) (validF a) (validF b) := by
  refine ⟨fun w => Compare_any a b (by omega) (by omega) w, fun w => Compare_any b c (by omega) (by omega) w, fun w => Compare_any a c (by omega) (by omega) w, fun w => ?_, fun w => Valid_any a (by omega) w, fun w => Valid_any b (by omega) w, by simp; omega⟩
  rw [← cmpF_ord.neg a b]
  exact Compare_any b a (by omega) (by omega) w

/-! ### the walks -/
set_option maxHeartbeats 4000000 in
theorem o_0_m_f (a b c : ByteArray) (w : World) (vb : Bool) (h : OrdK a b c (0) (-1) (-1) false vb) (e1 : (a.toList == b.toList) = true) :
    Calls Try.prog 12 #[.string a, .string b, .string c] w fun e w' => e = .returned (.bool true) ∧ Below w.heap.size w w' := by
  have H := Lib.hid h
  clear h
  go_enter Try.func12, Try.ntmps12
  go_wp2_with (first | (go_at_call 13; refine (long3 a b c w false H.out.long).mono ?_; rintro e w' ⟨rfl, rfl⟩; have HBc := b0 w (.cells #[.string a, .string b, .string c] 9)) | (go_at_call 27; with_reducible refine (H.out.c1 _).mono ?_; rintro e w' ⟨rfl, hb⟩; replace HBc := bchain HBc hb; clear hb) | (go_at_call 27; with_reducible refine (H.out.c2 _).mono ?_; rintro e w' ⟨rfl, hb⟩; replace HBc := bchain HBc hb; clear hb) | (go_at_call 27; with_reducible refine (H.out.c3 _).mono ?_; rintro e w' ⟨rfl, hb⟩; replace HBc := bchain HBc hb; clear hb) | (go_at_call 27; with_reducible refine (H.out.c4 _).mono ?_; rintro e w' ⟨rfl, hb⟩; replace HBc := bchain HBc hb; clear hb) | (go_at_call 23; with_reducible refine (H.out.v1 _).mono ?_; rintro e w' ⟨rfl, hb⟩; replace HBc := bchain HBc hb; clear hb) | (go_at_call 23; with_reducible refine (H.out.v2 _).mono ?_; rintro e w' ⟨rfl, hb⟩; replace HBc := bchain HBc hb; clear hb) | (go_at_call 16; refine (awake_any _).mono ?_; rintro e w' ⟨rfl, hb⟩; replace HBc := bchain HBc hb; clear hb))
  go_ret
  exact ⟨rfl, HBc⟩
set_option maxHeartbeats 4000000 in
theorem o_0_m_tf (a b c : ByteArray) (w : World) (h : OrdK a b c (0) (-1) (-1) true false) (e1 : (a.toList == b.toList) = true) :
    Calls Try.prog 12 #[.string a, .string b, .string c] w fun e w' => e = .returned (.bool true) ∧ Below w.heap.size w w' := by
  have H := Lib.hid h
  clear h
  go_enter Try.func12, Try.ntmps12
  go_wp2_with (first | (go_at_call 13; refine (long3 a b c w false H.out.long).mono ?_; rintro e w' ⟨rfl, rfl⟩; have HBc := b0 w (.cells #[.string a, .string b, .string c] 9)) | (go_at_call 27; with_reducible refine (H.out.c1 _).mono ?_; rintro e w' ⟨rfl, hb⟩; replace HBc := bchain HBc hb; clear hb) | (go_at_call 27; with_reducible refine (H.out.c2 _).mono ?_; rintro e w' ⟨rfl, hb⟩; replace HBc := bchain HBc hb; clear hb) | (go_at_call 27; with_reducible refine (H.out.c3 _).mono ?_; rintro e w' ⟨rfl, hb⟩; replace HBc := bchain HBc hb; clear hb) | (go_at_call 27; with_reducible refine (H.out.c4 _).mono ?_; rintro e w' ⟨rfl, hb⟩; replace HBc := bchain HBc hb; clear hb) | (go_at_call 23; with_reducible refine (H.out.v1 _).mono ?_; rintro e w' ⟨rfl, hb⟩; replace HBc := bchain HBc hb; clear hb) | (go_at_call 23; with_reducible refine (H.out.v2 _).mono ?_; rintro e w' ⟨rfl, hb⟩; replace HBc := bchain HBc hb; clear hb) | (go_at_call 16; refine (awake_any _).mono ?_; rintro e w' ⟨rfl, hb⟩; replace HBc := bchain HBc hb; clear hb))
  go_ret
  exact ⟨rfl, HBc⟩
set_option maxHeartbeats 4000000 in
theorem o_0_m_tt (a b c : ByteArray) (w : World) (h : OrdK a b c (0) (-1) (-1) true true) (e1 : (a.toList == b.toList) = true) (e2 : Op.bytesLess a.toList b.toList = false) :
    Calls Try.prog 12 #[.string a, .string b, .string c] w fun e w' => e = .returned (.bool true) ∧ Below w.heap.size w w' := by
  have H := Lib.hid h
  clear h
  go_enter Try.func12, Try.ntmps12
  go_wp2_with (first | (go_at_call 13; refine (long3 a b c w false H.out.long).mono ?_; rintro e w' ⟨rfl, rfl⟩; have HBc := b0 w (.cells #[.string a, .string b, .string c] 9)) | (go_at_call 27; with_reducible refine (H.out.c1 _).mono ?_; rintro e w' ⟨rfl, hb⟩; replace HBc := bchain HBc hb; clear hb) | (go_at_call 27; with_reducible refine (H.out.c2 _).mono ?_; rintro e w' ⟨rfl, hb⟩; replace HBc := bchain HBc hb; clear hb) | (go_at_call 27; with_reducible refine (H.out.c3 _).mono ?_; rintro e w' ⟨rfl, hb⟩; replace HBc := bchain HBc hb; clear hb) | (go_at_call 27; with_reducible refine (H.out.c4 _).mono ?_; rintro e w' ⟨rfl, hb⟩; replace HBc := bchain HBc hb; clear hb) | (go_at_call 23; with_reducible refine (H.out.v1 _).mono ?_; rintro e w' ⟨rfl, hb⟩; replace HBc := bchain HBc hb; clear hb) | (go_at_call 23; with_reducible refine (H.out.v2 _).mono ?_; rintro e w' ⟨rfl, hb⟩; replace HBc := bchain HBc hb; clear hb) | (go_at_call 16; refine (awake_any _).mono ?_; rintro e w' ⟨rfl, hb⟩; replace HBc := bchain HBc hb; clear hb))
  go_ret
  exact ⟨rfl, HBc⟩
set_option maxHeartbeats 4000000 in
theorem o_0_0_f (a b c : ByteArray) (w : World) (vb : Bool) (h : OrdK a b c (0) (0) (0) false vb) (e1 : (a.toList == b.toList) = true) :
    Calls Try.prog 12 #[.string a, .string b, .string c] w fun e w' => e = .returned (.bool true) ∧ Below w.heap.size w w' := by
  have H := Lib.hid h
  clear h
  go_enter Try.func12, Try.ntmps12
  go_wp2_with (first | (go_at_call 13; refine (long3 a b c w false H.out.long).mono ?_; rintro e w' ⟨rfl, rfl⟩; have HBc := b0 w (.cells #[.string a, .string b, .string c] 9)) | (go_at_call 27; with_reducible refine (H.out.c1 _).mono ?_; rintro e w' ⟨rfl, hb⟩; replace HBc := bchain HBc hb; clear hb) | (go_at_call 27; with_reducible refine (H.out.c2 _).mono ?_; rintro e w' ⟨rfl, hb⟩; replace HBc := bchain HBc hb; clear hb) | (go_at_call 27; with_reducible refine (H.out.c3 _).mono ?_; rintro e w' ⟨rfl, hb⟩; replace HBc := bchain HBc hb; clear hb) | (go_at_call 27; with_reducible refine (H.out.c4 _).mono ?_; rintro e w' ⟨rfl, hb⟩; replace HBc := bchain HBc hb; clear hb) | (go_at_call 23; with_reducible refine (H.out.v1 _).mono ?_; rintro e w' ⟨rfl, hb⟩; replace HBc := bchain HBc hb; clear hb) | (go_at_call 23; with_reducible refine (H.out.v2 _).mono ?_; rintro e w' ⟨rfl, hb⟩; replace HBc := bchain HBc hb; clear hb) | (go_at_call 16; refine (awake_any _).mono ?_; rintro e w' ⟨rfl, hb⟩; replace HBc := bchain HBc hb; clear hb))
  go_ret
  exact ⟨rfl, HBc⟩
set_option maxHeartbeats 4000000 in
theorem o_0_0_tf (a b c : ByteArray) (w : World) (h : OrdK a b c (0) (0) (0) true false) (e1 : (a.toList == b.toList) = true) :
    Calls Try.prog 12 #[.string a, .string b, .string c] w fun e w' => e = .returned (.bool true) ∧ Below w.heap.size w w' := by
  have H := Lib.hid h
  clear h
  go_enter Try.func12, Try.ntmps12
  go_wp2_with (first | (go_at_call 13; refine (long3 a b c w false H.out.long).mono ?_; rintro e w' ⟨rfl, rfl⟩; have HBc := b0 w (.cells #[.string a, .string b, .string c] 9)) | (go_at_call 27; with_reducible refine (H.out.c1 _).mono ?_; rintro e w' ⟨rfl, hb⟩; replace HBc := bchain HBc hb; clear hb) | (go_at_call 27; with_reducible refine (H.out.c2 _).mono ?_; rintro e w' ⟨rfl, hb⟩; replace HBc := bchain HBc hb; clear hb) | (go_at_call 27; with_reducible refine (H.out.c3 _).mono ?_; rintro e w' ⟨rfl, hb⟩; replace HBc := bchain HBc hb; clear hb) | (go_at_call 27; with_reducible refine (H.out.c4 _).mono ?_; rintro e w' ⟨rfl, hb⟩; replace HBc := bchain HBc hb; clear hb) | (go_at_call 23; with_reducible refine (H.out.v1 _).mono ?_; rintro e w' ⟨rfl, hb⟩; replace HBc := bchain HBc hb; clear hb) | (go_at_call 23; with_reducible refine (H.out.v2 _).mono ?_; rintro e w' ⟨rfl, hb⟩; replace HBc := bchain HBc hb; clear hb) | (go_at_call 16; refine (awake_any _).mono ?_; rintro e w' ⟨rfl, hb⟩; replace HBc := bchain HBc hb; clear hb))
  go_ret
  exact ⟨rfl, HBc⟩
set_option maxHeartbeats 4000000 in
theorem o_0_0_tt (a b c : ByteArray) (w : World) (h : OrdK a b c (0) (0) (0) true true) (e1 : (a.toList == b.toList) = true) (e2 : Op.bytesLess a.toList b.toList = false) :
    Calls Try.prog 12 #[.string a, .string b, .string c] w fun e w' => e = .returned (.bool true) ∧ Below w.heap.size w w' := by
  have H := Lib.hid h
  clear h
  go_enter Try.func12, Try.ntmps12
  go_wp2_with (first | (go_at_call 13; refine (long3 a b c w false H.out.long).mono ?_; rintro e w' ⟨rfl, rfl⟩; have HBc := b0 w (.cells #[.string a, .string b, .string c] 9)) | (go_at_call 27; with_reducible refine (H.out.c1 _).mono ?_; rintro e w' ⟨rfl, hb⟩; replace HBc := bchain HBc hb; clear hb) | (go_at_call 27; with_reducible refine (H.out.c2 _).mono ?_; rintro e w' ⟨rfl, hb⟩; replace HBc := bchain HBc hb; clear hb) | (go_at_call 27; with_reducible refine (H.out.c3 _).mono ?_; rintro e w' ⟨rfl, hb⟩; replace HBc := bchain HBc hb; clear hb) | (go_at_call 27; with_reducible refine (H.out.c4 _).mono ?_; rintro e w' ⟨rfl, hb⟩; replace HBc := bchain HBc hb; clear hb) | (go_at_call 23; with_reducible refine (H.out.v1 _).mono ?_; rintro e w' ⟨rfl, hb⟩; replace HBc := bchain HBc hb; clear hb) | (go_at_call 23; with_reducible refine (H.out.v2 _).mono ?_; rintro e w' ⟨rfl, hb⟩; replace HBc := bchain HBc hb; clear hb) | (go_at_call 16; refine (awake_any _).mono ?_; rintro e w' ⟨rfl, hb⟩; replace HBc := bchain HBc hb; clear hb))
  go_ret
  exact ⟨rfl, HBc⟩
set_option maxHeartbeats 4000000 in
theorem o_0_p_f (a b c : ByteArray) (w : World) (vb : Bool) (h : OrdK a b c (0) (1) (1) false vb) (e1 : (a.toList == b.toList) = true) :
    Calls Try.prog 12 #[.string a, .string b, .string c] w fun e w' => e = .returned (.bool true) ∧ Below w.heap.size w w' := by
  have H := Lib.hid h
  clear h
  go_enter Try.func12, Try.ntmps12
  go_wp2_with (first | (go_at_call 13; refine (long3 a b c w false H.out.long).mono ?_; rintro e w' ⟨rfl, rfl⟩; have HBc := b0 w (.cells #[.string a, .string b, .string c] 9)) | (go_at_call 27; with_reducible refine (H.out.c1 _).mono ?_; rintro e w' ⟨rfl, hb⟩; replace HBc := bchain HBc hb; clear hb) | (go_at_call 27; with_reducible refine (H.out.c2 _).mono ?_; rintro e w' ⟨rfl, hb⟩; replace HBc := bchain HBc hb; clear hb) | (go_at_call 27; with_reducible refine (H.out.c3 _).mono ?_; rintro e w' ⟨rfl, hb⟩; replace HBc := bchain HBc hb; clear hb) | (go_at_call 27; with_reducible refine (H.out.c4 _).mono ?_; rintro e w' ⟨rfl, hb⟩; replace HBc := bchain HBc hb; clear hb) | (go_at_call 23; with_reducible refine (H.out.v1 _).mono ?_; rintro e w' ⟨rfl, hb⟩; replace HBc := bchain HBc hb; clear hb) | (go_at_call 23; with_reducible refine (H.out.v2 _).mono ?_; rintro e w' ⟨rfl, hb⟩; replace HBc := bchain HBc hb; clear hb) | (go_at_call 16; refine (awake_any _).mono ?_; rintro e w' ⟨rfl, hb⟩; replace HBc := bchain HBc hb; clear hb))
  go_ret
  exact ⟨rfl, HBc⟩
set_option maxHeartbeats 4000000 in
theorem o_0_p_tf (a b c : ByteArray) (w : World) (h : OrdK a b c (0) (1) (1) true false) (e1 : (a.toList == b.toList) = true) :
    Calls Try.prog 12 #[.string a, .string b, .string c] w fun e w' => e = .returned (.bool true) ∧ Below w.heap.size w w' := by
  have H := Lib.hid h
  clear h
  go_enter Try.func12, Try.ntmps12
  go_wp2_with (first | (go_at_call 13; refine (long3 a b c w false H.out.long).mono ?_; rintro e w' ⟨rfl, rfl⟩; have HBc := b0 w (.cells #[.string a, .string b, .string c] 9)) | (go_at_call 27; with_reducible refine (H.out.c1 _).mono ?_; rintro e w' ⟨rfl, hb⟩; replace HBc := bchain HBc hb; clear hb) | (go_at_call 27; with_reducible refine (H.out.c2 _).mono ?_; rintro e w' ⟨rfl, hb⟩; replace HBc := bchain HBc hb; clear hb) | (go_at_call 27; with_reducible refine (H.out.c3 _).mono ?_; rintro e w' ⟨rfl, hb⟩; replace HBc := bchain HBc hb; clear hb) | (go_at_call 27; with_reducible refine (H.out.c4 _).mono ?_; rintro e w' ⟨rfl, hb⟩; replace HBc := bchain HBc hb; clear hb) | (go_at_call 23; with_reducible refine (H.out.v1 _).mono ?_; rintro e w' ⟨rfl, hb⟩; replace HBc := bchain HBc hb; clear hb) | (go_at_call 23; with_reducible refine (H.out.v2 _).mono ?_; rintro e w' ⟨rfl, hb⟩; replace HBc := bchain HBc hb; clear hb) | (go_at_call 16; refine (awake_any _).mono ?_; rintro e w' ⟨rfl, hb⟩; replace HBc := bchain HBc hb; clear hb))
  go_ret
  exact ⟨rfl, HBc⟩
set_option maxHeartbeats 4000000 in
theorem o_0_p_tt (a b c : ByteArray) (w : World) (h : OrdK a b c (0) (1) (1) true true) (e1 : (a.toList == b.toList) = true) (e2 : Op.bytesLess a.toList b.toList = false) :
    Calls Try.prog 12 #[.string a, .string b, .string c] w fun e w' => e = .returned (.bool true) ∧ Below w.heap.size w w' := by
  have H := Lib.hid h
  clear h
  go_enter Try.func12, Try.ntmps12
  go_wp2_with (first | (go_at_call 13; refine (long3 a b c w false H.out.long).mono ?_; rintro e w' ⟨rfl, rfl⟩; have HBc := b0 w (.cells #[.string a, .string b, .string c] 9)) | (go_at_call 27; with_reducible refine (H.out.c1 _).mono ?_; rintro e w' ⟨rfl, hb⟩; replace HBc := bchain HBc hb; clear hb) | (go_at_call 27; with_reducible refine (H.out.c2 _).mono ?_; rintro e w' ⟨rfl, hb⟩; replace HBc := bchain HBc hb; clear hb) | (go_at_call 27; with_reducible refine (H.out.c3 _).mono ?_; rintro e w' ⟨rfl, hb⟩; replace HBc := bchain HBc hb; clear hb) | (go_at_call 27; with_reducible refine (H.out.c4 _).mono ?_; rintro e w' ⟨rfl, hb⟩; replace HBc := bchain HBc hb; clear hb) | (go_at_call 23; with_reducible refine (H.out.v1 _).mono ?_; rintro e w' ⟨rfl, hb⟩; replace HBc := bchain HBc hb; clear hb) | (go_at_call 23; with_reducible refine (H.out.v2 _).mono ?_; rintro e w' ⟨rfl, hb⟩; replace HBc := bchain HBc hb; clear hb) | (go_at_call 16; refine (awake_any _).mono ?_; rintro e w' ⟨rfl, hb⟩; replace HBc := bchain HBc hb; clear hb))
  go_ret
  exact ⟨rfl, HBc⟩
set_option maxHeartbeats 4000000 in
theorem o_m_m_f (a b c : ByteArray) (w : World) (vb : Bool) (h : OrdK a b c (-1) (-1) (-1) false vb) (e1 : (a.toList == b.toList) = false) :
    Calls Try.prog 12 #[.string a, .string b, .string c] w fun e w' => e = .returned (.bool true) ∧ Below w.heap.size w w' := by
  have H := Lib.hid h
  clear h
  go_enter Try.func12, Try.ntmps12
  go_wp2_with (first | (go_at_call 13; refine (long3 a b c w false H.out.long).mono ?_; rintro e w' ⟨rfl, rfl⟩; have HBc := b0 w (.cells #[.string a, .string b, .string c] 9)) | (go_at_call 27; with_reducible refine (H.out.c1 _).mono ?_; rintro e w' ⟨rfl, hb⟩; replace HBc := bchain HBc hb; clear hb) | (go_at_call 27; with_reducible refine (H.out.c2 _).mono ?_; rintro e w' ⟨rfl, hb⟩; replace HBc := bchain HBc hb; clear hb) | (go_at_call 27; with_reducible refine (H.out.c3 _).mono ?_; rintro e w' ⟨rfl, hb⟩; replace HBc := bchain HBc hb; clear hb) | (go_at_call 27; with_reducible refine (H.out.c4 _).mono ?_; rintro e w' ⟨rfl, hb⟩; replace HBc := bchain HBc hb; clear hb) | (go_at_call 23; with_reducible refine (H.out.v1 _).mono ?_; rintro e w' ⟨rfl, hb⟩; replace HBc := bchain HBc hb; clear hb) | (go_at_call 23; with_reducible refine (H.out.v2 _).mono ?_; rintro e w' ⟨rfl, hb⟩; replace HBc := bchain HBc hb; clear hb) | (go_at_call 16; refine (awake_any _).mono ?_; rintro e w' ⟨rfl, hb⟩; replace HBc := bchain HBc hb; clear hb))
  go_ret
  exact ⟨rfl, HBc⟩
set_option maxHeartbeats 4000000 in
theorem o_m_m_tf (a b c : ByteArray) (w : World) (h : OrdK a b c (-1) (-1) (-1) true false) (e1 : (a.toList == b.toList) = false) :
    Calls Try.prog 12 #[.string a, .string b, .string c] w fun e w' => e = .returned (.bool true) ∧ Below w.heap.size w w' := by
  have H := Lib.hid h
  clear h
  go_enter Try.func12, Try.ntmps12
  go_wp2_with (first | (go_at_call 13; refine (long3 a b c w false H.out.long).mono ?_; rintro e w' ⟨rfl, rfl⟩; have HBc := b0 w (.cells #[.string a, .string b, .string c] 9)) | (go_at_call 27; with_reducible refine (H.out.c1 _).mono ?_; rintro e w' ⟨rfl, hb⟩; replace HBc := bchain HBc hb; clear hb) | (go_at_call 27; with_reducible refine (H.out.c2 _).mono ?_; rintro e w' ⟨rfl, hb⟩; replace HBc := bchain HBc hb; clear hb) | (go_at_call 27; with_reducible refine (H.out.c3 _).mono ?_; rintro e w' ⟨rfl, hb⟩; replace HBc := bchain HBc hb; clear hb) | (go_at_call 27; with_reducible refine (H.out.c4 _).mono ?_; rintro e w' ⟨rfl, hb⟩; replace HBc := bchain HBc hb; clear hb) | (go_at_call 23; with_reducible refine (H.out.v1 _).mono ?_; rintro e w' ⟨rfl, hb⟩; replace HBc := bchain HBc hb; clear hb) | (go_at_call 23; with_reducible refine (H.out.v2 _).mono ?_; rintro e w' ⟨rfl, hb⟩; replace HBc := bchain HBc hb; clear hb) | (go_at_call 16; refine (awake_any _).mono ?_; rintro e w' ⟨rfl, hb⟩; replace HBc := bchain HBc hb; clear hb))
  go_ret
  exact ⟨rfl, HBc⟩
set_option maxHeartbeats 4000000 in
theorem o_m_m_tt (a b c : ByteArray) (w : World) (h : OrdK a b c (-1) (-1) (-1) true true) (e1 : (a.toList == b.toList) = false) (e2 : Op.bytesLess a.toList b.toList = true) :
    Calls Try.prog 12 #[.string a, .string b, .string c] w fun e w' => e = .returned (.bool true) ∧ Below w.heap.size w w' := by
  have H := Lib.hid h
  clear h
  go_enter Try.func12, Try.ntmps12
  go_wp2_with (first | (go_at_call 13; refine (long3 a b c w false H.out.long).mono ?_; rintro e w' ⟨rfl, rfl⟩; have HBc := b0 w (.cells #[.string a, .string b, .string c] 9)) | (go_at_call 27; with_reducible refine (H.out.c1 _).mono ?_; rintro e w' ⟨rfl, hb⟩; replace HBc := bchain HBc hb; clear hb) | (go_at_call 27; with_reducible refine (H.out.c2 _).mono ?_; rintro e w' ⟨rfl, hb⟩; replace HBc := bchain HBc hb; clear hb) | (go_at_call 27; with_reducible refine (H.out.c3 _).mono ?_; rintro e w' ⟨rfl, hb⟩; replace HBc := bchain HBc hb; clear hb) | (go_at_call 27; with_reducible refine (H.out.c4 _).mono ?_; rintro e w' ⟨rfl, hb⟩; replace HBc := bchain HBc hb; clear hb) | (go_at_call 23; with_reducible refine (H.out.v1 _).mono ?_; rintro e w' ⟨rfl, hb⟩; replace HBc := bchain HBc hb; clear hb) | (go_at_call 23; with_reducible refine (H.out.v2 _).mono ?_; rintro e w' ⟨rfl, hb⟩; replace HBc := bchain HBc hb; clear hb) | (go_at_call 16; refine (awake_any _).mono ?_; rintro e w' ⟨rfl, hb⟩; replace HBc := bchain HBc hb; clear hb))
  go_ret
  exact ⟨rfl, HBc⟩
set_option maxHeartbeats 4000000 in
theorem o_m_0_f (a b c : ByteArray) (w : World) (vb : Bool) (h : OrdK a b c (-1) (0) (-1) false vb) (e1 : (a.toList == b.toList) = false) :
    Calls Try.prog 12 #[.string a, .string b, .string c] w fun e w' => e = .returned (.bool true) ∧ Below w.heap.size w w' := by
  have H := Lib.hid h
  clear h
  go_enter Try.func12, Try.ntmps12
  go_wp2_with (first | (go_at_call 13; refine (long3 a b c w false H.out.long).mono ?_; rintro e w' ⟨rfl, rfl⟩; have HBc := b0 w (.cells #[.string a, .string b, .string c] 9)) | (go_at_call 27; with_reducible refine (H.out.c1 _).mono ?_; rintro e w' ⟨rfl, hb⟩; replace HBc := bchain HBc hb; clear hb) | (go_at_call 27; with_reducible refine (H.out.c2 _).mono ?_; rintro e w' ⟨rfl, hb⟩; replace HBc := bchain HBc hb; clear hb) | (go_at_call 27; with_reducible refine (H.out.c3 _).mono ?_; rintro e w' ⟨rfl, hb⟩; replace HBc := bchain HBc hb; clear hb) | (go_at_call 27; with_reducible refine (H.out.c4 _).mono ?_; rintro e w' ⟨rfl, hb⟩; replace HBc := bchain HBc hb; clear hb) | (go_at_call 23; with_reducible refine (H.out.v1 _).mono ?_; rintro e w' ⟨rfl, hb⟩; replace HBc := bchain HBc hb; clear hb) | (go_at_call 23; with_reducible refine (H.out.v2 _).mono ?_; rintro e w' ⟨rfl, hb⟩; replace HBc := bchain HBc hb; clear hb) | (go_at_call 16; refine (awake_any _).mono ?_; rintro e w' ⟨rfl, hb⟩; replace HBc := bchain HBc hb; clear hb))
  go_ret
  exact ⟨rfl, HBc⟩
set_option maxHeartbeats 4000000 in
theorem o_m_0_tf (a b c : ByteArray) (w : World) (h : OrdK a b c (-1) (0) (-1) true false) (e1 : (a.toList == b.toList) = false) :
    Calls Try.prog 12 #[.string a, .string b, .string c] w fun e w' => e = .returned (.bool true) ∧ Below w.heap.size w w' := by
  have H := Lib.hid h
  clear h
  go_enter Try.func12, Try.ntmps12
  go_wp2_with (first | (go_at_call 13; refine (long3 a b c w false H.out.long).mono ?_; rintro e w' ⟨rfl, rfl⟩; have HBc := b0 w (.cells #[.string a, .string b, .string c] 9)) | (go_at_call 27; with_reducible refine (H.out.c1 _).mono ?_; rintro e w' ⟨rfl, hb⟩; replace HBc := bchain HBc hb; clear hb) | (go_at_call 27; with_reducible refine (H.out.c2 _).mono ?_; rintro e w' ⟨rfl, hb⟩; replace HBc := bchain HBc hb; clear hb) | (go_at_call 27; with_reducible refine (H.out.c3 _).mono ?_; rintro e w' ⟨rfl, hb⟩; replace HBc := bchain HBc hb; clear hb) | (go_at_call 27; with_reducible refine (H.out.c4 _).mono ?_; rintro e w' ⟨rfl, hb⟩; replace HBc := bchain HBc hb; clear hb) | (go_at_call 23; with_reducible refine (H.out.v1 _).mono ?_; rintro e w' ⟨rfl, hb⟩; replace HBc := bchain HBc hb; clear hb) | (go_at_call 23; with_reducible refine (H.out.v2 _).mono ?_; rintro e w' ⟨rfl, hb⟩; replace HBc := bchain HBc hb; clear hb) | (go_at_call 16; refine (awake_any _).mono ?_; rintro e w' ⟨rfl, hb⟩; replace HBc := bchain HBc hb; clear hb))
  go_ret
  exact ⟨rfl, HBc⟩
set_option maxHeartbeats 4000000 in
theorem o_m_0_tt (a b c : ByteArray) (w : World) (h : OrdK a b c (-1) (0) (-1) true true) (e1 : (a.toList == b.toList) = false) (e2 : Op.bytesLess a.toList b.toList = true) :
    Calls Try.prog 12 #[.string a, .string b, .string c] w fun e w' => e = .returned (.bool true) ∧ Below w.heap.size w w' := by
  have H := Lib.hid h
  clear h
  go_enter Try.func12, Try.ntmps12
  go_wp2_with (first | (go_at_call 13; refine (long3 a b c w false H.out.long).mono ?_; rintro e w' ⟨rfl, rfl⟩; have HBc := b0 w (.cells #[.string a, .string b, .string c] 9)) | (go_at_call 27; with_reducible refine (H.out.c1 _).mono ?_; rintro e w' ⟨rfl, hb⟩; replace HBc := bchain HBc hb; clear hb) | (go_at_call 27; with_reducible refine (H.out.c2 _).mono ?_; rintro e w' ⟨rfl, hb⟩; replace HBc := bchain HBc hb; clear hb) | (go_at_call 27; with_reducible refine (H.out.c3 _).mono ?_; rintro e w' ⟨rfl, hb⟩; replace HBc := bchain HBc hb; clear hb) | (go_at_call 27; with_reducible refine (H.out.c4 _).mono ?_; rintro e w' ⟨rfl, hb⟩; replace HBc := bchain HBc hb; clear hb) | (go_at_call 23; with_reducible refine (H.out.v1 _).mono ?_; rintro e w' ⟨rfl, hb⟩; replace HBc := bchain HBc hb; clear hb) | (go_at_call 23; with_reducible refine (H.out.v2 _).mono ?_; rintro e w' ⟨rfl, hb⟩; replace HBc := bchain HBc hb; clear hb) | (go_at_call 16; refine (awake_any _).mono ?_; rintro e w' ⟨rfl, hb⟩; replace HBc := bchain HBc hb; clear hb))
  go_ret
  exact ⟨rfl, HBc⟩
set_option maxHeartbeats 4000000 in
theorem o_m_p_f (a b c : ByteArray) (w : World) (z : Int) (vb : Bool) (h : OrdK a b c (-1) (1) (z) false vb) (e1 : (a.toList == b.toList) = false) :
    Calls Try.prog 12 #[.string a, .string b, .string c] w fun e w' => e = .returned (.bool true) ∧ Below w.heap.size w w' := by
  have H := Lib.hid h
  clear h
  go_enter Try.func12, Try.ntmps12
  go_wp2_with (first | (go_at_call 13; refine (long3 a b c w false H.out.long).mono ?_; rintro e w' ⟨rfl, rfl⟩; have HBc := b0 w (.cells #[.string a, .string b, .string c] 9)) | (go_at_call 27; with_reducible refine (H.out.c1 _).mono ?_; rintro e w' ⟨rfl, hb⟩; replace HBc := bchain HBc hb; clear hb) | (go_at_call 27; with_reducible refine (H.out.c2 _).mono ?_; rintro e w' ⟨rfl, hb⟩; replace HBc := bchain HBc hb; clear hb) | (go_at_call 27; with_reducible refine (H.out.c3 _).mono ?_; rintro e w' ⟨rfl, hb⟩; replace HBc := bchain HBc hb; clear hb) | (go_at_call 27; with_reducible refine (H.out.c4 _).mono ?_; rintro e w' ⟨rfl, hb⟩; replace HBc := bchain HBc hb; clear hb) | (go_at_call 23; with_reducible refine (H.out.v1 _).mono ?_; rintro e w' ⟨rfl, hb⟩; replace HBc := bchain HBc hb; clear hb) | (go_at_call 23; with_reducible refine (H.out.v2 _).mono ?_; rintro e w' ⟨rfl, hb⟩; replace HBc := bchain HBc hb; clear hb) | (go_at_call 16; refine (awake_any _).mono ?_; rintro e w' ⟨rfl, hb⟩; replace HBc := bchain HBc hb; clear hb))
  go_ret
  exact ⟨rfl, HBc⟩
set_option maxHeartbeats 4000000 in
theorem o_m_p_tf (a b c : ByteArray) (w : World) (z : Int) (h : OrdK a b c (-1) (1) (z) true false) (e1 : (a.toList == b.toList) = false) :
    Calls Try.prog 12 #[.string a, .string b, .string c] w fun e w' => e = .returned (.bool true) ∧ Below w.heap.size w w' := by
  have H := Lib.hid h
  clear h
  go_enter Try.func12, Try.ntmps12
  go_wp2_with (first | (go_at_call 13; refine (long3 a b c w false H.out.long).mono ?_; rintro e w' ⟨rfl, rfl⟩; have HBc := b0 w (.cells #[.string a, .string b, .string c] 9)) | (go_at_call 27; with_reducible refine (H.out.c1 _).mono ?_; rintro e w' ⟨rfl, hb⟩; replace HBc := bchain HBc hb; clear hb) | (go_at_call 27; with_reducible refine (H.out.c2 _).mono ?_; rintro e w' ⟨rfl, hb⟩; replace HBc := bchain HBc hb; clear hb) | (go_at_call 27; with_reducible refine (H.out.c3 _).mono ?_; rintro e w' ⟨rfl, hb⟩; replace HBc := bchain HBc hb; clear hb) | (go_at_call 27; with_reducible refine (H.out.c4 _).mono ?_; rintro e w' ⟨rfl, hb⟩; replace HBc := bchain HBc hb; clear hb) | (go_at_call 23; with_reducible refine (H.out.v1 _).mono ?_; rintro e w' ⟨rfl, hb⟩; replace HBc := bchain HBc hb; clear hb) | (go_at_call 23; with_reducible refine (H.out.v2 _).mono ?_; rintro e w' ⟨rfl, hb⟩; replace HBc := bchain HBc hb; clear hb) | (go_at_call 16; refine (awake_any _).mono ?_; rintro e w' ⟨rfl, hb⟩; replace HBc := bchain HBc hb; clear hb))
  go_ret
  exact ⟨rfl, HBc⟩
set_option maxHeartbeats 4000000 in
theorem o_m_p_tt (a b c : ByteArray) (w : World) (z : Int) (h : OrdK a b c (-1) (1) (z) true true) (e1 : (a.toList == b.toList) = false) (e2 : Op.bytesLess a.toList b.toList = true) :
    Calls Try.prog 12 #[.string a, .string b, .string c] w fun e w' => e = .returned (.bool true) ∧ Below w.heap.size w w' := by
  have H := Lib.hid h
  clear h
  go_enter Try.func12, Try.ntmps12
  go_wp2_with (first | (go_at_call 13; refine (long3 a b c w false H.out.long).mono ?_; rintro e w' ⟨rfl, rfl⟩; have HBc := b0 w (.cells #[.string a, .string b, .string c] 9)) | (go_at_call 27; with_reducible refine (H.out.c1 _).mono ?_; rintro e w' ⟨rfl, hb⟩; replace HBc := bchain HBc hb; clear hb) | (go_at_call 27; with_reducible refine (H.out.c2 _).mono ?_; rintro e w' ⟨rfl, hb⟩; replace HBc := bchain HBc hb; clear hb) | (go_at_call 27; with_reducible refine (H.out.c3 _).mono ?_; rintro e w' ⟨rfl, hb⟩; replace HBc := bchain HBc hb; clear hb) | (go_at_call 27; with_reducible refine (H.out.c4 _).mono ?_; rintro e w' ⟨rfl, hb⟩; replace HBc := bchain HBc hb; clear hb) | (go_at_call 23; with_reducible refine (H.out.v1 _).mono ?_; rintro e w' ⟨rfl, hb⟩; replace HBc := bchain HBc hb; clear hb) | (go_at_call 23; with_reducible refine (H.out.v2 _).mono ?_; rintro e w' ⟨rfl, hb⟩; replace HBc := bchain HBc hb; clear hb) | (go_at_call 16; refine (awake_any _).mono ?_; rintro e w' ⟨rfl, hb⟩; replace HBc := bchain HBc hb; clear hb))
  go_ret
  exact ⟨rfl, HBc⟩
set_option maxHeartbeats 4000000 in
theorem o_p_p_f (a b c : ByteArray) (w : World) (vb : Bool) (h : OrdK a b c (1) (1) (1) false vb) (e1 : (a.toList == b.toList) = false) :
    Calls Try.prog 12 #[.string a, .string b, .string c] w fun e w' => e = .returned (.bool true) ∧ Below w.heap.size w w' := by
  have H := Lib.hid h
  clear h
  go_enter Try.func12, Try.ntmps12
  go_wp2_with (first | (go_at_call 13; refine (long3 a b c w false H.out.long).mono ?_; rintro e w' ⟨rfl, rfl⟩; have HBc := b0 w (.cells #[.string a, .string b, .string c] 9)) | (go_at_call 27; with_reducible refine (H.out.c1 _).mono ?_; rintro e w' ⟨rfl, hb⟩; replace HBc := bchain HBc hb; clear hb) | (go_at_call 27; with_reducible refine (H.out.c2 _).mono ?_; rintro e w' ⟨rfl, hb⟩; replace HBc := bchain HBc hb; clear hb) | (go_at_call 27; with_reducible refine (H.out.c3 _).mono ?_; rintro e w' ⟨rfl, hb⟩; replace HBc := bchain HBc hb; clear hb) | (go_at_call 27; with_reducible refine (H.out.c4 _).mono ?_; rintro e w' ⟨rfl, hb⟩; replace HBc := bchain HBc hb; clear hb) | (go_at_call 23; with_reducible refine (H.out.v1 _).mono ?_; rintro e w' ⟨rfl, hb⟩; replace HBc := bchain HBc hb; clear hb) | (go_at_call 23; with_reducible refine (H.out.v2 _).mono ?_; rintro e w' ⟨rfl, hb⟩; replace HBc := bchain HBc hb; clear hb) | (go_at_call 16; refine (awake_any _).mono ?_; rintro e w' ⟨rfl, hb⟩; replace HBc := bchain HBc hb; clear hb))
  go_ret
  exact ⟨rfl, HBc⟩
set_option maxHeartbeats 4000000 in
theorem o_p_p_tf (a b c : ByteArray) (w : World) (h : OrdK a b c (1) (1) (1) true false) (e1 : (a.toList == b.toList) = false) :
    Calls Try.prog 12 #[.string a, .string b, .string c] w fun e w' => e = .returned (.bool true) ∧ Below w.heap.size w w' := by
  have H := Lib.hid h
  clear h
  go_enter Try.func12, Try.ntmps12
  go_wp2_with (first | (go_at_call 13; refine (long3 a b c w false H.out.long).mono ?_; rintro e w' ⟨rfl, rfl⟩; have HBc := b0 w (.cells #[.string a, .string b, .string c] 9)) | (go_at_call 27; with_reducible refine (H.out.c1 _).mono ?_; rintro e w' ⟨rfl, hb⟩; replace HBc := bchain HBc hb; clear hb) | (go_at_call 27; with_reducible refine (H.out.c2 _).mono ?_; rintro e w' ⟨rfl, hb⟩; replace HBc := bchain HBc hb; clear hb) | (go_at_call 27; with_reducible refine (H.out.c3 _).mono ?_; rintro e w' ⟨rfl, hb⟩; replace HBc := bchain HBc hb; clear hb) | (go_at_call 27; with_reducible refine (H.out.c4 _).mono ?_; rintro e w' ⟨rfl, hb⟩; replace HBc := bchain HBc hb; clear hb) | (go_at_call 23; with_reducible refine (H.out.v1 _).mono ?_; rintro e w' ⟨rfl, hb⟩; replace HBc := bchain HBc hb; clear hb) | (go_at_call 23; with_reducible refine (H.out.v2 _).mono ?_; rintro e w' ⟨rfl, hb⟩; replace HBc := bchain HBc hb; clear hb) | (go_at_call 16; refine (awake_any _).mono ?_; rintro e w' ⟨rfl, hb⟩; replace HBc := bchain HBc hb; clear hb))
  go_ret
  exact ⟨rfl, HBc⟩
set_option maxHeartbeats 4000000 in
theorem o_p_p_tt (a b c : ByteArray) (w : World) (h : OrdK a b c (1) (1) (1) true true) (e1 : (a.toList == b.toList) = false) (e2 : Op.bytesLess a.toList b.toList = false) :
    Calls Try.prog 12 #[.string a, .string b, .string c] w fun e w' => e = .returned (.bool true) ∧ Below w.heap.size w w' := by
  have H := Lib.hid h
  clear h
  go_enter Try.func12, Try.ntmps12
  go_wp2_with (first | (go_at_call 13; refine (long3 a b c w false H.out.long).mono ?_; rintro e w' ⟨rfl, rfl⟩; have HBc := b0 w (.cells #[.string a, .string b, .string c] 9)) | (go_at_call 27; with_reducible refine (H.out.c1 _).mono ?_; rintro e w' ⟨rfl, hb⟩; replace HBc := bchain HBc hb; clear hb) | (go_at_call 27; with_reducible refine (H.out.c2 _).mono ?_; rintro e w' ⟨rfl, hb⟩; replace HBc := bchain HBc hb; clear hb) | (go_at_call 27; with_reducible refine (H.out.c3 _).mono ?_; rintro e w' ⟨rfl, hb⟩; replace HBc := bchain HBc hb; clear hb) | (go_at_call 27; with_reducible refine (H.out.c4 _).mono ?_; rintro e w' ⟨rfl, hb⟩; replace HBc := bchain HBc hb; clear hb) | (go_at_call 23; with_reducible refine (H.out.v1 _).mono ?_; rintro e w' ⟨rfl, hb⟩; replace HBc := bchain HBc hb; clear hb) | (go_at_call 23; with_reducible refine (H.out.v2 _).mono ?_; rintro e w' ⟨rfl, hb⟩; replace HBc := bchain HBc hb; clear hb) | (go_at_call 16; refine (awake_any _).mono ?_; rintro e w' ⟨rfl, hb⟩; replace HBc := bchain HBc hb; clear hb))
  go_ret
  exact ⟨rfl, HBc⟩
set_option maxHeartbeats 4000000 in
theorem o_p_0_f (a b c : ByteArray) (w : World) (vb : Bool) (h : OrdK a b c (1) (0) (1) false vb) (e1 : (a.toList == b.toList) = false) :
    Calls Try.prog 12 #[.string a, .string b, .string c] w fun e w' => e = .returned (.bool true) ∧ Below w.heap.size w w' := by
  have H := Lib.hid h
  clear h
  go_enter Try.func12, Try.ntmps12
  go_wp2_with (first | (go_at_call 13; refine (long3 a b c w false H.out.long).mono ?_; rintro e w' ⟨rfl, rfl⟩; have HBc := b0 w (.cells #[.string a, .string b, .string c] 9)) | (go_at_call 27; with_reducible refine (H.out.c1 _).mono ?_; rintro e w' ⟨rfl, hb⟩; replace HBc := bchain HBc hb; clear hb) | (go_at_call 27; with_reducible refine (H.out.c2 _).mono ?_; rintro e w' ⟨rfl, hb⟩; replace HBc := bchain HBc hb; clear hb) | (go_at_call 27; with_reducible refine (H.out.c3 _).mono ?_; rintro e w' ⟨rfl, hb⟩; replace HBc := bchain HBc hb; clear hb) | (go_at_call 27; with_reducible refine (H.out.c4 _).mono ?_; rintro e w' ⟨rfl, hb⟩; replace HBc := bchain HBc hb; clear hb) | (go_at_call 23; with_reducible refine (H.out.v1 _).mono ?_; rintro e w' ⟨rfl, hb⟩; replace HBc := bchain HBc hb; clear hb) | (go_at_call 23; with_reducible refine (H.out.v2 _).mono ?_; rintro e w' ⟨rfl, hb⟩; replace HBc := bchain HBc hb; clear hb) | (go_at_call 16; refine (awake_any _).mono ?_; rintro e w' ⟨rfl, hb⟩; replace HBc := bchain HBc hb; clear hb))
  go_ret
  exact ⟨rfl, HBc⟩
set_option maxHeartbeats 4000000 in
theorem o_p_0_tf (a b c : ByteArray) (w : World) (h : OrdK a b c (1) (0) (1) true false) (e1 : (a.toList == b.toList) = false) :
    Calls Try.prog 12 #[.string a, .string b, .string c] w fun e w' => e = .returned (.bool true) ∧ Below w.heap.size w w' := by
  have H := Lib.hid h
  clear h
  go_enter Try.func12, Try.ntmps12
  go_wp2_with (first | (go_at_call 13; refine (long3 a b c w false H.out.long).mono ?_; rintro e w' ⟨rfl, rfl⟩; have HBc := b0 w (.cells #[.string a, .string b, .string c] 9)) | (go_at_call 27; with_reducible refine (H.out.c1 _).mono ?_; rintro e w' ⟨rfl, hb⟩; replace HBc := bchain HBc hb; clear hb) | (go_at_call 27; with_reducible refine (H.out.c2 _).mono ?_; rintro e w' ⟨rfl, hb⟩; replace HBc := bchain HBc hb; clear hb) | (go_at_call 27; with_reducible refine (H.out.c3 _).mono ?_; rintro e w' ⟨rfl, hb⟩; replace HBc := bchain HBc hb; clear hb) | (go_at_call 27; with_reducible refine (H.out.c4 _).mono ?_; rintro e w' ⟨rfl, hb⟩; replace HBc := bchain HBc hb; clear hb) | (go_at_call 23; with_reducible refine (H.out.v1 _).mono ?_; rintro e w' ⟨rfl, hb⟩; replace HBc := bchain HBc hb; clear hb) | (go_at_call 23; with_reducible refine (H.out.v2 _).mono ?_; rintro e w' ⟨rfl, hb⟩; replace HBc := bchain HBc hb; clear hb) | (go_at_call 16; refine (awake_any _).mono ?_; rintro e w' ⟨rfl, hb⟩; replace HBc := bchain HBc hb; clear hb))
  go_ret
  exact ⟨rfl, HBc⟩
set_option maxHeartbeats 4000000 in
theorem o_p_0_tt (a b c : ByteArray) (w : World) (h : OrdK a b c (1) (0) (1) true true) (e1 : (a.toList == b.toList) = false) (e2 : Op.bytesLess a.toList b.toList = false) :
    Calls Try.prog 12 #[.string a, .string b, .string c] w fun e w' => e = .returned (.bool true) ∧ Below w.heap.size w w' := by
  have H := Lib.hid h
  clear h
  go_enter Try.func12, Try.ntmps12
  go_wp2_with (first | (go_at_call 13; refine (long3 a b c w false H.out.long).mono ?_; rintro e w' ⟨rfl, rfl⟩; have HBc := b0 w (.cells #[.string a, .string b, .string c] 9)) | (go_at_call 27; with_reducible refine (H.out.c1 _).mono ?_; rintro e w' ⟨rfl, hb⟩; replace HBc := bchain HBc hb; clear hb) | (go_at_call 27; with_reducible refine (H.out.c2 _).mono ?_; rintro e w' ⟨rfl, hb⟩; replace HBc := bchain HBc hb; clear hb) | (go_at_call 27; with_reducible refine (H.out.c3 _).mono ?_; rintro e w' ⟨rfl, hb⟩; replace HBc := bchain HBc hb; clear hb) | (go_at_call 27; with_reducible refine (H.out.c4 _).mono ?_; rintro e w' ⟨rfl, hb⟩; replace HBc := bchain HBc hb; clear hb) | (go_at_call 23; with_reducible refine (H.out.v1 _).mono ?_; rintro e w' ⟨rfl, hb⟩; replace HBc := bchain HBc hb; clear hb) | (go_at_call 23; with_reducible refine (H.out.v2 _).mono ?_; rintro e w' ⟨rfl, hb⟩; replace HBc := bchain HBc hb; clear hb) | (go_at_call 16; refine (awake_any _).mono ?_; rintro e w' ⟨rfl, hb⟩; replace HBc := bchain HBc hb; clear hb))
  go_ret
  exact ⟨rfl, HBc⟩
set_option maxHeartbeats 4000000 in
theorem o_p_m_f (a b c : ByteArray) (w : World) (z : Int) (vb : Bool) (h : OrdK a b c (1) (-1) (z) false vb) (e1 : (a.toList == b.toList) = false) :
    Calls Try.prog 12 #[.string a, .string b, .string c] w fun e w' => e = .returned (.bool true) ∧ Below w.heap.size w w' := by
  have H := Lib.hid h
  clear h
  go_enter Try.func12, Try.ntmps12
  go_wp2_with (first | (go_at_call 13; refine (long3 a b c w false H.out.long).mono ?_; rintro e w' ⟨rfl, rfl⟩; have HBc := b0 w (.cells #[.string a, .string b, .string c] 9)) | (go_at_call 27; with_reducible refine (H.out.c1 _).mono ?_; rintro e w' ⟨rfl, hb⟩; replace HBc := bchain HBc hb; clear hb) | (go_at_call 27; with_reducible refine (H.out.c2 _).mono ?_; rintro e w' ⟨rfl, hb⟩; replace HBc := bchain HBc hb; clear hb) | (go_at_call 27; with_reducible refine (H.out.c3 _).mono ?_; rintro e w' ⟨rfl, hb⟩; replace HBc := bchain HBc hb; clear hb) | (go_at_call 27; with_reducible refine (H.out.c4 _).mono ?_; rintro e w' ⟨rfl, hb⟩; replace HBc := bchain HBc hb; clear hb) | (go_at_call 23; with_reducible refine (H.out.v1 _).mono ?_; rintro e w' ⟨rfl, hb⟩; replace HBc := bchain HBc hb; clear hb) | (go_at_call 23; with_reducible refine (H.out.v2 _).mono ?_; rintro e w' ⟨rfl, hb⟩; replace HBc := bchain HBc hb; clear hb) | (go_at_call 16; refine (awake_any _).mono ?_; rintro e w' ⟨rfl, hb⟩; replace HBc := bchain HBc hb; clear hb))
  go_ret
  exact ⟨rfl, HBc⟩
set_option maxHeartbeats 4000000 in
theorem o_p_m_tf (a b c : ByteArray) (w : World) (z : Int) (h : OrdK a b c (1) (-1) (z) true false) (e1 : (a.toList == b.toList) = false) :
    Calls Try.prog 12 #[.string a, .string b, .string c] w fun e w' => e = .returned (.bool true) ∧ Below w.heap.size w w' := by
  have H := Lib.hid h
  clear h
  go_enter Try.func12, Try.ntmps12
  go_wp2_with (first | (go_at_call 13; refine (long3 a b c w false H.out.long).mono ?_; rintro e w' ⟨rfl, rfl⟩; have HBc := b0 w (.cells #[.string a, .string b, .string c] 9)) | (go_at_call 27; with_reducible refine (H.out.c1 _).mono ?_; rintro e w' ⟨rfl, hb⟩; replace HBc := bchain HBc hb; clear hb) | (go_at_call 27; with_reducible refine (H.out.c2 _).mono ?_; rintro e w' ⟨rfl, hb⟩; replace HBc := bchain HBc hb; clear hb) | (go_at_call 27; with_reducible refine (H.out.c3 _).mono ?_; rintro e w' ⟨rfl, hb⟩; replace HBc := bchain HBc hb; clear hb) | (go_at_call 27; with_reducible refine (H.out.c4 _).mono ?_; rintro e w' ⟨rfl, hb⟩; replace HBc := bchain HBc hb; clear hb) | (go_at_call 23; with_reducible refine (H.out.v1 _).mono ?_; rintro e w' ⟨rfl, hb⟩; replace HBc := bchain HBc hb; clear hb) | (go_at_call 23; with_reducible refine (H.out.v2 _).mono ?_; rintro e w' ⟨rfl, hb⟩; replace HBc := bchain HBc hb; clear hb) | (go_at_call 16; refine (awake_any _).mono ?_; rintro e w' ⟨rfl, hb⟩; replace HBc := bchain HBc hb; clear hb))
  go_ret
  exact ⟨rfl, HBc⟩
set_option maxHeartbeats 4000000 in
theorem o_p_m_tt (a b c : ByteArray) (w : World) (z : Int) (h : OrdK a b c (1) (-1) (z) true true) (e1 : (a.toList == b.toList) = false) (e2 : Op.bytesLess a.toList b.toList = false) :
    Calls Try.prog 12 #[.string a, .string b, .string c] w fun e w' => e = .returned (.bool true) ∧ Below w.heap.size w w' := by
  have H := Lib.hid h
  clear h
  go_enter Try.func12, Try.ntmps12
  go_wp2_with (first | (go_at_call 13; refine (long3 a b c w false H.out.long).mono ?_; rintro e w' ⟨rfl, rfl⟩; have HBc := b0 w (.cells #[.string a, .string b, .string c] 9)) | (go_at_call 27; with_reducible refine (H.out.c1 _).mono ?_; rintro e w' ⟨rfl, hb⟩; replace HBc := bchain HBc hb; clear hb) | (go_at_call 27; with_reducible refine (H.out.c2 _).mono ?_; rintro e w' ⟨rfl, hb⟩; replace HBc := bchain HBc hb; clear hb) | (go_at_call 27; with_reducible refine (H.out.c3 _).mono ?_; rintro e w' ⟨rfl, hb⟩; replace HBc := bchain HBc hb; clear hb) | (go_at_call 27; with_reducible refine (H.out.c4 _).mono ?_; rintro e w' ⟨rfl, hb⟩; replace HBc := bchain HBc hb; clear hb) | (go_at_call 23; with_reducible refine (H.out.v1 _).mono ?_; rintro e w' ⟨rfl, hb⟩; replace HBc := bchain HBc hb; clear hb) | (go_at_call 23; with_reducible refine (H.out.v2 _).mono ?_; rintro e w' ⟨rfl, hb⟩; replace HBc := bchain HBc hb; clear hb) | (go_at_call 16; refine (awake_any _).mono ?_; rintro e w' ⟨rfl, hb⟩; replace HBc := bchain HBc hb; clear hb))
  go_ret
  exact ⟨rfl, HBc⟩
set_option maxHeartbeats 4000000 in
theorem walk_Orders (a b c : ByteArray) (w : World) :
    Calls Try.prog 12 #[.string a, .string b, .string c] w fun e w' => e = .returned (.bool true) ∧ Below w.heap.size w w' := by
  by_cases hl : 400 < a.size ∨ 400 < b.size ∨ 400 < c.size
  · have hl1 : (decide (400 < a.size) || decide (400 < b.size) || decide (400 < c.size)) = true := by simp; omega
    have HL := Lib.hid hl1
    clear hl hl1
    go_enter Try.func12, Try.ntmps12
    go_wp2_with (go_at_call 13; refine (long3 a b c w true HL.out).mono ?_; rintro e w' ⟨rfl, rfl⟩)
    go_ret
    exact ⟨rfl, b0 _ _⟩
  · have h := ordK (a := a) (b := b) (c := c) (by omega) (by omega) (by omega)
    have hless : validF a = true → validF b = true → (cmpF a b < 0 ↔ Op.bytesLess a.toList b.toList = true) := fun ha hb => cmpF_less ha hb
    rcases cmp_cases a b c with ⟨k, e, q⟩ | ⟨k, e, q⟩ | ⟨k, e, q⟩
    · have E1 : (a.toList == b.toList) = true := (by rw [e]; exact beq_self_eq_true _)
      have E2 : validF a = true → validF b = true → Op.bytesLess a.toList b.toList = false := fun ha hb => by
        have := hless ha hb
        rw [k] at this
        cases hq : Op.bytesLess a.toList b.toList with | false => rfl | true => exact absurd (this.2 hq) (by decide)
      rw [k] at h
      rcases q with ⟨q1, q2⟩ | ⟨q1, q2⟩ | ⟨q1, q2⟩
      · rw [q1, q2] at h
        cases va : validF a with
        | false => rw [va] at h; exact o_0_m_f a b c w _ h E1
        | true =>
          cases vb : validF b with
          | false => rw [va, vb] at h; exact o_0_m_tf a b c w h E1
          | true => rw [va, vb] at h; exact o_0_m_tt a b c w h E1 (E2 va vb)
      · rw [q1, q2] at h
        cases va : validF a with
        | false => rw [va] at h; exact o_0_0_f a b c w _ h E1
        | true =>
          cases vb : validF b with
          | false => rw [va, vb] at h; exact o_0_0_tf a b c w h E1
          | true => rw [va, vb] at h; exact o_0_0_tt a b c w h E1 (E2 va vb)
      · rw [q1, q2] at h
        cases va : validF a with
        | false => rw [va] at h; exact o_0_p_f a b c w _ h E1
        | true =>
          cases vb : validF b with
          | false => rw [va, vb] at h; exact o_0_p_tf a b c w h E1
          | true => rw [va, vb] at h; exact o_0_p_tt a b c w h E1 (E2 va vb)
    · have E1 : (a.toList == b.toList) = false := (by cases hq : a.toList == b.toList with | false => rfl | true => exact absurd (lst_inj (by rw [← toList_lst, ← toList_lst]; exact eq_of_beq hq)) e)
      have E2 : validF a = true → validF b = true → Op.bytesLess a.toList b.toList = true := fun ha hb => by
        have := hless ha hb
        rw [k] at this
        exact this.1 (by decide)
      rw [k] at h
      rcases q with ⟨q1, q2⟩ | ⟨q1, q2⟩ | ⟨q1, q2⟩ | ⟨q1, q2⟩ | ⟨q1, q2⟩
      · rw [q1, q2] at h
        cases va : validF a with
        | false => rw [va] at h; exact o_m_m_f a b c w _ h E1
        | true =>
          cases vb : validF b with
          | false => rw [va, vb] at h; exact o_m_m_tf a b c w h E1
          | true => rw [va, vb] at h; exact o_m_m_tt a b c w h E1 (E2 va vb)
      · rw [q1, q2] at h
        cases va : validF a with
        | false => rw [va] at h; exact o_m_0_f a b c w _ h E1
        | true =>
          cases vb : validF b with
          | false => rw [va, vb] at h; exact o_m_0_tf a b c w h E1
          | true => rw [va, vb] at h; exact o_m_0_tt a b c w h E1 (E2 va vb)
      · rw [q1, q2] at h
        cases va : validF a with
        | false => rw [va] at h; exact o_m_p_f a b c w _ _ h E1
        | true =>
          cases vb : validF b with
          | false => rw [va, vb] at h; exact o_m_p_tf a b c w _ h E1
          | true => rw [va, vb] at h; exact o_m_p_tt a b c w _ h E1 (E2 va vb)
      · rw [q1, q2] at h
        cases va : validF a with
        | false => rw [va] at h; exact o_m_p_f a b c w _ _ h E1
        | true =>
          cases vb : validF b with
          | false => rw [va, vb] at h; exact o_m_p_tf a b c w _ h E1
          | true => rw [va, vb] at h; exact o_m_p_tt a b c w _ h E1 (E2 va vb)
      · rw [q1, q2] at h
        cases va : validF a with
        | false => rw [va] at h; exact o_m_p_f a b c w _ _ h E1
        | true =>
          cases vb : validF b with
          | false => rw [va, vb] at h; exact o_m_p_tf a b c w _ h E1
          | true => rw [va, vb] at h; exact o_m_p_tt a b c w _ h E1 (E2 va vb)
    · have E1 : (a.toList == b.toList) = false := (by cases hq : a.toList == b.toList with | false => rfl | true => exact absurd (lst_inj (by rw [← toList_lst, ← toList_lst]; exact eq_of_beq hq)) e)
      have E2 : validF a = true → validF b = true → Op.bytesLess a.toList b.toList = false := fun ha hb => by
        have := hless ha hb
        rw [k] at this
        cases hq : Op.bytesLess a.toList b.toList with | false => rfl | true => exact absurd (this.2 hq) (by decide)
      rw [k] at h
      rcases q with ⟨q1, q2⟩ | ⟨q1, q2⟩ | ⟨q1, q2⟩ | ⟨q1, q2⟩ | ⟨q1, q2⟩
      · rw [q1, q2] at h
        cases va : validF a with
        | false => rw [va] at h; exact o_p_p_f a b c w _ h E1
        | true =>
          cases vb : validF b with
          | false => rw [va, vb] at h; exact o_p_p_tf a b c w h E1
          | true => rw [va, vb] at h; exact o_p_p_tt a b c w h E1 (E2 va vb)
      · rw [q1, q2] at h
        cases va : validF a with
        | false => rw [va] at h; exact o_p_0_f a b c w _ h E1
        | true =>
          cases vb : validF b with
          | false => rw [va, vb] at h; exact o_p_0_tf a b c w h E1
          | true => rw [va, vb] at h; exact o_p_0_tt a b c w h E1 (E2 va vb)
      · rw [q1, q2] at h
        cases va : validF a with
        | false => rw [va] at h; exact o_p_m_f a b c w _ _ h E1
        | true =>
          cases vb : validF b with
          | false => rw [va, vb] at h; exact o_p_m_tf a b c w _ h E1
          | true => rw [va, vb] at h; exact o_p_m_tt a b c w _ h E1 (E2 va vb)
      · rw [q1, q2] at h
        cases va : validF a with
        | false => rw [va] at h; exact o_p_m_f a b c w _ _ h E1
        | true =>
          cases vb : validF b with
          | false => rw [va, vb] at h; exact o_p_m_tf a b c w _ h E1
          | true => rw [va, vb] at h; exact o_p_m_tt a b c w _ h E1 (E2 va vb)
      · rw [q1, q2] at h
        cases va : validF a with
        | false => rw [va] at h; exact o_p_m_f a b c w _ _ h E1
        | true =>
          cases vb : validF b with
          | false => rw [va, vb] at h; exact o_p_m_tf a b c w _ h E1
          | true => rw [va, vb] at h; exact o_p_m_tt a b c w _ h E1 (E2 va vb)
end Go.Proofs.Ytaaegelefknkeaa
