/- The reference's reader of tags: its block; fail and want. -/
import Derived.Test.YtaaegelefknkeabNtQ
namespace Go.Proofs.Ytaaegelefknkeab
open Go.RowKit Go.Shelf
set_option linter.unusedSimpArgs false

/-- Block X holds a reader of s at place a: closing, name, keys; where and what failed, whether it is over. -/
def RX (W : World) (X : Nat) (s : ByteArray) (a : Nat) (c : Bool) (n : ByteArray) (v : Value) (p q : Int) (o : Bool) : Prop :=
  W.heap[X]? = some (.cells #[.string s, .int .i64 a, .bool c, .string n, v, .int .i64 p, .int .i64 q, .bool o] 66 (0, 0))
section
variable {W W' : World} {X : Nat} {s : ByteArray} {a : Nat} {c : Bool} {n : ByteArray} {v : Value} {p q : Int} {o : Bool}
theorem RX.lt (h : RX W X s a c n v p q o) : X < W.heap.size := (Array.getElem?_eq_some_iff.1 h).1
theorem RX.below (h : RX W X s a c n v p q o) (hb : Below W.heap.size W W') : RX W' X s a c n v p q o := (hb.block _ h.lt).trans h
theorem RX.c0 (h : RX W X s a c n v p q o) : W.cell? ⟨X, 0, none⟩ = some (.string s) := by rw [cell_of_row _ X 0 _ 66 (0, 0) h]; rfl
theorem RX.c1 (h : RX W X s a c n v p q o) : W.cell? ⟨X, 1, none⟩ = some (.int .i64 a) := by rw [cell_of_row _ X 1 _ 66 (0, 0) h]; rfl
theorem RX.c2 (h : RX W X s a c n v p q o) : W.cell? ⟨X, 2, none⟩ = some (.bool c) := by rw [cell_of_row _ X 2 _ 66 (0, 0) h]; rfl
theorem RX.c3 (h : RX W X s a c n v p q o) : W.cell? ⟨X, 3, none⟩ = some (.string n) := by rw [cell_of_row _ X 3 _ 66 (0, 0) h]; rfl
theorem RX.c4 (h : RX W X s a c n v p q o) : W.cell? ⟨X, 4, none⟩ = some v := by rw [cell_of_row _ X 4 _ 66 (0, 0) h]; rfl
theorem RX.c5 (h : RX W X s a c n v p q o) : W.cell? ⟨X, 5, none⟩ = some (.int .i64 p) := by rw [cell_of_row _ X 5 _ 66 (0, 0) h]; rfl
theorem RX.c6 (h : RX W X s a c n v p q o) : W.cell? ⟨X, 6, none⟩ = some (.int .i64 q) := by rw [cell_of_row _ X 6 _ 66 (0, 0) h]; rfl
theorem RX.c7 (h : RX W X s a c n v p q o) : W.cell? ⟨X, 7, none⟩ = some (.bool o) := by rw [cell_of_row _ X 7 _ 66 (0, 0) h]; rfl
theorem RX.fz (h : RX W X s a c n v p q o) (k : Nat) : W.frozen? ⟨X, k, none⟩ = false := by simp [World.frozen?, show W.heap[X]? = _ from h]
theorem RX.at (h : RX W X s a c n v p q o) (b : Nat) : RX (W.setCell ⟨X, 1, none⟩ (.int .i64 b)) X s b c n v p q o := setCell_heap_same h 1 _
theorem RX.inc (h : RX W X s a c n v p q o) : RX (W.setCell ⟨X, 1, none⟩ (.int .i64 ((a : Int) + 1))) X s (a + 1) c n v p q o := h.at (a + 1)
theorem RX.fails (h : RX W X s a c n v p q o) (p' q' : Int) : RX (((W.setCell ⟨X, 5, none⟩ (.int .i64 p')).setCell ⟨X, 6, none⟩ (.int .i64 q')).setCell ⟨X, 7, none⟩ (.bool true)) X s a c n v p' q' true :=
  setCell_heap_same (setCell_heap_same (setCell_heap_same h 5 _) 6 _) 7 _
theorem RX.atOf (h : RX W X s a c n v p q o) : Go.Proofs.Ytaaegelefknkeab.atOf X W = a := by
  unfold Go.Proofs.Ytaaegelefknkeab.atOf
  rw [h.c1]
  rfl
end

set_option maxHeartbeats 1000000 in
theorem fail_any {X : Nat} {s : ByteArray} {a : Nat} {c : Bool} {n : ByteArray} {v : Value} {p q : Int} {o : Bool} (p' q' : Int) (w : World) (hx : RX w X s a c n v p q o) :
    Calls Try.prog 45 #[.pointer (some ⟨X, 0, none⟩), .int .i64 p', .int .i64 q'] w fun e w' => e = .returned (.tuple #[]) ∧ Sc X w w' ∧ RX w' X s a c n v (if o = true then p else p') (if o = true then q else q') true := by
  have h5 := hx.c5
  have h6 := hx.c6
  have h7 := hx.c7
  have hl := hx.lt
  have hf5 := hx.fz 5
  have hf6 := hx.fz 6
  have hf7 := hx.fz 7
  have HX := Lib.hid hx
  clear hx
  cases o with
  | true =>
    go_enter Try.func45, Try.ntmps45
    go_wp2
    go_end0
    exact ⟨rfl, Sc.refl _ _, HX.out⟩
  | false =>
    go_enter Try.func45, Try.ntmps45
    go_wp2
    go_end0
    exact ⟨rfl, ((Sc.set X _ 5 _).trans (Sc.set X _ 6 _)).trans (Sc.set X _ 7 _), HX.out.fails p' q'⟩

/-- The bytes of x from its k-th on are read at place a: the place behind them, or where one is missing. -/
def wantF (s x : ByteArray) : Nat → Nat → Except Nat Nat
  | 0, a => .ok a
  | f + 1, a => if seesF s a ((x[x.size - (f + 1)]?.getD 0).toNat : Int) = true then wantF s x f (a + 1) else .error a
/-- What want leaves in the reader. -/
def WantPost (W : World) (X : Nat) (s : ByteArray) (c : Bool) (n : ByteArray) (v : Value) : Except Nat Nat → Prop
  | .ok b => b ≤ s.size ∧ RX W X s b c n v 0 0 false
  | .error b => b ≤ s.size ∧ RX W X s b c n v b 3 true

set_option maxHeartbeats 1000000 in
theorem want_over {X : Nat} {s x : ByteArray} {a : Nat} {c : Bool} {n : ByteArray} {v : Value} {p q : Int} (_ : x.size ≤ 1000000) (w : World) (hx : RX w X s a c n v p q true) :
    Calls Try.prog 42 #[.pointer (some ⟨X, 0, none⟩), .string x] w fun e w' => e = .returned (.tuple #[]) ∧ Sc X w w' ∧ RX w' X s a c n v p q true := by
  have h7 := hx.c7
  have hl := hx.lt
  have HX := Lib.hid hx
  clear hx
  go_enter Try.func42, Try.ntmps42
  go_wp2_with fail
  go_loopw [4] (fun i wr => i = .int .i64 0 ∧ wr = w) (fun _ _ => 0)
  case atStart => exact ⟨rfl, rfl⟩
  case round =>
    obtain ⟨rfl, rfl⟩ := hrel
    by_cases h0 : 0 < x.size
    · go_wp2
      go_end0
      exact ⟨rfl, Sc.refl _ _, HX.out⟩
    · go_wp2
      go_end0
      exact ⟨rfl, Sc.refl _ _, HX.out⟩
theorem fail_first {X : Nat} {s : ByteArray} {a : Nat} {c : Bool} {n : ByteArray} {v : Value} {p q : Int} (p' q' : Int) (w : World) (hx : RX w X s a c n v p q false) :
    Calls Try.prog 45 #[.pointer (some ⟨X, 0, none⟩), .int .i64 p', .int .i64 q'] w fun e w' => e = .returned (.tuple #[]) ∧ Sc X w w' ∧ RX w' X s a c n v p' q' true := fail_any p' q' w hx
theorem fail_again {X : Nat} {s : ByteArray} {a : Nat} {c : Bool} {n : ByteArray} {v : Value} {p q : Int} (p' q' : Int) (w : World) (hx : RX w X s a c n v p q true) :
    Calls Try.prog 45 #[.pointer (some ⟨X, 0, none⟩), .int .i64 p', .int .i64 q'] w fun e w' => e = .returned (.tuple #[]) ∧ Sc X w w' ∧ RX w' X s a c n v p q true := fail_any p' q' w hx

set_option maxHeartbeats 4000000 in
theorem want_any {X : Nat} {s x : ByteArray} {a : Nat} {c : Bool} {n : ByteArray} {v : Value} (hs : s.size ≤ 1000000) (hxs : x.size ≤ 1000000) (ha : a ≤ s.size) (w : World) (hx : RX w X s a c n v 0 0 false) :
    Calls Try.prog 42 #[.pointer (some ⟨X, 0, none⟩), .string x] w fun e w' => e = .returned (.tuple #[]) ∧ Sc X w w' ∧ WantPost w' X s c n v (wantF s x x.size a) := by
  have HX := Lib.hid hx
  clear hx
  obtain ⟨r, hr⟩ : ∃ r, wantF s x x.size a = r := ⟨_, rfl⟩
  rw [hr]
  have HR := Lib.hid hr
  clear hr
  go_enter Try.func42, Try.ntmps42
  go_wp2_with fail
  go_loopw [4] (fun i wr => ∃ k b f : Nat, i = .int .i64 k ∧ k + f = x.size ∧ b ≤ s.size ∧ wantF s x f b = r ∧ RX wr X s b c n v 0 0 false ∧ Sc X w wr) (fun i _ => x.size - (intOf i).toNat)
  case atStart => exact ⟨0, a, x.size, rfl, by omega, ha, HR.out, HX.out, Sc.refl _ _⟩
  case round =>
    obtain ⟨k, b, f, rfl, hk, hb, hw, hx, hsc⟩ := hrel
    have h0 := hx.c0
    have h1 := hx.c1
    have h7 := hx.c7
    have hl := hx.lt
    have hfz := hx.fz 1
    have HXb := Lib.hid hx
    have HSc := Lib.hid hsc
    clear hx hsc
    cases f with
    | zero =>
      obtain rfl : k = x.size := by omega
      simp only [wantF] at hw
      have HW := Lib.hid hw
      clear hw
      go_wp2
      go_end0
      exact ⟨rfl, HSc.out, by rw [← HW.out]; exact ⟨hb, HXb.out⟩⟩
    | succ f =>
      have hkx : k < x.size := by omega
      have hxk : x[x.size - (f + 1)]?.getD 0 = x[k]'hkx := by
        have : x.size - (f + 1) = k := by omega
        rw [this]
        simp [hkx]
      rw [wantF, hxk] at hw
      by_cases hb1 : b < s.size
      · cases he : (((s[b]'hb1).toNat : Int) != ((x[k]'hkx).toNat : Int)) with
        | false =>
          have hsee : seesF s b ((x[k]'hkx).toNat : Int) = true := by unfold seesF; rw [dif_pos hb1, decide_eq_true]; simpa using he
          rw [hsee, if_pos rfl] at hw
          have HW := Lib.hid hw
          clear hw hsee hxk
          go_wp2_with fail
          go_quiet (fail)
          go_wp2_with fail
          go_roundw
          case rel => exact ⟨k + 1, b + 1, f, rfl, by omega, by omega, HW.out, (HXb.out.below (below_drewN (Below.refl _ _) nq)).inc, (HSc.out.trans (Sc.of (below_drewN (Below.refl _ _) nq))).trans (Sc.set X _ 1 _)⟩
          case measure => simp [intOf]; omega
        | true =>
          have hsee : seesF s b ((x[k]'hkx).toNat : Int) = false := by unfold seesF; rw [dif_pos hb1, decide_eq_false]; simpa using he
          rw [hsee, if_neg (by simp)] at hw
          have HW := Lib.hid hw
          clear hw hsee hxk
          go_wp2_with fail
          go_quiet (fail)
          go_wp2_with (go_at_call 45; refine (fail_first _ _ _ (HXb.out.below (below_drewN (Below.refl _ _) nq))).mono ?_; rintro e w1 ⟨rfl, hsc1, hx1⟩)
          refine bodyPost_ret (v := .tuple #[]) (by simp [results, Try.results42, go_sem]) rfl ?_
          exact ⟨rfl, (HSc.out.trans (Sc.of (below_drewN (Below.refl _ _) nq))).trans hsc1, by rw [← HW.out]; exact ⟨hb, hx1⟩⟩
      · have hsee : seesF s b ((x[k]'hkx).toNat : Int) = false := by unfold seesF; rw [dif_neg hb1]
        rw [hsee, if_neg (by simp)] at hw
        have HW := Lib.hid hw
        clear hw hsee hxk
        go_wp2_with fail
        go_quiet (fail)
        go_wp2_with (go_at_call 45; refine (fail_first _ _ _ (HXb.out.below (below_drewN (Below.refl _ _) nq))).mono ?_; rintro e w1 ⟨rfl, hsc1, hx1⟩)
        refine bodyPost_ret (v := .tuple #[]) (by simp [results, Try.results42, go_sem]) rfl ?_
        exact ⟨rfl, (HSc.out.trans (Sc.of (below_drewN (Below.refl _ _) nq))).trans hsc1, by rw [← HW.out]; exact ⟨hb, hx1⟩⟩
end Go.Proofs.Ytaaegelefknkeab
