/- The walk of At. -/
import Derived.Test.YtaaegelefknkeabMkE
import Derived.Test.YtaaegelefknkeabMkR
namespace Go.Proofs.Ytaaegelefknkeab

open Go.RowKit Go.Shelf
set_option linter.unusedSimpArgs false
set_option linter.unusedVariables false
attribute [local go_sem] Oper.semAt_some

/-- Unit i, if there is one. -/
def atF (us : List U) (i : Int) : Option U := if 0 ≤ i then us[i.toNat]? else none
def atV : Option U → Value
  | some u => .tuple #[.int .i32 u.1, .int .i64 u.2.1, .int .i64 u.2.2, .bool true]
  | none => .tuple #[.int .i32 0, .int .i64 0, .int .i64 0, .bool false]

theorem Boxed.newAt (W : World) (t : TypeId) (v : Value) {k : Nat} (h : k = W.heap.size) : Boxed (W.alloc (.cells #[v] t)) k t v := by subst h; exact Boxed.new W t v

theorem atF_some (p : List U) (x : U) (r : List U) : atF (p ++ [x] ++ r) (p.length : Nat) = some x := by
  simp [atF]
theorem atF_none {us : List U} {i : Int} (h : ∀ k, k < us.length → i ≠ (k : Nat)) : atF us i = none := by
  unfold atF
  split
  · rename_i h0
    rw [List.getElem?_eq_none]
    rcases Nat.lt_or_ge i.toNat us.length with h1 | h1
    · exact absurd (by omega) (h _ h1)
    · exact h1
  · rfl

/-- The memory of At between two rounds. -/
structure AtS (w : World) (j : Int) (r a z : Value) (ok : Value) (W : World) : Prop where
  bi : Boxed W w.heap.size 3 (.int .i64 j)
  br : Boxed W (w.heap.size + 1) 21 r
  ba : Boxed W (w.heap.size + 2) 3 a
  bz : Boxed W (w.heap.size + 3) 3 z
  bo : Boxed W (w.heap.size + 4) 4 ok
  be : Below w.heap.size w W
theorem AtS.grown {w W W' : World} {j : Int} {r a z ok : Value} {row : Option Nat} (h : AtS w j r a z ok W) (hg : W.grownBy W' row) (hr : ∀ k, row = some k → w.heap.size + 5 ≤ k) : AtS w j r a z ok W' :=
  ⟨h.bi.kept hg (fun e => by have := hr _ e.symm; omega), h.br.kept hg (fun e => by have := hr _ e.symm; omega), h.ba.kept hg (fun e => by have := hr _ e.symm; omega),
   h.bz.kept hg (fun e => by have := hr _ e.symm; omega), h.bo.kept hg (fun e => by have := hr _ e.symm; omega), h.be.grown hg h.be.size (fun k e => by have := hr k e; omega)⟩

theorem AtS.drew {w W : World} {j : Int} {r a z ok : Value} (h : AtS w j r a z ok W) : AtS w j r a z ok W.drew := ⟨h.bi, h.br, h.ba, h.bz, h.bo, h.be.drew⟩
theorem AtS.setI {w W : World} {j : Int} {r a z ok : Value} (h : AtS w j r a z ok W) (j' : Int) : AtS w j' r a z ok (W.setCell ⟨w.heap.size, 0, none⟩ (.int .i64 j')) :=
  ⟨h.bi.set _, h.br.other (by omega) _, h.ba.other (by omega) _, h.bz.other (by omega) _, h.bo.other (by omega) _, h.be.setCell (p := ⟨w.heap.size, 0, none⟩) (by simp) _⟩
theorem AtS.setR {w W : World} {j : Int} {r a z ok : Value} (h : AtS w j r a z ok W) (v : Value) : AtS w j v a z ok (W.setCell ⟨w.heap.size + 1, 0, none⟩ v) :=
  ⟨h.bi.other (by omega) _, h.br.set _, h.ba.other (by omega) _, h.bz.other (by omega) _, h.bo.other (by omega) _, h.be.setCell (p := ⟨w.heap.size + 1, 0, none⟩) (by simp) _⟩
theorem AtS.setA {w W : World} {j : Int} {r a z ok : Value} (h : AtS w j r a z ok W) (v : Value) : AtS w j r v z ok (W.setCell ⟨w.heap.size + 2, 0, none⟩ v) :=
  ⟨h.bi.other (by omega) _, h.br.other (by omega) _, h.ba.set _, h.bz.other (by omega) _, h.bo.other (by omega) _, h.be.setCell (p := ⟨w.heap.size + 2, 0, none⟩) (by simp) _⟩
theorem AtS.setZ {w W : World} {j : Int} {r a z ok : Value} (h : AtS w j r a z ok W) (v : Value) : AtS w j r a v ok (W.setCell ⟨w.heap.size + 3, 0, none⟩ v) :=
  ⟨h.bi.other (by omega) _, h.br.other (by omega) _, h.ba.other (by omega) _, h.bz.set _, h.bo.other (by omega) _, h.be.setCell (p := ⟨w.heap.size + 3, 0, none⟩) (by simp) _⟩
theorem AtS.setO {w W : World} {j : Int} {r a z ok : Value} (h : AtS w j r a z ok W) (v : Value) : AtS w j r a z v (W.setCell ⟨w.heap.size + 4, 0, none⟩ v) :=
  ⟨h.bi.other (by omega) _, h.br.other (by omega) _, h.ba.other (by omega) _, h.bz.other (by omega) _, h.bo.set _, h.be.setCell (p := ⟨w.heap.size + 4, 0, none⟩) (by simp) _⟩

/-- wrap64 (i - k) is 0 just where i is k. -/
theorem wrap_zero (i : Int) (k : Nat) (hi0 : -9223372036854775808 ≤ i) (hi1 : i ≤ 9223372036854775807) (hk : k ≤ 140737488351232) : wrap64 (i - k) = 0 ↔ i = k := by
  unfold wrap64; omega
theorem wrap_step (i : Int) (k : Nat) : wrap64 (wrap64 (i - k) - 1) = wrap64 (i - (k + 1 : Nat)) := by
  unfold wrap64; omega

set_option maxHeartbeats 4000000 in
theorem At_any (s : ByteArray) (i : Int) (hs : s.size ≤ 140737488351232) (hi0 : -9223372036854775808 ≤ i) (hi1 : i ≤ 9223372036854775807) (w : World) :
    Calls Try.prog 31 #[.string s, .int .i64 i] w fun e w' => e = .returned (atV (atF (unitsOf s) i)) ∧ Below w.heap.size w w' := by
  have Hi0 := Lib.hid hi0
  have Hi1 := Lib.hid hi1
  clear hi0 hi1
  refine (callsIn_wide (n := 5)).1 ?_
  refine callsIn_of_wp_marks Try.func31 rfl trivial ?_
  simp only [Try.ntmps31, List.size_toArray, List.length_cons, List.length_nil, Nat.reduceAdd, Nat.reduceSub, Array.replicate_succ, Array.replicate_zero, List.push_toArray, List.append_toArray, List.nil_append, List.cons_append]
  gi_wp2_with ((refine ⟨trivial, ?_⟩; gi_at_call 48; refine (callsIn_wide.2 (units_any _ _)).mono ?_; rintro e w' ⟨rfl, rfl⟩))
  obtain ⟨w2, hw2⟩ : ∃ w2, ((((((w.alloc (.cells #[.int .i64 i] 3)).alloc (.cells #[.int .i32 0] 21)).alloc (.cells #[.int .i64 0] 3)).alloc (.cells #[.int .i64 0] 3)).alloc (.cells #[.bool false] 4)).alloc (.cells #[.string s] 9)) = w2 := ⟨_, rfl⟩
  have hsz : w2.heap.size = w.heap.size + 6 := by rw [← hw2]; simp
  have hbs : w2.heap[w.heap.size + 5]? = some (.cells #[.string s] 9 (0, 0)) := by rw [← hw2]; exact Boxed.newAt _ _ _ (by simp)
  have hr2 : AtS w i (.int .i32 0) (.int .i64 0) (.int .i64 0) (.bool false) w2 := by
    rw [← hw2]
    exact ⟨((((((Boxed.newAt _ _ _ (by simp)).alloc _).alloc _).alloc _).alloc _).alloc _), (((((Boxed.newAt _ _ _ (by simp)).alloc _).alloc _).alloc _).alloc _), ((((Boxed.newAt _ _ _ (by simp)).alloc _).alloc _).alloc _), (((Boxed.newAt _ _ _ (by simp)).alloc _).alloc _), ((Boxed.newAt _ _ _ (by simp)).alloc _),
      ((((((Below.refl _ w).alloc (Nat.le_refl _) _).alloc (by simp) _).alloc (by simp; omega) _).alloc (by simp; omega) _).alloc (by simp; omega) _).alloc (by simp; omega) _⟩
  rw [hw2]
  have hlen : (unitsOf s).length ≤ 140737488351232 := by have := unitsFrom_len s s.size 0; unfold unitsOf; omega
  have Hlen := Lib.hid hlen
  clear hlen
  refine range_units (w.heap.size + 5) s hs rfl rfl hbs
    (fun pre W => AtS w (wrap64 (i - pre.length)) (.int .i32 0) (.int .i64 0) (.int .i64 0) (.bool false) W ∧ (∀ k, k < pre.length → i ≠ (k : Nat)))
    (fun c pre W => c = .ret ∧ ∃ p x, pre = p ++ [x] ∧ i = (p.length : Nat) ∧ AtS w (wrap64 (i - p.length)) (.int .i32 x.1) (.int .i64 x.2.1) (.int .i64 x.2.2) (.bool true) W) ?_ ?_ ?_
    (fun x ub => { tmps := #[.string s, .int .i64 i, undef, .pointer (some ⟨w.heap.size, 0, none⟩), .pointer (some ⟨w.heap.size + 1, 0, none⟩), .pointer (some ⟨w.heap.size + 2, 0, none⟩), .pointer (some ⟨w.heap.size + 3, 0, none⟩), .pointer (some ⟨w.heap.size + 4, 0, none⟩), .pointer (some ⟨ub, 0, none⟩), .string s, .func (.func 57) #[] #[.pointer (some ⟨w.heap.size + 5, 0, none⟩)], .agg #[.int .i32 x.1, .int .i64 x.2.1, .int .i64 x.2.2],
       undef, undef, undef, undef, undef, undef, undef, undef, undef, undef], defers := [] }) ?assign ?body ?done ?stop
  case assign =>
    intro l x W K hK
    gi_wp2
    exact hK
  case body =>
    rintro l pre x rest W ub hun ⟨hS, hne⟩ hu hub _
    have hult : ub < W.heap.size := (Array.getElem?_eq_some_iff.1 hu).1
    have hc0 := hu.c0
    have hc1 := hu.c1
    have hc2 := hu.c2
    have hin : ∀ k, Four (w.heap.size + 5) w2.heap.size k → k < W.heap.size := by rintro k (rfl | ⟨h1, h2⟩) <;> omega
    have hpl : pre.length ≤ 140737488351232 := by have := Hlen.out; rw [hun] at this; simp at this; omega
    obtain ⟨j, hj⟩ : ∃ j, j = wrap64 (i - pre.length) := ⟨_, rfl⟩
    rw [← hj] at hS
    have hwz := wrap_zero i pre.length Hi0.out Hi1.out hpl
    have hws := wrap_step i pre.length
    rw [← hj] at hwz hws
    have hd0 := hS.bi.cell
    have hd1 := hS.br.cell
    have hd2 := hS.ba.cell
    have hd3 := hS.bz.cell
    have hd4 := hS.bo.cell
    have hf0 := hS.bi.frozen
    have hf1 := hS.br.frozen
    have hf2 := hS.ba.frozen
    have hf3 := hS.bz.frozen
    have hf4 := hS.bo.frozen
    by_cases h0 : j = 0
    · have e0 : (j == 0) = true := by simp [h0]
      have H0 := Lib.hid h0
      have Hwz := Lib.hid hwz
      have Hj := Lib.hid hj
      clear h0 hj hwz hws
      gi_wp2
      refine regionIn_round (S := fun W' => UB W' ub x.1 x.2.1 x.2.2) (by kernel_rfl) rfl (by rintro ⟨_, _, h⟩; exact h) ?_
      refine wpAnyH_take (i := 0) (v := .pointer (some ⟨ub, 0, none⟩)) rfl (by kernel_rfl) (by kernel_rfl) (by kernel_rfl) (fun _ _ _ h => h) (.inl ⟨rfl, fun W' hS => by have e0 := UB.c0 hS; have e1 := UB.c1 hS; have e2 := UB.c2 hS; simp [go_sem, Act.eval, e0, e1, e2]⟩) hu ?_
      refine wpAnyH_take (i := 1) (v := .int .i32 x.1) rfl (by kernel_rfl) (by kernel_rfl) (by kernel_rfl) (fun _ _ _ h => h) (.inl ⟨rfl, fun W' hS => by have e0 := UB.c0 hS; have e1 := UB.c1 hS; have e2 := UB.c2 hS; simp [go_sem, Act.eval, e0, e1, e2]⟩) hu ?_
      refine wpAnyH_take (i := 2) (v := .pointer (some ⟨ub, 1, none⟩)) rfl (by kernel_rfl) (by kernel_rfl) (by kernel_rfl) (fun _ _ _ h => h) (.inl ⟨rfl, fun W' hS => by have e0 := UB.c0 hS; have e1 := UB.c1 hS; have e2 := UB.c2 hS; simp [go_sem, Act.eval, e0, e1, e2]⟩) hu ?_
      refine wpAnyH_take (i := 3) (v := .int .i64 x.2.1) rfl (by kernel_rfl) (by kernel_rfl) (by kernel_rfl) (fun _ _ _ h => h) (.inl ⟨rfl, fun W' hS => by have e0 := UB.c0 hS; have e1 := UB.c1 hS; have e2 := UB.c2 hS; simp [go_sem, Act.eval, e0, e1, e2]⟩) hu ?_
      refine wpAnyH_take (i := 4) (v := .pointer (some ⟨ub, 2, none⟩)) rfl (by kernel_rfl) (by kernel_rfl) (by kernel_rfl) (fun _ _ _ h => h) (.inl ⟨rfl, fun W' hS => by have e0 := UB.c0 hS; have e1 := UB.c1 hS; have e2 := UB.c2 hS; simp [go_sem, Act.eval, e0, e1, e2]⟩) hu ?_
      refine wpAnyH_take (i := 5) (v := .int .i64 x.2.2) rfl (by kernel_rfl) (by kernel_rfl) (by kernel_rfl) (fun _ _ _ h => h) (.inl ⟨rfl, fun W' hS => by have e0 := UB.c0 hS; have e1 := UB.c1 hS; have e2 := UB.c2 hS; simp [go_sem, Act.eval, e0, e1, e2]⟩) hu ?_
      refine wpAnyH_all (rs := [6]) (by kernel_rfl) (by simp) ?_
      intro i hi
      obtain rfl : i = 6 := by simpa using hi
      refine wpOp_of rfl rfl ?_
      go_simp
      refine ⟨(Below.heap_setCell _ _ _ _ (by simp; omega)).trans (hu), ?_⟩
      refine wpAnyH_all (rs := [7]) (by kernel_rfl) (by simp) ?_
      intro i hi
      obtain rfl : i = 7 := by simpa using hi
      refine wpOp_of rfl rfl ?_
      go_simp
      refine ⟨(Below.heap_setCell _ _ _ _ (by simp; omega)).trans ((Below.heap_setCell _ _ _ _ (by simp; omega)).trans (hu)), ?_⟩
      refine wpAnyH_all (rs := [8]) (by kernel_rfl) (by simp) ?_
      intro i hi
      obtain rfl : i = 8 := by simpa using hi
      refine wpOp_of rfl rfl ?_
      go_simp
      refine ⟨(Below.heap_setCell _ _ _ _ (by simp; omega)).trans ((Below.heap_setCell _ _ _ _ (by simp; omega)).trans ((Below.heap_setCell _ _ _ _ (by simp; omega)).trans (hu))), ?_⟩
      refine wpAnyH_all (rs := [9]) (by kernel_rfl) (by simp) ?_
      intro i hi
      obtain rfl : i = 9 := by simpa using hi
      refine wpOp_of rfl rfl ?_
      go_simp
      refine ⟨(Below.heap_setCell _ _ _ _ (by simp; omega)).trans ((Below.heap_setCell _ _ _ _ (by simp; omega)).trans ((Below.heap_setCell _ _ _ _ (by simp; omega)).trans ((Below.heap_setCell _ _ _ _ (by simp; omega)).trans (hu)))), ?_⟩
      refine wpAnyH_done (by kernel_rfl) ?_ _
      gi_wp2
      have hi : i = (pre.length : Nat) := Hwz.out.1 H0.out
      refine ⟨(((((KeepsB.refl _ W).setCell (p := ⟨w.heap.size + 1, 0, none⟩) (by simp [Four]; omega) _).setCell (p := ⟨w.heap.size + 2, 0, none⟩) (by simp [Four]; omega) _).setCell (p := ⟨w.heap.size + 3, 0, none⟩) (by simp [Four]; omega) _).setCell (p := ⟨w.heap.size + 4, 0, none⟩) (by simp [Four]; omega) _).drew, rfl, pre, x, rfl, hi, ?_⟩
      rw [← Hj.out]
      exact ((((hS.setR (.int .i32 x.1)).setA (.int .i64 x.2.1)).setZ (.int .i64 x.2.2)).setO (.bool true)).drew
    · have e0 : (j == 0) = false := by simp [h0]
      have H0 := Lib.hid h0
      have Hws := Lib.hid hws
      have Hwz := Lib.hid hwz
      clear h0 hj hwz hws
      gi_wp2
      refine ⟨(KeepsB.refl _ W).setCell (p := ⟨w.heap.size, 0, none⟩) (by simp [Four]; omega) _, ?_, ?_⟩
      · rw [Hws.out]
        have := hS.setI (wrap64 (i - (pre.length + 1 : Nat)))
        simpa using this
      · intro k hk
        have hk' : k < pre.length + 1 := by simpa using hk
        rcases Nat.lt_succ_iff_lt_or_eq.1 hk' with h | rfl
        · exact hne k h
        · exact fun e => H0.out (Hwz.out.2 e)
  case done =>
    rintro W ⟨hS, hne⟩ hD
    have hd1 := hS.br.cell
    have hd2 := hS.ba.cell
    have hd3 := hS.bz.cell
    have hd4 := hS.bo.cell
    have hf1 := hS.br.frozen
    have hf2 := hS.ba.frozen
    have hf3 := hS.bz.frozen
    have hf4 := hS.bo.frozen
    gi_wp2
    have hS2 := (((hS.setR (.int .i32 0)).setA (.int .i64 0)).setZ (.int .i64 0)).setO (.bool false)
    have hD2 := (Below.heap_setCell _ ⟨w.heap.size + 4, 0, none⟩ (.bool false) _ (by simp; omega)).trans ((Below.heap_setCell _ ⟨w.heap.size + 3, 0, none⟩ (.int .i64 0) _ (by simp; omega)).trans ((Below.heap_setCell _ ⟨w.heap.size + 2, 0, none⟩ (.int .i64 0) _ (by simp; omega)).trans ((Below.heap_setCell _ ⟨w.heap.size + 1, 0, none⟩ (.int .i32 0) _ (by simp; omega)).trans hD)))
    refine ⟨by simp, .inl ⟨_, _, rfl, run_takeDeferred hD2, ?_⟩⟩
    have hS3 := hS2.grown (grownBy_putObj' _ w2.heap.size (.deferred none)) (fun k e => by have := Option.some.inj e; omega)
    have h1 := hS3.br.cell
    have h2 := hS3.ba.cell
    have h3 := hS3.bz.cell
    have h4 := hS3.bo.cell
    refine ⟨.tuple #[.int .i32 0, .int .i64 0, .int .i64 0, .bool false], by simp [results, Try.results31, go_sem, h1, h2, h3, h4], ?_, hS3.be⟩
    rw [atF_none hne]
    rfl
  case stop =>
    rintro c pre rest W hun ⟨rfl, p, x, rfl, hi, hS⟩ hD
    gi_wp2
    refine ⟨by simp, .inl ⟨_, _, rfl, run_takeDeferred hD, ?_⟩⟩
    have hS3 := hS.grown (grownBy_putObj' _ w2.heap.size (.deferred none)) (fun k e => by have := Option.some.inj e; omega)
    have h1 := hS3.br.cell
    have h2 := hS3.ba.cell
    have h3 := hS3.bz.cell
    have h4 := hS3.bo.cell
    refine ⟨.tuple #[.int .i32 x.1, .int .i64 x.2.1, .int .i64 x.2.2, .bool true], by simp [results, Try.results31, go_sem, h1, h2, h3, h4], ?_, hS3.be⟩
    rw [hun, hi, atF_some]
    rfl
  · rintro pre W W' row ⟨hS, hp⟩ hg hr
    exact ⟨hS.grown hg (fun k e => by have := hr k e; omega), hp⟩
  · rintro c pre W W' row ⟨hc, p, x, h1, h2, hS⟩ hg hr
    exact ⟨hc, p, x, h1, h2, hS.grown hg (fun k e => by have := hr k e; omega)⟩
  · refine ⟨?_, fun k h => absurd h (Nat.not_lt_zero k)⟩
    rw [show wrap64 (i - (([] : List U).length : Nat)) = i by have h1 := Hi0.out; have h2 := Hi1.out; unfold wrap64; simp; omega]
    exact hr2

end Go.Proofs.Ytaaegelefknkeab
