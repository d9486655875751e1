/- Rows of units and of bytes that a call owns; the walk of list. -/
import Derived.Test.YtaaegelefknkeaaCpF
import Derived.Maps.AppendAt
import Derived.Lib.AppendStr
import Derived.Laws.BytesArg
namespace Go.Proofs.Ytaaegelefknkeaa
open Go.RowKit Go.Shelf
attribute [local go_sem] Oper.semAt_some

theorem ownsRow_base {w : World} {b b' : Nat} {e : TypeId} {size : Nat} {v : Value} {n : Nat} {xs : List Value} (h : w.ownsRow b e size v n xs) (hb : b' ≤ b) : w.ownsRow b' e size v n xs := by
  refine ⟨h.1, ?_⟩
  rcases h.2 with hn | ⟨g, cap, cur, rfl, hbg, rest⟩
  · exact .inl hn
  · exact .inr ⟨g, cap, cur, rfl, Nat.le_trans hb hbg, rest⟩

/-- The block of a row that lies at or beyond 'base' and is of the element's type is none of those that hold another type. -/
theorem ownsRow_ne {w : World} {base k : Nat} {e : TypeId} {size : Nat} {v : Value} {n : Nat} {xs : List Value} (h : w.ownsRow base e size v n xs) (hk : k < base) : v.ownBlock ≠ some k := by
  intro e'
  have := (h.lt k e').1
  omega

theorem ownsRow_stab {w w' : World} {base : Nat} {e : TypeId} {size : Nat} {v : Value} {n : Nat} {xs : List Value} {row : Option Nat} (h : w.ownsRow base e size v n xs) (hg : w.grownBy w' row) (hr : ∀ k, row = some k → k < base) : w'.ownsRow base e size v n xs := by
  refine h.kept hg ?_
  cases hv : v.ownBlock with
  | none => exact .inl rfl
  | some k =>
    refine .inr fun e' => ?_
    have h1 := hr k e'.symm
    have h2 := (h.lt k hv).1
    omega

/-- The cells of units. -/
def cellsU (us : List U) : List Value := us.flatMap fun u => [.int .i32 u.1, .int .i64 u.2.1, .int .i64 u.2.2]
theorem cellsU_append (a b : List U) : cellsU (a ++ b) = cellsU a ++ cellsU b := by simp [cellsU]
theorem cellsU_length (us : List U) : (cellsU us).length = us.length * 3 := by
  induction us with
  | nil => rfl
  | cons u us ih => simp only [cellsU, List.flatMap_cons, List.length_append, List.length_cons, List.length_nil] at ih ⊢; omega
theorem cellsU_get (us : List U) : ∀ (k : Nat) (hk : k < us.length), (cellsU us)[3 * k]? = some (.int .i32 us[k].1) ∧ (cellsU us)[3 * k + 1]? = some (.int .i64 us[k].2.1) ∧ (cellsU us)[3 * k + 2]? = some (.int .i64 us[k].2.2) := by
  induction us with
  | nil => intro k hk; simp at hk
  | cons u us ih =>
    intro k hk
    cases k with
    | zero => simp [cellsU]
    | succ k =>
      have h := ih k (by simpa using hk)
      have e : ∀ o, (cellsU (u :: us))[3 * (k + 1) + o]? = (cellsU us)[3 * k + o]? := by
        intro o
        show ([.int .i32 u.1, .int .i64 u.2.1, .int .i64 u.2.2] ++ cellsU us)[3 * (k + 1) + o]? = _
        rw [List.getElem?_append_right (by simp; omega)]
        congr 1
        simp; omega
      have e0 := e 0; have e1 := e 1; have e2 := e 2
      simp only [Nat.add_zero] at e0
      rw [e0, e1, e2]
      simpa using h

/-- v is a slice of units that owns the units us. -/
def OwnsU (w : World) (base : Nat) (v : Value) (us : List U) : Prop := w.ownsRow base 46 3 v us.length (cellsU us)

theorem Try.info46 : (Try.prog.info? 46).map (fun i => (i.zero, i.size, i.bytes)) = some (some (.agg #[.int .i32 0, .int .i64 0, .int .i64 0]), 3, 24) := by kernel_rfl

theorem cell_three_new (w : World) (a b c : Value) (t : TypeId) : ∀ j u, [a, b, c][j]? = some u → (w.alloc (.cells #[a, b, c] t)).cell? ((⟨w.heap.size, 0, none⟩ : Addr).add j) = some u := by
  intro j u hu
  have hadd : (⟨w.heap.size, 0, none⟩ : Addr).add j = ⟨w.heap.size, j, none⟩ := by unfold Addr.add; split <;> simp_all
  rw [hadd, cell_of_row _ w.heap.size j #[a, b, c] t (0, 0) (heap_alloc_new w _)]
  simpa using hu

set_option maxHeartbeats 4000000 in
theorem list_any (s : ByteArray) (hs : s.size ≤ 1000000) (w : World) :
    Calls Try.prog 29 #[.string s] w fun e w' => ∃ v, e = .returned v ∧ OwnsU w' w.heap.size v (unitsOf s) ∧ Below w.heap.size w w' := by
  refine (callsIn_wide (n := 5)).1 ?_
  refine callsIn_of_wp_marks Try.func29 rfl trivial ?_
  simp only [Try.ntmps29, List.size_toArray, List.length_cons, List.length_nil, Nat.reduceAdd, Nat.reduceSub, Array.replicate_succ, Array.replicate_zero, List.push_toArray, List.append_toArray, List.nil_append, List.cons_append]
  gi_wp2_with ((refine ⟨trivial, ?_⟩; gi_at_call 30; refine (callsIn_wide.2 (units_any _ _)).mono ?_; rintro e w' ⟨rfl, rfl⟩))
  obtain ⟨w2, hw2⟩ : ∃ w2, (w.alloc (.cells #[.slice none 0 0] 42)).alloc (.cells #[.string s] 9) = w2 := ⟨_, rfl⟩
  have hsz : w2.heap.size = w.heap.size + 2 := by rw [← hw2]; simp
  have hbs : w2.heap[w.heap.size + 1]? = some (.cells #[.string s] 9 (0, 0)) := by rw [← hw2]; exact Boxed.newAt _ _ _ (by simp)
  have hr2 : Boxed w2 w.heap.size 42 (.slice none 0 0) := by rw [← hw2]; exact (Boxed.new w 42 (.slice none 0 0)).alloc _
  have hb2 : Below w.heap.size w w2 := by rw [← hw2]; exact ((Below.refl _ w).alloc (Nat.le_refl _) _).alloc (by simp) _
  rw [hw2]
  have hlen : (unitsOf s).length ≤ 1000000 := by have := unitsFrom_len s s.size 0; unfold unitsOf; omega
  obtain ⟨i0, hi, hz0, hz1, hz2⟩ := info_parts Try.info46
  refine range_units (w.heap.size + 1) s (by omega) rfl rfl hbs
    (fun pre W => ∃ v, Boxed W w.heap.size 42 v ∧ OwnsU W (w.heap.size + 6) v pre ∧ Below w.heap.size w W)
    (fun _ _ _ => False) ?_ (fun _ _ _ _ _ h _ _ => h) ⟨_, hr2, World.ownsRow_nil _ _ _ _, hb2⟩
    (fun x ub => { tmps := #[.string s, undef, .slice none 0 0, .pointer (some ⟨w.heap.size, 0, none⟩), .pointer (some ⟨ub, 0, none⟩), .string s, .func (.func 36) #[] #[.pointer (some ⟨w.heap.size + 1, 0, none⟩)], .agg #[.int .i32 x.1, .int .i64 x.2.1, .int .i64 x.2.2], undef, undef, undef, undef, undef], defers := [] }) ?assign ?body ?done ?stop
  case assign =>
    intro l x W K hK
    gi_wp2
    exact hK
  case body =>
    rintro l pre x rest W ub hun ⟨v, hbx, hrow, hbl⟩ hu hub _
    have hult : ub < W.heap.size := (Array.getElem?_eq_some_iff.1 hu).1
    have hc0 := hu.c0
    have hc1 := hu.c1
    have hc2 := hu.c2
    have hd := hbx.cell
    have hf := hbx.frozen
    have hlt := hbx.lt
    have hin : ∀ k, Four (w.heap.size + 1) w2.heap.size k → k < W.heap.size := by rintro k (rfl | ⟨h1, h2⟩) <;> omega
    have hpl : pre.length + 1 ≤ 1000000 := by rw [hun] at hlen; simp at hlen; omega
    have Hin := Lib.hid hin
    have Hun := Lib.hid hun
    have Hw2 := Lib.hid hw2
    have Hsz := Lib.hid hsz
    have Hbs := Lib.hid hbs
    clear hin hun hw2 hsz hbs
    gi_wp2_with ((gi_at_builtin; refine wpListIn_append_own _ rfl _ _ 42 rfl (w.heap.size + 6) 46 i0 _ 3 24 Try.underlying42 hi hz0 hz1 hz2 rfl (by decide) _ _ _ rfl (hrow.alloc _) ⟨W.heap.size, 0, none⟩ 1 1 [.int .i32 x.1, .int .i64 x.2.1, .int .i64 x.2.2] rfl rfl (cell_three_new _ _ _ _ _) (by simp [Value.oneCell']) (by unfold maxLen; omega) (by omega) (by simp; have := Hsz.out; omega) ?_; intro v' w1 hown' hgrow _; obtain ⟨g', cap', rfl⟩ := ownsRow_succ hown'; have hbx1 := (hbx.alloc (.cells #[.int .i32 x.1, .int .i64 x.2.1, .int .i64 x.2.2] 46)).kept hgrow (ownsRow_ne hrow (by omega)).symm; have hd1 := hbx1.cell; have hf1 := hbx1.frozen))
    have hin' : ∀ k, v.ownBlock = some k → ¬ Four (w.heap.size + 1) w2.heap.size k := by
      intro k hk h4
      have h1 := (hrow.lt k hk).1
      have := Hsz.out
      rcases h4 with rfl | ⟨_, h3⟩ <;> omega
    refine ⟨(((KeepsB.refl _ W).alloc Hin.out _).grown hgrow Hin.out hin').setCell (p := ⟨w.heap.size, 0, none⟩) (by have := Hsz.out; simp [Four]; omega) _, _, hbx1.set _, ?_, ?_⟩
    · have h := ownsRow_stab hown' (grown_setCell w1 ⟨w.heap.size, 0, none⟩ (.slice (some ⟨g', 0, none⟩) (pre.length + 1) cap')) (fun k e => by cases e; show w.heap.size < _; omega)
      unfold OwnsU
      rw [cellsU_append, show cellsU [x] = [.int .i32 x.1, .int .i64 x.2.1, .int .i64 x.2.2] from rfl]
      simpa using h
    · refine ((hbl.alloc hbl.size _).grown hgrow (by have := hbl.size; simp; omega) (fun k e => ?_)).setCell (p := ⟨w.heap.size, 0, none⟩) (Nat.le_refl _) _
      have := (hrow.lt k e).1
      omega
  case done =>
    rintro W ⟨v, hbx, hrow, hbl⟩ hD
    have hd := hbx.cell
    gi_wp2
    refine ⟨by simp, .inl ⟨_, _, rfl, run_takeDeferred hD, ?_⟩⟩
    have hg := grownBy_putObj' W w2.heap.size (.deferred none)
    refine ⟨_, results_tmp rfl _ _ _, v, rfl, ?_, ?_⟩
    · exact ownsRow_base (ownsRow_stab hrow hg (fun k e => by have := Option.some.inj e; omega)) (by omega)
    · exact hbl.grown hg hbl.size (fun k e => by have := Option.some.inj e; omega)
  case stop =>
    rintro c pre rest W hun h hD
    exact h.elim
  · rintro pre W W' row ⟨v, hbx, hrow, hbl⟩ hg hr
    refine ⟨v, hbx.kept hg (fun e => by have := hr _ e.symm; omega), ownsRow_stab hrow hg (fun k e => by have := hr k e; omega), hbl.grown hg hbl.size (fun k e => by have := hr k e; omega)⟩
end Go.Proofs.Ytaaegelefknkeaa
