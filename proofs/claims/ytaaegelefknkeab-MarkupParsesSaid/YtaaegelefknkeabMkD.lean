/- Walks of the small functions: units, unit.valid, lower, order, Position; and of Valid. -/
import Derived.Test.YtaaegelefknkeabMkC
namespace Go.Proofs.Ytaaegelefknkeab

open Go.RowKit Go.Shelf
attribute [local go_sem] Oper.semAt_some

theorem units_any (s : ByteArray) (w : World) :
    Calls Try.prog 48 #[.string s] w fun e w' => e = .returned (.func (.func 57) #[] #[.pointer (some ⟨w.heap.size, 0, none⟩)]) ∧ w' = w.alloc (.cells #[.string s] 9) := by
  go_enter Try.func48, Try.ntmps48
  go_wp2
  go_ret
  exact ⟨rfl, rfl⟩

/-- A unit is valid. -/
def okU (x : U) : Bool := x.1 != 65533 || x.2.2 == 3

theorem ret_int {k : IntKind} {a b : Int} (h : a = b) : Ending.returned (.int k a) = .returned (.int k b) := by rw [h]
theorem ret_bool {a b : Bool} (h : a = b) : Ending.returned (.bool a) = .returned (.bool b) := by rw [h]

theorem uvalid_any (x : U) (w : World) :
    Calls Try.prog 49 #[unitV x] w fun e w' => e = .returned (.bool (okU x)) ∧ w' = w.alloc (.cells #[.int .i32 x.1, .int .i64 x.2.1, .int .i64 x.2.2] 75) := by
  obtain ⟨r, a, z⟩ := x
  unfold unitV
  by_cases h : r = 65533
  · have h1 : ((r : Int) == 65533) = true := by simp [h]
    have h2 : ((r : Int) != 65533) = false := by simp [h]
    have H := Lib.hid h
    clear h
    go_enter Try.func49, Try.ntmps49
    go_wp2
    go_ret
    refine ⟨ret_bool ?_, rfl⟩
    have h := H.out
    rw [Bool.eq_iff_iff]
    simp [okU, h]
    omega
  · have h1 : ((r : Int) == 65533) = false := by simp; omega
    have h2 : ((r : Int) != 65533) = true := by simp; omega
    have H := Lib.hid h
    clear h
    go_enter Try.func49, Try.ntmps49
    go_wp2
    go_ret
    refine ⟨ret_bool ?_, rfl⟩
    have h := H.out
    simp [okU, h]

/-- The lower-case letter. -/
def lowerF (r : Int) : Int :=
  if (65 ≤ r ∧ r ≤ 90) ∨ (192 ≤ r ∧ r ≤ 222 ∧ r ≠ 215) ∨ (913 ≤ r ∧ r ≤ 937 ∧ r ≠ 930) ∨ (1040 ≤ r ∧ r ≤ 1071) then r + 32 else if 1024 ≤ r ∧ r ≤ 1039 then r + 80 else r

def sgn (a b : Int) : Int := if a < b then -1 else if b < a then 1 else 0
/-- All units are valid. -/
def validF (s : ByteArray) : Bool := (unitsOf s).all okU

set_option maxHeartbeats 4000000 in
theorem Valid_any (s : ByteArray) (hs : s.size ≤ 140737488351232) (w : World) :
    Calls Try.prog 36 #[.string s] w fun e w' => e = .returned (.bool (validF s)) ∧ Below w.heap.size w w' := by
  refine (callsIn_wide (n := 5)).1 ?_
  refine callsIn_of_wp_marks Try.func36 rfl trivial ?_
  simp only [Try.ntmps36, List.size_toArray, List.length_cons, List.length_nil, Nat.reduceAdd, Nat.reduceSub, Array.replicate_succ, Array.replicate_zero, List.push_toArray, List.append_toArray, List.nil_append, List.cons_append]
  gi_wp2_with ((refine ⟨trivial, ?_⟩; gi_at_call 48; refine (callsIn_wide.2 (units_any _ _)).mono ?_; rintro e w' ⟨rfl, rfl⟩))
  obtain ⟨w2, hw2⟩ : ∃ w2, (w.alloc (.cells #[.bool false] 4)).alloc (.cells #[.string s] 9) = w2 := ⟨_, rfl⟩
  have hsz : w2.heap.size = w.heap.size + 2 := by rw [← hw2]; simp
  have hbs : w2.heap[w.heap.size + 1]? = some (.cells #[.string s] 9 (0, 0)) := by
    rw [← hw2]; have := World.alloc_heap_new (w.alloc (.cells #[.bool false] 4)) (.cells #[.string s] 9); rwa [World.size_alloc] at this
  have hr2 : Boxed w2 w.heap.size 4 (.bool false) := by rw [← hw2]; exact (Boxed.new w 4 (.bool false)).alloc _
  have hb2 : Below w.heap.size w w2 := by rw [← hw2]; exact ((Below.refl _ w).alloc (Nat.le_refl _) _).alloc (by simp) _
  rw [hw2]
  refine range_units (w.heap.size + 1) s hs rfl rfl hbs
    (fun pre W => Boxed W w.heap.size 4 (.bool false) ∧ Below w.heap.size w W ∧ pre.all okU = true)
    (fun c pre W => c = .ret ∧ Boxed W w.heap.size 4 (.bool false) ∧ Below w.heap.size w W ∧ pre.all okU = false) ?_ ?_ ⟨hr2, hb2, rfl⟩
    (fun x ub => { tmps := #[.string s, undef, .pointer (some ⟨w.heap.size, 0, none⟩), .pointer (some ⟨ub, 0, none⟩), .string s, .func (.func 57) #[] #[.pointer (some ⟨w.heap.size + 1, 0, none⟩)], .agg #[.int .i32 x.1, .int .i64 x.2.1, .int .i64 x.2.2], undef, undef, undef], defers := [] }) ?assign ?body ?done ?stop
  case assign =>
    intro l x W K hK
    gi_wp2
    exact hK
  case body =>
    rintro l pre x rest W ub hun ⟨hbx, hbl, hp⟩ hu hub _
    have hult : ub < W.heap.size := (Array.getElem?_eq_some_iff.1 hu).1
    have hc0 := hu.c0
    have hc1 := hu.c1
    have hc2 := hu.c2
    have hd := hbx.cell
    have hf := hbx.frozen
    have hlt := hbx.lt
    have hin : ∀ k, Four (w.heap.size + 1) w2.heap.size k → k < W.heap.size := by rintro k (rfl | ⟨h1, h2⟩) <;> omega
    cases hok : okU x with
    | true =>
      gi_wp2_with ((refine ⟨trivial, ?_⟩; gi_at_call 49; refine (CallsIn.inRound l (callsIn_wide.2 (uvalid_any x _))).mono ?_; rw [hok]; rintro e w' ⟨rfl, rfl⟩))
      exact ⟨(KeepsB.refl _ W).alloc hin _, hbx.alloc _, hbl.alloc hbl.size _, by simp [hp, hok]⟩
    | false =>
      gi_wp2_with ((refine ⟨trivial, ?_⟩; gi_at_call 49; refine (CallsIn.inRound l (callsIn_wide.2 (uvalid_any x _))).mono ?_; rw [hok]; rintro e w' ⟨rfl, rfl⟩))
      exact ⟨((KeepsB.refl _ W).setCell (p := ⟨w.heap.size, 0, none⟩) (by simp [Four]; omega) _).alloc hin _, rfl, (hbx.set _).alloc _, (hbl.setCell (p := ⟨w.heap.size, 0, none⟩) (Nat.le_refl _) _).alloc (by have := (grown_setCell W ⟨w.heap.size, 0, none⟩ (.bool false)).size; omega) _, by simp [hok]⟩
  case done =>
    rintro W ⟨hbx, hbl, hp⟩ hD
    have hd := hbx.cell
    have hf := hbx.frozen
    gi_wp2
    refine ⟨by simp, .inl ⟨_, _, rfl, run_takeDeferred ((Below.heap_setCell _ _ _ _ (by simp; omega)).trans hD), ?_⟩⟩
    have hg := grownBy_putObj' (W.setCell ⟨w.heap.size, 0, none⟩ (.bool true)) w2.heap.size (.deferred none)
    have hb3 := (hbx.set (.bool true)).kept hg (fun e => by have := Option.some.inj e; omega)
    have hc3 := hb3.cell
    refine ⟨.bool true, by simp [results, Try.results36, go_sem, hc3], ret_bool hp.symm, ?_⟩
    exact (hbl.setCell (p := ⟨w.heap.size, 0, none⟩) (Nat.le_refl _) _).grown hg (by have := (grown_setCell W ⟨w.heap.size, 0, none⟩ (.bool true)).size; have := hbl.size; omega) (fun k e => by have := Option.some.inj e; omega)
  case stop =>
    rintro c pre rest W hun ⟨rfl, hbx, hbl, hp⟩ hD
    gi_wp2
    refine ⟨by simp, .inl ⟨_, _, rfl, run_takeDeferred hD, ?_⟩⟩
    have hg := grownBy_putObj' W w2.heap.size (.deferred none)
    have hb3 := hbx.kept hg (fun e => by have := Option.some.inj e; omega)
    have hc3 := hb3.cell
    refine ⟨.bool false, by simp [results, Try.results36, go_sem, hc3], ret_bool ?_, ?_⟩
    · rw [validF, hun, List.all_append, hp]; rfl
    · exact hbl.grown hg hbl.size (fun k e => by have := Option.some.inj e; omega)
  · rintro pre W W' row ⟨hbx, hbl, hp⟩ hg hr
    exact ⟨hbx.kept hg (fun e => by have := hr _ e.symm; omega), hbl.grown hg hbl.size (fun k e => by have := hr k e; omega), hp⟩
  · rintro c pre W W' row ⟨hc, hbx, hbl, hp⟩ hg hr
    exact ⟨hc, hbx.kept hg (fun e => by have := hr _ e.symm; omega), hbl.grown hg hbl.size (fun k e => by have := hr k e; omega), hp⟩

end Go.Proofs.Ytaaegelefknkeab
