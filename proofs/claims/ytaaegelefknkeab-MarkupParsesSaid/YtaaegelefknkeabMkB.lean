/- The walk of the iterator 'units$1' of package codepoint. -/
import Derived.RangeFuncNested
import Derived.RangeFuncBound
import Derived.RangeFuncCalls
import Derived.RangeFuncLeaves
import Derived.Shelf.Abstract
import Derived.Shelf.RegionOpen
import Derived.WalkKit
import Derived.OwnWalkIn
import Derived.TacticsInMore
import Derived.LoopNIn
import Derived.LoopIn
import Derived.Outline
import Derived.Test.YtaaegelefknkeabMkA
namespace Go.Proofs.Ytaaegelefknkeab

open Go.RowKit Go.Shelf
attribute [local go_sem] Oper.semAt_some

/-- A unit as the value of the struct. -/
def unitV (x : Nat × Nat × Nat) : Value := .agg #[.int .i32 x.1, .int .i64 x.2.1, .int .i64 x.2.2]

/-- What a round of the loop over the units leaves as it lay. -/
structure KeepsB (S : Nat → Prop) (W W' : World) : Prop where
  size : W.heap.size ≤ W'.heap.size
  same : ∀ k, S k → W'.heap[k]? = W.heap[k]?

/-- The three cells of block k, as a struct 'unit'. -/
def UB (W : World) (k : Nat) (r a z : Int) : Prop := W.heap[k]? = some (.cells #[.int .i32 r, .int .i64 a, .int .i64 z] 75 (0, 0))
theorem UB.c0 {W : World} {k : Nat} {r a z : Int} (h : UB W k r a z) : W.cell? ⟨k, 0, none⟩ = some (.int .i32 r) := by simp [World.cell?, show W.heap[k]? = _ from h]
theorem UB.c1 {W : World} {k : Nat} {r a z : Int} (h : UB W k r a z) : W.cell? ⟨k, 1, none⟩ = some (.int .i64 a) := by simp [World.cell?, show W.heap[k]? = _ from h]
theorem UB.c2 {W : World} {k : Nat} {r a z : Int} (h : UB W k r a z) : W.cell? ⟨k, 2, none⟩ = some (.int .i64 z) := by simp [World.cell?, show W.heap[k]? = _ from h]
theorem UB.fz {W : World} {k : Nat} {r a z : Int} (h : UB W k r a z) (o : Nat) : W.frozen? ⟨k, o, none⟩ = false := by simp [World.frozen?, show W.heap[k]? = _ from h]
theorem setCell_heap_same {W : World} {k : Nat} {c : Array Value} {e : TypeId} {fr : Nat × Nat} (h : W.heap[k]? = some (.cells c e fr)) (o : Nat) (v : Value) :
    (W.setCell ⟨k, o, none⟩ v).heap[k]? = some (.cells (c.setIfInBounds o v) e fr) := by
  obtain ⟨hlt, hk⟩ := Array.getElem?_eq_some_iff.1 h
  show (W.heap.modify k _)[k]? = _
  rw [Array.getElem?_eq_getElem (by rw [Array.size_modify]; exact hlt), Array.getElem_modify_self, hk]
  rfl
theorem UB.s0 {W : World} {k : Nat} {r a z : Int} (h : UB W k r a z) (x : Int) : UB (W.setCell ⟨k, 0, none⟩ (.int .i32 x)) k x a z := setCell_heap_same h 0 _
theorem UB.s1 {W : World} {k : Nat} {r a z : Int} (h : UB W k r a z) (x : Int) : UB (W.setCell ⟨k, 1, none⟩ (.int .i64 x)) k r x z := setCell_heap_same h 1 _
theorem UB.s2 {W : World} {k : Nat} {r a z : Int} (h : UB W k r a z) (x : Int) : UB (W.setCell ⟨k, 2, none⟩ (.int .i64 x)) k r a x := setCell_heap_same h 2 _
theorem grown_setCell (W : World) (a : Addr) (v : Value) : W.grownBy (W.setCell a v) (some a.block) :=
  ⟨rfl, rfl, rfl, (KeepsWalks.setCell W _ v).size, fun k _ hk => Below.heap_setCell _ _ _ k (fun e => hk (by rw [e]))⟩
theorem grown_iterAt {W : World} {k : Nat} (s : ByteArray) (p : Nat) : W.grownBy (W.iterAt k s p) (some k) :=
  ⟨rfl, rfl, rfl, by rw [Lib.iterAt_size]; exact Nat.le_refl _, fun j _ hj => Lib.iterAt_other W k j s p (fun e => hj (by rw [e]))⟩

theorem decode_fits (s : ByteArray) (pos : Nat) (h : pos < s.size) : pos + (Utf8.decode s pos).2 ≤ s.size := by
  simp only [Utf8.decode]
  repeat' split
  all_goals simp_all
  all_goals omega
theorem decode_size (s : ByteArray) (pos : Nat) : (Utf8.decode s pos).2 ≤ 4 := by
  simp only [Utf8.decode]
  repeat' split
  all_goals simp

/-- The state at the head of the iterator's loop: what lies in memory, and what has come. -/
structure UL (s : ByteArray) (bs B : Nat) (J : List (Nat × Nat × Nat) → World → Prop) (pos fuel : Nat) (r a z : Int) (W : World) : Prop where
  it : W.heap[B + 1]? = some (.stringIter s pos)
  ub : UB W B r a z
  sb : W.heap[bs]? = some (.cells #[.string s] 9 (0, 0))
  fu : s.size ≤ pos + fuel
  st : (a = -1 ∧ pos = 0 ∧ fuel = s.size ∧ J [] W) ∨ (∃ (pre : List (Nat × Nat × Nat)) (rn an : Nat), r = rn ∧ a = an ∧ an < pos ∧ pos ≤ s.size ∧ unitsOf s = pre ++ (rn, an, pos - an) :: unitsFrom s fuel pos ∧ J pre W)

set_option maxHeartbeats 4000000 in
theorem units1 (n l bs : Nat) (s : ByteArray) (hs : s.size ≤ 140737488351232) (J Jx : List (Nat × Nat × Nat) → World → Prop) (W0 : World)
    (hbs : W0.heap[bs]? = some (.cells #[.string s] 9 (0, 0)))
    (hJ : ∀ k W W' row, J k W → W.grownBy W' row → (∀ r, row = some r → W0.heap.size ≤ r ∧ r < W0.heap.size + 2) → J k W')
    (hY : ∀ pre x rest W1, unitsOf s = pre ++ x :: rest → J pre W1 → W0.heap.size + 2 ≤ W1.heap.size → (∃ r a z, UB W1 W0.heap.size r a z) → (∃ p, W1.heap[W0.heap.size + 1]? = some (.stringIter s p)) → YieldAt Fence.wide (n - 1) Try.prog l #[unitV x] W1 fun e W' =>
      (e = .returned (.bool true) ∧ J (pre ++ [x]) W' ∧ KeepsB (fun k => k = bs ∨ k = W0.heap.size ∨ k = W0.heap.size + 1) W1 W') ∨ (e = .returned (.bool false) ∧ Jx (pre ++ [x]) W'))
    (h0 : J [] W0) :
    CallsIn Fence.wide n Try.prog 57 #[.func (.yield l) #[] #[], .pointer (some ⟨bs, 0, none⟩)] W0 fun e W' => (∃ v, e = .returned v) ∧
      (J (unitsOf s) W' ∨ ∃ pre rest, unitsOf s = pre ++ rest ∧ Jx pre W') := by
  have hlt : bs < W0.heap.size := (Array.getElem?_eq_some_iff.1 hbs).1
  have hc : W0.cell? ⟨bs, 0, none⟩ = some (.string s) := by simp [World.cell?, hbs]
  refine callsIn_of_wp Try.func57 rfl trivial ?_
  simp only [Try.ntmps57, List.size_toArray, List.length_cons, List.length_nil, Nat.reduceAdd, Nat.reduceSub, Array.replicate_succ, Array.replicate_zero, List.push_toArray, List.append_toArray, List.nil_append, List.cons_append]
  gi_wp2
  have hJ2 := Lib.hid hJ
  have hY2 := Lib.hid hY
  clear hJ hY hc
  gi_loopw [4] (fun _ wr => ∃ (pos fuel : Nat) (r a z : Int), UL s bs W0.heap.size J pos fuel r a z wr)
    (fun _ wr => s.size - wr.iterPos (W0.heap.size + 1))
  case atStart =>
    refine ⟨0, s.size, 0, -1, 0, ?_, ?_, ?_, by omega, .inl ⟨rfl, rfl, rfl, ?_⟩⟩
    · have := World.iter_heap (W0.alloc (.cells #[.int .i32 0, .int .i64 (-1), .int .i64 0] 75)) s 0
      simpa using this
    · exact (Below.heap_alloc _ _ _ (by simp)).trans (World.alloc_heap_new W0 _)
    · exact (Below.heap_alloc _ _ _ (by simp; omega)).trans ((Below.heap_alloc _ _ _ hlt).trans hbs)
    · exact hJ2.out _ _ _ none (hJ2.out _ _ _ none h0 (World.grownBy_alloc _ _ none) (by simp)) (World.grownBy_alloc _ _ none) (by simp)
  case round =>
    obtain ⟨pos, fuel, r, a, z, hU⟩ := hrel
    have hsz : W0.heap.size + 1 < wr.heap.size := (Array.getElem?_eq_some_iff.1 hU.it).1
    by_cases hp : pos < s.size
    · obtain ⟨W1, hW1⟩ : ∃ W1, W1 = wr.iterAt (W0.heap.size + 1) s (pos + (Utf8.decode s pos).2) := ⟨_, rfl⟩
      have hnx : ∀ ty, (Instr.next (.pointer (some ⟨W0.heap.size + 1, 0, none⟩)) true ty).run Try.prog wr = .ok (.tuple #[.bool true, .int .i64 pos, .int .i32 (Utf8.decode s pos).1]) W1 := fun ty => by
        rw [hW1]; exact Lib.run_next_any_at wr (W0.heap.size + 1) s pos ty hU.it hp
      have hwd := width_pos s pos hp
      have hit1 : W1.heap[W0.heap.size + 1]? = some (.stringIter s (pos + (Utf8.decode s pos).2)) := by rw [hW1]; exact Lib.iterAt_heap wr _ s pos _ hU.it
      have hub1 : UB W1 W0.heap.size r a z := by rw [hW1]; exact (Lib.iterAt_other wr _ _ s _ (by omega)).trans hU.ub
      have hsb1 : W1.heap[bs]? = some (.cells #[.string s] 9 (0, 0)) := by rw [hW1]; exact (Lib.iterAt_other wr _ _ s _ (by omega)).trans hU.sb
      have hg1 : wr.grownBy W1 (some (W0.heap.size + 1)) := by rw [hW1]; exact grown_iterAt s _
      have hsz1 : W1.heap.size = wr.heap.size := by rw [hW1]; exact Lib.iterAt_size _ _ _ _
      have hc0 := hub1.c0
      have hc1 := hub1.c1
      have hc2 := hub1.c2
      have hf0 := hub1.fz 0
      have hf1 := hub1.fz 1
      have hf2 := hub1.fz 2
      have HU := Lib.hid hU
      have HW1 := Lib.hid hW1
      have Hsb1 := Lib.hid hsb1
      have Hit1 := Lib.hid hit1
      have Hg1 := Lib.hid hg1
      have Hub1 := Lib.hid hub1
      have Hsz1 := Lib.hid hsz1
      rcases hU.st with ⟨rfl, rfl, rfl, hJ0⟩ | ⟨pre, rn, an, rfl, rfl, han, hpb, hun, hJp⟩
      · clear hU hW1 hsb1 hit1 hg1 hub1 hsz1
        have HJ0 := Lib.hid hJ0
        clear hJ0
        gi_wp2
        refine ⟨fun _ h => (by cases h), ?_⟩
        gi_wp2
        go_roundw
        case rel =>
          refine ⟨0 + (Utf8.decode s 0).2, s.size - 1, (Utf8.decode s 0).1, 0, 0, ?_, ?_, ?_, by omega, .inr ⟨[], (Utf8.decode s 0).1, 0, rfl, rfl, by omega, ?_, ?_, ?_⟩⟩
          · exact (Below.heap_setCell _ _ _ _ (by simp)).trans ((Below.heap_setCell _ _ _ _ (by simp)).trans ((Below.heap_setCell _ _ _ _ (by simp)).trans ((Below.heap_setCell _ _ _ _ (by simp)).trans Hit1.out)))
          · exact (((Hub1.out.s2 1).s0 _).s1 _).s2 _
          · exact (Below.heap_setCell _ _ _ _ (by simp; omega)).trans ((Below.heap_setCell _ _ _ _ (by simp; omega)).trans ((Below.heap_setCell _ _ _ _ (by simp; omega)).trans ((Below.heap_setCell _ _ _ _ (by simp; omega)).trans Hsb1.out)))
          · have := decode_fits s 0 hp; omega
          · obtain ⟨f, hf⟩ : ∃ f, s.size = f + 1 := ⟨s.size - 1, by omega⟩
            simp only [unitsOf, hf, unitsFrom, List.nil_append, Nat.add_sub_cancel]
            rw [if_pos (by omega)]; simp
          · exact hJ2.out _ _ _ _ (hJ2.out _ _ _ _ (hJ2.out _ _ _ _ (hJ2.out _ _ _ _ (hJ2.out _ _ _ _ HJ0.out Hg1.out (by simp)) (grown_setCell _ _ _) (by simp)) (grown_setCell _ _ _) (by simp)) (grown_setCell _ _ _) (by simp)) (grown_setCell _ _ _) (by simp)
        case measure =>
          rw [iterPos_of HU.out.it, iterPos_of (s := s) (p := 0 + (Utf8.decode s 0).2) ((Below.heap_setCell _ _ _ _ (by simp)).trans ((Below.heap_setCell _ _ _ _ (by simp)).trans ((Below.heap_setCell _ _ _ _ (by simp)).trans ((Below.heap_setCell _ _ _ _ (by simp)).trans Hit1.out))))]
          omega
      · clear hU hW1 hsb1 hit1 hg1 hub1 hsz1
        have hv : unitV (rn, an, pos - an) = .agg #[.int .i32 rn, .int .i64 an, .int .i64 ((pos : Int) - an)] := by simp [unitV]; omega
        have hj2 := hJ2.out _ _ _ _ (hJ2.out _ _ _ _ hJp Hg1.out (by simp)) (grown_setCell W1 ⟨W0.heap.size, 2, none⟩ (.int .i64 ((pos : Int) - an))) (by simp)
        obtain ⟨fn, tmps, assign, body, hy, hR⟩ := hY2.out pre (rn, an, pos - an) _ _ hun hj2 (by have := (grown_setCell W1 ⟨W0.heap.size, 2, none⟩ (.int .i64 ((pos : Int) - an))).size; have := Hsz1.out; omega) ⟨_, _, _, Hub1.out.s2 _⟩ ⟨_, (Below.heap_setCell _ _ _ _ (by simp)).trans Hit1.out⟩
        rw [hv] at hy
        have HJp := Lib.hid hJp
        have Hun := Lib.hid hun
        have HR := Lib.hid hR
        clear hJp hun hv hj2 hR
        gi_wp2
        refine ⟨fun h => (by cases h), HR.out.mono ?_⟩
        clear HR hy
        rintro e W' (⟨rfl, hJ', hk⟩ | ⟨rfl, hJx'⟩)
        · have hub2 : UB W' W0.heap.size rn an ((pos : Int) - an) := (hk.same _ (by simp)).trans (Hub1.out.s2 _)
          have hit2 : W'.heap[W0.heap.size + 1]? = some (.stringIter s (pos + (Utf8.decode s pos).2)) := (hk.same _ (by simp)).trans ((Below.heap_setCell _ _ _ _ (by simp)).trans Hit1.out)
          have hsb2 : W'.heap[bs]? = some (.cells #[.string s] 9 (0, 0)) := (hk.same _ (by simp)).trans ((Below.heap_setCell _ _ _ _ (by simp; omega)).trans Hsb1.out)
          have hd0 := hub2.c0
          have hd1 := hub2.c1
          have hd2 := hub2.c2
          have hg0 := hub2.fz 0
          have hg1 := hub2.fz 1
          have hg2 := hub2.fz 2
          have Hub2 := Lib.hid hub2
          have Hit2 := Lib.hid hit2
          have Hsb2 := Lib.hid hsb2
          have Hk := Lib.hid hk
          clear hub2 hit2 hsb2 hk
          gi_wp2
          go_roundw
          case rel =>
            obtain ⟨f, rfl⟩ : ∃ f, fuel = f + 1 := ⟨fuel - 1, by have := HU.out.fu; omega⟩
            refine ⟨pos + (Utf8.decode s pos).2, f, (Utf8.decode s pos).1, pos, 0, ?_, ?_, ?_, by have := HU.out.fu; omega, .inr ⟨pre ++ [(rn, an, pos - an)], (Utf8.decode s pos).1, pos, rfl, rfl, by omega, ?_, ?_, ?_⟩⟩
            · exact (Below.heap_setCell _ _ _ _ (by simp)).trans ((Below.heap_setCell _ _ _ _ (by simp)).trans ((Below.heap_setCell _ _ _ _ (by simp)).trans Hit2.out))
            · exact ((Hub2.out.s0 _).s1 _).s2 _
            · exact (Below.heap_setCell _ _ _ _ (by simp; omega)).trans ((Below.heap_setCell _ _ _ _ (by simp; omega)).trans ((Below.heap_setCell _ _ _ _ (by simp; omega)).trans Hsb2.out))
            · exact decode_fits s pos hp
            · rw [Hun.out]; simp [unitsFrom, hp]
            · exact hJ2.out _ _ _ _ (hJ2.out _ _ _ _ (hJ2.out _ _ _ _ hJ' (grown_setCell _ _ _) (by simp)) (grown_setCell _ _ _) (by simp)) (grown_setCell _ _ _) (by simp)
          case measure =>
            rw [iterPos_of HU.out.it, iterPos_of (s := s) (p := pos + (Utf8.decode s pos).2) ((Below.heap_setCell _ _ _ _ (by simp)).trans ((Below.heap_setCell _ _ _ _ (by simp)).trans ((Below.heap_setCell _ _ _ _ (by simp)).trans Hit2.out)))]
            omega
        · gi_wp2
          refine bodyPost_ret (results_none rfl _ _ _) rfl ?_
          exact ⟨⟨_, rfl⟩, .inr ⟨pre ++ [(rn, an, pos - an)], unitsFrom s fuel pos, by rw [Hun.out]; simp, hJx'⟩⟩
    · have hnx : ∀ ty, (Instr.next (.pointer (some ⟨W0.heap.size + 1, 0, none⟩)) true ty).run Try.prog wr = _ := fun ty => Lib.run_next_end_at wr (W0.heap.size + 1) s pos ty hU.it hp
      have hc0 := hU.ub.c0
      have hc1 := hU.ub.c1
      have hc2 := hU.ub.c2
      have hf2 := hU.ub.fz 2
      have hcs : wr.cell? ⟨bs, 0, none⟩ = some (.string s) := by simp [World.cell?, hU.sb]
      have HU := Lib.hid hU
      rcases hU.st with ⟨rfl, rfl, rfl, hJ0⟩ | ⟨pre, rn, an, rfl, rfl, han, hpb, hun, hJp⟩
      · clear hU
        have HJ0 := Lib.hid hJ0
        clear hJ0
        gi_wp2
        go_end0
        have hz : s.size = 0 := by omega
        refine ⟨⟨_, rfl⟩, .inl ?_⟩
        rw [show unitsOf s = [] by simp [unitsOf, hz, unitsFrom]]
        exact hJ2.out _ _ _ _ HJ0.out (grown_setCell _ _ _) (by simp)
      · clear hU
        rw [unitsFrom_end s fuel pos hp] at hun
        have hps : pos = s.size := by omega
        have hv : unitV (rn, an, pos - an) = .agg #[.int .i32 rn, .int .i64 an, .int .i64 ((s.size : Int) - an)] := by simp [unitV]; omega
        have hj2 := hJ2.out _ _ _ _ hJp (grown_setCell wr ⟨W0.heap.size, 2, none⟩ (.int .i64 ((s.size : Int) - an))) (by simp)
        obtain ⟨fn, tmps, assign, body, hy, hR⟩ := hY2.out pre (rn, an, pos - an) _ _ hun hj2 (by have := (grown_setCell wr ⟨W0.heap.size, 2, none⟩ (.int .i64 ((s.size : Int) - an))).size; omega) ⟨_, _, _, HU.out.ub.s2 _⟩ ⟨_, (Below.heap_setCell _ _ _ _ (by simp)).trans HU.out.it⟩
        rw [hv] at hy
        have HJp := Lib.hid hJp
        have Hun := Lib.hid hun
        have HR := Lib.hid hR
        have Hps := Lib.hid hps
        clear hJp hun hv hj2 hR hps
        gi_wp2
        refine ⟨fun h => (by cases h), HR.out.mono ?_⟩
        clear HR hy
        rintro e W' (⟨rfl, hJ', hk⟩ | ⟨rfl, hJx'⟩)
        · gi_wp2
          go_end0
          exact ⟨⟨_, rfl⟩, .inl (by rw [Hun.out]; exact hJ')⟩
        · gi_wp2
          go_end0
          exact ⟨⟨_, rfl⟩, .inr ⟨pre ++ [(rn, an, pos - an)], [], by rw [Hun.out]; simp, hJx'⟩⟩

end Go.Proofs.Ytaaegelefknkeab
