/- The walk of Fold. -/
import Derived.Test.YtaaegelefknkeaaCpH
namespace Go.Proofs.Ytaaegelefknkeaa
open Go.RowKit Go.Shelf
attribute [local go_sem] Oper.semAt_some
set_option linter.unusedSimpArgs false

theorem unitsFrom_mem (s : ByteArray) (u : U) : ∀ fuel pos, u ∈ unitsFrom s fuel pos → u.1 = (Utf8.decode s u.2.1).1 ∧ u.2.2 = (Utf8.decode s u.2.1).2 ∧ u.2.1 < s.size := by
  intro fuel
  induction fuel with
  | zero => intro pos h; cases h
  | succ f ih =>
    intro pos h
    unfold unitsFrom at h
    split at h
    · rename_i hp
      rcases List.mem_cons.1 h with rfl | h
      · exact ⟨rfl, rfl, hp⟩
      · exact ih _ h
    · cases h
theorem decode_max (s : ByteArray) (pos : Nat) : (Utf8.decode s pos).1 ≤ 1114111 := by
  have hb : ∀ k, (s.get! (pos + k)).toNat < 256 := fun k => (s.get! (pos + k)).toNat_lt
  have h0 := hb 0; have h1 := hb 1; have h2 := hb 2; have h3 := hb 3
  simp only [Utf8.decode]
  repeat' split
  all_goals simp_all [Utf8.runeError, Utf8.valid]
  all_goals omega

structure GoodU (s : ByteArray) (u : U) : Prop where
  r : u.1 ≤ 1114111
  fit : u.2.1 + u.2.2 ≤ s.size
  w1 : 1 ≤ u.2.2
  w4 : u.2.2 ≤ 4
theorem goodU {s : ByteArray} {u : U} (h : u ∈ unitsOf s) : GoodU s u := by
  obtain ⟨h1, h2, h3⟩ := unitsFrom_mem s u _ _ h
  exact ⟨by rw [h1]; exact decode_max s _, by rw [h2]; exact decode_fits s _ h3, by rw [h2]; exact width_pos s _ h3, by rw [h2]; exact decode_size s _⟩

/-- The bytes of a unit. -/
def bytesU (s : ByteArray) (u : U) : ByteArray := s.extract u.2.1 (u.2.1 + u.2.2)
/-- What takes a unit's place. -/
def foldU (s : ByteArray) (u : U) : ByteArray := if lowerF u.1 = u.1 then bytesU s u else Utf8.encode (lowerF u.1)
def foldL (s : ByteArray) (us : List U) : ByteArray := us.foldl (fun o u => o ++ foldU s u) ⟨#[]⟩
def foldF (s : ByteArray) : ByteArray := foldL s (unitsOf s)
theorem foldL_snoc (s : ByteArray) (us : List U) (u : U) : foldL s (us ++ [u]) = foldL s us ++ foldU s u := by simp [foldL]
theorem bytesU_size (s : ByteArray) (u : U) : (bytesU s u).size ≤ u.2.2 := by
  unfold bytesU
  rw [ByteArray.size_extract]
  omega
theorem foldU_size (s : ByteArray) (u : U) (h : u.2.2 ≤ 4) : (foldU s u).size ≤ 4 := by
  unfold foldU
  split
  · have := bytesU_size s u; omega
  · exact encode_size_le _
theorem foldL_size' (s : ByteArray) : ∀ (us : List U) (o : ByteArray), (∀ u ∈ us, u.2.2 ≤ 4) → (us.foldl (fun o u => o ++ foldU s u) o).size ≤ o.size + 4 * us.length := by
  intro us
  induction us with
  | nil => intro o _; exact Nat.le_refl _
  | cons u us ih =>
    intro o h
    have h1 := ih (o ++ foldU s u) (fun x hx => h x (List.mem_cons_of_mem _ hx))
    have h2 := foldU_size s u (h u (List.mem_cons_self ..))
    rw [ByteArray.size_append] at h1
    simp only [List.foldl_cons, List.length_cons]
    omega
theorem foldL_size (s : ByteArray) (us : List U) (h : ∀ u ∈ us, u.2.2 ≤ 4) : (foldL s us).size ≤ 4 * us.length := by
  have := foldL_size' s us ⟨#[]⟩ h
  have e : (ByteArray.mk #[]).size = 0 := rfl
  unfold foldL
  omega

set_option maxHeartbeats 4000000 in
theorem Fold_any (s : ByteArray) (hs : s.size ≤ 1000000) (w : World) :
    Calls Try.prog 25 #[.string s] w fun e w' => e = .returned (.string (foldF s)) ∧ Below w.heap.size w w' := by
  obtain ⟨i0, hi, hz0, hz1, hz2⟩ := info_parts Try.info5
  refine (callsIn_wide (n := 5)).1 ?_
  refine callsIn_of_wp_marks Try.func25 rfl trivial ?_
  simp only [Try.ntmps25, List.size_toArray, List.length_cons, List.length_nil, Nat.reduceAdd, Nat.reduceSub, Array.replicate_succ, Array.replicate_zero, List.push_toArray, List.append_toArray, List.nil_append, List.cons_append]
  gi_wp2_with (first | (gi_at_make; refine wpListIn_make_own _ rfl _ _ 44 rfl (w.heap.size + 1) 5 i0 _ 1 Try.underlying44 hi hz0 hz1 .i64 .i64 _ s.size rfl rfl rfl (by rw [hz2]; omega) (by unfold maxLen; omega) (by simp) ?_; intro w1 hown1 hg1; simp only [World.size_alloc] at hown1; have hcs := hg1.cell (a := ⟨w.heap.size, 0, none⟩) (Boxed.new w 9 (.string s)).cell (by simp); have hsz1 : w.heap.size < w1.heap.size := by have := hg1.size; simp at this; omega) | (refine ⟨trivial, ?_⟩; gi_at_call 30; refine (callsIn_wide.2 (units_any _ _)).mono ?_; rintro e w' ⟨rfl, rfl⟩))
  obtain ⟨bx, hbxe⟩ : ∃ bx, bx = w1.heap.size := ⟨_, rfl⟩
  rw [← hbxe]
  obtain ⟨w2, hw2⟩ : ∃ w2, ((w1.alloc (.cells #[.slice (some ⟨w.heap.size + 1, 0, none⟩) 0 s.size] 44)).alloc (.cells #[.string s] 9)) = w2 := ⟨_, rfl⟩
  have hsz : w2.heap.size = bx + 2 := by rw [← hw2]; simp [hbxe]
  have hbs : w2.heap[bx + 1]? = some (.cells #[.string s] 9 (0, 0)) := by rw [← hw2]; exact Boxed.newAt _ _ _ (by simp [hbxe])
  have hbb : Boxed w2 bx 44 (.slice (some ⟨w.heap.size + 1, 0, none⟩) 0 s.size) := by rw [← hw2]; exact (Boxed.newAt w1 44 _ hbxe).alloc _
  have hst : Boxed w2 w.heap.size 9 (.string s) := by rw [← hw2]; exact (((Boxed.new w 9 (.string s)).kept hg1 (by simp)).alloc _).alloc _
  have hrow : OwnsB w2 (w.heap.size + 1) (.slice (some ⟨w.heap.size + 1, 0, none⟩) 0 s.size) (foldL s []) := by rw [← hw2]; exact (World.ownsRow.alloc hown1 _).alloc _
  have hbl : Below w.heap.size w w2 := by
    rw [← hw2]
    exact (((((Below.refl _ w).alloc (Nat.le_refl _) _).grown hg1 (by simp) (by simp)).alloc (by omega) _).alloc (by simp; omega) _)
  have hlt1 : w.heap.size + 1 < bx := by rw [hbxe]; exact (World.ownsRow.lt hown1 _ rfl).2
  rw [hw2]
  have hlen : (unitsOf s).length ≤ 1000000 := by have := unitsFrom_len s s.size 0; unfold unitsOf; omega
  clear hw2 hbxe hg1 hown1 hcs hsz1
  refine range_units (bx + 1) s (by omega) rfl rfl hbs
    (fun pre W => ∃ v, Boxed W bx 44 v ∧ OwnsB W (w.heap.size + 1) v (foldL s pre) ∧ (∀ k, v.ownBlock = some k → ¬ (bx + 2 ≤ k ∧ k < bx + 6)) ∧ Boxed W w.heap.size 9 (.string s) ∧ Boxed W (bx + 1) 9 (.string s) ∧ Below w.heap.size w W)
    (fun _ _ _ => False) ?_ (fun _ _ _ _ _ h _ _ => h) ⟨_, hbb, hrow, fun k e => by simp [Value.ownBlock] at e; omega, hst, hbs, hbl⟩
    (fun x ub => { tmps := #[.string s, .pointer (some ⟨w.heap.size, 0, none⟩), .string ⟨#[]⟩, .pointer (some ⟨bx, 0, none⟩), .pointer (some ⟨ub, 0, none⟩), undef, .string s, .int .i64 s.size, .slice (some ⟨w.heap.size + 1, 0, none⟩) 0 s.size, .string s, .func (.func 36) #[] #[.pointer (some ⟨bx + 1, 0, none⟩)], .agg #[.int .i32 x.1, .int .i64 x.2.1, .int .i64 x.2.2],
       undef, undef, undef, undef, undef, undef, undef, undef, undef, undef, undef, undef, undef, undef, undef, undef, undef, undef, undef, undef, undef, undef, undef, undef], defers := [] }) ?assign ?body ?done ?stop
  case assign =>
    intro l x W K hK
    gi_wp2
    exact hK
  case body =>
    rintro l pre x rest W ub hun ⟨v, hbx, hrow, hne, hst, hbs, hbl⟩ hu hub h4
    have hult : ub < W.heap.size := (Array.getElem?_eq_some_iff.1 hu).1
    have hgu : GoodU s x := goodU (by rw [hun]; simp)
    have hin : ∀ k, Four (bx + 1) w2.heap.size k → k < W.heap.size := by rintro k (rfl | ⟨h1, h2⟩) <;> omega
    have hpl : pre.length + 1 ≤ 1000000 := by rw [hun] at hlen; simp at hlen; omega
    have hos : (foldL s pre).size ≤ 4000000 := by
      have := foldL_size s pre (fun u hu => (goodU (by rw [hun]; simp [hu])).w4)
      omega
    have hus := foldU_size s x hgu.w4
    have hgr := hgu.r
    have hgf := hgu.fit
    have hc0 := hu.c0
    have hc1 := hu.c1
    have hc2 := hu.c2
    have hd := hbx.cell
    have hf := hbx.frozen
    have hlt := hbx.lt
    have hds := hst.cell
    have Hin := Lib.hid hin
    have Hun := Lib.hid hun
    have Hsz := Lib.hid hsz
    have Hbs := Lib.hid hbs
    have H4 := Lib.hid h4
    have Hu := Lib.hid hu
    have Hhbx := Lib.hid hbx
    have Hrow := Lib.hid hrow
    have Hst := Lib.hid hst
    -- what the body owes behind the append and the store
    have fin : ∀ (v' : Value) (w1 : World), OwnsB w1 (w.heap.size + 1) v' (foldL s pre ++ foldU s x) → W.grownBy w1 v.ownBlock → (Boxed w1 bx 44 v ∧ Boxed w1 w.heap.size 9 (.string s) ∧ UB w1 ub x.1 x.2.1 x.2.2) ∧
        (KeepsB (Four (bx + 1) w2.heap.size) W (w1.setCell ⟨bx, 0, none⟩ v') ∧ ∃ u, Boxed (w1.setCell ⟨bx, 0, none⟩ v') bx 44 u ∧ OwnsB (w1.setCell ⟨bx, 0, none⟩ v') (w.heap.size + 1) u (foldL s (pre ++ [x])) ∧ (∀ k, u.ownBlock = some k → ¬ (bx + 2 ≤ k ∧ k < bx + 6)) ∧
          Boxed (w1.setCell ⟨bx, 0, none⟩ v') w.heap.size 9 (.string s) ∧ Boxed (w1.setCell ⟨bx, 0, none⟩ v') (bx + 1) 9 (.string s) ∧ Below w.heap.size w (w1.setCell ⟨bx, 0, none⟩ v')) := by
      intro v' w1 hown' hg
      have hb1 : Boxed w1 bx 44 v := hbx.kept hg (hbx.not_row (by decide) hrow)
      have hs1 : Boxed w1 w.heap.size 9 (.string s) := hst.kept hg (hst.not_row (by decide) hrow)
      have hs2 : Boxed w1 (bx + 1) 9 (.string s) := hbs.kept hg (hbs.not_row (by decide) hrow)
      have hg2 := grown_setCell w1 ⟨bx, 0, none⟩ v'
      have hns := hb1.not_row (by decide) hown'
      refine ⟨⟨hb1, hs1, hu.kept hg (hu.not_row (by decide) hrow)⟩, ⟨((KeepsB.refl _ W).grown hg hin ?_).setCell (p := ⟨bx, 0, none⟩) (by simp [Four]; omega) _, v', hb1.set _, ?_, ?_, hs1.other (by omega) _, hs2.other (by omega) _, ?_⟩⟩
      · rintro k hk (rfl | h)
        · exact hbs.not_row (by decide) hrow hk.symm
        · exact hne k hk (by omega)
      · rw [foldL_snoc]
        exact World.ownsRow.kept hown' hg2 (.inr hns.symm)
      · intro k hk hk'
        rcases hown'.2 with ⟨rfl, _⟩ | ⟨g, cap, cur, rfl, _, hgb, _⟩
        · simp [Value.ownBlock] at hk
        · obtain rfl : g = k := by simpa [Value.ownBlock] using hk
          have hgv : v.ownBlock ≠ some g := fun e => hne g e hk'
          rw [hg.block g (by omega) (fun e => hgv e.symm)] at hgb
          exact h4.ne hgb (by decide) (by rw [hsz]; omega)
      · refine (hbl.grown hg hbl.size (fun k e => ?_)).setCell (p := ⟨bx, 0, none⟩) (by show w.heap.size ≤ bx; omega) _
        have := (World.ownsRow.lt hrow k e).1
        omega
    clear hin hun hsz hbs h4 hu hbx hrow hst hne
    by_cases hl : lowerF x.1 = x.1
    · have e1 : (lowerF x.1 != (x.1 : Int)) = false := by simp [hl]
      have Hl := Lib.hid hl
      clear hl
      gi_wp2_with ((refine ⟨trivial, ?_⟩; gi_at_call 32; refine (CallsIn.inRound l (callsIn_wide.2 (lower_any _ _ (by omega) (by omega)))).mono ?_; rintro e w' ⟨rfl, rfl⟩))
      have Hwr : Hid (IntKind.i64.wrap ((x.2.1 : Int) + x.2.2) = (x.2.1 : Int) + x.2.2) := IntWalk.i64_in _ (by omega)
      have Hsl : Hid (∀ W', (Instr.slice 9 (.string s) (some (.int .i64 x.2.1)) (some (.int .i64 ((x.2.1 : Int) + x.2.2))) none).run Try.prog W' = .ok (.string (bytesU s x)) W') := fun W' => by
        rw [run_slice_string W' 9 s .i64 .i64 _ _ Try.underlying9 (by omega) (by omega) (by omega)]
        unfold bytesU
        congr 3
      refine regionIn_round (S := fun W' => Boxed W' w.heap.size 9 (.string s) ∧ UB W' ub x.1 x.2.1 x.2.2) (by kernel_rfl) (by kernel_rfl) (by rintro ⟨_, _, h⟩; exact h) ?_
      refine held_take 1 24 (.string s) rfl rfl (by kernel_rfl) (by kernel_rfl) (by kernel_rfl) (fun _ _ _ _ h => h) (.inl ⟨rfl, fun W' hS => by have e1 := hS.1.cell; have e2 := UB.c1 hS.2; have e3 := UB.c2 hS.2; simp [go_sem, Act.eval, e1, e2, e3, Hwr.out, Hsl.out]⟩) ⟨Hst.out, Hu.out⟩ ?_
      simp only [List.setIfInBounds_toArray, List.set_cons_succ, List.set_cons_zero]
      refine held_take 2 25 (.pointer (some ⟨ub, 1, none⟩)) rfl rfl (by kernel_rfl) (by kernel_rfl) (by kernel_rfl) (fun _ _ _ _ h => h) (.inl ⟨rfl, fun W' hS => by have e1 := hS.1.cell; have e2 := UB.c1 hS.2; have e3 := UB.c2 hS.2; simp [go_sem, Act.eval, e1, e2, e3, Hwr.out, Hsl.out]⟩) ⟨Hst.out, Hu.out⟩ ?_
      simp only [List.setIfInBounds_toArray, List.set_cons_succ, List.set_cons_zero]
      refine held_take 3 26 (.int .i64 x.2.1) rfl rfl (by kernel_rfl) (by kernel_rfl) (by kernel_rfl) (fun _ _ _ _ h => h) (.inl ⟨rfl, fun W' hS => by have e1 := hS.1.cell; have e2 := UB.c1 hS.2; have e3 := UB.c2 hS.2; simp [go_sem, Act.eval, e1, e2, e3, Hwr.out, Hsl.out]⟩) ⟨Hst.out, Hu.out⟩ ?_
      simp only [List.setIfInBounds_toArray, List.set_cons_succ, List.set_cons_zero]
      refine held_take 4 27 (.pointer (some ⟨ub, 1, none⟩)) rfl rfl (by kernel_rfl) (by kernel_rfl) (by kernel_rfl) (fun _ _ _ _ h => h) (.inl ⟨rfl, fun W' hS => by have e1 := hS.1.cell; have e2 := UB.c1 hS.2; have e3 := UB.c2 hS.2; simp [go_sem, Act.eval, e1, e2, e3, Hwr.out, Hsl.out]⟩) ⟨Hst.out, Hu.out⟩ ?_
      simp only [List.setIfInBounds_toArray, List.set_cons_succ, List.set_cons_zero]
      refine held_take 5 28 (.int .i64 x.2.1) rfl rfl (by kernel_rfl) (by kernel_rfl) (by kernel_rfl) (fun _ _ _ _ h => h) (.inl ⟨rfl, fun W' hS => by have e1 := hS.1.cell; have e2 := UB.c1 hS.2; have e3 := UB.c2 hS.2; simp [go_sem, Act.eval, e1, e2, e3, Hwr.out, Hsl.out]⟩) ⟨Hst.out, Hu.out⟩ ?_
      simp only [List.setIfInBounds_toArray, List.set_cons_succ, List.set_cons_zero]
      refine held_take 6 29 (.pointer (some ⟨ub, 2, none⟩)) rfl rfl (by kernel_rfl) (by kernel_rfl) (by kernel_rfl) (fun _ _ _ _ h => h) (.inl ⟨rfl, fun W' hS => by have e1 := hS.1.cell; have e2 := UB.c1 hS.2; have e3 := UB.c2 hS.2; simp [go_sem, Act.eval, e1, e2, e3, Hwr.out, Hsl.out]⟩) ⟨Hst.out, Hu.out⟩ ?_
      simp only [List.setIfInBounds_toArray, List.set_cons_succ, List.set_cons_zero]
      refine held_take 7 30 (.int .i64 x.2.2) rfl rfl (by kernel_rfl) (by kernel_rfl) (by kernel_rfl) (fun _ _ _ _ h => h) (.inl ⟨rfl, fun W' hS => by have e1 := hS.1.cell; have e2 := UB.c1 hS.2; have e3 := UB.c2 hS.2; simp [go_sem, Act.eval, e1, e2, e3, Hwr.out, Hsl.out]⟩) ⟨Hst.out, Hu.out⟩ ?_
      simp only [List.setIfInBounds_toArray, List.set_cons_succ, List.set_cons_zero]
      refine held_take 8 31 (.int .i64 ((x.2.1 : Int) + x.2.2)) rfl rfl (by kernel_rfl) (by kernel_rfl) (by kernel_rfl) (fun _ _ _ _ h => h) (.inl ⟨rfl, fun W' hS => by have e1 := hS.1.cell; have e2 := UB.c1 hS.2; have e3 := UB.c2 hS.2; simp [go_sem, Act.eval, e1, e2, e3, Hwr.out, Hsl.out]⟩) ⟨Hst.out, Hu.out⟩ ?_
      simp only [List.setIfInBounds_toArray, List.set_cons_succ, List.set_cons_zero]
      refine held_take 9 32 (.string (bytesU s x)) rfl rfl (by kernel_rfl) (by kernel_rfl) (by kernel_rfl) (fun _ _ _ _ h => h) (.inl ⟨rfl, fun W' hS => by have e1 := hS.1.cell; have e2 := UB.c1 hS.2; have e3 := UB.c2 hS.2; simp [go_sem, Act.eval, e1, e2, e3, Hwr.out, Hsl.out]⟩) ⟨Hst.out, Hu.out⟩ ?_
      simp only [List.setIfInBounds_toArray, List.set_cons_succ, List.set_cons_zero]
      refine wpAnyH_all (rs := [0]) (by kernel_rfl) (by simp) ?_
      intro i hi'
      obtain rfl : i = 0 := by simpa using hi'
      refine wpOp_of rfl rfl ?_
      go_simp
      refine ⟨⟨Hst.out, Hu.out⟩, ?_⟩
      refine wpAnyH_all (rs := [10]) (by kernel_rfl) (by simp) ?_
      intro i hi'
      obtain rfl : i = 10 := by simpa using hi'
      refine wpOp_of rfl rfl ?_
      refine (wp_append_string (.tmp 23) (.tmp 32) 44 9 rfl (w.heap.size + 1) i0 Try.underlying44 Try.underlying9 hi hz0 hz1 hz2 v _ rfl (World.ownsRow.drew Hrow.out) (bytesU s x) rfl ?_ ?_ ?_)
      · have := bytesU_size s x; have := hgu.w4; omega
      · have := Hhbx.out.lt; show _ ≤ W.heap.size; omega
      intro v' w1 hown' hgrow
      rw [show bytesU s x = foldU s x by rw [foldU, if_pos Hl.out]] at hown'
      obtain ⟨a', l', c', rfl⟩ := OwnsB.slice hown'
      obtain ⟨⟨hb1, hb2, hb3⟩, hfin⟩ := fin _ w1 hown' ⟨hgrow.os, hgrow.tape, hgrow.output, hgrow.size, hgrow.block⟩
      have hd1 := hb1.cell
      have hf1 := hb1.frozen
      have Hfin := Lib.hid hfin
      have Hb2 := Lib.hid hb2
      have Hb3 := Lib.hid hb3
      clear hfin hgrow hown' hb1 hb2 hb3 fin
      refine ⟨⟨Hb2.out, Hb3.out⟩, ?_⟩
      refine wpAnyH_all (rs := [11]) (by kernel_rfl) (by simp) ?_
      intro i hi'
      obtain rfl : i = 11 := by simpa using hi'
      refine wpOp_of rfl rfl ?_
      simp only [Act.put, List.setIfInBounds_toArray, List.set_cons_succ, List.set_cons_zero]
      go_simp
      refine ⟨⟨Hb2.out.other (by omega) _, (Below.heap_setCell _ _ _ _ (by have := Hsz.out; show ub ≠ bx; omega)).trans Hb3.out⟩, ?_⟩
      refine wpAnyH_done (by kernel_rfl) ?_ _
      exact Hfin.out
    · have e1 : (lowerF x.1 != (x.1 : Int)) = true := by simp [hl]
      have Hl := Lib.hid hl
      clear hl
      gi_wp2_with (first | (gi_at_builtin; refine wpListIn_append_string rfl _ _ 44 9 rfl (w.heap.size + 1) i0 Try.underlying44 Try.underlying9 hi hz0 hz1 hz2 _ _ rfl Hrow.out (Utf8.encode (lowerF x.1)) rfl (by have := encode_size_le (lowerF x.1); omega) (by have := (World.ownsRow.lt Hrow.out); have := Hhbx.out.lt; omega) ?_; intro v' w1 hown' hgrow; rw [show Utf8.encode (lowerF x.1) = foldU s x by rw [foldU, if_neg Hl.out]] at hown'; obtain ⟨a', l', c', rfl⟩ := OwnsB.slice hown'; obtain ⟨⟨hb1, _, _⟩, hfin⟩ := fin _ w1 hown' hgrow; have hd1 := hb1.cell; have hf1 := hb1.frozen; have Hfin := Lib.hid hfin; clear hfin) | (refine ⟨trivial, ?_⟩; gi_at_call 32; refine (CallsIn.inRound l (callsIn_wide.2 (lower_any _ _ (by omega) (by omega)))).mono ?_; rintro e w' ⟨rfl, rfl⟩))
      exact Hfin.out
  case done =>
    rintro W ⟨v, hbx, hrow, hne, hst, hbs, hbl⟩ hD
    have hd := hbx.cell
    have hcv : ∀ dst, Try.prog.underlying dst = some .string → (convert 44 dst v).run Try.prog W = .ok (.string (foldF s)) W := fun dst hd => run_convert_owned 44 dst Try.underlying44 Try.underlying5 hd hrow
    have hcv9 := hcv 9 Try.underlying9
    clear hcv
    gi_wp2
    refine ⟨by simp, .inl ⟨_, _, rfl, run_takeDeferred hD, ?_⟩⟩
    have hg := grownBy_putObj' W w2.heap.size (.deferred none)
    exact ⟨_, results_tmp rfl _ _ _, rfl, hbl.grown hg hbl.size (fun k e => by have := Option.some.inj e; omega)⟩
  case stop =>
    rintro c pre rest W hun h hD
    exact h.elim
  · rintro pre W W' row ⟨v, hbx, hrow, hne, hst, hbs, hbl⟩ hg hr
    have hr' : ∀ k, row = some k → bx + 2 ≤ k ∧ k < bx + 6 := fun k e => by have := hr k e; omega
    refine ⟨v, hbx.kept hg (fun e => by have := hr' _ e.symm; omega), World.ownsRow.kept hrow hg ?_, hne, hst.kept hg (fun e => by have := hr' _ e.symm; omega), hbs.kept hg (fun e => by have := hr' _ e.symm; omega), hbl.grown hg hbl.size (fun k e => by have := hr' k e; omega)⟩
    cases hv : v.ownBlock with
    | none => exact .inl rfl
    | some k => exact .inr fun e => hne k hv (hr' k e.symm)
end Go.Proofs.Ytaaegelefknkeaa
