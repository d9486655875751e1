/- The walks of the reference's At, Position. -/
import Derived.Test.YtaaegelefknkeaaCpN
namespace Go.Proofs.Ytaaegelefknkeaa
open Go.RowKit Go.Shelf
set_option linter.unusedSimpArgs false

set_option maxHeartbeats 4000000 in
theorem RAt_any (s : ByteArray) (i : Int) (hs : s.size ≤ 1000000) (w : World) :
    Calls Try.prog 21 #[.string s, .int .i64 i] w fun e w' => e = .returned (atV (atF (unitsOf s) i)) ∧ Below w.heap.size w w' := by
  have hlen : (unitsOf s).length ≤ 1000000 := by have := unitsFrom_len s s.size 0; unfold unitsOf; omega
  by_cases hi0 : i < 0
  · have e1 : atV (atF (unitsOf s) i) = .tuple #[.int .i32 0, .int .i64 0, .int .i64 0, .bool false] := by rw [atF, if_neg (by omega)]; rfl
    rw [e1]
    clear e1
    go_enter Try.func21, Try.ntmps21
    go_wp2_with (go_at_call 19; refine (RUnits_any s hs _).mono ?_; rintro e wl ⟨v, rfl, hv, hbl⟩; obtain ⟨A, cap, rfl⟩ := OwnsR.len hv; have Hbl := Lib.hid hbl; clear hv hbl)
    exact bodyPost_ret (v := .tuple #[.int .i32 0, .int .i64 0, .int .i64 0, .bool false]) (by simp [results, Try.results21, go_sem]) rfl ⟨rfl, Hbl.out⟩
  · obtain ⟨k, rfl⟩ : ∃ k : Nat, i = (k : Int) := ⟨i.toNat, by omega⟩
    obtain ⟨n, hn⟩ : ∃ n, n = (unitsOf s).length := ⟨_, rfl⟩
    have Hn := Lib.hid hn
    rw [← hn] at hlen
    clear hn
    by_cases hk : k < n
    · obtain ⟨u, hu⟩ : ∃ u, (unitsOf s)[k]? = some u := ⟨_, List.getElem?_eq_getElem (by have := Hn.out; omega)⟩
      have e1 : atV (atF (unitsOf s) (k : Int)) = .tuple #[.int .i32 u.1, .int .i64 u.2.1, .int .i64 u.2.2, .bool true] := by rw [atF, if_pos (by omega), Int.toNat_natCast, hu]; rfl
      rw [e1]
      clear e1
      have Hu := Lib.hid hu
      clear hu
      go_enter Try.func21, Try.ntmps21
      go_wp2_with (go_at_call 19; refine (RUnits_any s hs _).mono ?_; rintro e wl ⟨v, rfl, hv, hbl⟩; obtain ⟨A, cap, rfl⟩ := OwnsR.len hv; rw [← Hn.out] at hv ⊢; obtain ⟨g, rfl, hgb, hglt, hx0, hx1, hx2, hx3⟩ := OwnsR.unit hv Hu.out; have Hbl := Lib.hid hbl; clear hv hbl)
      go_quiet (fail)
      go_wp2
      exact bodyPost_ret (v := .tuple #[.int .i32 u.1, .int .i64 u.2.1, .int .i64 u.2.2, .bool true]) (by simp [results, Try.results21, go_sem]) rfl ⟨rfl, Hbl.out.trans (below_drewN (Below.refl _ _) nq)⟩
    · have e1 : atV (atF (unitsOf s) (k : Int)) = .tuple #[.int .i32 0, .int .i64 0, .int .i64 0, .bool false] := by
        rw [atF_none (fun j hj => by have := Hn.out; omega)]; rfl
      rw [e1]
      clear e1
      go_enter Try.func21, Try.ntmps21
      go_wp2_with (go_at_call 19; refine (RUnits_any s hs _).mono ?_; rintro e wl ⟨v, rfl, hv, hbl⟩; obtain ⟨A, cap, rfl⟩ := OwnsR.len hv; rw [← Hn.out]; have Hbl := Lib.hid hbl; clear hv hbl)
      exact bodyPost_ret (v := .tuple #[.int .i32 0, .int .i64 0, .int .i64 0, .bool false]) (by simp [results, Try.results21, go_sem]) rfl ⟨rfl, Hbl.out⟩

theorem posL_clamp (a b : Int) : ∀ (us : List U) (l c : Int), (∀ u ∈ us, (a ≤ (u.2.1 : Int) ↔ b ≤ (u.2.1 : Int))) → posL a us l c = posL b us l c := by
  intro us
  induction us with
  | nil => intro l c _; rfl
  | cons u us ih =>
    intro l c h
    have h1 := h u (List.mem_cons_self ..)
    have h2 := fun l c => ih l c (fun x hx => h x (List.mem_cons_of_mem _ hx))
    simp only [posL, h2, h1]

theorem PB.alloc {W : World} {k : Nat} {l c : Int} (h : PB W k l c) (o : Obj) : PB (W.alloc o) k l c := (Below.heap_alloc _ _ _ (Array.getElem?_eq_some_iff.1 h).1).trans h
theorem size_setCell (W : World) (a : Addr) (v : Value) : (W.setCell a v).heap.size = W.heap.size := by simp

set_option maxHeartbeats 4000000 in
theorem RPosition_any (s : ByteArray) (at0 : Int) (hs : s.size ≤ 1000000) (w : World) :
    Calls Try.prog 15 #[.string s, .int .i64 at0] w fun e w' => e = .returned (posV (posF s at0)) ∧ Below w.heap.size w w' := by
  have hlen : (unitsOf s).length ≤ 1000000 := by have := unitsFrom_len s s.size 0; unfold unitsOf; omega
  obtain ⟨n, hn⟩ : ∃ n, n = (unitsOf s).length := ⟨_, rfl⟩
  have Hn := Lib.hid hn
  rw [← hn] at hlen
  clear hn
  rcases (by omega : at0 < 0 ∨ (0 ≤ at0 ∧ at0 ≤ s.size) ∨ (s.size : Int) < at0) with h | ⟨h, h'⟩ | h
  all_goals
    go_enter Try.func15, Try.ntmps15
    go_wp2_with (go_at_call 19; refine (RUnits_any s hs _).mono ?_; rintro e wl ⟨v, rfl, hv, hbl⟩; obtain ⟨A, cap, rfl⟩ := OwnsR.len hv; have hpb : PB wl (w.heap.size + 1) 1 1 := (hbl.block _ (by simp)).trans (by have := World.alloc_heap_new (w.alloc (.cells #[.int .i64 0, .int .i64 0] 24)) (.cells #[.int .i64 1, .int .i64 1] 24); rwa [World.size_alloc] at this); have hrb : PB wl w.heap.size 0 0 := (hbl.block _ (by simp; omega)).trans ((Below.heap_alloc _ _ _ (by simp)).trans (World.alloc_heap_new w _)); have hbl' : Below w.heap.size w wl := (((Below.refl _ w).alloc (Nat.le_refl _) _).alloc (by simp) _).trans (hbl.mono (by simp; omega)); simp only [World.size_alloc] at hv; rw [← Hn.out] at hv ⊢; have Hv := Lib.hid hv; have Hbl := Lib.hid hbl'; have Hpb := Lib.hid hpb; have Hrb := Lib.hid hrb; clear hv hbl hpb hrb hbl')
    go_loopw [17] (fun i wr => ∃ (k : Nat) (l c : Int), k ≤ n ∧ i = .int .i64 k ∧ OwnsR wr (w.heap.size + 1 + 1) (.slice A n cap) (unitsR s) ∧ PB wr (w.heap.size + 1) l c ∧ PB wr w.heap.size 0 0 ∧ Below w.heap.size w wr ∧ 1 ≤ l ∧ l ≤ k + 1 ∧ 1 ≤ c ∧ c ≤ k + 1 ∧ posL at0 ((unitsOf s).drop k) l c = posF s at0) (fun i _ => n - (intOf i).toNat)
    case atStart => exact ⟨0, 1, 1, by omega, rfl, Hv.out, Hpb.out, Hrb.out, Hbl.out, by omega, by omega, by omega, by omega, rfl⟩
    case round =>
      obtain ⟨k, l, c, hk, rfl, how, hpb, hrb, hbe, hl0, hl1, hc0, hc1, hpos⟩ := hrel
      have hc0' := hpb.c0
      have hc1' := hpb.c1
      have hf0' := hpb.fz 0
      have hf1' := hpb.fz 1
      have hd0 := hrb.c0
      have hd1 := hrb.c1
      have hg0 := hrb.fz 0
      have hg1 := hrb.fz 1
      have hplt : w.heap.size + 1 < wr.heap.size := (Array.getElem?_eq_some_iff.1 hpb).1
      have hplt0 : w.heap.size < wr.heap.size := by omega
      by_cases hkn : k < n
      · obtain ⟨u, hu⟩ : ∃ u, (unitsOf s)[k]? = some u := ⟨_, List.getElem?_eq_getElem (by have := Hn.out; omega)⟩
        obtain ⟨g, rfl, hgb, hglt, hx0, hx1, hx2, hx3⟩ := how.unit hu
        have hgu := goodU (List.mem_of_getElem? hu)
        have hfit := hgu.fit
        have hw1 := hgu.w1
        rw [drop_cons hu, posL] at hpos
        have How := Lib.hid how
        have Hpb := Lib.hid hpb
        have Hrb := Lib.hid hrb
        have Hbe := Lib.hid hbe
        have Hpos := Lib.hid hpos
        clear how hu hgu hpos hpb hrb hbe
        by_cases hat : at0 ≤ (u.2.1 : Int)
        · first
            | (exfalso; omega)
            | go_wp2
              have hr := (((Hrb.out.s0 l).s1 c).alloc (.cells #[.int .i32 u.1, .int .i64 u.2.1, .int .i64 u.2.2, .bool (okU u)] 41))
              have hr0 := hr.c0
              have hr1 := hr.c1
              refine bodyPost_ret (v := .agg #[.int .i64 l, .int .i64 c]) (by simp [results, Try.results15, go_sem, hr0, hr1]) rfl ⟨?_, ?_⟩
              · have h := Hpos.out
                rw [if_pos hat] at h
                rw [← h]; rfl
              · exact ((Hbe.out.setCell (p := ⟨w.heap.size, 0, none⟩) (Nat.le_refl _) _).setCell (p := ⟨w.heap.size, 1, none⟩) (Nat.le_refl _) _).alloc (by rw [size_setCell, size_setCell]; omega) _
        · first
            | (exfalso; omega)
            | (by_cases h10 : u.1 = 10
               · have e1 : ((u.1 : Int) == 10) = true := by simp; omega
                 have H10 := Lib.hid h10
                 clear h10
                 go_wp2
                 go_roundw
                 case rel =>
                   refine ⟨k + 1, l + 1, 1, by omega, by go_num, ?_, (((Hpb.out.s1 _).s0 _).s1 _).alloc _, (((Hrb.out.other (by simp) _).other (by simp) _).other (by simp) _).alloc _, ?_, by omega, by omega, by omega, by omega, ?_⟩
                   · exact World.ownsRow.alloc (ownsRow_stab (ownsRow_stab (ownsRow_stab How.out (grown_setCell _ _ _) (fun k e => by have := Option.some.inj e; simp at this; omega)) (grown_setCell _ _ _) (fun k e => by have := Option.some.inj e; simp at this; omega)) (grown_setCell _ _ _) (fun k e => by have := Option.some.inj e; simp at this; omega)) _
                   · exact (((Hbe.out.setCell (p := ⟨w.heap.size + 1, 1, none⟩) (by simp) _).setCell (p := ⟨w.heap.size + 1, 0, none⟩) (by simp) _).setCell (p := ⟨w.heap.size + 1, 1, none⟩) (by simp) _).alloc (by rw [size_setCell, size_setCell, size_setCell]; omega) _
                   · have h := Hpos.out
                     rwa [if_neg hat, if_pos H10.out] at h
                 case measure => simp [intOf]; omega
               · have e1 : ((u.1 : Int) == 10) = false := by simp; omega
                 have H10 := Lib.hid h10
                 clear h10
                 go_wp2
                 go_roundw
                 case rel =>
                   refine ⟨k + 1, l, c + 1, by omega, by go_num, ?_, (Hpb.out.s1 _).alloc _, (Hrb.out.other (by simp) _).alloc _, ?_, by omega, by omega, by omega, by omega, ?_⟩
                   · exact World.ownsRow.alloc (ownsRow_stab How.out (grown_setCell _ _ _) (fun k e => by have := Option.some.inj e; simp at this; omega)) _
                   · exact (Hbe.out.setCell (p := ⟨w.heap.size + 1, 1, none⟩) (by simp) _).alloc (by rw [size_setCell]; omega) _
                   · have h := Hpos.out
                     rwa [if_neg hat, if_neg H10.out] at h
                 case measure => simp [intOf]; omega)
      · obtain rfl : k = n := by omega
        have Hpb := Lib.hid hpb
        have Hrb := Lib.hid hrb
        have Hbe := Lib.hid hbe
        have Hpos := Lib.hid hpos
        clear how hpos hpb hrb hbe
        go_wp2
        have hr := ((Hrb.out.s0 l).s1 c)
        have hr0 := hr.c0
        have hr1 := hr.c1
        refine bodyPost_ret (v := .agg #[.int .i64 l, .int .i64 c]) (by simp [results, Try.results15, go_sem, hr0, hr1]) rfl ⟨?_, ?_⟩
        · have h := Hpos.out
          rw [List.drop_eq_nil_of_le (by have := Hn.out; omega)] at h
          rw [← h]; rfl
        · exact (Hbe.out.setCell (p := ⟨w.heap.size, 0, none⟩) (Nat.le_refl _) _).setCell (p := ⟨w.heap.size, 1, none⟩) (Nat.le_refl _) _
end Go.Proofs.Ytaaegelefknkeaa
