/- The walk of the reference's Units. -/
import Derived.Test.YtaaegelefknkeabMkL
namespace Go.Proofs.Ytaaegelefknkeab

open Go.RowKit Go.Shelf
set_option linter.unusedSimpArgs false

structure RL (w : World) (s : ByteArray) (pos fuel : Nat) (v : Value) (us : List (U × Bool)) (W : World) : Prop where
  it : W.heap[w.heap.size]? = some (.stringIter s pos)
  ow : OwnsR W (w.heap.size + 1) v us
  be : Below w.heap.size w W
  fu : s.size ≤ pos + fuel
  st : (us = [] ∧ pos = 0 ∧ fuel = s.size) ∨ (∃ (pre : List U) (rn an : Nat), us = pre.map (fun u => (u, false)) ++ [((rn, an, 0), false)] ∧ an < pos ∧ pos ≤ s.size ∧ unitsOf s = pre ++ (rn, an, pos - an) :: unitsFrom s fuel pos)

set_option maxHeartbeats 4000000 in
theorem RUnits_any (s : ByteArray) (hs : s.size ≤ 1000000) (w : World) :
    Calls Try.prog 50 #[.string s] w fun e w' => ∃ v, e = .returned v ∧ OwnsR w' w.heap.size v ((unitsOf s).map fun u => (u, okU u)) ∧ Below w.heap.size w w' := by
  obtain ⟨i0, hi, hz0, hz1, hz2⟩ := info_parts Try.info79
  have hlen : (unitsOf s).length ≤ 1000000 := by have := unitsFrom_len s s.size 0; unfold unitsOf; omega
  have Hhi := Lib.hid hi
  clear hi
  go_enter Try.func50, Try.ntmps50
  go_wp2
  go_loopw [3] (fun v wr => ∃ (pos fuel : Nat) (us : List (U × Bool)), RL w s pos fuel v us wr) (fun _ wr => s.size - wr.iterPos w.heap.size)
  case atStart => exact ⟨0, s.size, [], World.iter_heap w s 0, World.ownsRow_nil _ _ _ _, (Below.refl _ w).alloc (Nat.le_refl _) _, by omega, .inl ⟨rfl, rfl, rfl⟩⟩
  case round =>
    obtain ⟨pos, fuel, us, hU⟩ := hrel
    have hsz : w.heap.size < wr.heap.size := (Array.getElem?_eq_some_iff.1 hU.it).1
    obtain ⟨A, cap, rfl, hcap, hcells⟩ := hU.ow.cells
    by_cases hp : pos < s.size
    · obtain ⟨W1, hW1⟩ : ∃ W1, W1 = wr.iterAt w.heap.size s (pos + (Utf8.decode s pos).2) := ⟨_, rfl⟩
      have hnx : ∀ ty, (Instr.next (.pointer (some ⟨w.heap.size, 0, none⟩)) true ty).run Try.prog wr = .ok (.tuple #[.bool true, .int .i64 pos, .int .i32 (Utf8.decode s pos).1]) W1 := fun ty => by
        rw [hW1]; exact Lib.run_next_any_at wr w.heap.size s pos ty hU.it hp
      have hwd := width_pos s pos hp
      have hit1 : W1.heap[w.heap.size]? = some (.stringIter s (pos + (Utf8.decode s pos).2)) := by rw [hW1]; exact Lib.iterAt_heap wr _ s pos _ hU.it
      have hg1 : wr.grownBy W1 (some w.heap.size) := by rw [hW1]; exact grown_iterAt s _
      have how1 : OwnsR W1 (w.heap.size + 1) (.slice A us.length cap) us := ownsRow_stab hU.ow hg1 (fun k e => by have := Option.some.inj e; omega)
      have hbe1 : Below w.heap.size w W1 := hU.be.grown hg1 hU.be.size (fun k e => by have := Option.some.inj e; omega)
      have hsz1 : W1.heap.size = wr.heap.size := by rw [hW1]; exact Lib.iterAt_size _ _ _ _
      have HU := Lib.hid hU
      have Hit1 := Lib.hid hit1
      have Hg1 := Lib.hid hg1
      have How1 := Lib.hid how1
      have Hbe1 := Lib.hid hbe1
      have Hsz1 := Lib.hid hsz1
      obtain ⟨f, hf⟩ : ∃ f, fuel = f + 1 := ⟨fuel - 1, by have := hU.fu; omega⟩
      have Hf := Lib.hid hf
      have hdf := decode_fits s pos hp
      rcases hU.st with ⟨rfl, rfl, hfl⟩ | ⟨pre, rn, an, hus, han, hps, hun⟩
      · clear hU hW1 hit1 hg1 how1 hbe1 hcells hf hfl hsz1
        go_wp2_with ((at_builtin; refine wpList_append_own _ rfl _ _ 76 rfl (w.heap.size + 1) 79 i0 _ 4 32 Try.underlying76 Hhi.out hz0 hz1 hz2 rfl (by decide) _ 0 [] rfl (World.ownsRow.alloc How1.out _) ⟨W1.heap.size, 0, none⟩ 1 1 [.int .i32 (Utf8.decode s 0).1, .int .i64 0, .int .i64 0, .bool false] rfl rfl (cell_four_new _ _ _ _ _ _) (by simp [Value.oneCell']) (by unfold maxLen; omega) (by omega) (by have := Hsz1.out; simp; omega) ?_; intro v' w1 hown' hgrow _; have HX := Lib.hid hown'; have HG := Lib.hid hgrow; clear hown' hgrow))
        have Hit2 : w1.heap[w.heap.size]? = some (.stringIter s (0 + (Utf8.decode s 0).2)) := (HG.out.block _ (by have := Hsz1.out; simp; omega) (fun e => by have := (World.ownsRow.lt How1.out _ e.symm).1; omega)).trans ((Below.heap_alloc _ _ _ (by have := Hsz1.out; omega)).trans Hit1.out)
        go_roundw
        case rel =>
          refine ⟨0 + (Utf8.decode s 0).2, f, [(((Utf8.decode s 0).1, 0, 0), false)], Hit2, ?_, ?_, by have := Hf.out; have := HU.out.fu; omega, .inr ⟨[], (Utf8.decode s 0).1, 0, rfl, by omega, by omega, ?_⟩⟩
          · exact HX.out
          · exact (Hbe1.out.alloc (by have := Hsz1.out; omega) _).grown HG.out (by have := Hsz1.out; simp; omega) (fun k e => by have := (World.ownsRow.lt How1.out k e).1; omega)
          · have := HU.out.st
            simp only [unitsOf]
            obtain ⟨f', hf'⟩ : ∃ f', s.size = f' + 1 := ⟨s.size - 1, by omega⟩
            have hff : f' = f := by
              rcases HU.out.st with ⟨_, _, h⟩ | ⟨pre, _, _, h, _⟩
              · have := Hf.out; omega
              · simp at h
            rw [hf', unitsFrom, if_pos (by omega), hff]
            simp
        case measure =>
          rw [iterPos_of HU.out.it, iterPos_of Hit2]
          omega
      · have hul : us.length = pre.length + 1 := by rw [hus]; simp
        obtain ⟨n, hn⟩ : ∃ n, n = us.length := ⟨_, rfl⟩
        have hlast : us[n - 1]? = some ((rn, an, 0), false) := by rw [hn, hul, hus]; simp
        obtain ⟨A', cap', hAe, _, hc1⟩ := how1.cells
        cases hAe
        obtain ⟨g, rfl, hgb, hglt, hx0, hx1, hx2, hx3, hfz⟩ := hc1 _ _ hlast
        have hfz2 := hfz ((n - 1) * 4 + 2)
        have hnl : n ≤ 1000000 := by rw [hun] at hlen; simp at hlen; omega
        have hn1 : 1 ≤ n := by omega
        have how2 := how1.store (v := .int .i64 ((pos : Int) - an)) (y := ((rn, an, pos - an), false)) hlast (show 2 < 4 by omega) (by simp [cellR]; omega)
        have How2 := Lib.hid how2
        have Hus := Lib.hid hus
        have Hun := Lib.hid hun
        have Hn := Lib.hid hn
        have Hul := Lib.hid hul
        have hlen2 : (us.set (n - 1) ((rn, an, pos - an), false)).length = n := by simp [← hn]
        have Hlen2 := Lib.hid hlen2
        rw [← hn] at How2 ⊢
        clear hU hW1 hit1 hg1 how1 hbe1 hcells hf hsz1 hus hun hlast hc1 hx0 hx3 hfz how2 hul hlen2 hn
        go_wp2_with ((at_builtin; refine wpList_append_own _ rfl _ _ 76 rfl (w.heap.size + 1) 79 i0 _ 4 32 Try.underlying76 Hhi.out hz0 hz1 hz2 rfl (by decide) _ _ _ rfl (World.ownsRow.alloc How2.out _) ⟨W1.heap.size, 0, none⟩ 1 1 [.int .i32 (Utf8.decode s pos).1, .int .i64 pos, .int .i64 0, .bool false] rfl rfl (cell_four_at _ _ (by simp) _ _ _ _ _) (by simp [Value.oneCell']) (by rw [Hlen2.out]; unfold maxLen; omega) (by rw [Hlen2.out]; omega) (by have := Hsz1.out; simp; omega) ?_; intro v' w1 hown' hgrow _; have HX := Lib.hid hown'; have HG := Lib.hid hgrow; clear hown' hgrow))
        have Hsc : (W1.setCell ⟨g, (n - 1) * 4 + 2, none⟩ (.int .i64 ((pos : Int) - an))).heap.size = W1.heap.size := by simp
        have h1 : w.heap.size < ((W1.setCell ⟨g, (n - 1) * 4 + 2, none⟩ (.int .i64 ((pos : Int) - an))).alloc (.cells #[.int .i32 (Utf8.decode s pos).1, .int .i64 pos, .int .i64 0, .bool false] 79)).heap.size := by
          have := Hsz1.out
          rw [World.size_alloc, Hsc]
          omega
        have h2 : some w.heap.size ≠ (Value.slice (some ⟨g, 0, none⟩) n cap).ownBlock := by
          intro e
          have e' : w.heap.size = g := Option.some.inj e
          omega
        have Hit2 : w1.heap[w.heap.size]? = some (.stringIter s (pos + (Utf8.decode s pos).2)) := (HG.out.block _ h1 h2).trans ((Below.heap_alloc _ _ _ (by have := Hsz1.out; rw [Hsc]; omega)).trans ((Below.heap_setCell _ _ _ _ (by show _ ≠ g; omega)).trans Hit1.out))
        go_roundw
        case rel =>
          refine ⟨pos + (Utf8.decode s pos).2, f, us.set (n - 1) ((rn, an, pos - an), false) ++ [(((Utf8.decode s pos).1, pos, 0), false)], Hit2, ?_, ?_, by have := Hf.out; have := HU.out.fu; omega, .inr ⟨pre ++ [(rn, an, pos - an)], (Utf8.decode s pos).1, pos, ?_, by omega, by omega, ?_⟩⟩
          · have h := HX.out
            unfold OwnsR
            rw [cellsR_append, cellsR_one, List.length_append]
            exact h
          · refine (((Hbe1.out.setCell (p := ⟨g, (n - 1) * 4 + 2, none⟩) (by show _ ≤ g; omega) _).alloc (by have := Hsz1.out; rw [Hsc]; omega) _).grown HG.out (by have := Hsz1.out; rw [World.size_alloc, Hsc]; omega) (fun k e => ?_))
            have e' : g = k := Option.some.inj e
            omega
          · have h1 : n - 1 = (pre.map fun u => (u, false)).length := by have := Hn.out; have := Hul.out; simp; omega
            rw [Hus.out, h1, List.set_append_right _ _ (Nat.le_refl _)]
            simp
          · rw [Hun.out, Hf.out]
            simp [unitsFrom, hp]
        case measure =>
          rw [iterPos_of HU.out.it, iterPos_of Hit2]
          omega
    · have hnx : ∀ ty, (Instr.next (.pointer (some ⟨w.heap.size, 0, none⟩)) true ty).run Try.prog wr = _ := fun ty => Lib.run_next_end_at wr w.heap.size s pos ty hU.it hp
      rcases hU.st with ⟨rfl, rfl, hfl⟩ | ⟨pre, rn, an, hus, han, hps, hun⟩
      · have he : unitsOf s = [] := by simp [unitsOf, unitsFrom_end _ _ _ hp]
        have HU := Lib.hid hU
        have He := Lib.hid he
        clear hU hcells he
        go_wp2
        go_loopw [58] (fun i wr' => i = .int .i64 0 ∧ wr' = wr) (fun _ _ => 0)
        case atStart => exact ⟨rfl, rfl⟩
        case round =>
          obtain ⟨rfl, rfl⟩ := hrel
          go_wp2
          go_ret
          refine ⟨_, rfl, ?_, HU.out.be⟩
          rw [He.out]
          exact ownsRow_base HU.out.ow (by omega)
      · rw [unitsFrom_end s fuel pos hp] at hun
        obtain rfl : pos = s.size := by omega
        have hul : us.length = pre.length + 1 := by rw [hus]; simp
        obtain ⟨n, hn⟩ : ∃ n, n = us.length := ⟨_, rfl⟩
        have hlast : us[n - 1]? = some ((rn, an, 0), false) := by rw [hn, hul, hus]; simp
        obtain ⟨g, rfl, hgb, hglt, hx0, hx1, hx2, hx3, hfz⟩ := hcells _ _ hlast
        have hfz2 := hfz ((n - 1) * 4 + 2)
        have hul2 : (unitsOf s).length = n := by rw [hun]; simp; omega
        have hnl : n ≤ 1000000 := by omega
        have hn1 : 1 ≤ n := by omega
        have how2 := hU.ow.store (v := .int .i64 ((s.size : Int) - an)) (y := ((rn, an, s.size - an), false)) hlast (show 2 < 4 by omega) (by simp [cellR]; omega)
        have hset : us.set (n - 1) ((rn, an, s.size - an), false) = flagged (unitsOf s) 0 := by
          have h1 : n - 1 = (pre.map fun u => (u, false)).length := by simp; omega
          rw [flagged_zero, hun, hus, h1, List.set_append_right _ _ (Nat.le_refl _)]
          simp
        rw [hset] at how2
        have hbe2 := hU.be.setCell (p := ⟨g, (n - 1) * 4 + 2, none⟩) (by show _ ≤ g; omega) (.int .i64 ((s.size : Int) - an))
        have How2 := Lib.hid how2
        have Hbe2 := Lib.hid hbe2
        have Hul2 := Lib.hid hul2
        rw [← hn] at How2 ⊢
        clear hU hcells hus hun hlast hx0 hx3 hfz how2 hul hn hset hbe2 hul2 hlen
        go_wp2
        obtain ⟨W3, hW3⟩ : ∃ W3, wr.setCell ⟨g, (n - 1) * 4 + 2, none⟩ (.int .i64 ((s.size : Int) - an)) = W3 := ⟨_, rfl⟩
        rw [hW3] at How2 Hbe2 ⊢
        have hf2n : (flagged (unitsOf s) 0).length = n := by rw [flagged_length]; exact Hul2.out
        clear hnx hx1 hx2 hfz2 hW3
        go_loopw [58] (fun i wr' => ∃ k : Nat, k ≤ n ∧ i = .int .i64 k ∧ OwnsR wr' (w.heap.size + 1) (.slice (some ⟨g, 0, none⟩) n cap) (flagged (unitsOf s) k) ∧ Below w.heap.size w wr') (fun i _ => n - (intOf i).toNat)
        case atStart => exact ⟨0, by omega, rfl, How2.out, Hbe2.out⟩
        case round =>
          obtain ⟨k, hk, rfl, how, hbe⟩ := hrel
          by_cases hkn : k < n
          · obtain ⟨u, hu⟩ : ∃ u, (unitsOf s)[k]? = some u := ⟨_, List.getElem?_eq_getElem (by rw [Hul2.out]; exact hkn)⟩
            obtain ⟨A', cap', hAe, _, hc1⟩ := how.cells
            cases hAe
            obtain ⟨g', hge, hgb', hglt', hx0, hx1, hx2, hx3, hfz⟩ := hc1 _ _ (flagged_get hu)
            cases hge
            have hfz3 := hfz (k * 4 + 3)
            have how2 := how.store (v := .bool (okU u)) (y := (u, okU u)) (flagged_get hu) (show 3 < 4 by omega) (by simp [cellR])
            rw [flagged_set hu] at how2
            have hbe2 := hbe.setCell (p := ⟨g, k * 4 + 3, none⟩) (by show _ ≤ g; omega) (.bool (okU u))
            have H2 := Lib.hid how2
            have Hb2 := Lib.hid hbe2
            have Hu := Lib.hid hu
            clear how hbe hc1 hfz how2 hbe2 hu hf2n
            by_cases hr : u.1 = 65533
            · have e1 : ((u.1 : Int) != 65533) = false := by simp [hr]
              have hok : okU u = ((u.2.2 : Int) == 3) := by rw [Bool.eq_iff_iff]; simp [okU, hr]; omega
              have Hr := Lib.hid hr
              have Hok := Lib.hid hok
              clear hr hok
              rw [Hok.out] at H2 Hb2
              go_wp2
              go_roundw
              case rel => exact ⟨k + 1, by omega, by go_num, H2.out, Hb2.out⟩
              case measure => simp [intOf]; omega
            · have e1 : ((u.1 : Int) != 65533) = true := by simp; omega
              have hok : okU u = true := by simp [okU, hr]
              rw [hok] at H2 Hb2
              clear hok hr
              go_wp2
              go_roundw
              case rel => exact ⟨k + 1, by omega, by go_num, H2.out, Hb2.out⟩
              case measure => simp [intOf]; omega
          · obtain rfl : k = n := by omega
            rw [show flagged (unitsOf s) k = flagged (unitsOf s) (unitsOf s).length by rw [Hul2.out], flagged_all] at how
            have How := Lib.hid how
            have Hbe := Lib.hid hbe
            clear how hbe
            go_wp2
            go_ret
            exact ⟨_, rfl, ownsRow_base How.out (by omega), Hbe.out⟩

end Go.Proofs.Ytaaegelefknkeab
