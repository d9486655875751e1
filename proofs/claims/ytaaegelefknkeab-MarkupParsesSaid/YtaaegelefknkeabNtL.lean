/- The reference's SortPairs. -/
import Derived.Test.YtaaegelefknkeabNtK
import Derived.Test.YtaaegelefknkeabMtK
import Derived.Deep.RegionLawGrows
namespace Go.Proofs.Ytaaegelefknkeab
open Go.RowKit Go.Shelf
set_option linter.unusedSimpArgs false
set_option linter.unusedVariables false

theorem run_append_zero {P : Program} {w : World} (base : Nat) (t ty e : TypeId) (i : TypeInfo) (size : Nat) (ht : P.underlying t = some (.slice e)) (hi : P.info? e = some i)
    (v : Value) (n : Nat) (xs : List Value) (hown : w.ownsRow base e size v n xs) (xp : Option Addr) (xc : Nat) :
    (Builtin.append_ #[t, t] ty #[v, .slice xp 0 xc]).run P w = .ok v w := by
  have hl : ∀ (x : Addr), (loadCells x 0).run P w = .ok #[] w := fun x => by simpa using run_loadCells_list (P := P) w x [] (by simp)
  rcases hown.2 with ⟨rfl, rfl⟩ | ⟨g, cap, cur, rfl, _, _, hnc, _⟩
  · cases xp <;> simp [Builtin.append_, run_underlying ht, sizeOf, typeInfo, hi, Builtin.lenOf, Builtin.firstCells, hl, storeCells]
  · cases xp <;> simp [Builtin.append_, run_underlying ht, sizeOf, typeInfo, hi, Builtin.lenOf, Builtin.firstCells, hnc, storeCells, hl]

theorem step_append_zero {P : Program} {ops : Array Oper} {o : Oper} {a : Act} {w : World} {K : Act → World → Prop} {Q : Exit → Act → World → Prop} {E : Prop}
    (hg : o.guard = none) (s x : Operand) (t : TypeId) (hop : o.op = Op.call { callee := Callee.builtin Builtin.append, args := #[s, x], argTypes := #[t, t] })
    (base : Nat) (e : TypeId) (i : TypeInfo) (size : Nat) (h1 : P.underlying t = some (.slice e)) (h2 : P.info? e = some i)
    (v : Value) (n : Nat) (xs : List Value) (hs : a.eval s = v) (hown : w.ownsRow base e size v n xs) (xp : Option Addr) (xc : Nat) (hx : a.eval x = .slice xp 0 xc)
    (hK : K (a.put o.dst v) w) :
    if Region.wanted o (yielded ops a.tmps) = true then Oper.wp P o a w K Q else E := by
  have hw : Region.wanted o (yielded ops a.tmps) = true := by simp [Region.wanted, hg]
  rw [if_pos hw]
  have hrun := run_append_zero (P := P) (w := w) base t o.type e i size h1 h2 v n xs hown xp xc
  unfold Oper.wp execOp
  simp only [hop, resolve, invoke, builtin, Sem.run_bind, Sem.run_pure, Result.andThen_ok, List.map_toArray, List.map_cons, List.map_nil, hs, hx, hrun]
  exact hK

/-- m[:k:k] -/
theorem slice31m (a : Option Addr) (N cap k : Nat) (hk : k ≤ cap) (ha : ∀ b, a = some b → ∃ g, b = ⟨g, 0, none⟩) : ∀ W, (Instr.slice 31 (.slice a N cap) none (some (.int .i64 (k : Int))) (some (.int .i64 (k : Int)))).run Try.prog W = .ok (.slice a k k) W := by
  intro W
  rw [run_slice_hm W 31 a N cap (by kernel_rfl) .i64 .i64 k k (by omega) (by omega) (by omega)]
  have hsz : (sizeOf (Try.prog.elem 31)).run Try.prog W = .ok 2 W := by kernel_rfl
  rw [hsz]
  cases a with
  | none => simp [Result.andThen, sliced]
  | some b => simp [Result.andThen, sliced, Addr.add]
/-- m[k:] -/
theorem slice31l (a : Option Addr) (N cap k : Nat) (hk : k ≤ N) (ha : ∀ b, a = some b → ∃ g, b = ⟨g, 0, none⟩) (hn : a = none → N = 0 ∧ cap = 0) :
    ∃ dp, (∀ W, (Instr.slice 31 (.slice a N cap) (some (.int .i64 (k : Int))) none none).run Try.prog W = .ok (.slice dp (N - k) (cap - k)) W) ∧ (k < cap → ∃ g, a = some ⟨g, 0, none⟩ ∧ dp = some ⟨g, k * 2, none⟩) := by
  cases a with
  | none =>
    obtain ⟨rfl, rfl⟩ := hn rfl
    obtain rfl : k = 0 := by omega
    refine ⟨none, fun W => ?_, fun h => by omega⟩
    rw [run_slice_l W 31 none 0 0 (by kernel_rfl) .i64 ((0 : Nat) : Int) (by omega) (by omega)]
    have hsz : (sizeOf (Try.prog.elem 31)).run Try.prog W = .ok 2 W := by kernel_rfl
    rw [hsz]
    simp [Result.andThen, sliced]
  | some b =>
    obtain ⟨g, rfl⟩ := ha b rfl
    obtain ⟨dp, h1, h2⟩ := slice31 g N cap k hk
    exact ⟨dp, h1, fun h => ⟨g, rfl, h2 h⟩⟩
theorem OwnsP.shape {w : World} {base : Nat} {a : Option Addr} {n cap : Nat} {l : List Pr} (h : OwnsP w base (.slice a n cap) l) : n = l.length ∧ n ≤ cap ∧ (∀ b, a = some b → ∃ g, b = ⟨g, 0, none⟩) ∧ (a = none → n = 0 ∧ cap = 0) := by
  unfold OwnsP at h
  rcases h.2 with ⟨h1, h2⟩ | ⟨g, cap', cur, h1, hb, hg, hn, hm, _⟩
  · simp only [Value.slice.injEq] at h1
    obtain ⟨rfl, rfl, rfl⟩ := h1
    exact ⟨h2.symm, Nat.le_refl _, (fun b hb => by cases hb), fun _ => ⟨rfl, rfl⟩⟩
  · simp only [Value.slice.injEq] at h1
    obtain ⟨rfl, rfl, rfl⟩ := h1
    exact ⟨rfl, hn, (fun b hb => by cases hb; exact ⟨g, rfl⟩), (fun hb => by cases hb)⟩
theorem sortR_snoc (l : List Pr) (k : Nat) (p : Pr) (h : l[k]? = some p) : sortR (l.take (k + 1)) = insR (sortR (l.take k)) p := by
  unfold sortR
  rw [List.take_add_one, h, List.foldl_append]
  rfl
theorem sortR_len (l : List Pr) : (sortR l).length = l.length := by rw [← sort_same, sortF_len]

set_option maxHeartbeats 1000000 in
theorem SortPairs_any (l : List Pr) (v : Value) (a : Option Addr) (cap : Nat) (w : World) (h : RdP w v l a cap) (hsz : l.length ≤ 1000000) :
    Calls Try.prog 30 #[v] w fun e w' => ∃ v', e = .returned v' ∧ OwnsP w' w.heap.size v' (sortR l) ∧ Below w.heap.size w w' := by
  obtain ⟨i0, hi, hz0, hz1, hz2⟩ := info_parts Try.info52
  have Hhi := Lib.hid hi
  clear hi
  obtain rfl := h.eq
  have HR := Lib.hid h
  clear h
  go_enter Try.func30, Try.ntmps30
  go_wp2_with fail
  go_loopw [3, 9] (fun o i wr => ∃ (k : Nat) (v : Value), i = .int .i64 k ∧ v = o ∧ k ≤ l.length ∧ OwnsP wr w.heap.size v (sortR (l.take k)) ∧ Below w.heap.size w wr) (fun _ i _ => l.length - (intOf i).toNat)
  case atStart => exact ⟨0, _, rfl, rfl, by omega, World.ownsRow_nil _ _ _ _, Below.refl _ _⟩
  case round =>
    obtain ⟨k, v, rfl, rfl, hk, hown, hb⟩ := hrel
    obtain ⟨wo, rfl⟩ : ∃ x, x = wr := ⟨_, rfl⟩
    obtain ⟨out, hout⟩ : ∃ out, out = sortR (l.take k) := ⟨_, rfl⟩
    rw [← hout] at hown
    have hon : out.length = k := by rw [hout, sortR_len, List.length_take]; omega
    have HOUT := Lib.hid hout
    clear hout
    obtain ⟨ov, ocap, rfl⟩ := hown.lenv
    by_cases hk1 : k < l.length
    · have hk1' : (k : Int) < l.length := by omega
      obtain ⟨p, hp⟩ : ∃ p, l[k]? = some p := ⟨l[k], List.getElem?_eq_getElem hk1⟩
      obtain ⟨b, o, rfl, hc0, hc1⟩ := (HR.out.below hb).cells k p hp
      obtain ⟨m, hm⟩ : ∃ m, m = idxR p.1 out := ⟨_, rfl⟩
      have hfin : sortR (l.take (k + 1)) = out.take m ++ p :: out.drop m := by
        rw [sortR_snoc l k p hp, ← HOUT.out, hm]
        rfl
      have hml : m ≤ out.length := by rw [hm]; exact idxR_le _ _
      obtain ⟨_, hoc, hoa, hon0⟩ := hown.shape
      obtain ⟨dp, hs2, hdp⟩ := slice31l ov out.length ocap m hml hoa hon0
      have hs1 := slice31m ov out.length ocap m (by omega) hoa
      obtain ⟨dL, hdL⟩ : ∃ x, x = out.length - m := ⟨_, rfl⟩
      obtain ⟨dC, hdC⟩ : ∃ x, x = ocap - m := ⟨_, rfl⟩
      rw [← hdL, ← hdC] at hs2
      have HS1 := Lib.hid hs1
      have HS2 := Lib.hid hs2
      have HDP := Lib.hid hdp
      have HDL := Lib.hid hdL
      have HOA := Lib.hid hoa
      have HON0 := Lib.hid hon0
      have HFIN := Lib.hid hfin
      have HOWN := Lib.hid hown
      have HB := Lib.hid hb
      have HM := Lib.hid hm
      have hol : out.length ≤ 1000000 := by omega
      have HON := Lib.hid hon
      clear hfin hown hb hm hp hon hs1 hs2 hdp hdL hdC hoa hon0
      go_wp2_with fail
      obtain ⟨W4, hW4⟩ : ∃ W4, wo.alloc (.cells #[.string p.1, .string p.2] 52) = W4 := ⟨_, rfl⟩
      have hr4 : W4.heap[wo.heap.size]? = some (.cells #[.string p.1, .string p.2] 52 (0, 0)) := by rw [← hW4]; exact heap_alloc_new wo _
      have ho4 : OwnsP W4 w.heap.size (.slice ov out.length ocap) out := by rw [← hW4]; exact HOWN.out.below (b0 wo _)
      have hb4 : Below w.heap.size w W4 := by rw [← hW4]; exact HB.out.alloc HB.out.size _
      rw [hW4]
      have HR4 := Lib.hid hr4
      have HO4 := Lib.hid ho4
      have HB4 := Lib.hid hb4
      clear hr4 ho4 hb4 hW4 HOWN HB
      go_loopw [6] (fun i wi => ∃ j : Nat, i = .int .i64 j ∧ j ≤ out.length ∧ idxR p.1 (out.drop j) + j = m ∧ Below W4.heap.size W4 wi) (fun i _ => out.length - (intOf i).toNat)
      case atStart => exact ⟨0, rfl, Nat.zero_le _, by rw [List.drop_zero]; exact HM.out.symm, Below.refl _ _⟩
      case round =>
        obtain ⟨j, rfl, hj, hji, hb5⟩ := hrel
        have hr5 : wr.heap[wo.heap.size]? = some (.cells #[.string p.1, .string p.2] 52 (0, 0)) := (hb5.block _ (Array.getElem?_eq_some_iff.1 HR4.out).1).trans HR4.out
        have ho5 : OwnsP wr w.heap.size (.slice ov out.length ocap) out := HO4.out.below hb5
        obtain ⟨p0, p1, pf0, pf1⟩ := pair_of_row hr5
        have HR5 := Lib.hid hr5
        have HO5 := Lib.hid ho5
        have HB5 := Lib.hid hb5
        clear hr5 ho5 hb5
        by_cases hjl : j < out.length
        · have hjl' : (j : Int) < out.length := by omega
          obtain ⟨q, hq⟩ : ∃ q, out[j]? = some q := ⟨out[j], List.getElem?_eq_getElem hjl⟩
          obtain ⟨g0, cap0, hv, hgb0, hle0, hmx0, q0, q1⟩ := HO5.out.at hq
          simp only [Value.slice.injEq, true_and] at hv
          obtain ⟨rfl, rfl⟩ := hv
          have hmx1 : ocap ≤ 9223372036854775807 := hmx0
          have hd : out.drop j = q :: out.drop (j + 1) := by
            rw [List.drop_eq_getElem_cons hjl]
            rw [List.getElem?_eq_getElem hjl] at hq
            cases hq
            rfl
          rw [hd, idxR] at hji
          have hll := less_le q.1.toList p.1.toList
          cases hless : Op.bytesLess p.1.toList q.1.toList with
          | false =>
            rw [hless, if_neg (by simp)] at hji
            rw [hless, Bool.not_false] at hll
            have HJI := Lib.hid hji
            clear hji hless hd hq q1
            go_wp2_with fail
            go_quiet (fail)
            go_wp2
            go_roundw
            case rel => exact ⟨j + 1, by go_num, by omega, by have := HJI.out; omega, HB5.out.trans (below_drewN (Below.refl _ _) nq)⟩
            case measure => simp [intOf]; omega
          | true =>
            rw [hless, if_pos rfl] at hji
            rw [hless, Bool.not_true] at hll
            obtain rfl : m = j := by omega
            clear hji hless hd hq
            go_wp2_with fail
            go_quiet (fail)
            obtain ⟨W5, hW5⟩ : ∃ W5, wr.drewN nq = W5 := ⟨_, rfl⟩
            have hr6 : W5.heap[wo.heap.size]? = some (.cells #[.string p.1, .string p.2] 52 (0, 0)) := by rw [← hW5]; exact HR5.out
            have ho6 : OwnsP W5 w.heap.size (.slice (some ⟨g0, 0, none⟩) out.length ocap) out := by rw [← hW5]; exact HO5.out.below (below_drewN (Below.refl _ _) nq)
            have hb6 : Below w.heap.size w W5 := by rw [← hW5]; exact HB4.out.trans ((HB5.out.mono HB4.out.size).trans (below_drewN (Below.refl _ _) nq))
            rw [hW5]
            have HR6 := Lib.hid hr6
            have HO6 := Lib.hid ho6
            have HB6 := Lib.hid hb6
            clear hr6 ho6 hb6 hW5 HR5 HO5 HB5 p0 p1 pf0 pf1 nq q0 q1
            obtain ⟨p0, p1, pf0, pf1⟩ := pair_of_row HR6.out
            have hs1 := HS1.out
            have hs2 := HS2.out
            go_wp2_with fail
            obtain ⟨g', hg', rfl⟩ := HDP.out (by omega)
            obtain rfl : g0 = g' := by simpa using hg'
            have hdL : dL = out.length - m := HDL.out
            have hdL0 : 0 < dL := by omega
            have hdL1 : dL ≤ 1000000 := by omega
            have hWAb : Below W5.heap.size W5 (W5.alloc (.cells #[.string p.1, .string p.2] 52)).drew := below_drew1 (b0 W5 _)
            obtain ⟨WA, hWA⟩ : ∃ WA, WA = (W5.alloc (.cells #[.string p.1, .string p.2] 52)).drew := ⟨_, rfl⟩
            have hHC : ∀ j u, [Value.string p.1, .string p.2][j]? = some u → WA.cell? ((⟨W5.heap.size, 0, none⟩ : Addr).add j) = some u := by rw [hWA]; exact cell_two_new W5 _ _ _
            rw [← hWA] at hWAb
            have hOA : OwnsP WA w.heap.size (.slice (some ⟨g0, 0, none⟩) out.length ocap) out := HO6.out.below hWAb
            have hRA : WA.heap[wo.heap.size]? = some (.cells #[.string p.1, .string p.2] 52 (0, 0)) := (hWAb.block _ (Array.getElem?_eq_some_iff.1 HR6.out).1).trans HR6.out
            have HRA := Lib.hid hRA
            have hPL : (pcells (out.drop m)).length = dL * 2 := by rw [pcells_length, List.length_drop, hdL]
            have hPT : (pcells (out.take m)).length = m * 2 := by rw [pcells_length, List.length_take, Nat.min_eq_left hml]
            have hCELL : ∀ j u, (pcells (out.drop m))[j]? = some u → WA.cell? ((⟨g0, m * 2, none⟩ : Addr).add j) = some u := by
              intro j u hu
              have hjl := (List.getElem?_eq_some_iff.1 hu).1
              rw [hPL] at hjl
              have hadd : (⟨g0, m * 2, none⟩ : Addr).add j = ⟨g0, m * 2 + j, none⟩ := by unfold Addr.add; split <;> simp_all
              rw [hadd, World.ownsRow.cellAt hOA _ (by omega), ← hu]
              conv => lhs; rw [← List.take_append_drop m out, pcells_append]
              rw [List.getElem?_append_right (by omega), hPT]
              congr 1
              omega
            have hOLD : ∀ W', WA.grownBy W' none → ∀ j u, (pcells (out.take m))[j]? = some u → W'.cell? ((⟨g0, 0, none⟩ : Addr).add j) = some u := by
              intro W' hg j u hu
              have hjl := (List.getElem?_eq_some_iff.1 hu).1
              rw [hPT] at hjl
              have hadd : (⟨g0, 0, none⟩ : Addr).add j = ⟨g0, j, none⟩ := by unfold Addr.add; split <;> simp_all
              have h1 : WA.cell? ⟨g0, j, none⟩ = some u := by
                rw [World.ownsRow.cellAt hOA _ (by omega), ← hu]
                conv => lhs; rw [← List.take_append_drop m out, pcells_append]
                rw [List.getElem?_append_left (by omega)]
              rw [hadd]
              exact hg.cell h1 (by simp)
            have HHC : Hid (∀ b, some (⟨W5.heap.size, 0, none⟩ : Addr) = some b → ∀ j u, [Value.string p.1, .string p.2][j]? = some u → WA.cell? (b.add j) = some u) := Lib.hid (fun b hb => by cases hb; exact hHC)
            have HCELL := Lib.hid hCELL
            have HPL := Lib.hid hPL
            have HPT := Lib.hid hPT
            have HOLD := Lib.hid hOLD
            have HWA := Lib.hid hWA
            clear hCELL hOLD hPL hPT hHC hOA hRA hWA hdL
            go_region_held3 (fun w' => w'.cell? ⟨wo.heap.size, 0, none⟩ = some (.string p.1) ∧ w'.cell? ⟨wo.heap.size, 1, none⟩ = some (.string p.2))
              (first | exact ⟨p0, p1⟩ | (go_keep; done) | exact ⟨(pair_of_row (row_grown hgrow39 (row_grown hgrow38 HRA.out (by simp)) (by simp))).1, (pair_of_row (row_grown hgrow39 (row_grown hgrow38 HRA.out (by simp)) (by simp))).2.1⟩ | exact ⟨(pair_of_row (row_grown hgrow38 HRA.out (by simp))).1, (pair_of_row (row_grown hgrow38 HRA.out (by simp))).2.1⟩ | (rw [← HWA.out]; exact ⟨(pair_of_row HRA.out).1, (pair_of_row HRA.out).2.1⟩))
              (first
                | (rw [← HWA.out]; refine step_append_grows (by rfl) _ _ 31 (by rfl) 52 i0 _ 2 32 Try.underlying31 Hhi.out hz0 hz1 hz2 rfl (by decide) (some ⟨W5.heap.size, 0, none⟩) 1 1 [.string p.1, .string p.2] (by simp [Act.eval, Act.put]) (fun h => by cases h) rfl HHC.out ⟨g0, m * 2, none⟩ dL dC (pcells (out.drop m)) (by simp [Act.eval, Act.put]) HPL.out HCELL.out (pcells_one _) (by omega) (by unfold maxLen; omega) (by omega) ?_; intro v38 w38 hown38 hgrow38; obtain ⟨g38, c38, rfl, hg38, hlt38⟩ := World.ownsRow.form hown38 (by omega))
                | (refine step_append_grows (by rfl) _ _ 31 (by rfl) 52 i0 _ 2 32 Try.underlying31 Hhi.out hz0 hz1 hz2 rfl (by decide) (some ⟨g0, 0, none⟩) m m (pcells (out.take m)) (by simp [Act.eval, Act.put]) (fun h => by cases h) HPT.out (fun b hb => by cases hb; exact HOLD.out _ hgrow38) ⟨g38, 0, none⟩ (1 + dL) c38 ([.string p.1, .string p.2] ++ pcells (out.drop m)) (by simp [Act.eval, Act.put]) hown38.1 (World.ownsRow.cells hown38 rfl) (fun u hu => by rw [List.mem_append] at hu; rcases hu with hu | hu; (simp at hu; rcases hu with rfl | rfl <;> rfl); exact pcells_one _ u hu) (by omega) (by unfold maxLen; omega) (by omega) ?_; intro v39 w39 hown39 hgrow39))
            all_goals
              have hfl : out.take m ++ p :: out.drop m = sortR (l.take (k + 1)) := HFIN.out.symm
              have hlen : (sortR (l.take (k + 1))).length = m + (1 + dL) := by have hdl := HDL.out; rw [← hfl]; simp; omega
              have hcells : pcells (sortR (l.take (k + 1))) = pcells (out.take m) ++ ([.string p.1, .string p.2] ++ pcells (out.drop m)) := by rw [← hfl, pcells_append]; rfl
              have hbA : Below w.heap.size w WA := HB6.out.trans (hWAb.mono HB6.out.size)
              have hb39 : Below w.heap.size w w39 := (hbA.grown hgrow38 hbA.size (fun k h => by cases h)).grown hgrow39 (Nat.le_trans hbA.size hgrow38.size) (fun k h => by cases h)
              have ho39 : OwnsP w39 w.heap.size v39 (sortR (l.take (k + 1))) := OwnsP.mono (base := w38.heap.size) (by unfold OwnsP; rw [hlen, hcells]; exact hown39) (by exact Nat.le_trans hbA.size hgrow38.size)
              have HB39 := Lib.hid hb39
              have HO39 := Lib.hid ho39
              clear hb39 ho39 hown39 hgrow39
              go_wp2
              exact ⟨⟨k + 1, _, by go_num, rfl, by omega, HO39.out, HB39.out⟩, by simp [intOf]; omega⟩
        · have hjl' : ¬ (j : Int) < out.length := by omega
          obtain rfl : m = j := by
            rw [List.drop_eq_nil_of_le (by omega)] at hji
            unfold idxR at hji
            omega
          have hmo : m = out.length := by omega
          have hdL : dL = 0 := by have := HDL.out; omega
          subst hdL
          have HMO := Lib.hid hmo
          clear hji hmo
          go_wp2_with fail
          go_quiet (fail)
          obtain ⟨W5, hW5⟩ : ∃ W5, wr.drewN nq = W5 := ⟨_, rfl⟩
          have hr6 : W5.heap[wo.heap.size]? = some (.cells #[.string p.1, .string p.2] 52 (0, 0)) := by rw [← hW5]; exact HR5.out
          have ho6 : OwnsP W5 w.heap.size (.slice ov out.length ocap) out := by rw [← hW5]; exact HO5.out.below (below_drewN (Below.refl _ _) nq)
          have hb6 : Below w.heap.size w W5 := by rw [← hW5]; exact HB4.out.trans ((HB5.out.mono HB4.out.size).trans (below_drewN (Below.refl _ _) nq))
          rw [hW5]
          have HR6 := Lib.hid hr6
          have HO6 := Lib.hid ho6
          have HB6 := Lib.hid hb6
          clear hr6 ho6 hb6 hW5 HR5 HO5 HB5 p0 p1 pf0 pf1 nq
          obtain ⟨p0, p1, pf0, pf1⟩ := pair_of_row HR6.out
          have hs1 := HS1.out
          have hs2 := HS2.out
          go_wp2_with fail
          have hWAb : Below W5.heap.size W5 (W5.alloc (.cells #[.string p.1, .string p.2] 52)).drew := below_drew1 (b0 W5 _)
          have hLIT : (W5.alloc (.cells #[.string p.1, .string p.2] 52)).drew.ownsRow 0 52 2 (.slice (some ⟨W5.heap.size, 0, none⟩) 1 1) 1 [.string p.1, .string p.2] := World.ownsRow_lit (base := 0) (e := 52) (size := 2) W5 #[.string p.1, .string p.2] 1 (Nat.zero_le _) (by decide) rfl
          obtain ⟨WA, hWA⟩ : ∃ WA, WA = (W5.alloc (.cells #[.string p.1, .string p.2] 52)).drew := ⟨_, rfl⟩
          have hHC : ∀ j u, [Value.string p.1, .string p.2][j]? = some u → WA.cell? ((⟨W5.heap.size, 0, none⟩ : Addr).add j) = some u := by rw [hWA]; exact cell_two_new W5 _ _ _
          rw [← hWA] at hWAb hLIT
          have hOA : OwnsP WA w.heap.size (.slice ov out.length ocap) out := HO6.out.below hWAb
          have hRA : WA.heap[wo.heap.size]? = some (.cells #[.string p.1, .string p.2] 52 (0, 0)) := (hWAb.block _ (Array.getElem?_eq_some_iff.1 HR6.out).1).trans HR6.out
          have HRA := Lib.hid hRA
          have hPT : (pcells out).length = m * 2 := by rw [pcells_length, HMO.out]
          have hHOLD : ∀ b, ov = some b → ∀ j u, (pcells out)[j]? = some u → WA.cell? (b.add j) = some u := by
            intro b hb
            obtain ⟨g, rfl⟩ := HOA.out b hb
            subst hb
            exact World.ownsRow.cells hOA rfl
          have hNONE : ov = none → m = 0 ∧ m = 0 := fun h => by have := (HON0.out h).1; have := HMO.out; omega
          have HLIT := Lib.hid hLIT
          have HHC := Lib.hid hHC
          have HPT := Lib.hid hPT
          have HHOLD := Lib.hid hHOLD
          have HNONE := Lib.hid hNONE
          have HWA := Lib.hid hWA
          clear hLIT hHC hPT hHOLD hNONE hOA hRA hWA
          go_region_held3 (fun w' => w'.cell? ⟨wo.heap.size, 0, none⟩ = some (.string p.1) ∧ w'.cell? ⟨wo.heap.size, 1, none⟩ = some (.string p.2))
            (first | exact ⟨p0, p1⟩ | (go_keep; done) | exact ⟨(pair_of_row (row_grown hgrow39 HRA.out (by simp))).1, (pair_of_row (row_grown hgrow39 HRA.out (by simp))).2.1⟩ | exact ⟨(pair_of_row HRA.out).1, (pair_of_row HRA.out).2.1⟩ | (rw [← HWA.out]; exact ⟨(pair_of_row HRA.out).1, (pair_of_row HRA.out).2.1⟩))
            (first
              | (rw [← HWA.out]; refine step_append_zero (by rfl) _ _ 31 (by rfl) 0 52 i0 2 Try.underlying31 Hhi.out (.slice (some ⟨W5.heap.size, 0, none⟩) 1 1) 1 [.string p.1, .string p.2] (by simp [Act.eval, Act.put]) HLIT.out dp dC (by simp [Act.eval, Act.put]) ?_)
              | (refine step_append_grows (by rfl) _ _ 31 (by rfl) 52 i0 _ 2 32 Try.underlying31 Hhi.out hz0 hz1 hz2 rfl (by decide) ov m m (pcells out) (by simp [Act.eval, Act.put]) HNONE.out HPT.out HHOLD.out ⟨W5.heap.size, 0, none⟩ 1 1 [.string p.1, .string p.2] (by simp [Act.eval, Act.put]) rfl HHC.out (by simp [Value.oneCell']) (by omega) (by unfold maxLen; omega) (by omega) ?_; intro v39 w39 hown39 hgrow39))
          all_goals
            have hfl : out.take m ++ p :: out.drop m = sortR (l.take (k + 1)) := HFIN.out.symm
            have hto : out.take m ++ p :: out.drop m = out ++ [p] := by rw [HMO.out, List.take_length, List.drop_length]
            have hlen : (sortR (l.take (k + 1))).length = m + 1 := by rw [← hfl, hto, List.length_append, ← HMO.out]; rfl
            have hcells : pcells (sortR (l.take (k + 1))) = pcells out ++ [.string p.1, .string p.2] := by rw [← hfl, hto, pcells_append]; rfl
            have hbA : Below w.heap.size w WA := HB6.out.trans (hWAb.mono HB6.out.size)
            have hb39 : Below w.heap.size w w39 := hbA.grown hgrow39 hbA.size (fun k h => by cases h)
            have ho39 : OwnsP w39 w.heap.size v39 (sortR (l.take (k + 1))) := OwnsP.mono (base := WA.heap.size) (by unfold OwnsP; rw [hlen, hcells]; exact hown39) hbA.size
            have HB39 := Lib.hid hb39
            have HO39 := Lib.hid ho39
            clear hb39 ho39 hown39 hgrow39
            go_wp2
            exact ⟨⟨k + 1, _, by go_num, rfl, by omega, HO39.out, HB39.out⟩, by simp [intOf]; omega⟩
    · have hk1' : ¬ (k : Int) < l.length := by omega
      have hkl : k = l.length := by omega
      have hfin : out = sortR l := by rw [HOUT.out, List.take_of_length_le (by omega)]
      have HFIN := Lib.hid hfin
      have HOWN := Lib.hid hown
      have HB := Lib.hid hb
      clear hfin hown hb hon hkl
      go_wp2
      go_ret
      exact ⟨_, rfl, by rw [← HFIN.out]; exact HOWN.out, HB.out⟩
end Go.Proofs.Ytaaegelefknkeab
