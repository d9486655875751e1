/- sorted. -/
import Derived.Test.YtaaegelefknkeabMtD
import Derived.Deep.AppendLies
namespace Go.Proofs.Ytaaegelefknkeab
open Go.RowKit Go.Shelf
set_option linter.unusedSimpArgs false

theorem Try.info52 : (Try.prog.info? 52).map (fun i => (i.zero, i.size, i.bytes)) = some (some (.agg #[.string ⟨#[]⟩, .string ⟨#[]⟩]), 2, 32) := by kernel_rfl
theorem Try.underlying31 : Try.prog.underlying 31 = some (.slice 52) := by kernel_rfl
theorem sortF_snoc (l : List Pr) (k : Nat) (p : Pr) (h : l[k]? = some p) : sortF (l.take (k + 1)) = insF (sortF (l.take k)) p := by
  unfold sortF
  rw [List.take_add_one, h, List.foldl_append]
  rfl
theorem sortF_len (l : List Pr) : (sortF l).length = l.length := by
  have : ∀ (l o : List Pr), (l.foldl insF o).length = o.length + l.length := by
    intro l
    induction l with
    | nil => intro o; rfl
    | cons p l ih => intro o; rw [List.foldl_cons, ih, insF_length, List.length_cons]; omega
  have := this l []
  simpa [sortF] using this
/-- A pair's cells, for a reading by its place. -/
theorem OwnsP.at {W : World} {base : Nat} {v : Value} {l : List Pr} (h : OwnsP W base v l) {i : Nat} {q : Pr} (hi : l[i]? = some q) :
    ∃ g cap, v = .slice (some ⟨g, 0, none⟩) l.length cap ∧ base ≤ g ∧ l.length ≤ cap ∧ cap ≤ maxLen ∧ W.cell? ⟨g, i * 2, none⟩ = some (.string q.1) ∧ W.cell? ⟨g, i * 2 + 1, none⟩ = some (.string q.2) := by
  have hlt := (List.getElem?_eq_some_iff.1 hi).1
  have h2 := h
  unfold OwnsP at h2
  rcases h2.2 with ⟨h1, h3⟩ | ⟨g, cap, cur, h1, hb, hg, hn, hm, _⟩
  · omega
  · subst h1
    have hp := pcells_get l i q hi
    refine ⟨g, cap, rfl, hb, hn, hm, ?_, ?_⟩
    · rw [World.ownsRow.cellAt h2 _ (by omega)]; exact hp.1
    · rw [World.ownsRow.cellAt h2 _ (by omega)]; exact hp.2
theorem OwnsP.lenv {W : World} {base : Nat} {v : Value} {l : List Pr} (h : OwnsP W base v l) : ∃ a cap, v = .slice a l.length cap := by
  obtain ⟨a, cap, hr⟩ := h.rd
  exact ⟨a, cap, hr.eq⟩

theorem own_le {w : World} {base : Nat} {e : TypeId} {size : Nat} {a : Option Addr} {n cap : Nat} {xs : List Value} (h : w.ownsRow base e size (.slice a n cap) n xs) (hn : 0 < n) : n ≤ cap := by
  rcases h.2 with ⟨_, h0⟩ | ⟨g, cap', cur, hv, _, _, hc, _⟩
  · omega
  · simp only [Value.slice.injEq] at hv
    omega
theorem slice31 (g N cap l : Nat) (hl : l ≤ N) : ∃ dp, (∀ W, (Instr.slice 31 (.slice (some ⟨g, 0, none⟩) N cap) (some (.int .i64 (l : Int))) none none).run Try.prog W = .ok (.slice dp (N - l) (cap - l)) W) ∧ (l < cap → dp = some ⟨g, l * 2, none⟩) := by
  refine ⟨if cap = l then some ⟨g, 0, none⟩ else some ⟨g, l * 2, none⟩, fun W => ?_, fun h => by rw [if_neg (by omega)]⟩
  rw [run_slice_l W 31 (some ⟨g, 0, none⟩) N cap (by kernel_rfl) .i64 l (by omega) (by omega)]
  have hsz : (sizeOf (Try.prog.elem 31)).run Try.prog W = .ok 2 W := by kernel_rfl
  rw [hsz]
  have ha : (⟨g, 0, none⟩ : Addr).add (l * 2) = ⟨g, l * 2, none⟩ := by unfold Addr.add; split <;> simp_all
  simp [Result.andThen, sliced, ha]
theorem cell_two_new (w : World) (a b : Value) (t : TypeId) : ∀ j u, [a, b][j]? = some u → (w.alloc (.cells #[a, b] t)).cell? ((⟨w.heap.size, 0, none⟩ : Addr).add j) = some u := by
  intro j u hu
  have hadd : (⟨w.heap.size, 0, none⟩ : Addr).add j = ⟨w.heap.size, j, none⟩ := by unfold Addr.add; split <;> simp_all
  rw [hadd, cell_of_row _ w.heap.size j #[a, b] t (0, 0) (heap_alloc_new w _), ← hu]
  simp

set_option maxHeartbeats 1000000 in
theorem sorted_any (l : List Pr) (v : Value) (a : Option Addr) (cap : Nat) (w : World) (h : RdP w v l a cap) (hsz : l.length ≤ 1000000) :
    Calls Try.prog 47 #[v] w fun e w' => ∃ v', e = .returned v' ∧ OwnsP w' w.heap.size v' (sortF l) ∧ Below w.heap.size w w' := by
  obtain ⟨i0, hi, hz0, hz1, hz2⟩ := info_parts Try.info52
  have Hhi := Lib.hid hi
  clear hi
  obtain rfl := h.eq
  have HR := Lib.hid h
  clear h
  go_enter Try.func47, Try.ntmps47
  go_wp2_with fail
  go_loopw [3, 9] (fun o i wr => ∃ (k : Nat) (v : Value), i = .int .i64 k ∧ v = o ∧ k ≤ l.length ∧ OwnsP wr w.heap.size v (sortF (l.take k)) ∧ Below w.heap.size w wr) (fun _ i _ => l.length - (intOf i).toNat)
  case atStart => exact ⟨0, _, rfl, rfl, by omega, World.ownsRow_nil _ _ _ _, Below.refl _ _⟩
  case round =>
    obtain ⟨k, v, rfl, rfl, hk, hown, hb⟩ := hrel
    obtain ⟨wo, rfl⟩ : ∃ x, x = wr := ⟨_, rfl⟩
    obtain ⟨out, hout⟩ : ∃ out, out = sortF (l.take k) := ⟨_, rfl⟩
    rw [← hout] at hown
    have hon : out.length = k := by rw [hout, sortF_len, List.length_take]; omega
    have HOUT := Lib.hid hout
    clear hout
    obtain ⟨ov, ocap, rfl⟩ := hown.lenv
    by_cases hk1 : k < l.length
    · have hk1' : (k : Int) < l.length := by omega
      obtain ⟨p, hp⟩ : ∃ p, l[k]? = some p := ⟨l[k], List.getElem?_eq_getElem hk1⟩
      obtain ⟨b, o, rfl, hc0, hc1⟩ := (HR.out.below hb).cells k p hp
      obtain ⟨m, hm⟩ : ∃ m, m = idxF out p.1 out.length := ⟨_, rfl⟩
      have hfin : sortF (l.take (k + 1)) = out.take m ++ p :: out.drop m := by
        rw [sortF_snoc l k p hp, ← HOUT.out, hm]
        rfl
      have HFIN := Lib.hid hfin
      have HOWN := Lib.hid hown
      have HB := Lib.hid hb
      have HM := Lib.hid hm
      have hol : out.length ≤ 1000000 := by omega
      have HON := Lib.hid hon
      clear hfin hown hb hm hp hon
      go_wp2_with fail
      obtain ⟨W4, hW4⟩ : ∃ W4, wo.alloc (.cells #[.string p.1, .string p.2] 52) = W4 := ⟨_, rfl⟩
      have hr4 : W4.heap[wo.heap.size]? = some (.cells #[.string p.1, .string p.2] 52 (0, 0)) := by rw [← hW4]; exact heap_alloc_new wo _
      have ho4 : OwnsP W4 w.heap.size (.slice ov out.length ocap) out := by rw [← hW4]; exact HOWN.out.below (b0 wo _)
      have hb4 : Below w.heap.size w W4 := by rw [← hW4]; exact HB.out.alloc HB.out.size _
      rw [hW4]
      have HR4 := Lib.hid hr4
      have HO4 := Lib.hid ho4
      have HB4 := Lib.hid hb4
      have hap : ∀ g, (Value.slice ov out.length ocap).ownBlock = some g → g < wo.heap.size := fun g hg => (World.ownsRow.lt HOWN.out g hg).2
      have HAP := Lib.hid hap
      clear hr4 ho4 hb4 hW4 HOWN HB hap
      go_loopw [6] (fun i wi => ∃ j : Nat, i = .int .i64 j ∧ j ≤ out.length ∧ idxF out p.1 j = m ∧ Below W4.heap.size W4 wi) (fun i _ => (intOf i).toNat)
      case atStart => exact ⟨out.length, rfl, Nat.le_refl _, HM.out.symm, Below.refl _ _⟩
      case round =>
        obtain ⟨j, rfl, hj, hji, hb5⟩ := hrel
        have hr5 : wr.heap[wo.heap.size]? = some (.cells #[.string p.1, .string p.2] 52 (0, 0)) := (hb5.block _ (Array.getElem?_eq_some_iff.1 HR4.out).1).trans HR4.out
        have ho5 : OwnsP wr w.heap.size (.slice ov out.length ocap) out := HO4.out.below hb5
        obtain ⟨p0, p1, pf0, pf1⟩ := pair_of_row hr5
        have HR5 := Lib.hid hr5
        have HO5 := Lib.hid ho5
        have HB5 := Lib.hid hb5
        clear hr5 ho5 hb5
        cases j with
        | zero => 
          go_wp2_with fail
          go_quiet (fail)
          have hm0 : ((0 : Nat) : Int) = (m : Int) := by rw [← hji]; rfl
          have hmle : m ≤ out.length := by rw [← hji]; exact Nat.zero_le _
          rw [hm0]
          have HM0 := Lib.hid hm0
          clear hm0 hji
          obtain ⟨W5, hW5⟩ : ∃ W5, wr.drewN nq = W5 := ⟨_, rfl⟩
          have hr6 : W5.heap[wo.heap.size]? = some (.cells #[.string p.1, .string p.2] 52 (0, 0)) := by rw [← hW5]; exact HR5.out
          have ho6 : OwnsP W5 w.heap.size (.slice ov out.length ocap) out := by rw [← hW5]; exact HO5.out.below (below_drewN (Below.refl _ _) nq)
          have hb6 : Below w.heap.size w W5 := by rw [← hW5]; exact HB4.out.trans ((HB5.out.mono HB4.out.size).trans (below_drewN (Below.refl _ _) nq))
          rw [hW5]
          have HR6 := Lib.hid hr6
          have HO6 := Lib.hid ho6
          have HB6 := Lib.hid hb6
          clear hr6 ho6 hb6 hW5 HR5 HO5 HB5 p0 p1 pf0 pf1 nq
          go_wp2_with (at_builtin; refine wpList_append_lies _ rfl _ _ 31 rfl w.heap.size 52 i0 _ 2 32 Try.underlying31 Hhi.out hz0 hz1 hz2 rfl (by decide) (.slice ov out.length ocap) out.length (pcells out) rfl (World.ownsRow.alloc HO6.out _) ⟨W5.heap.size, 0, none⟩ 1 1 [.string ⟨#[]⟩, .string ⟨#[]⟩] rfl rfl (cell_two_new _ _ _ _) (by simp [Value.oneCell']) (by omega) (by unfold maxLen; omega) (by omega) (by have := HB6.out.size; simp; omega) _ rfl ?_; intro g gcap w1 hown' hgrow hat hlt; have HX := Lib.hid hown'; have HG := Lib.hid hgrow; have HA := Lib.hid hat; clear hown' hgrow hat)
          have hrow7 : w1.heap[wo.heap.size]? = some (.cells #[.string p.1, .string p.2] 52 (0, 0)) := by
            have h1 := (heap_alloc_old W5 (.cells #[.string ⟨#[]⟩, .string ⟨#[]⟩] 52) wo.heap.size (Array.getElem?_eq_some_iff.1 HR6.out).1).trans HR6.out
            rw [HG.out.block _ (Array.getElem?_eq_some_iff.1 h1).1 (fun e => by have := HAP.out _ e.symm; omega)]
            exact h1
          have hb7 : Below w.heap.size w w1 := (HB6.out.alloc HB6.out.size _).grown HG.out (by rw [World.size_alloc]; have := HB6.out.size; omega) (fun j e => (World.ownsRow.lt HO6.out j e).1)
          have hgne : g ≠ wo.heap.size := by
            have := (Array.getElem?_eq_some_iff.1 HR6.out).1
            rcases HA.out with h | h
            · have := HAP.out _ h; omega
            · rw [World.size_alloc] at h; omega
          have hNc : out.length + 1 ≤ gcap := own_le HX.out (by omega)
          obtain ⟨dp, hd, hdp⟩ := slice31 g (out.length + 1) gcap (m + 1) (by omega)
          obtain ⟨sp, hs, hsp⟩ := slice31 g (out.length + 1) gcap m (by omega)
          obtain ⟨dL, hdL⟩ : ∃ x, x = out.length + 1 - (m + 1) := ⟨_, rfl⟩
          obtain ⟨dC, hdC⟩ : ∃ x, x = gcap - (m + 1) := ⟨_, rfl⟩
          obtain ⟨sL, hsL⟩ : ∃ x, x = out.length + 1 - m := ⟨_, rfl⟩
          obtain ⟨sC, hsC⟩ : ∃ x, x = gcap - m := ⟨_, rfl⟩
          rw [← hdL, ← hdC] at hd
          rw [← hsL, ← hsC] at hs
          rw [show ((m + 1 : Nat) : Int) = (m : Int) + 1 by omega] at hd
          have hpl : (pcells (out.drop m)).length = Nat.min sL dL * 2 := by
            rw [pcells_length, List.length_drop, hsL, hdL, show Nat.min (out.length + 1 - m) (out.length + 1 - (m + 1)) = out.length - m from Nat.min_eq_right (by omega) |>.trans (by omega)]
          have hmin : Nat.min sL dL = dL := by rw [hsL, hdL]; exact Nat.min_eq_right (by omega)
          have hpos : 0 < (pcells (out.drop m)).length → dp = some ⟨g, (m + 1) * 2, none⟩ ∧ ∃ ad, sp = some ad ∧ ∀ j v, (pcells (out.drop m))[j]? = some v → w1.cell? (ad.add j) = some v := by
            intro h
            rw [pcells_length, List.length_drop] at h
            refine ⟨hdp (by omega), ⟨g, m * 2, none⟩, hsp (by omega), fun j v hv => ?_⟩
            have hjl := (List.getElem?_eq_some_iff.1 hv).1
            rw [pcells_length, List.length_drop] at hjl
            have hadd : (⟨g, m * 2, none⟩ : Addr).add j = ⟨g, m * 2 + j, none⟩ := by unfold Addr.add; split <;> simp_all
            rw [hadd, World.ownsRow.cellAt HX.out _ (by omega), List.getElem?_append_left (by rw [pcells_length]; omega), ← hv]
            conv => lhs; rw [← List.take_append_drop m out, pcells_append]
            rw [List.getElem?_append_right (by rw [pcells_length, List.length_take]; omega), pcells_length, List.length_take, show min m out.length = m by omega]
            congr 1
            omega
          have hfit : (m + 1) * 2 + (pcells (out.drop m)).length ≤ (out.length + 1) * 2 := by
            rw [pcells_length, List.length_drop]; omega
          have HSZ : Hid ((Try.prog.info? 52).map (·.size) = some 2) := Lib.hid (by rw [Hhi.out]; exact congrArg some hz1)
          have HPL := Lib.hid hpl
          have HFIT := Lib.hid hfit
          have HPOS : Hid (0 < (pcells (out.drop m)).length → dp = some ⟨g, (m + 1) * 2, none⟩ ∧ ∃ ad, sp = some ad ∧ ∀ j v, (pcells (out.drop m))[j]? = some v → w1.drew.cell? (ad.add j) = some v) := Lib.hid hpos
          have HXD : Hid (w1.drew.ownsRow w.heap.size 52 2 (.slice (some ⟨g, 0, none⟩) (out.length + 1) gcap) (out.length + 1) (pcells out ++ [.string ⟨#[]⟩, .string ⟨#[]⟩])) := Lib.hid HX.out
          obtain ⟨CS, hCS⟩ : ∃ x, x = pcells (out.drop m) := ⟨_, rfl⟩
          obtain ⟨XS, hXS⟩ : ∃ x, x = pcells out ++ [Value.string ⟨#[]⟩, .string ⟨#[]⟩] := ⟨_, rfl⟩
          rw [← hCS] at HPOS HPL HFIT
          rw [← hXS] at HXD
          have HONE : Hid (∀ v ∈ CS, v.oneCell' = true) := Lib.hid (by rw [hCS]; exact pcells_one _)
          have HCS := Lib.hid hCS
          have HXS := Lib.hid hXS
          clear hCS hXS
          have HMIN := Lib.hid hmin
          have HR7 := Lib.hid hrow7
          have HB7 := Lib.hid hb7
          have hwr : IntKind.i64.wrap ((m : Int) + 1) = (m : Int) + 1 := IntWalk.i64_in _ (by omega)
          clear hrow7 hb7 hpl hpos hfit hdL hdC hsL hsC hdp hsp hmin
          go_wp2_with fail
          go_region_law (refine step_copy_own rfl (.tmp 37) (.tmp 40) 31 31 rfl 52 2 Try.underlying31 HSZ.out dp sp dL dC sL sC (by simp [Act.eval, Act.put]) (by simp [Act.eval, Act.put]) w.heap.size g (out.length + 1) gcap 52 XS HXD.out ((m + 1) * 2) CS HPL.out (by decide) HPOS.out HFIT.out HONE.out ?_; intro w2 hown2 hgrow2)
          all_goals
            have hxl : (splice XS ((m + 1) * 2) CS).length = (out.length + 1) * 2 := hown2.out.1
            obtain ⟨x0, hx0⟩ : ∃ x, (splice XS ((m + 1) * 2) CS)[m * 2]? = some x := ⟨_, List.getElem?_eq_getElem (by rw [hxl]; omega)⟩
            obtain ⟨x1, hx1⟩ : ∃ x, (splice XS ((m + 1) * 2) CS)[m * 2 + 1]? = some x := ⟨_, List.getElem?_eq_getElem (by rw [hxl]; omega)⟩
            have c0 : w2.cell? ⟨g, m * 2, none⟩ = some x0 := (World.ownsRow.cellAt hown2.out _ (by omega)).trans hx0
            have c1 : w2.cell? ⟨g, m * 2 + 1, none⟩ = some x1 := (World.ownsRow.cellAt hown2.out _ (by omega)).trans hx1
            have cf0 : w2.frozen? ⟨g, m * 2, none⟩ = false := World.ownsRow.frozenAt hown2.out _
            have cf1 : w2.frozen? ⟨g, m * 2 + 1, none⟩ = false := World.ownsRow.frozenAt hown2.out _
            have hrow2 : w2.heap[wo.heap.size]? = some (.cells #[.string p.1, .string p.2] 52 (0, 0)) := (hgrow2.out.block _ (Array.getElem?_eq_some_iff.1 HR7.out).1 (fun e => hgne (by simpa using e.symm))).trans HR7.out
            obtain ⟨p0, p1, _, _⟩ := pair_of_row hrow2
            clear hx0 hx1 hxl hrow2
            go_wp2
            have hbg : w.heap.size ≤ g := (World.ownsRow.lt hown2.out g rfl).1
            have hA : (pcells (out.take m)).length = m * 2 := by rw [pcells_length, List.length_take]; omega
            have hXA : XS = pcells (out.take m) ++ CS ++ [.string ⟨#[]⟩, .string ⟨#[]⟩] := by
              rw [HXS.out, HCS.out, ← pcells_append, List.take_append_drop]
            have st1 := World.ownsRow.stored hown2.out (m * 2) (.string p.1)
            have st2 := World.ownsRow.stored st1.1 (m * 2 + 1) (.string p.2)
            have hset : ((splice XS ((m + 1) * 2) CS).set (m * 2) (.string p.1)).set (m * 2 + 1) (.string p.2) = pcells (sortF (l.take (k + 1))) := by
              rw [hXA, splice_set _ _ _ _ _ _ _ hA, HFIN.out, HCS.out, pcells_append]
              rfl
            rw [hset] at st2
            have hlen : (sortF (l.take (k + 1))).length = out.length + 1 := by rw [HFIN.out]; simp; omega
            have e1 : ∀ j, some g = some j → w.heap.size ≤ j := fun j e => by cases e; exact hbg
            have b2 : Below w.heap.size w w2 := Below.grown (w := w1.drew) ⟨HB7.out.os, HB7.out.tape, HB7.out.output, HB7.out.size, HB7.out.block⟩ hgrow2.out HB7.out.size e1
            have b3 := Below.grown b2 st1.2 b2.size e1
            have b4 := Below.grown b3 st2.2 b3.size e1
            refine ⟨⟨k + 1, _, by go_num, rfl, by omega, ?_, b4⟩, by simp [intOf]; omega⟩
            unfold OwnsP
            rw [hlen]
            exact st2.1
        | succ j =>
          obtain ⟨q, hq⟩ : ∃ q, out[j]? = some q := ⟨out[j], List.getElem?_eq_getElem (by omega)⟩
          obtain ⟨g0, cap0, hv, hgb0, hle0, hmx0, q0, _⟩ := HO5.out.at hq
          simp only [Value.slice.injEq, true_and] at hv
          obtain ⟨rfl, rfl⟩ := hv
          have hmx1 : ocap ≤ 9223372036854775807 := hmx0
          have hl0 : lessAt out p.1 j = Op.bytesLess p.1.toList q.1.toList := by unfold lessAt; rw [hq]
          rw [idxF, hl0] at hji
          clear hl0 hq
          cases hless : Op.bytesLess p.1.toList q.1.toList with
          | true =>
            rw [hless, if_pos rfl] at hji
            have HJI := Lib.hid hji
            clear hji
            go_wp2_with fail
            go_quiet (fail)
            go_wp2
            go_roundw
            case rel => exact ⟨j, by go_num, by omega, HJI.out, HB5.out.trans (below_drewN (Below.refl _ _) nq)⟩
            case measure => simp [intOf]
          | false =>
            rw [hless, if_neg (by simp)] at hji
            have hm0 : ((j + 1 : Nat) : Int) = (m : Int) := by rw [← hji]
            have hm1 : ((j : Int) + 1) = (m : Int) := by rw [← hji]; rfl
            have hmle : m ≤ out.length := by rw [← hji]; exact hj
            have HM0 := Lib.hid hm0
            have HM1 := Lib.hid hm1
            clear hm0 hm1 hji
            go_wp2_with fail
            go_quiet (fail)
            first | rw [HM0.out] | rw [HM1.out]
            obtain ⟨W5, hW5⟩ : ∃ W5, wr.drewN nq = W5 := ⟨_, rfl⟩
            have hr6 : W5.heap[wo.heap.size]? = some (.cells #[.string p.1, .string p.2] 52 (0, 0)) := by rw [← hW5]; exact HR5.out
            have ho6 : OwnsP W5 w.heap.size (.slice (some ⟨g0, 0, none⟩) out.length ocap) out := by rw [← hW5]; exact HO5.out.below (below_drewN (Below.refl _ _) nq)
            have hb6 : Below w.heap.size w W5 := by rw [← hW5]; exact HB4.out.trans ((HB5.out.mono HB4.out.size).trans (below_drewN (Below.refl _ _) nq))
            rw [hW5]
            have HR6 := Lib.hid hr6
            have HO6 := Lib.hid ho6
            have HB6 := Lib.hid hb6
            clear hr6 ho6 hb6 hW5 HR5 HO5 HB5 p0 p1 pf0 pf1 nq hless q0
            go_wp2_with (at_builtin; refine wpList_append_lies _ rfl _ _ 31 rfl w.heap.size 52 i0 _ 2 32 Try.underlying31 Hhi.out hz0 hz1 hz2 rfl (by decide) (.slice (some ⟨g0, 0, none⟩) out.length ocap) out.length (pcells out) rfl (World.ownsRow.alloc HO6.out _) ⟨W5.heap.size, 0, none⟩ 1 1 [.string ⟨#[]⟩, .string ⟨#[]⟩] rfl rfl (cell_two_new _ _ _ _) (by simp [Value.oneCell']) (by omega) (by unfold maxLen; omega) (by omega) (by have := HB6.out.size; simp; omega) _ rfl ?_; intro g gcap w1 hown' hgrow hat hlt; have HX := Lib.hid hown'; have HG := Lib.hid hgrow; have HA := Lib.hid hat; clear hown' hgrow hat)
            have hrow7 : w1.heap[wo.heap.size]? = some (.cells #[.string p.1, .string p.2] 52 (0, 0)) := by
              have h1 := (heap_alloc_old W5 (.cells #[.string ⟨#[]⟩, .string ⟨#[]⟩] 52) wo.heap.size (Array.getElem?_eq_some_iff.1 HR6.out).1).trans HR6.out
              rw [HG.out.block _ (Array.getElem?_eq_some_iff.1 h1).1 (fun e => by have := HAP.out _ e.symm; omega)]
              exact h1
            have hb7 : Below w.heap.size w w1 := (HB6.out.alloc HB6.out.size _).grown HG.out (by rw [World.size_alloc]; have := HB6.out.size; omega) (fun j e => (World.ownsRow.lt HO6.out j e).1)
            have hgne : g ≠ wo.heap.size := by
              have := (Array.getElem?_eq_some_iff.1 HR6.out).1
              rcases HA.out with h | h
              · have := HAP.out _ h; omega
              · rw [World.size_alloc] at h; omega
            have hNc : out.length + 1 ≤ gcap := own_le HX.out (by omega)
            obtain ⟨dp, hd, hdp⟩ := slice31 g (out.length + 1) gcap (m + 1) (by omega)
            obtain ⟨sp, hs, hsp⟩ := slice31 g (out.length + 1) gcap m (by omega)
            obtain ⟨dL, hdL⟩ : ∃ x, x = out.length + 1 - (m + 1) := ⟨_, rfl⟩
            obtain ⟨dC, hdC⟩ : ∃ x, x = gcap - (m + 1) := ⟨_, rfl⟩
            obtain ⟨sL, hsL⟩ : ∃ x, x = out.length + 1 - m := ⟨_, rfl⟩
            obtain ⟨sC, hsC⟩ : ∃ x, x = gcap - m := ⟨_, rfl⟩
            rw [← hdL, ← hdC] at hd
            rw [← hsL, ← hsC] at hs
            rw [show ((m + 1 : Nat) : Int) = (m : Int) + 1 by omega] at hd
            have hpl : (pcells (out.drop m)).length = Nat.min sL dL * 2 := by
              rw [pcells_length, List.length_drop, hsL, hdL, show Nat.min (out.length + 1 - m) (out.length + 1 - (m + 1)) = out.length - m from Nat.min_eq_right (by omega) |>.trans (by omega)]
            have hmin : Nat.min sL dL = dL := by rw [hsL, hdL]; exact Nat.min_eq_right (by omega)
            have hpos : 0 < (pcells (out.drop m)).length → dp = some ⟨g, (m + 1) * 2, none⟩ ∧ ∃ ad, sp = some ad ∧ ∀ j v, (pcells (out.drop m))[j]? = some v → w1.cell? (ad.add j) = some v := by
              intro h
              rw [pcells_length, List.length_drop] at h
              refine ⟨hdp (by omega), ⟨g, m * 2, none⟩, hsp (by omega), fun j v hv => ?_⟩
              have hjl := (List.getElem?_eq_some_iff.1 hv).1
              rw [pcells_length, List.length_drop] at hjl
              have hadd : (⟨g, m * 2, none⟩ : Addr).add j = ⟨g, m * 2 + j, none⟩ := by unfold Addr.add; split <;> simp_all
              rw [hadd, World.ownsRow.cellAt HX.out _ (by omega), List.getElem?_append_left (by rw [pcells_length]; omega), ← hv]
              conv => lhs; rw [← List.take_append_drop m out, pcells_append]
              rw [List.getElem?_append_right (by rw [pcells_length, List.length_take]; omega), pcells_length, List.length_take, show min m out.length = m by omega]
              congr 1
              omega
            have hfit : (m + 1) * 2 + (pcells (out.drop m)).length ≤ (out.length + 1) * 2 := by
              rw [pcells_length, List.length_drop]; omega
            have HSZ : Hid ((Try.prog.info? 52).map (·.size) = some 2) := Lib.hid (by rw [Hhi.out]; exact congrArg some hz1)
            have HPL := Lib.hid hpl
            have HFIT := Lib.hid hfit
            have HPOS : Hid (0 < (pcells (out.drop m)).length → dp = some ⟨g, (m + 1) * 2, none⟩ ∧ ∃ ad, sp = some ad ∧ ∀ j v, (pcells (out.drop m))[j]? = some v → w1.drew.cell? (ad.add j) = some v) := Lib.hid hpos
            have HXD : Hid (w1.drew.ownsRow w.heap.size 52 2 (.slice (some ⟨g, 0, none⟩) (out.length + 1) gcap) (out.length + 1) (pcells out ++ [.string ⟨#[]⟩, .string ⟨#[]⟩])) := Lib.hid HX.out
            obtain ⟨CS, hCS⟩ : ∃ x, x = pcells (out.drop m) := ⟨_, rfl⟩
            obtain ⟨XS, hXS⟩ : ∃ x, x = pcells out ++ [Value.string ⟨#[]⟩, .string ⟨#[]⟩] := ⟨_, rfl⟩
            rw [← hCS] at HPOS HPL HFIT
            rw [← hXS] at HXD
            have HONE : Hid (∀ v ∈ CS, v.oneCell' = true) := Lib.hid (by rw [hCS]; exact pcells_one _)
            have HCS := Lib.hid hCS
            have HXS := Lib.hid hXS
            clear hCS hXS
            have HMIN := Lib.hid hmin
            have HR7 := Lib.hid hrow7
            have HB7 := Lib.hid hb7
            have hwr : IntKind.i64.wrap ((m : Int) + 1) = (m : Int) + 1 := IntWalk.i64_in _ (by omega)
            clear hrow7 hb7 hpl hpos hfit hdL hdC hsL hsC hdp hsp hmin
            go_wp2_with fail
            go_region_law (refine step_copy_own rfl (.tmp 37) (.tmp 40) 31 31 rfl 52 2 Try.underlying31 HSZ.out dp sp dL dC sL sC (by simp [Act.eval, Act.put]) (by simp [Act.eval, Act.put]) w.heap.size g (out.length + 1) gcap 52 XS HXD.out ((m + 1) * 2) CS HPL.out (by decide) HPOS.out HFIT.out HONE.out ?_; intro w2 hown2 hgrow2)
            all_goals
              have hxl : (splice XS ((m + 1) * 2) CS).length = (out.length + 1) * 2 := hown2.out.1
              obtain ⟨x0, hx0⟩ : ∃ x, (splice XS ((m + 1) * 2) CS)[m * 2]? = some x := ⟨_, List.getElem?_eq_getElem (by rw [hxl]; omega)⟩
              obtain ⟨x1, hx1⟩ : ∃ x, (splice XS ((m + 1) * 2) CS)[m * 2 + 1]? = some x := ⟨_, List.getElem?_eq_getElem (by rw [hxl]; omega)⟩
              have c0 : w2.cell? ⟨g, m * 2, none⟩ = some x0 := (World.ownsRow.cellAt hown2.out _ (by omega)).trans hx0
              have c1 : w2.cell? ⟨g, m * 2 + 1, none⟩ = some x1 := (World.ownsRow.cellAt hown2.out _ (by omega)).trans hx1
              have cf0 : w2.frozen? ⟨g, m * 2, none⟩ = false := World.ownsRow.frozenAt hown2.out _
              have cf1 : w2.frozen? ⟨g, m * 2 + 1, none⟩ = false := World.ownsRow.frozenAt hown2.out _
              have hrow2 : w2.heap[wo.heap.size]? = some (.cells #[.string p.1, .string p.2] 52 (0, 0)) := (hgrow2.out.block _ (Array.getElem?_eq_some_iff.1 HR7.out).1 (fun e => hgne (by simpa using e.symm))).trans HR7.out
              obtain ⟨p0, p1, _, _⟩ := pair_of_row hrow2
              clear hx0 hx1 hxl hrow2
              go_wp2
              have hbg : w.heap.size ≤ g := (World.ownsRow.lt hown2.out g rfl).1
              have hA : (pcells (out.take m)).length = m * 2 := by rw [pcells_length, List.length_take]; omega
              have hXA : XS = pcells (out.take m) ++ CS ++ [.string ⟨#[]⟩, .string ⟨#[]⟩] := by
                rw [HXS.out, HCS.out, ← pcells_append, List.take_append_drop]
              have st1 := World.ownsRow.stored hown2.out (m * 2) (.string p.1)
              have st2 := World.ownsRow.stored st1.1 (m * 2 + 1) (.string p.2)
              have hset : ((splice XS ((m + 1) * 2) CS).set (m * 2) (.string p.1)).set (m * 2 + 1) (.string p.2) = pcells (sortF (l.take (k + 1))) := by
                rw [hXA, splice_set _ _ _ _ _ _ _ hA, HFIN.out, HCS.out, pcells_append]
                rfl
              rw [hset] at st2
              have hlen : (sortF (l.take (k + 1))).length = out.length + 1 := by rw [HFIN.out]; simp; omega
              have e1 : ∀ j, some g = some j → w.heap.size ≤ j := fun j e => by cases e; exact hbg
              have b2 : Below w.heap.size w w2 := Below.grown (w := w1.drew) ⟨HB7.out.os, HB7.out.tape, HB7.out.output, HB7.out.size, HB7.out.block⟩ hgrow2.out HB7.out.size e1
              have b3 := Below.grown b2 st1.2 b2.size e1
              have b4 := Below.grown b3 st2.2 b3.size e1
              refine ⟨⟨k + 1, _, by go_num, rfl, by omega, ?_, b4⟩, by simp [intOf]; omega⟩
              unfold OwnsP
              rw [hlen]
              exact st2.1
    · have hk1' : ¬ (k : Int) < l.length := by omega
      have hkl : k = l.length := by omega
      have hfin : out = sortF l := by rw [HOUT.out, List.take_of_length_le (by omega)]
      have HFIN := Lib.hid hfin
      have HOWN := Lib.hid hown
      have HB := Lib.hid hb
      clear hfin hown hb hon hkl
      go_wp2
      go_ret
      exact ⟨_, rfl, by rw [← HFIN.out]; exact HOWN.out, HB.out⟩
end Go.Proofs.Ytaaegelefknkeab
