/- The walk of the reference's Compare. -/
import Derived.Test.YtaaegelefknkeaaCpP
namespace Go.Proofs.Ytaaegelefknkeaa
open Go.RowKit Go.Shelf
set_option linter.unusedSimpArgs false

theorem OwnsR.code {w : World} {base : Nat} {v : Value} {s : ByteArray} (h : OwnsR w base v (unitsR s)) : ∃ A cap, v = .slice A (unitsOf s).length cap ∧ ∀ k x, (unitsOf s)[k]? = some x → ∃ g, A = some ⟨g, 0, none⟩ ∧ g < w.heap.size ∧ w.cell? ⟨g, k * 4, none⟩ = some (.int .i32 x.1) := by
  obtain ⟨A, cap, rfl⟩ := h.len
  refine ⟨A, cap, rfl, fun k x hx => ?_⟩
  obtain ⟨g, h1, _, h2, h3, _⟩ := h.unit hx
  exact ⟨g, h1, h2, h3⟩
theorem sgn_sub (a b : Int) : sgn (a - b) 0 = sgn a b := by
  unfold sgn
  repeat' split
  all_goals omega
theorem sgn_zero {a b : Nat} (h : sgn (a : Int) (b : Int) = 0) : a = b := by
  unfold sgn at h
  split at h
  · cases h
  · split at h
    · cases h
    · omega

set_option maxHeartbeats 4000000 in
theorem RCompare_any (a b : ByteArray) (ha : a.size ≤ 1000000) (hb : b.size ≤ 1000000) (w : World) :
    Calls Try.prog 28 #[.string a, .string b] w fun e w' => e = .returned (.int .i64 (cmpF a b)) ∧ Below w.heap.size w w' := by
  have hla : (unitsOf a).length ≤ 1000000 := by have := unitsFrom_len a a.size 0; unfold unitsOf; omega
  have hlb : (unitsOf b).length ≤ 1000000 := by have := unitsFrom_len b b.size 0; unfold unitsOf; omega
  go_enter Try.func28, Try.ntmps28
  go_wp2_with fail
  refine (RUnits_any a ha _).mono ?_
  rintro e wa ⟨va, rfl, hva, hba⟩
  obtain ⟨A, capA, rfl, hA⟩ := OwnsR.code hva
  go_wp2_with fail
  refine (RUnits_any b hb _).mono ?_
  rintro e wb ⟨vb, rfl, hvb, hbb⟩
  obtain ⟨B, capB, rfl, hB⟩ := OwnsR.code hvb
  go_wp2_with fail
  have HA := Lib.hid hA
  have HB := Lib.hid hB
  have Hba := Lib.hid hba
  have Hbb := Lib.hid hbb
  clear hA hB hba hbb hva hvb
  obtain ⟨la, hea⟩ : ∃ la, la = unitsOf a := ⟨_, rfl⟩
  obtain ⟨lb, heb⟩ : ∃ lb, lb = unitsOf b := ⟨_, rfl⟩
  have Hea := Lib.hid hea
  have Heb := Lib.hid heb
  rw [← hea] at hla HA ⊢
  rw [← heb] at hlb HB ⊢
  clear hea heb
  have Hf : Hid (cmpF a b = if cmpL la lb = 0 then strC a b else cmpL la lb) := by rw [Hea.out, Heb.out]; exact rfl
  obtain ⟨na, hna⟩ : ∃ na, na = la.length := ⟨_, rfl⟩
  obtain ⟨nb, hnb⟩ : ∃ nb, nb = lb.length := ⟨_, rfl⟩
  have Hna := Lib.hid hna
  have Hnb := Lib.hid hnb
  rw [← hna] at hla ⊢
  rw [← hnb] at hlb ⊢
  clear hna hnb
  go_loopw [7] (fun i wr => ∃ (k : Nat), k ≤ na ∧ k ≤ nb ∧ i = .int .i64 k ∧ cmpL la lb = cmpL (la.drop k) (lb.drop k) ∧ Below wb.heap.size wb wr) (fun i _ => na - (intOf i).toNat)
  case atStart => exact ⟨0, by omega, by omega, rfl, by simp, Below.refl _ _⟩
  case round =>
    obtain ⟨k, hka, hkb, rfl, hcm, hbl⟩ := hrel
    by_cases hk1 : k < na
    · by_cases hk2 : k < nb
      · obtain ⟨x, hx⟩ : ∃ x, la[k]? = some x := ⟨_, List.getElem?_eq_getElem (by have := Hna.out; omega)⟩
        obtain ⟨y, hy⟩ : ∃ y, lb[k]? = some y := ⟨_, List.getElem?_eq_getElem (by have := Hnb.out; omega)⟩
        obtain ⟨g, rfl, hg, hx0⟩ := HA.out k x hx
        obtain ⟨g2, rfl, hg2, hy0⟩ := HB.out k y hy
        have hx1 := (hbl.cell (p := ⟨g, k * 4, none⟩) (by have := Hbb.out.size; show g < _; omega)).trans ((Hbb.out.cell (p := ⟨g, k * 4, none⟩) hg).trans hx0)
        have hy1 := (hbl.cell (p := ⟨g2, k * 4, none⟩) hg2).trans hy0
        rw [drop_cons hx, drop_cons hy, cmpL] at hcm
        have hgx : GoodU a x := goodU (by rw [← Hea.out]; exact List.mem_of_getElem? hx)
        have hgy : GoodU b y := goodU (by rw [← Heb.out]; exact List.mem_of_getElem? hy)
        have hx32 := hgx.r
        have hy32 := hgy.r
        have hwx : IntKind.i64.wrap (x.1 : Int) = x.1 := IntWalk.i64_in _ (by omega)
        have hwy : IntKind.i64.wrap (y.1 : Int) = y.1 := IntWalk.i64_in _ (by omega)
        have Hcm := Lib.hid hcm
        have Hbl := Lib.hid hbl
        have Hx := Lib.hid hx
        have Hy := Lib.hid hy
        clear hx0 hy0 hcm hbl hx hy
        by_cases hs : x.1 = y.1
        · have e1 : ((x.1 : Int) != (y.1 : Int)) = false := by simp [hs]
          have Hs : Hid (sgn x.1 y.1 = 0) := by show sgn x.1 y.1 = 0; rw [hs]; simp [sgn]
          clear hs
          go_wp2_with fail
          go_quiet (fail)
          go_wp2
          go_roundw
          case rel =>
            refine ⟨k + 1, by omega, by omega, by go_num, ?_, below_drewN Hbl.out nq⟩
            rw [Hcm.out, if_pos Hs.out]
          case measure => simp [intOf]; omega
        · have e1 : ((x.1 : Int) != (y.1 : Int)) = true := by simp; omega
          have Hs : Hid (¬ sgn x.1 y.1 = 0) := by
            show ¬ sgn x.1 y.1 = 0
            unfold sgn; split
            · omega
            · split <;> omega
          have hsub : sgn ((x.1 : Int) - y.1) 0 = sgn x.1 y.1 := sgn_sub _ _
          have Hsub := Lib.hid hsub
          have hwd : IntKind.i64.wrap ((x.1 : Int) - y.1) = (x.1 : Int) - y.1 := IntWalk.i64_in _ (by omega)
          clear hs hsub
          go_wp2_with fail
          go_quiet (fail)
          go_wp2_with fail
          obtain ⟨W5, hW5⟩ : ∃ W5, wr.drewN nq = W5 := ⟨_, rfl⟩
          have hx5 : W5.cell? ⟨g, k * 4, none⟩ = some (.int .i32 x.1) := by rw [← hW5]; exact hx1
          have hy5 : W5.cell? ⟨g2, k * 4, none⟩ = some (.int .i32 y.1) := by rw [← hW5]; exact hy1
          have Hb5 : Hid (Below wb.heap.size wb W5) := by rw [← hW5]; exact below_drewN Hbl.out nq
          rw [hW5]
          clear hW5 hx1 hy1
          go_quiet ((go_at_call 35; exact Calls.quiet_of_same ((sign_any _ _).mono fun e w' h => ⟨h.1, h.2.symm⟩)))
          go_wp2
          go_ret
          refine ⟨ret_int ?_, ?_⟩
          · rw [Hsub.out, Hf.out, Hcm.out, if_neg Hs.out, if_neg Hs.out]
          · exact Hba.out.trans ((Hbb.out.trans ((below_drewN Hb5.out _).mono Hbb.out.size)).mono Hba.out.size)
      · have hcm2 : cmpL la lb = sgn na nb := by
          rw [hcm, cmpL_nil _ _ (.inr (List.drop_eq_nil_of_le (by have := Hnb.out; omega))), List.length_drop, List.length_drop, ← Hna.out, ← Hnb.out]
          exact sgn_drop _ _ _ hka hkb
        have Hcm2 := Lib.hid hcm2
        have Hbl := Lib.hid hbl
        clear hcm hcm2 hbl
        have hbel : Below w.heap.size w wr := Hba.out.trans ((Hbb.out.trans (Hbl.out.mono Hbb.out.size)).mono Hba.out.size)
        have Hbel := Lib.hid hbel
        clear hbel
        by_cases hs : sgn (na : Int) (nb : Int) = 0
        · have e1 : ((na : Int) != (nb : Int)) = false := by simp [sgn_zero hs]
          have Hs := Lib.hid hs
          clear hs
          cases hl1 : Op.bytesLess a.toList b.toList with
          | true =>
            go_wp2_with (go_at_call 35; refine (sign_any _ _).mono ?_; rintro e w' ⟨rfl, rfl⟩)
            go_ret
            refine ⟨ret_int ?_, Hbel.out⟩
            rw [Hf.out, if_pos (Hcm2.out.trans Hs.out), strC, if_pos hl1]
          | false =>
            cases hl2 : a.toList == b.toList with
            | true =>
              go_wp2_with (go_at_call 35; refine (sign_any _ _).mono ?_; rintro e w' ⟨rfl, rfl⟩)
              go_ret
              refine ⟨ret_int ?_, Hbel.out⟩
              rw [Hf.out, if_pos (Hcm2.out.trans Hs.out), strC, if_neg (by simp [hl1]), if_pos hl2]
            | false =>
              go_wp2_with (go_at_call 35; refine (sign_any _ _).mono ?_; rintro e w' ⟨rfl, rfl⟩)
              go_ret
              refine ⟨ret_int ?_, Hbel.out⟩
              rw [Hf.out, if_pos (Hcm2.out.trans Hs.out), strC, if_neg (by simp [hl1]), if_neg (by simp [hl2])]
        · have e1 : ((na : Int) != (nb : Int)) = true := by simp; exact fun e => hs (by rw [e]; simp [sgn])
          have Hsub : Hid (sgn ((na : Int) - nb) 0 = sgn na nb) := sgn_sub _ _
          have Hs := Lib.hid hs
          clear hs
          go_wp2_with (go_at_call 35; refine (sign_any _ _).mono ?_; rintro e w' ⟨rfl, rfl⟩)
          go_ret
          refine ⟨ret_int ?_, Hbel.out⟩
          rw [Hsub.out, Hf.out, if_neg (by rw [Hcm2.out]; exact Hs.out), Hcm2.out]
    · have hcm2 : cmpL la lb = sgn na nb := by
        rw [hcm, cmpL_nil _ _ (.inl (List.drop_eq_nil_of_le (by have := Hna.out; omega))), List.length_drop, List.length_drop, ← Hna.out, ← Hnb.out]
        exact sgn_drop _ _ _ hka hkb
      have Hcm2 := Lib.hid hcm2
      have Hbl := Lib.hid hbl
      clear hcm hcm2 hbl
      have hbel : Below w.heap.size w wr := Hba.out.trans ((Hbb.out.trans (Hbl.out.mono Hbb.out.size)).mono Hba.out.size)
      have Hbel := Lib.hid hbel
      clear hbel
      by_cases hs : sgn (na : Int) (nb : Int) = 0
      · have e1 : ((na : Int) != (nb : Int)) = false := by simp [sgn_zero hs]
        have Hs := Lib.hid hs
        clear hs
        cases hl1 : Op.bytesLess a.toList b.toList with
        | true =>
          go_wp2_with (go_at_call 35; refine (sign_any _ _).mono ?_; rintro e w' ⟨rfl, rfl⟩)
          go_ret
          refine ⟨ret_int ?_, Hbel.out⟩
          rw [Hf.out, if_pos (Hcm2.out.trans Hs.out), strC, if_pos hl1]
        | false =>
          cases hl2 : a.toList == b.toList with
          | true =>
            go_wp2_with (go_at_call 35; refine (sign_any _ _).mono ?_; rintro e w' ⟨rfl, rfl⟩)
            go_ret
            refine ⟨ret_int ?_, Hbel.out⟩
            rw [Hf.out, if_pos (Hcm2.out.trans Hs.out), strC, if_neg (by simp [hl1]), if_pos hl2]
          | false =>
            go_wp2_with (go_at_call 35; refine (sign_any _ _).mono ?_; rintro e w' ⟨rfl, rfl⟩)
            go_ret
            refine ⟨ret_int ?_, Hbel.out⟩
            rw [Hf.out, if_pos (Hcm2.out.trans Hs.out), strC, if_neg (by simp [hl1]), if_neg (by simp [hl2])]
      · have e1 : ((na : Int) != (nb : Int)) = true := by simp; exact fun e => hs (by rw [e]; simp [sgn])
        have Hsub : Hid (sgn ((na : Int) - nb) 0 = sgn na nb) := sgn_sub _ _
        have Hs := Lib.hid hs
        clear hs
        go_wp2_with (go_at_call 35; refine (sign_any _ _).mono ?_; rintro e w' ⟨rfl, rfl⟩)
        go_ret
        refine ⟨ret_int ?_, Hbel.out⟩
        rw [Hsub.out, Hf.out, if_neg (by rw [Hcm2.out]; exact Hs.out), Hcm2.out]
end Go.Proofs.Ytaaegelefknkeaa
