/- The walk of Compare. -/
import Derived.Test.YtaaegelefknkeaaCpJ
import Derived.Deep.QuietTactic
import Derived.BigQuiet
import Derived.WalkLawsBesides
namespace Go.Proofs.Ytaaegelefknkeaa
open Go.RowKit Go.Shelf
set_option linter.unusedSimpArgs false

/-- Two lists of units by their code points. -/
def cmpL : List U → List U → Int
  | x :: l, y :: m => if sgn x.1 y.1 = 0 then cmpL l m else sgn x.1 y.1
  | l, m => sgn l.length m.length

/-- Two strings bytewise. -/
def strC (a b : ByteArray) : Int := if Op.bytesLess a.toList b.toList = true then -1 else if (a.toList == b.toList) = true then 0 else 1
def cmpF (a b : ByteArray) : Int := if cmpL (unitsOf a) (unitsOf b) = 0 then strC a b else cmpL (unitsOf a) (unitsOf b)
theorem cmpL_nil (l m : List U) (h : l = [] ∨ m = []) : cmpL l m = sgn l.length m.length := by
  cases l <;> cases m <;> simp_all [cmpL]
theorem sgn_drop (l m k : Nat) (h1 : k ≤ l) (h2 : k ≤ m) : sgn ((l - k : Nat) : Int) ((m - k : Nat) : Int) = sgn l m := by
  unfold sgn
  repeat' split
  all_goals omega

theorem UnitsAt.cell {w : World} {v : Value} {us : List U} (h : UnitsAt w v us) : ∃ A cap, v = .slice A us.length cap ∧ ∀ k x, us[k]? = some x → ∃ g, A = some ⟨g, 0, none⟩ ∧ g < w.heap.size ∧ w.cell? ⟨g, k * 3, none⟩ = some (.int .i32 x.1) ∧ w.cell? ⟨g, k * 3 + 1, none⟩ = some (.int .i64 x.2.1) ∧ w.cell? ⟨g, k * 3 + 2, none⟩ = some (.int .i64 x.2.2) := by
  obtain ⟨A, cap, rfl, hA⟩ := h.ex
  refine ⟨A, cap, rfl, fun k x hx => ?_⟩
  obtain ⟨hk, rfl⟩ := List.getElem?_eq_some_iff.1 hx
  rcases hA with h | ⟨g, h, hc⟩
  · rw [h] at hk; cases hk
  · obtain ⟨h0, h1, h2⟩ := hc k hk
    exact ⟨g, h, World.block_lt_of_cell? _ _ h0, h0, h1, h2⟩

set_option maxHeartbeats 4000000 in
theorem Compare_any (a b : ByteArray) (ha : a.size ≤ 1000000) (hb : b.size ≤ 1000000) (w : World) :
    Calls Try.prog 27 #[.string a, .string b] w fun e w' => e = .returned (.int .i64 (cmpF a b)) ∧ Below w.heap.size w w' := by
  have hla : (unitsOf a).length ≤ 1000000 := by have := unitsFrom_len a a.size 0; unfold unitsOf; omega
  have hlb : (unitsOf b).length ≤ 1000000 := by have := unitsFrom_len b b.size 0; unfold unitsOf; omega
  go_enter Try.func27, Try.ntmps27
  go_wp2_with fail
  refine (list_any a ha _).mono ?_
  rintro e wa ⟨va, rfl, hva, hba⟩
  obtain ⟨A, capA, rfl, hA⟩ := hva.at.cell
  go_wp2_with fail
  refine (list_any b hb _).mono ?_
  rintro e wb ⟨vb, rfl, hvb, hbb⟩
  obtain ⟨B, capB, rfl, hB⟩ := hvb.at.cell
  go_wp2_with fail
  have HA := Lib.hid hA
  have HB := Lib.hid hB
  have Hba := Lib.hid hba
  have Hbb := Lib.hid hbb
  clear hA hB hba hbb hva hvb
  obtain ⟨la, hea⟩ : ∃ la, la = unitsOf a := ⟨_, rfl⟩
  obtain ⟨lb, heb⟩ : ∃ lb, lb = unitsOf b := ⟨_, rfl⟩
  have Hea := Lib.hid hea
  have Heb := Lib.hid heb
  rw [← hea] at hla HA ⊢
  rw [← heb] at hlb HB ⊢
  clear hea heb
  have Hf : Hid (cmpF a b = if cmpL la lb = 0 then strC a b else cmpL la lb) := by rw [Hea.out, Heb.out]; exact rfl
  obtain ⟨na, hna⟩ : ∃ na, na = la.length := ⟨_, rfl⟩
  obtain ⟨nb, hnb⟩ : ∃ nb, nb = lb.length := ⟨_, rfl⟩
  have Hna := Lib.hid hna
  have Hnb := Lib.hid hnb
  rw [← hna] at hla ⊢
  rw [← hnb] at hlb ⊢
  clear hna hnb
  go_loopw [7] (fun i wr => ∃ (k : Nat), k ≤ na ∧ k ≤ nb ∧ i = .int .i64 k ∧ cmpL la lb = cmpL (la.drop k) (lb.drop k) ∧ Below wb.heap.size wb wr) (fun i _ => na - (intOf i).toNat)
  case atStart => exact ⟨0, by omega, by omega, rfl, by simp, Below.refl _ _⟩
  case round =>
    obtain ⟨k, hka, hkb, rfl, hcm, hbl⟩ := hrel
    by_cases hk1 : k < na
    · by_cases hk2 : k < nb
      · obtain ⟨x, hx⟩ : ∃ x, la[k]? = some x := ⟨_, List.getElem?_eq_getElem (by have := Hna.out; omega)⟩
        obtain ⟨y, hy⟩ : ∃ y, lb[k]? = some y := ⟨_, List.getElem?_eq_getElem (by have := Hnb.out; omega)⟩
        obtain ⟨g, rfl, hg, hx0, _, _⟩ := HA.out k x hx
        obtain ⟨g2, rfl, hg2, hy0, _, _⟩ := HB.out k y hy
        have hx1 := (hbl.cell (p := ⟨g, k * 3, none⟩) (by have := Hbb.out.size; show g < _; omega)).trans ((Hbb.out.cell (p := ⟨g, k * 3, none⟩) hg).trans hx0)
        have hy1 := (hbl.cell (p := ⟨g2, k * 3, none⟩) hg2).trans hy0
        rw [drop_cons hx, drop_cons hy, cmpL] at hcm
        have hgx : GoodU a x := goodU (by rw [← Hea.out]; exact List.mem_of_getElem? hx)
        have hgy : GoodU b y := goodU (by rw [← Heb.out]; exact List.mem_of_getElem? hy)
        have hx32 := hgx.r
        have hy32 := hgy.r
        have hwx : IntKind.i64.wrap (x.1 : Int) = x.1 := IntWalk.i64_in _ (by omega)
        have hwy : IntKind.i64.wrap (y.1 : Int) = y.1 := IntWalk.i64_in _ (by omega)
        have Hcm := Lib.hid hcm
        have Hbl := Lib.hid hbl
        have Hx := Lib.hid hx
        have Hy := Lib.hid hy
        clear hx0 hy0 hcm hbl hx hy
        by_cases hs : sgn x.1 y.1 = 0
        · have e1 : (sgn (x.1 : Int) (y.1 : Int) != 0) = false := by simp [hs]
          have Hs := Lib.hid hs
          clear hs
          go_wp2_with fail
          go_quiet ((go_at_call 34; exact Calls.quiet_of_same ((order_any _ _ _).mono fun e w' h => ⟨h.1, h.2.symm⟩)))
          go_wp2
          go_roundw
          case rel =>
            refine ⟨k + 1, by omega, by omega, by go_num, ?_, ?_⟩
            · rw [Hcm.out, if_pos Hs.out]
            · exact Hbl.out.trans ⟨rfl, rfl, rfl, Nat.le_refl _, fun _ _ => rfl⟩
          case measure => simp [intOf]; omega
        · have e1 : (sgn (x.1 : Int) (y.1 : Int) != 0) = true := by simp [hs]
          have Hs := Lib.hid hs
          clear hs
          go_wp2_with fail
          go_quiet ((go_at_call 34; exact Calls.quiet_of_same ((order_any _ _ _).mono fun e w' h => ⟨h.1, h.2.symm⟩)))
          go_wp2
          go_ret
          refine ⟨ret_int ?_, ?_⟩
          · rw [Hf.out, Hcm.out, if_neg Hs.out, if_neg Hs.out]
          · exact Hba.out.trans ((Hbb.out.trans ((Hbl.out.trans (below_drewN (Below.refl _ _) nq)).mono Hbb.out.size)).mono Hba.out.size)
      · have hcm2 : cmpL la lb = sgn na nb := by
          rw [hcm, cmpL_nil _ _ (.inr (List.drop_eq_nil_of_le (by have := Hnb.out; omega))), List.length_drop, List.length_drop, ← Hna.out, ← Hnb.out]
          exact sgn_drop _ _ _ hka hkb
        have Hcm2 := Lib.hid hcm2
        have Hbl := Lib.hid hbl
        clear hcm hcm2 hbl
        have hbel : Below w.heap.size w wr := Hba.out.trans ((Hbb.out.trans (Hbl.out.mono Hbb.out.size)).mono Hba.out.size)
        have Hbel := Lib.hid hbel
        clear hbel
        by_cases hs : sgn (na : Int) (nb : Int) = 0
        · have e1 : (sgn (na : Int) (nb : Int) != 0) = false := by simp [hs]
          have Hs := Lib.hid hs
          clear hs
          cases hl1 : Op.bytesLess a.toList b.toList with
          | true =>
            go_wp2_with (go_at_call 34; refine (order_any _ _ _).mono ?_; rintro e w' ⟨rfl, rfl⟩)
            go_ret
            refine ⟨ret_int ?_, Hbel.out⟩
            rw [Hf.out, if_pos (Hcm2.out.trans Hs.out), strC, if_pos hl1]
          | false =>
            cases hl2 : a.toList == b.toList with
            | true =>
              go_wp2_with (go_at_call 34; refine (order_any _ _ _).mono ?_; rintro e w' ⟨rfl, rfl⟩)
              go_ret
              refine ⟨ret_int ?_, Hbel.out⟩
              rw [Hf.out, if_pos (Hcm2.out.trans Hs.out), strC, if_neg (by simp [hl1]), if_pos hl2]
            | false =>
              go_wp2_with (go_at_call 34; refine (order_any _ _ _).mono ?_; rintro e w' ⟨rfl, rfl⟩)
              go_ret
              refine ⟨ret_int ?_, Hbel.out⟩
              rw [Hf.out, if_pos (Hcm2.out.trans Hs.out), strC, if_neg (by simp [hl1]), if_neg (by simp [hl2])]
        · have e1 : (sgn (na : Int) (nb : Int) != 0) = true := by simp [hs]
          have Hs := Lib.hid hs
          clear hs
          go_wp2_with (go_at_call 34; refine (order_any _ _ _).mono ?_; rintro e w' ⟨rfl, rfl⟩)
          go_ret
          refine ⟨ret_int ?_, Hbel.out⟩
          rw [Hf.out, if_neg (by rw [Hcm2.out]; exact Hs.out), Hcm2.out]
    · have hcm2 : cmpL la lb = sgn na nb := by
        rw [hcm, cmpL_nil _ _ (.inl (List.drop_eq_nil_of_le (by have := Hna.out; omega))), List.length_drop, List.length_drop, ← Hna.out, ← Hnb.out]
        exact sgn_drop _ _ _ hka hkb
      have Hcm2 := Lib.hid hcm2
      have Hbl := Lib.hid hbl
      clear hcm hcm2 hbl
      have hbel : Below w.heap.size w wr := Hba.out.trans ((Hbb.out.trans (Hbl.out.mono Hbb.out.size)).mono Hba.out.size)
      have Hbel := Lib.hid hbel
      clear hbel
      by_cases hs : sgn (na : Int) (nb : Int) = 0
      · have e1 : (sgn (na : Int) (nb : Int) != 0) = false := by simp [hs]
        have Hs := Lib.hid hs
        clear hs
        cases hl1 : Op.bytesLess a.toList b.toList with
        | true =>
          go_wp2_with (go_at_call 34; refine (order_any _ _ _).mono ?_; rintro e w' ⟨rfl, rfl⟩)
          go_ret
          refine ⟨ret_int ?_, Hbel.out⟩
          rw [Hf.out, if_pos (Hcm2.out.trans Hs.out), strC, if_pos hl1]
        | false =>
          cases hl2 : a.toList == b.toList with
          | true =>
            go_wp2_with (go_at_call 34; refine (order_any _ _ _).mono ?_; rintro e w' ⟨rfl, rfl⟩)
            go_ret
            refine ⟨ret_int ?_, Hbel.out⟩
            rw [Hf.out, if_pos (Hcm2.out.trans Hs.out), strC, if_neg (by simp [hl1]), if_pos hl2]
          | false =>
            go_wp2_with (go_at_call 34; refine (order_any _ _ _).mono ?_; rintro e w' ⟨rfl, rfl⟩)
            go_ret
            refine ⟨ret_int ?_, Hbel.out⟩
            rw [Hf.out, if_pos (Hcm2.out.trans Hs.out), strC, if_neg (by simp [hl1]), if_neg (by simp [hl2])]
      · have e1 : (sgn (na : Int) (nb : Int) != 0) = true := by simp [hs]
        have Hs := Lib.hid hs
        clear hs
        go_wp2_with (go_at_call 34; refine (order_any _ _ _).mono ?_; rintro e w' ⟨rfl, rfl⟩)
        go_ret
        refine ⟨ret_int ?_, Hbel.out⟩
        rw [Hf.out, if_neg (by rw [Hcm2.out]; exact Hs.out), Hcm2.out]
end Go.Proofs.Ytaaegelefknkeaa
