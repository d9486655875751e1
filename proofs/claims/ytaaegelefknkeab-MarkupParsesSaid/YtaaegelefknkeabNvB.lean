/- The reference's reader: name. -/
import Derived.Test.YtaaegelefknkeabNvA
namespace Go.Proofs.Ytaaegelefknkeab
open Go.RowKit Go.Shelf
set_option linter.unusedSimpArgs false
theorem rd_sc {X base : Nat} {w W' : World} {v : Value} {l : List Pr} {a : Option Addr} {cap : Nat} (h : OwnsP w base v l) (hs : Sc X w W') (hX : X < base) (hr : RdP w v l a cap) : RdP W' v l a cap := by
  obtain ⟨a', c', hr'⟩ := (h.sc hs hX).rd
  have := hr.eq.symm.trans hr'.eq
  cases this
  exact hr'
/-- The name of a key at place a behind the keys l. -/
def nameK (s : ByteArray) (a : Nat) (l : List Pr) : Except (Nat × Int) Nat :=
  match nameF s a with
  | .error q => .error q
  | .ok b => if hasF l (s.extract a b) = true then .error (a, 5) else if l.length = 8 then .error (a, 2) else .ok b
/-- What a name's reading leaves. -/
def NmPost (W : World) (X : Nat) (s : ByteArray) (c : Bool) (n : ByteArray) (v : Value) (a : Nat) (r : Except (Nat × Int) Nat) (e : Ending) : Prop :=
  match r with
  | .ok b => b ≤ s.size ∧ e = .returned (.string (s.extract a b)) ∧ RX W X s b c n v 0 0 false
  | .error q => ∃ m a', e = .returned (.string m) ∧ a' ≤ s.size ∧ RX W X s a' c n v q.1 q.2 true
/-- Where the reader stands with its duplicates. -/
def DupSt (l : List Pr) (m : ByteArray) (a k : Nat) (p q : Int) (o : Bool) : Prop :=
  (o = true ∧ p = a ∧ q = 5 ∧ hasF l m = true) ∨ (o = false ∧ p = 0 ∧ q = 0 ∧ hasF (l.drop k) m = hasF l m)
set_option maxHeartbeats 1000000 in
theorem name_overfalse {X : Nat} {s : ByteArray} {a : Nat} {c : Bool} {n : ByteArray} {v : Value} {p q : Int} (w : World) (hx : RX w X s a c n v p q true) :
    Calls Try.prog 43 #[.pointer (some ⟨X, 0, none⟩), .bool false] w fun e w' => Sc X w w' ∧ e = .returned (.string ⟨#[]⟩) ∧ RX w' X s a c n v p q true := by
  have h1 := hx.c1
  have h7 := hx.c7
  have hl := hx.lt
  have HX := Lib.hid hx
  clear hx
  go_enter Try.func43, Try.ntmps43
  go_wp2_with fail
  go_quiet (fail)
  go_wp2_with (go_at_call 45; refine (fail_again _ _ _ (HX.out.below (below_drewN (Below.refl _ _) nq))).mono ?_; rintro e w1 ⟨rfl, hsc1, hx1⟩)
  go_ret
  exact ⟨(Sc.of (below_drewN (Below.refl _ _) nq)).trans hsc1, rfl, hx1⟩
set_option maxHeartbeats 1000000 in
theorem name_overtrue {X : Nat} {s : ByteArray} {a : Nat} {c : Bool} {n : ByteArray} {v : Value} {p q : Int} (w : World) (hx : RX w X s a c n v p q true) :
    Calls Try.prog 43 #[.pointer (some ⟨X, 0, none⟩), .bool true] w fun e w' => Sc X w w' ∧ e = .returned (.string ⟨#[]⟩) ∧ RX w' X s a c n v p q true := by
  have h1 := hx.c1
  have h7 := hx.c7
  have hl := hx.lt
  have HX := Lib.hid hx
  clear hx
  go_enter Try.func43, Try.ntmps43
  go_wp2_with fail
  go_quiet (fail)
  go_wp2_with (go_at_call 45; refine (fail_again _ _ _ (HX.out.below (below_drewN (Below.refl _ _) nq))).mono ?_; rintro e w1 ⟨rfl, hsc1, hx1⟩)
  go_ret
  exact ⟨(Sc.of (below_drewN (Below.refl _ _) nq)).trans hsc1, rfl, hx1⟩
set_option maxHeartbeats 8000000 in
theorem rname_false {X : Nat} {s : ByteArray} {a : Nat} {c : Bool} {n : ByteArray} {v : Value} (hs : s.size ≤ 1000000) (ha : a ≤ s.size) (w : World) (hx : RX w X s a c n v 0 0 false) :
    Calls Try.prog 43 #[.pointer (some ⟨X, 0, none⟩), .bool false] w fun e w' => Sc X w w' ∧ NmPost w' X s c n v a (nameF s a) e := by
  have h0 := hx.c0
  have h1 := hx.c1
  have h7 := hx.c7
  have hl := hx.lt
  have HX := Lib.hid hx
  clear hx
  obtain ⟨R, hR⟩ : ∃ R, R = nameF s a := ⟨_, rfl⟩
  rw [← hR]
  unfold nameF at hR
  by_cases h : a < s.size
  · rw [dif_pos h] at hR
    cases hb : begF ((s[a]'h).toNat : Int) with
    | false =>
      rw [hb, if_neg (by simp)] at hR
      have HN := Lib.hid hR
      have HB := Lib.hid (First_any ((s[a]'h).toNat : Int))
      rw [hb] at HB
      clear hb hR
      go_enter Try.func43, Try.ntmps43
      go_wp2_with fail
      go_quiet ((go_at_call 34; exact Calls.quiet_of_same ((HB.out _).mono fun e w' h => ⟨h.1, h.2.symm⟩)))
      go_wp2_with (go_at_call 45; refine (fail_first _ _ _ (HX.out.below (below_drewN (Below.refl _ _) nq))).mono ?_; rintro e w1 ⟨rfl, hsc1, hx1⟩)
      go_ret
      exact ⟨(Sc.of (below_drewN (Below.refl _ _) nq)).trans hsc1, by rw [HN.out]; exact ⟨_, a, rfl, ha, hx1⟩⟩
    | true =>
      obtain ⟨e0, he0⟩ : ∃ e0, e0 = nameTo s s.size a := ⟨_, rfl⟩
      rw [hb, if_pos rfl, ← he0] at hR
      have hea : a ≤ e0 := by rw [he0]; exact nameTo_ge s _ _
      have hes : e0 ≤ s.size := by rw [he0]; exact nameTo_le s _ _ ha
      obtain ⟨m, hm⟩ : ∃ m, m = s.extract a e0 := ⟨_, rfl⟩
      have hms : m.size = e0 - a := by rw [hm, ByteArray.size_extract]; omega
      have HMM0 := Lib.hid hm
      have HR := Lib.hid hR
      clear hm hR
      have HE := Lib.hid he0
      clear he0
      have HB := Lib.hid (First_any ((s[a]'h).toNat : Int))
      rw [hb] at HB
      clear hb
      go_enter Try.func43, Try.ntmps43
      go_wp2_with fail
      go_quiet ((go_at_call 34; exact Calls.quiet_of_same ((HB.out _).mono fun e w' h => ⟨h.1, h.2.symm⟩)))
      obtain ⟨W0, hW0⟩ : ∃ W0, w.drewN nq = W0 := ⟨_, rfl⟩
      have hx0 : RX W0 X s a c n v 0 0 false := by rw [← hW0]; exact HX.out.below (below_drewN (Below.refl _ _) nq)
      have hs0 : Sc X w W0 := by rw [← hW0]; exact Sc.of (below_drewN (Below.refl _ _) nq)
      rw [hW0]
      have HX0 := Lib.hid hx0
      have HS0 := Lib.hid hs0
      clear hW0 hx0 hs0 h0 h1 h7 hl HB HX nq
      go_wp2_with fail
      go_loopw [48] (fun _ wr => ∃ b f, a ≤ b ∧ b ≤ s.size ∧ s.size ≤ b + f ∧ nameTo s f b = e0 ∧ RX wr X s b c n v 0 0 false ∧ Sc X w wr) (fun _ wr => s.size - atOf X wr)
      case atStart => exact ⟨a, s.size, by omega, by omega, by omega, HE.out.symm, HX0.out, HS0.out⟩
      case round =>
        obtain ⟨b, f, hab, hbs, hf, hn, hx, hsc⟩ := hrel
        have h0 := hx.c0
        have h1 := hx.c1
        have h4 := hx.c4
        have h7 := hx.c7
        have hl := hx.lt
        have hfz := hx.fz 1
        have HXb := Lib.hid hx
        have HSc := Lib.hid hsc
        clear hx hsc
        by_cases hb1 : b < s.size
        · obtain ⟨f, rfl⟩ : ∃ g, f = g + 1 := ⟨f - 1, by omega⟩
          rw [nameTo, dif_pos hb1] at hn
          cases ho : onF ((s[b]'hb1).toNat : Int) with
          | true =>
            rw [ho, if_pos rfl] at hn
            have HO := Lib.hid (Next_any ((s[b]'hb1).toNat : Int))
            rw [ho] at HO
            have HN := Lib.hid hn
            clear ho hn
            go_wp2_with fail
            go_quiet ((go_at_call 35; exact Calls.quiet_of_same ((HO.out _).mono fun e w' h => ⟨h.1, h.2.symm⟩)))
            go_wp2
            go_roundw
            case rel => exact ⟨b + 1, f, by omega, by omega, by omega, HN.out, (HXb.out.below (below_drewN (Below.refl _ _) nq)).inc, (HSc.out.trans (Sc.of (below_drewN (Below.refl _ _) nq))).trans (Sc.set X _ 1 _)⟩
            case measure =>
              rw [HXb.out.atOf, ((HXb.out.below (below_drewN (Below.refl _ _) nq)).inc).atOf]
              omega
          | false =>
            rw [ho, if_neg (by simp)] at hn
            subst hn
            have HO := Lib.hid (Next_any ((s[b]'hb1).toNat : Int))
            rw [ho] at HO
            clear ho
            have hN : R = (if 32 < b - a then (.error (a, 2) : Except (Nat × Int) Nat) else .ok b) := by
              rw [HR.out]
            have HMM := Lib.hid HMM0.out
            by_cases h32 : 32 < b - a
            · have h32m : (32 : Int) < m.size := by omega
              rw [if_pos h32] at hN
              have HN := Lib.hid hN
              clear hN h32
              go_wp2_with fail
              go_quiet ((go_at_call 35; exact Calls.quiet_of_same ((HO.out _).mono fun e w' h => ⟨h.1, h.2.symm⟩)))
              go_wp2_with fail
              obtain ⟨W5, hW5⟩ : ∃ W5, wr.drewN nq = W5 := ⟨_, rfl⟩
              have hx5 : RX W5 X s b c n v 0 0 false := by rw [← hW5]; exact HXb.out.below (below_drewN (Below.refl _ _) nq)
              have hs5 : Sc X w W5 := by rw [← hW5]; exact HSc.out.trans (Sc.of (below_drewN (Below.refl _ _) nq))
              rw [hW5]
              have k0 := hx5.c0
              have k1 := hx5.c1
              have kl := hx5.lt
              have HX5 := Lib.hid hx5
              have HS5 := Lib.hid hs5
              clear hW5 hx5 hs5 h0 h1 h4 h7 hl hfz HXb HSc nq
              go_quiet (fail)
              rw [← HMM.out]
              obtain ⟨W6, hW6⟩ : ∃ W6, W5.drewN nq = W6 := ⟨_, rfl⟩
              have hx6 : RX W6 X s b c n v 0 0 false := by rw [← hW6]; exact HX5.out.below (below_drewN (Below.refl _ _) nq)
              have hs6 : Sc X w W6 := by rw [← hW6]; exact HS5.out.trans (Sc.of (below_drewN (Below.refl _ _) nq))
              rw [hW6]
              have h4 := hx6.c4
              have h7 := hx6.c7
              have hl := hx6.lt
              clear HS5
              have H5 := Lib.hid hx6
              have HS5 := Lib.hid hs6
              clear hW6 hx6 hs6 k0 k1 kl HX5 nq
              go_wp2_with (go_at_call 45; refine (fail_first _ _ _ H5.out).mono ?_; rintro e w1 ⟨rfl, hsc1, hx1⟩; have h4 := hx1.c4; have hl := hx1.lt)
              go_ret
              exact ⟨HS5.out.trans hsc1, by rw [HN.out]; exact ⟨_, b, rfl, hbs, hx1⟩⟩
            · have h32m : ¬ (32 : Int) < m.size := by omega
              rw [if_neg h32] at hN
              have HN := Lib.hid hN
              clear hN h32
              go_wp2_with fail
              go_quiet ((go_at_call 35; exact Calls.quiet_of_same ((HO.out _).mono fun e w' h => ⟨h.1, h.2.symm⟩)))
              go_wp2_with fail
              obtain ⟨W5, hW5⟩ : ∃ W5, wr.drewN nq = W5 := ⟨_, rfl⟩
              have hx5 : RX W5 X s b c n v 0 0 false := by rw [← hW5]; exact HXb.out.below (below_drewN (Below.refl _ _) nq)
              have hs5 : Sc X w W5 := by rw [← hW5]; exact HSc.out.trans (Sc.of (below_drewN (Below.refl _ _) nq))
              rw [hW5]
              have k0 := hx5.c0
              have k1 := hx5.c1
              have kl := hx5.lt
              have HX5 := Lib.hid hx5
              have HS5 := Lib.hid hs5
              clear hW5 hx5 hs5 h0 h1 h4 h7 hl hfz HXb HSc nq
              go_quiet (fail)
              rw [← HMM.out]
              obtain ⟨W6, hW6⟩ : ∃ W6, W5.drewN nq = W6 := ⟨_, rfl⟩
              have hx6 : RX W6 X s b c n v 0 0 false := by rw [← hW6]; exact HX5.out.below (below_drewN (Below.refl _ _) nq)
              have hs6 : Sc X w W6 := by rw [← hW6]; exact HS5.out.trans (Sc.of (below_drewN (Below.refl _ _) nq))
              rw [hW6]
              have h4 := hx6.c4
              have h7 := hx6.c7
              have hl := hx6.lt
              clear HS5
              have H5 := Lib.hid hx6
              have HS5 := Lib.hid hs6
              clear hW6 hx6 hs6 k0 k1 kl HX5 nq
              go_wp2
              go_ret
              exact ⟨HS5.out, by rw [HN.out]; exact ⟨hbs, (by rw [← HMM.out]; rfl), H5.out⟩⟩
        · obtain rfl : b = s.size := by omega
          rw [nameTo_end s f _ hb1] at hn
          subst hn
          have hN : R = (if 32 < s.size - a then (.error (a, 2) : Except (Nat × Int) Nat) else .ok s.size) := by
            rw [HR.out]
          have HMM := Lib.hid HMM0.out
          by_cases h32 : 32 < s.size - a
          · have h32m : (32 : Int) < m.size := by omega
            rw [if_pos h32] at hN
            have HN := Lib.hid hN
            clear hN h32
            go_wp2_with fail
            go_quiet (fail)
            go_wp2_with fail
            obtain ⟨W5, hW5⟩ : ∃ W5, wr.drewN nq = W5 := ⟨_, rfl⟩
            have hx5 : RX W5 X s s.size c n v 0 0 false := by rw [← hW5]; exact HXb.out.below (below_drewN (Below.refl _ _) nq)
            have hs5 : Sc X w W5 := by rw [← hW5]; exact HSc.out.trans (Sc.of (below_drewN (Below.refl _ _) nq))
            rw [hW5]
            have k0 := hx5.c0
            have k1 := hx5.c1
            have kl := hx5.lt
            have HX5 := Lib.hid hx5
            have HS5 := Lib.hid hs5
            clear hW5 hx5 hs5 h0 h1 h4 h7 hl hfz HXb HSc nq
            go_quiet (fail)
            rw [← HMM.out]
            obtain ⟨W6, hW6⟩ : ∃ W6, W5.drewN nq = W6 := ⟨_, rfl⟩
            have hx6 : RX W6 X s s.size c n v 0 0 false := by rw [← hW6]; exact HX5.out.below (below_drewN (Below.refl _ _) nq)
            have hs6 : Sc X w W6 := by rw [← hW6]; exact HS5.out.trans (Sc.of (below_drewN (Below.refl _ _) nq))
            rw [hW6]
            have h4 := hx6.c4
            have h7 := hx6.c7
            have hl := hx6.lt
            clear HS5
            have H5 := Lib.hid hx6
            have HS5 := Lib.hid hs6
            clear hW6 hx6 hs6 k0 k1 kl HX5 nq
            go_wp2_with (go_at_call 45; refine (fail_first _ _ _ H5.out).mono ?_; rintro e w1 ⟨rfl, hsc1, hx1⟩; have h4 := hx1.c4; have hl := hx1.lt)
            go_ret
            exact ⟨HS5.out.trans hsc1, by rw [HN.out]; exact ⟨_, s.size, rfl, hbs, hx1⟩⟩
          · have h32m : ¬ (32 : Int) < m.size := by omega
            rw [if_neg h32] at hN
            have HN := Lib.hid hN
            clear hN h32
            go_wp2_with fail
            go_quiet (fail)
            go_wp2_with fail
            obtain ⟨W5, hW5⟩ : ∃ W5, wr.drewN nq = W5 := ⟨_, rfl⟩
            have hx5 : RX W5 X s s.size c n v 0 0 false := by rw [← hW5]; exact HXb.out.below (below_drewN (Below.refl _ _) nq)
            have hs5 : Sc X w W5 := by rw [← hW5]; exact HSc.out.trans (Sc.of (below_drewN (Below.refl _ _) nq))
            rw [hW5]
            have k0 := hx5.c0
            have k1 := hx5.c1
            have kl := hx5.lt
            have HX5 := Lib.hid hx5
            have HS5 := Lib.hid hs5
            clear hW5 hx5 hs5 h0 h1 h4 h7 hl hfz HXb HSc nq
            go_quiet (fail)
            rw [← HMM.out]
            obtain ⟨W6, hW6⟩ : ∃ W6, W5.drewN nq = W6 := ⟨_, rfl⟩
            have hx6 : RX W6 X s s.size c n v 0 0 false := by rw [← hW6]; exact HX5.out.below (below_drewN (Below.refl _ _) nq)
            have hs6 : Sc X w W6 := by rw [← hW6]; exact HS5.out.trans (Sc.of (below_drewN (Below.refl _ _) nq))
            rw [hW6]
            have h4 := hx6.c4
            have h7 := hx6.c7
            have hl := hx6.lt
            clear HS5
            have H5 := Lib.hid hx6
            have HS5 := Lib.hid hs6
            clear hW6 hx6 hs6 k0 k1 kl HX5 nq
            go_wp2
            go_ret
            exact ⟨HS5.out, by rw [HN.out]; exact ⟨hbs, (by rw [← HMM.out]; rfl), H5.out⟩⟩
  · rw [dif_neg h] at hR
    have HN := Lib.hid hR
    clear hR
    obtain rfl : a = s.size := by omega
    go_enter Try.func43, Try.ntmps43
    go_wp2_with fail
    go_quiet (fail)
    go_wp2_with (go_at_call 45; refine (fail_first _ _ _ (HX.out.below (below_drewN (Below.refl _ _) nq))).mono ?_; rintro e w1 ⟨rfl, hsc1, hx1⟩)
    go_ret
    exact ⟨(Sc.of (below_drewN (Below.refl _ _) nq)).trans hsc1, by rw [HN.out]; exact ⟨_, s.size, rfl, ha, hx1⟩⟩
set_option maxHeartbeats 8000000 in
theorem rname_true {X : Nat} {s : ByteArray} {a : Nat} {c : Bool} {n : ByteArray} {v : Value} (hs : s.size ≤ 1000000) (ha : a ≤ s.size) (w : World) (hx : RX w X s a c n v 0 0 false) {l : List Pr} (hown : OwnsP w (X + 1) v l) (h8l : l.length ≤ 8) :
    Calls Try.prog 43 #[.pointer (some ⟨X, 0, none⟩), .bool true] w fun e w' => Sc X w w' ∧ NmPost w' X s c n v a (nameK s a l) e := by
  have h0 := hx.c0
  have h1 := hx.c1
  have h7 := hx.c7
  have hl := hx.lt
  have HX := Lib.hid hx
  clear hx
  obtain ⟨ad, cap, hrd⟩ := hown.rd
  have HRD := Lib.hid hrd
  obtain rfl := hrd.eq
  have HOW := Lib.hid hown
  clear hown hrd
  obtain ⟨R, hR⟩ : ∃ R, R = nameK s a l := ⟨_, rfl⟩
  rw [← hR]
  unfold nameK at hR
  unfold nameF at hR
  by_cases h : a < s.size
  · rw [dif_pos h] at hR
    cases hb : begF ((s[a]'h).toNat : Int) with
    | false =>
      rw [hb, if_neg (by simp)] at hR
      have HN := Lib.hid hR
      have HB := Lib.hid (First_any ((s[a]'h).toNat : Int))
      rw [hb] at HB
      clear hb hR
      go_enter Try.func43, Try.ntmps43
      go_wp2_with fail
      go_quiet ((go_at_call 34; exact Calls.quiet_of_same ((HB.out _).mono fun e w' h => ⟨h.1, h.2.symm⟩)))
      go_wp2_with (go_at_call 45; refine (fail_first _ _ _ (HX.out.below (below_drewN (Below.refl _ _) nq))).mono ?_; rintro e w1 ⟨rfl, hsc1, hx1⟩)
      go_ret
      exact ⟨(Sc.of (below_drewN (Below.refl _ _) nq)).trans hsc1, by rw [HN.out]; exact ⟨_, a, rfl, ha, hx1⟩⟩
    | true =>
      obtain ⟨e0, he0⟩ : ∃ e0, e0 = nameTo s s.size a := ⟨_, rfl⟩
      rw [hb, if_pos rfl, ← he0] at hR
      have hea : a ≤ e0 := by rw [he0]; exact nameTo_ge s _ _
      have hes : e0 ≤ s.size := by rw [he0]; exact nameTo_le s _ _ ha
      obtain ⟨m, hm⟩ : ∃ m, m = s.extract a e0 := ⟨_, rfl⟩
      have hms : m.size = e0 - a := by rw [hm, ByteArray.size_extract]; omega
      have HMM0 := Lib.hid hm
      have HR := Lib.hid hR
      clear hm hR
      have HE := Lib.hid he0
      clear he0
      have HB := Lib.hid (First_any ((s[a]'h).toNat : Int))
      rw [hb] at HB
      clear hb
      go_enter Try.func43, Try.ntmps43
      go_wp2_with fail
      go_quiet ((go_at_call 34; exact Calls.quiet_of_same ((HB.out _).mono fun e w' h => ⟨h.1, h.2.symm⟩)))
      obtain ⟨W0, hW0⟩ : ∃ W0, w.drewN nq = W0 := ⟨_, rfl⟩
      have hx0 : RX W0 X s a c n (.slice ad l.length cap) 0 0 false := by rw [← hW0]; exact HX.out.below (below_drewN (Below.refl _ _) nq)
      have hs0 : Sc X w W0 := by rw [← hW0]; exact Sc.of (below_drewN (Below.refl _ _) nq)
      rw [hW0]
      have HX0 := Lib.hid hx0
      have HS0 := Lib.hid hs0
      clear hW0 hx0 hs0 h0 h1 h7 hl HB HX nq
      go_wp2_with fail
      go_loopw [48] (fun _ wr => ∃ b f, a ≤ b ∧ b ≤ s.size ∧ s.size ≤ b + f ∧ nameTo s f b = e0 ∧ RX wr X s b c n (.slice ad l.length cap) 0 0 false ∧ Sc X w wr) (fun _ wr => s.size - atOf X wr)
      case atStart => exact ⟨a, s.size, by omega, by omega, by omega, HE.out.symm, HX0.out, HS0.out⟩
      case round =>
        obtain ⟨b, f, hab, hbs, hf, hn, hx, hsc⟩ := hrel
        have h0 := hx.c0
        have h1 := hx.c1
        have h4 := hx.c4
        have h7 := hx.c7
        have hl := hx.lt
        have hfz := hx.fz 1
        have HXb := Lib.hid hx
        have HSc := Lib.hid hsc
        clear hx hsc
        by_cases hb1 : b < s.size
        · obtain ⟨f, rfl⟩ : ∃ g, f = g + 1 := ⟨f - 1, by omega⟩
          rw [nameTo, dif_pos hb1] at hn
          cases ho : onF ((s[b]'hb1).toNat : Int) with
          | true =>
            rw [ho, if_pos rfl] at hn
            have HO := Lib.hid (Next_any ((s[b]'hb1).toNat : Int))
            rw [ho] at HO
            have HN := Lib.hid hn
            clear ho hn
            go_wp2_with fail
            go_quiet ((go_at_call 35; exact Calls.quiet_of_same ((HO.out _).mono fun e w' h => ⟨h.1, h.2.symm⟩)))
            go_wp2
            go_roundw
            case rel => exact ⟨b + 1, f, by omega, by omega, by omega, HN.out, (HXb.out.below (below_drewN (Below.refl _ _) nq)).inc, (HSc.out.trans (Sc.of (below_drewN (Below.refl _ _) nq))).trans (Sc.set X _ 1 _)⟩
            case measure =>
              rw [HXb.out.atOf, ((HXb.out.below (below_drewN (Below.refl _ _) nq)).inc).atOf]
              omega
          | false =>
            rw [ho, if_neg (by simp)] at hn
            subst hn
            have HO := Lib.hid (Next_any ((s[b]'hb1).toNat : Int))
            rw [ho] at HO
            clear ho
            have hN : R = (if 32 < b - a then (.error (a, 2) : Except (Nat × Int) Nat) else if hasF l m = true then .error (a, 5) else if l.length = 8 then .error (a, 2) else .ok b) := by
              rw [HR.out]
              rw [HMM0.out]
              by_cases hz : 32 < b - a
              · simp only [if_pos hz]
              · simp only [if_neg hz]
            have HMM := Lib.hid HMM0.out
            by_cases h32 : 32 < b - a
            · have h32m : (32 : Int) < m.size := by omega
              rw [if_pos h32] at hN
              have HN := Lib.hid hN
              clear hN h32
              go_wp2_with fail
              go_quiet ((go_at_call 35; exact Calls.quiet_of_same ((HO.out _).mono fun e w' h => ⟨h.1, h.2.symm⟩)))
              go_wp2_with fail
              obtain ⟨W5, hW5⟩ : ∃ W5, wr.drewN nq = W5 := ⟨_, rfl⟩
              have hx5 : RX W5 X s b c n (.slice ad l.length cap) 0 0 false := by rw [← hW5]; exact HXb.out.below (below_drewN (Below.refl _ _) nq)
              have hs5 : Sc X w W5 := by rw [← hW5]; exact HSc.out.trans (Sc.of (below_drewN (Below.refl _ _) nq))
              rw [hW5]
              have k0 := hx5.c0
              have k1 := hx5.c1
              have kl := hx5.lt
              have HX5 := Lib.hid hx5
              have HS5 := Lib.hid hs5
              clear hW5 hx5 hs5 h0 h1 h4 h7 hl hfz HXb HSc nq
              go_quiet (fail)
              rw [← HMM.out]
              obtain ⟨W6, hW6⟩ : ∃ W6, W5.drewN nq = W6 := ⟨_, rfl⟩
              have hx6 : RX W6 X s b c n (.slice ad l.length cap) 0 0 false := by rw [← hW6]; exact HX5.out.below (below_drewN (Below.refl _ _) nq)
              have hs6 : Sc X w W6 := by rw [← hW6]; exact HS5.out.trans (Sc.of (below_drewN (Below.refl _ _) nq))
              rw [hW6]
              have h4 := hx6.c4
              have h7 := hx6.c7
              have hl := hx6.lt
              clear HS5
              have H5 := Lib.hid hx6
              have HS5 := Lib.hid hs6
              clear hW6 hx6 hs6 k0 k1 kl HX5 nq
              go_wp2_with (go_at_call 45; refine (fail_first _ _ _ H5.out).mono ?_; rintro e w1 ⟨rfl, hsc1, hx1⟩; have h4 := hx1.c4; have hl := hx1.lt)
              have HS7 := Lib.hid (HS5.out.trans hsc1)
              clear HS5 H5 hsc1
              have HS5 := Lib.hid HS7.out
              have H5 := Lib.hid hx1
              clear HS7 hx1
              go_loopw [100] (fun i wr => ∃ k : Nat, i = .int .i64 k ∧ k ≤ l.length ∧ RX wr X s b c n (.slice ad l.length cap) a 2 true ∧ Sc X w wr) (fun i _ => l.length - (intOf i).toNat)
              case atStart => exact ⟨0, rfl, by omega, H5.out, HS5.out⟩
              case round =>
                obtain ⟨k, rfl, hk, hx, hsc⟩ := hrel
                have h4 := hx.c4
                have hl := hx.lt
                have HXb := Lib.hid hx
                have HR2 := Lib.hid (rd_sc HOW.out hsc (Nat.lt_succ_self X) HRD.out)
                have HSc := Lib.hid hsc
                clear hx hsc
                by_cases hk1 : k < l.length
                · have hk1' : (k : Int) < l.length := by omega
                  obtain ⟨p, hp⟩ : ∃ p, l[k]? = some p := ⟨l[k], List.getElem?_eq_getElem hk1⟩
                  obtain ⟨B, O, rfl, hc0, hc1⟩ := HR2.out.cells k p hp
                  clear hp
                  cases hq : (p.1.toList == m.toList) with
                  | true =>
                    go_wp2_with (go_at_call 45; refine (fail_again _ _ _ (HXb.out.below (b0 _ _))).mono ?_; rintro e w1 ⟨rfl, hsc1, hx1⟩)
                    go_roundw
                    case rel => exact ⟨k + 1, by go_num, by omega, hx1, (HSc.out.trans (Sc.of (b0 _ _))).trans hsc1⟩
                    case measure => simp [intOf]; omega
                  | false =>
                    go_wp2
                    go_roundw
                    case rel => exact ⟨k + 1, by go_num, by omega, HXb.out.below (b0 _ _), HSc.out.trans (Sc.of (b0 _ _))⟩
                    case measure => simp [intOf]; omega
                · have hk1' : ¬ (k : Int) < l.length := by omega
                  by_cases h8 : (8 : Int) ≤ l.length
                  · go_wp2_with (go_at_call 45; refine (fail_again _ _ _ HXb.out).mono ?_; rintro e w1 ⟨rfl, hsc1, hx1⟩)
                    go_ret
                    exact ⟨HSc.out.trans hsc1, by rw [HN.out]; exact ⟨_, b, rfl, hbs, hx1⟩⟩
                  · go_wp2
                    go_ret
                    exact ⟨HSc.out, by rw [HN.out]; exact ⟨_, b, rfl, hbs, HXb.out⟩⟩
            · have h32m : ¬ (32 : Int) < m.size := by omega
              rw [if_neg h32] at hN
              have HN := Lib.hid hN
              clear hN h32
              go_wp2_with fail
              go_quiet ((go_at_call 35; exact Calls.quiet_of_same ((HO.out _).mono fun e w' h => ⟨h.1, h.2.symm⟩)))
              go_wp2_with fail
              obtain ⟨W5, hW5⟩ : ∃ W5, wr.drewN nq = W5 := ⟨_, rfl⟩
              have hx5 : RX W5 X s b c n (.slice ad l.length cap) 0 0 false := by rw [← hW5]; exact HXb.out.below (below_drewN (Below.refl _ _) nq)
              have hs5 : Sc X w W5 := by rw [← hW5]; exact HSc.out.trans (Sc.of (below_drewN (Below.refl _ _) nq))
              rw [hW5]
              have k0 := hx5.c0
              have k1 := hx5.c1
              have kl := hx5.lt
              have HX5 := Lib.hid hx5
              have HS5 := Lib.hid hs5
              clear hW5 hx5 hs5 h0 h1 h4 h7 hl hfz HXb HSc nq
              go_quiet (fail)
              rw [← HMM.out]
              obtain ⟨W6, hW6⟩ : ∃ W6, W5.drewN nq = W6 := ⟨_, rfl⟩
              have hx6 : RX W6 X s b c n (.slice ad l.length cap) 0 0 false := by rw [← hW6]; exact HX5.out.below (below_drewN (Below.refl _ _) nq)
              have hs6 : Sc X w W6 := by rw [← hW6]; exact HS5.out.trans (Sc.of (below_drewN (Below.refl _ _) nq))
              rw [hW6]
              have h4 := hx6.c4
              have h7 := hx6.c7
              have hl := hx6.lt
              clear HS5
              have H5 := Lib.hid hx6
              have HS5 := Lib.hid hs6
              clear hW6 hx6 hs6 k0 k1 kl HX5 nq
              go_wp2_with fail
              go_loopw [100] (fun i wr => ∃ (k : Nat) (p q : Int) (o : Bool), i = .int .i64 k ∧ k ≤ l.length ∧ DupSt l m a k p q o ∧ RX wr X s b c n (.slice ad l.length cap) p q o ∧ Sc X w wr) (fun i _ => l.length - (intOf i).toNat)
              case atStart => exact ⟨0, 0, 0, false, rfl, by omega, .inr ⟨rfl, rfl, rfl, by simp⟩, H5.out, HS5.out⟩
              case round =>
                obtain ⟨k, p0, q0, o, rfl, hk, hst, hx, hsc⟩ := hrel
                have h4 := hx.c4
                have hl := hx.lt
                have HXb := Lib.hid hx
                have HR2 := Lib.hid (rd_sc HOW.out hsc (Nat.lt_succ_self X) HRD.out)
                have HSc := Lib.hid hsc
                clear hx hsc
                by_cases hk1 : k < l.length
                · have hk1' : (k : Int) < l.length := by omega
                  obtain ⟨p, hp⟩ : ∃ p, l[k]? = some p := ⟨l[k], List.getElem?_eq_getElem hk1⟩
                  have hd : hasF (l.drop k) m = (p.1.toList == m.toList || hasF (l.drop (k + 1)) m) := by
                    rw [List.drop_eq_getElem_cons hk1]
                    rw [List.getElem?_eq_getElem hk1] at hp
                    cases hp
                    rfl
                  obtain ⟨B, O, rfl, hc0, hc1⟩ := HR2.out.cells k p hp
                  clear hp
                  cases hq : (p.1.toList == m.toList) with
                  | true =>
                    rw [hq, Bool.true_or] at hd
                    have HST : Hid (DupSt l m a (k + 1) (if o = true then p0 else a) (if o = true then q0 else 5) true) := Lib.hid (by
                      rcases hst with ⟨rfl, rfl, rfl, h⟩ | ⟨rfl, rfl, rfl, h⟩
                      · exact .inl ⟨rfl, rfl, rfl, h⟩
                      · exact .inl ⟨rfl, rfl, rfl, h.symm.trans hd⟩)
                    clear hst hd
                    go_wp2_with (go_at_call 45; refine (fail_any _ _ _ (HXb.out.below (b0 _ _))).mono ?_; rintro e w1 ⟨rfl, hsc1, hx1⟩)
                    go_roundw
                    case rel => exact ⟨k + 1, _, _, _, by go_num, by omega, HST.out, hx1, (HSc.out.trans (Sc.of (b0 _ _))).trans hsc1⟩
                    case measure => simp [intOf]; omega
                  | false =>
                    rw [hq, Bool.false_or] at hd
                    have HST : Hid (DupSt l m a (k + 1) p0 q0 o) := Lib.hid (by
                      rcases hst with ⟨rfl, rfl, rfl, h⟩ | ⟨rfl, rfl, rfl, h⟩
                      · exact .inl ⟨rfl, rfl, rfl, h⟩
                      · exact .inr ⟨rfl, rfl, rfl, hd.symm.trans h⟩)
                    clear hst hd
                    go_wp2
                    go_roundw
                    case rel => exact ⟨k + 1, _, _, _, by go_num, by omega, HST.out, HXb.out.below (b0 _ _), HSc.out.trans (Sc.of (b0 _ _))⟩
                    case measure => simp [intOf]; omega
                · have hk1' : ¬ (k : Int) < l.length := by omega
                  have HST := Lib.hid hst
                  clear hst
                  by_cases h8 : (8 : Int) ≤ l.length
                  · go_wp2_with (go_at_call 45; refine (fail_any _ _ _ HXb.out).mono ?_; rintro e w1 ⟨rfl, hsc1, hx1⟩)
                    go_ret
                    refine ⟨HSc.out.trans hsc1, ?_⟩
                    rw [HN.out]
                    rcases HST.out with ⟨rfl, rfl, rfl, h⟩ | ⟨rfl, rfl, rfl, h⟩
                    · rw [if_pos h]
                      exact ⟨_, b, rfl, hbs, hx1⟩
                    · rw [List.drop_eq_nil_of_le (by omega)] at h
                      rw [if_neg (by rw [← h]; simp [hasF]), if_pos (by omega)]
                      exact ⟨_, b, rfl, hbs, hx1⟩
                  · go_wp2
                    go_ret
                    refine ⟨HSc.out, ?_⟩
                    rw [HN.out]
                    rcases HST.out with ⟨rfl, rfl, rfl, h⟩ | ⟨rfl, rfl, rfl, h⟩
                    · rw [if_pos h]
                      exact ⟨_, b, rfl, hbs, HXb.out⟩
                    · rw [List.drop_eq_nil_of_le (by omega)] at h
                      rw [if_neg (by rw [← h]; simp [hasF]), if_neg (by omega)]
                      exact ⟨hbs, (by rw [← HMM.out]; rfl), HXb.out⟩
        · obtain rfl : b = s.size := by omega
          rw [nameTo_end s f _ hb1] at hn
          subst hn
          have hN : R = (if 32 < s.size - a then (.error (a, 2) : Except (Nat × Int) Nat) else if hasF l m = true then .error (a, 5) else if l.length = 8 then .error (a, 2) else .ok s.size) := by
            rw [HR.out]
            rw [HMM0.out]
            by_cases hz : 32 < s.size - a
            · simp only [if_pos hz]
            · simp only [if_neg hz]
          have HMM := Lib.hid HMM0.out
          by_cases h32 : 32 < s.size - a
          · have h32m : (32 : Int) < m.size := by omega
            rw [if_pos h32] at hN
            have HN := Lib.hid hN
            clear hN h32
            go_wp2_with fail
            go_quiet (fail)
            go_wp2_with fail
            obtain ⟨W5, hW5⟩ : ∃ W5, wr.drewN nq = W5 := ⟨_, rfl⟩
            have hx5 : RX W5 X s s.size c n (.slice ad l.length cap) 0 0 false := by rw [← hW5]; exact HXb.out.below (below_drewN (Below.refl _ _) nq)
            have hs5 : Sc X w W5 := by rw [← hW5]; exact HSc.out.trans (Sc.of (below_drewN (Below.refl _ _) nq))
            rw [hW5]
            have k0 := hx5.c0
            have k1 := hx5.c1
            have kl := hx5.lt
            have HX5 := Lib.hid hx5
            have HS5 := Lib.hid hs5
            clear hW5 hx5 hs5 h0 h1 h4 h7 hl hfz HXb HSc nq
            go_quiet (fail)
            rw [← HMM.out]
            obtain ⟨W6, hW6⟩ : ∃ W6, W5.drewN nq = W6 := ⟨_, rfl⟩
            have hx6 : RX W6 X s s.size c n (.slice ad l.length cap) 0 0 false := by rw [← hW6]; exact HX5.out.below (below_drewN (Below.refl _ _) nq)
            have hs6 : Sc X w W6 := by rw [← hW6]; exact HS5.out.trans (Sc.of (below_drewN (Below.refl _ _) nq))
            rw [hW6]
            have h4 := hx6.c4
            have h7 := hx6.c7
            have hl := hx6.lt
            clear HS5
            have H5 := Lib.hid hx6
            have HS5 := Lib.hid hs6
            clear hW6 hx6 hs6 k0 k1 kl HX5 nq
            go_wp2_with (go_at_call 45; refine (fail_first _ _ _ H5.out).mono ?_; rintro e w1 ⟨rfl, hsc1, hx1⟩; have h4 := hx1.c4; have hl := hx1.lt)
            have HS7 := Lib.hid (HS5.out.trans hsc1)
            clear HS5 H5 hsc1
            have HS5 := Lib.hid HS7.out
            have H5 := Lib.hid hx1
            clear HS7 hx1
            go_loopw [100] (fun i wr => ∃ k : Nat, i = .int .i64 k ∧ k ≤ l.length ∧ RX wr X s s.size c n (.slice ad l.length cap) a 2 true ∧ Sc X w wr) (fun i _ => l.length - (intOf i).toNat)
            case atStart => exact ⟨0, rfl, by omega, H5.out, HS5.out⟩
            case round =>
              obtain ⟨k, rfl, hk, hx, hsc⟩ := hrel
              have h4 := hx.c4
              have hl := hx.lt
              have HXb := Lib.hid hx
              have HR2 := Lib.hid (rd_sc HOW.out hsc (Nat.lt_succ_self X) HRD.out)
              have HSc := Lib.hid hsc
              clear hx hsc
              by_cases hk1 : k < l.length
              · have hk1' : (k : Int) < l.length := by omega
                obtain ⟨p, hp⟩ : ∃ p, l[k]? = some p := ⟨l[k], List.getElem?_eq_getElem hk1⟩
                obtain ⟨B, O, rfl, hc0, hc1⟩ := HR2.out.cells k p hp
                clear hp
                cases hq : (p.1.toList == m.toList) with
                | true =>
                  go_wp2_with (go_at_call 45; refine (fail_again _ _ _ (HXb.out.below (b0 _ _))).mono ?_; rintro e w1 ⟨rfl, hsc1, hx1⟩)
                  go_roundw
                  case rel => exact ⟨k + 1, by go_num, by omega, hx1, (HSc.out.trans (Sc.of (b0 _ _))).trans hsc1⟩
                  case measure => simp [intOf]; omega
                | false =>
                  go_wp2
                  go_roundw
                  case rel => exact ⟨k + 1, by go_num, by omega, HXb.out.below (b0 _ _), HSc.out.trans (Sc.of (b0 _ _))⟩
                  case measure => simp [intOf]; omega
              · have hk1' : ¬ (k : Int) < l.length := by omega
                by_cases h8 : (8 : Int) ≤ l.length
                · go_wp2_with (go_at_call 45; refine (fail_again _ _ _ HXb.out).mono ?_; rintro e w1 ⟨rfl, hsc1, hx1⟩)
                  go_ret
                  exact ⟨HSc.out.trans hsc1, by rw [HN.out]; exact ⟨_, s.size, rfl, hbs, hx1⟩⟩
                · go_wp2
                  go_ret
                  exact ⟨HSc.out, by rw [HN.out]; exact ⟨_, s.size, rfl, hbs, HXb.out⟩⟩
          · have h32m : ¬ (32 : Int) < m.size := by omega
            rw [if_neg h32] at hN
            have HN := Lib.hid hN
            clear hN h32
            go_wp2_with fail
            go_quiet (fail)
            go_wp2_with fail
            obtain ⟨W5, hW5⟩ : ∃ W5, wr.drewN nq = W5 := ⟨_, rfl⟩
            have hx5 : RX W5 X s s.size c n (.slice ad l.length cap) 0 0 false := by rw [← hW5]; exact HXb.out.below (below_drewN (Below.refl _ _) nq)
            have hs5 : Sc X w W5 := by rw [← hW5]; exact HSc.out.trans (Sc.of (below_drewN (Below.refl _ _) nq))
            rw [hW5]
            have k0 := hx5.c0
            have k1 := hx5.c1
            have kl := hx5.lt
            have HX5 := Lib.hid hx5
            have HS5 := Lib.hid hs5
            clear hW5 hx5 hs5 h0 h1 h4 h7 hl hfz HXb HSc nq
            go_quiet (fail)
            rw [← HMM.out]
            obtain ⟨W6, hW6⟩ : ∃ W6, W5.drewN nq = W6 := ⟨_, rfl⟩
            have hx6 : RX W6 X s s.size c n (.slice ad l.length cap) 0 0 false := by rw [← hW6]; exact HX5.out.below (below_drewN (Below.refl _ _) nq)
            have hs6 : Sc X w W6 := by rw [← hW6]; exact HS5.out.trans (Sc.of (below_drewN (Below.refl _ _) nq))
            rw [hW6]
            have h4 := hx6.c4
            have h7 := hx6.c7
            have hl := hx6.lt
            clear HS5
            have H5 := Lib.hid hx6
            have HS5 := Lib.hid hs6
            clear hW6 hx6 hs6 k0 k1 kl HX5 nq
            go_wp2_with fail
            go_loopw [100] (fun i wr => ∃ (k : Nat) (p q : Int) (o : Bool), i = .int .i64 k ∧ k ≤ l.length ∧ DupSt l m a k p q o ∧ RX wr X s s.size c n (.slice ad l.length cap) p q o ∧ Sc X w wr) (fun i _ => l.length - (intOf i).toNat)
            case atStart => exact ⟨0, 0, 0, false, rfl, by omega, .inr ⟨rfl, rfl, rfl, by simp⟩, H5.out, HS5.out⟩
            case round =>
              obtain ⟨k, p0, q0, o, rfl, hk, hst, hx, hsc⟩ := hrel
              have h4 := hx.c4
              have hl := hx.lt
              have HXb := Lib.hid hx
              have HR2 := Lib.hid (rd_sc HOW.out hsc (Nat.lt_succ_self X) HRD.out)
              have HSc := Lib.hid hsc
              clear hx hsc
              by_cases hk1 : k < l.length
              · have hk1' : (k : Int) < l.length := by omega
                obtain ⟨p, hp⟩ : ∃ p, l[k]? = some p := ⟨l[k], List.getElem?_eq_getElem hk1⟩
                have hd : hasF (l.drop k) m = (p.1.toList == m.toList || hasF (l.drop (k + 1)) m) := by
                  rw [List.drop_eq_getElem_cons hk1]
                  rw [List.getElem?_eq_getElem hk1] at hp
                  cases hp
                  rfl
                obtain ⟨B, O, rfl, hc0, hc1⟩ := HR2.out.cells k p hp
                clear hp
                cases hq : (p.1.toList == m.toList) with
                | true =>
                  rw [hq, Bool.true_or] at hd
                  have HST : Hid (DupSt l m a (k + 1) (if o = true then p0 else a) (if o = true then q0 else 5) true) := Lib.hid (by
                    rcases hst with ⟨rfl, rfl, rfl, h⟩ | ⟨rfl, rfl, rfl, h⟩
                    · exact .inl ⟨rfl, rfl, rfl, h⟩
                    · exact .inl ⟨rfl, rfl, rfl, h.symm.trans hd⟩)
                  clear hst hd
                  go_wp2_with (go_at_call 45; refine (fail_any _ _ _ (HXb.out.below (b0 _ _))).mono ?_; rintro e w1 ⟨rfl, hsc1, hx1⟩)
                  go_roundw
                  case rel => exact ⟨k + 1, _, _, _, by go_num, by omega, HST.out, hx1, (HSc.out.trans (Sc.of (b0 _ _))).trans hsc1⟩
                  case measure => simp [intOf]; omega
                | false =>
                  rw [hq, Bool.false_or] at hd
                  have HST : Hid (DupSt l m a (k + 1) p0 q0 o) := Lib.hid (by
                    rcases hst with ⟨rfl, rfl, rfl, h⟩ | ⟨rfl, rfl, rfl, h⟩
                    · exact .inl ⟨rfl, rfl, rfl, h⟩
                    · exact .inr ⟨rfl, rfl, rfl, hd.symm.trans h⟩)
                  clear hst hd
                  go_wp2
                  go_roundw
                  case rel => exact ⟨k + 1, _, _, _, by go_num, by omega, HST.out, HXb.out.below (b0 _ _), HSc.out.trans (Sc.of (b0 _ _))⟩
                  case measure => simp [intOf]; omega
              · have hk1' : ¬ (k : Int) < l.length := by omega
                have HST := Lib.hid hst
                clear hst
                by_cases h8 : (8 : Int) ≤ l.length
                · go_wp2_with (go_at_call 45; refine (fail_any _ _ _ HXb.out).mono ?_; rintro e w1 ⟨rfl, hsc1, hx1⟩)
                  go_ret
                  refine ⟨HSc.out.trans hsc1, ?_⟩
                  rw [HN.out]
                  rcases HST.out with ⟨rfl, rfl, rfl, h⟩ | ⟨rfl, rfl, rfl, h⟩
                  · rw [if_pos h]
                    exact ⟨_, s.size, rfl, hbs, hx1⟩
                  · rw [List.drop_eq_nil_of_le (by omega)] at h
                    rw [if_neg (by rw [← h]; simp [hasF]), if_pos (by omega)]
                    exact ⟨_, s.size, rfl, hbs, hx1⟩
                · go_wp2
                  go_ret
                  refine ⟨HSc.out, ?_⟩
                  rw [HN.out]
                  rcases HST.out with ⟨rfl, rfl, rfl, h⟩ | ⟨rfl, rfl, rfl, h⟩
                  · rw [if_pos h]
                    exact ⟨_, s.size, rfl, hbs, HXb.out⟩
                  · rw [List.drop_eq_nil_of_le (by omega)] at h
                    rw [if_neg (by rw [← h]; simp [hasF]), if_neg (by omega)]
                    exact ⟨hbs, (by rw [← HMM.out]; rfl), HXb.out⟩
  · rw [dif_neg h] at hR
    have HN := Lib.hid hR
    clear hR
    obtain rfl : a = s.size := by omega
    go_enter Try.func43, Try.ntmps43
    go_wp2_with fail
    go_quiet (fail)
    go_wp2_with (go_at_call 45; refine (fail_first _ _ _ (HX.out.below (below_drewN (Below.refl _ _) nq))).mono ?_; rintro e w1 ⟨rfl, hsc1, hx1⟩)
    go_ret
    exact ⟨(Sc.of (below_drewN (Below.refl _ _) nq)).trans hsc1, by rw [HN.out]; exact ⟨_, s.size, rfl, ha, hx1⟩⟩
end Go.Proofs.Ytaaegelefknkeab
