/- The scanner's value. -/
import Derived.Test.YtaaegelefknkeabMsH
import Derived.StillTailTactics
import Derived.Deep.RegionWith
namespace Go.Proofs.Ytaaegelefknkeab
open Go.RowKit Go.Shelf
set_option linter.unusedSimpArgs false

/-- How far a raw value goes. -/
def rawTo (s : ByteArray) : Nat → Nat → Nat
  | 0, a => a
  | f + 1, a => if h : a < s.size then (if (s[a]'h).toNat ≠ 34 ∧ (s[a]'h).toNat ≠ 60 ∧ (s[a]'h).toNat ≠ 62 then rawTo s f (a + 1) else a) else a
theorem rawTo_end (s : ByteArray) (f a : Nat) (h : ¬ a < s.size) : rawTo s f a = a := by
  cases f with
  | zero => rfl
  | succ f => unfold rawTo; rw [dif_neg h]
/-- A raw value at place a: what it stands for and the place behind its quote, or the fault. -/
def valueF (s : ByteArray) (a : Nat) : Except (Nat × Int) (ByteArray × Nat) :=
  if seesF s (rawTo s s.size a) 34 = true then
    match unF (s.extract a (rawTo s s.size a)) (s.extract a (rawTo s s.size a)).size 0 ⟨#[]⟩ with
    | .error i => .error (a + i, 3)
    | .ok v => if vvF v = 0 then .ok (v, rawTo s s.size a + 1) else .error (a, vvF v)
  else .error (rawTo s s.size a, 3)

theorem unF_err (s : ByteArray) : ∀ f i o j, unF s f i o = .error j → i ≤ j ∧ j < s.size := by
  intro f
  induction f with
  | zero => intro i o j h; unfold unF at h; cases h
  | succ f ih =>
    intro i o j h
    by_cases hi : i < s.size
    · rw [unF, dif_pos hi] at h
      split at h
      · have := ih _ _ _ h
        omega
      · split at h
        · cases h; omega
        · have := ih _ _ _ h
          omega
    · rw [unF_end s _ _ _ hi] at h
      cases h
theorem unF_len (s : ByteArray) : ∀ f i o v, i ≤ s.size → unF s f i o = .ok v → v.size ≤ o.size + (s.size - i) := by
  intro f
  induction f with
  | zero => intro i o v _ h; unfold unF at h; cases h; omega
  | succ f ih =>
    intro i o v hl h
    by_cases hi : i < s.size
    · rw [unF, dif_pos hi] at h
      split at h
      · have := ih _ _ _ (by omega) h
        rw [ByteArray.size_append, show (ByteArray.mk #[s[i]'hi]).size = 1 from rfl] at this
        omega
      · split at h
        · cases h
        · rename_i hn
          have hb := (escF_bounds (s.extract i s.size)).1
          have he := encode_size_le (escF (s.extract i s.size)).1
          have hz : (s.extract i s.size).size = s.size - i := by rw [ByteArray.size_extract]; omega
          have := ih _ _ _ (by omega) h
          rw [ByteArray.size_append] at this
          omega
    · rw [unF_end s _ _ _ hi] at h
      cases h
      omega
theorem eat_no {X : Nat} {s : ByteArray} {a : Nat} {c : Int} (hs : s.size ≤ 140737488351232) (h : seesF s a c = false) (w : World) (hx : SX w X s a) (ha : a ≤ s.size) :
    Calls Try.prog 52 #[.pointer (some ⟨X, 0, none⟩), .int .u8 c] w fun e w' => e = .panicked [{ v := .iface 59 (.agg #[.int .i64 a, .int .i64 3]), recovered := false }] ∧ Sc X w w' := by
  refine (eat_any X s a c hs w hx ha).mono ?_
  rintro e w' ⟨h1, h2⟩
  rw [h, if_neg (by simp)] at h2
  exact ⟨h2, h1⟩
theorem eat_yes {X : Nat} {s : ByteArray} {a : Nat} {c : Int} (hs : s.size ≤ 140737488351232) (h : seesF s a c = true) (w : World) (hx : SX w X s a) (ha : a ≤ s.size) :
    Calls Try.prog 52 #[.pointer (some ⟨X, 0, none⟩), .int .u8 c] w fun e w' => e = .returned (.tuple #[]) ∧ Sc X w w' ∧ SX w' X s (a + 1) := by
  refine (eat_any X s a c hs w hx ha).mono ?_
  rintro e w' ⟨h1, h2⟩
  rw [h, if_pos rfl] at h2
  exact ⟨h2.1, h1, h2.2⟩
theorem valueF_no {s : ByteArray} {a b : Nat} (h : b = rawTo s s.size a) (h2 : seesF s b 34 = false) : valueF s a = .error (b, 3) := by
  unfold valueF
  rw [← h, h2, if_neg (by simp)]

/-- How a value's reading ends. -/
def ValPost (X : Nat) (s : ByteArray) (r : Except (Nat × Int) (ByteArray × Nat)) (e : Ending) (w' : World) : Prop :=
  match r with | .ok q => e = .returned (.string q.1) ∧ SX w' X s q.2 | .error q => e = faultV q.1 q.2

set_option maxHeartbeats 4000000 in
theorem value_any (X : Nat) (s : ByteArray) (a : Nat) (hs : s.size ≤ 1000000) (w : World) (hx : SX w X s a) (ha : a ≤ s.size) :
    Calls Try.prog 59 #[.pointer (some ⟨X, 0, none⟩)] w fun e w' => Sc X w w' ∧ ValPost X s (valueF s a) e w' := by
  have h0 := hx.c0
  have h1 := hx.c1
  have hl := hx.lt
  have HX := Lib.hid hx
  obtain ⟨r, hr⟩ : ∃ r, r = valueF s a := ⟨_, rfl⟩
  rw [← hr]
  have HR := Lib.hid hr
  clear hx hr
  go_enter Try.func59, Try.ntmps59
  go_wp2_with fail
  go_loopw [12] (fun _ wr => ∃ b f, a ≤ b ∧ b ≤ s.size ∧ s.size ≤ b + f ∧ rawTo s f b = rawTo s s.size a ∧ SX wr X s b ∧ Sc X w wr) (fun _ wr => s.size - atOf X wr)
  case atStart => exact ⟨a, s.size, by omega, by omega, by omega, rfl, HX.out, Sc.refl _ _⟩
  case round =>
    obtain ⟨b, f, hab, hbs, hf, hn, hx, hsc⟩ := hrel
    clear h0 h1 hl
    have h0 := hx.c0
    have h1 := hx.c1
    have hl := hx.lt
    have hfz := hx.fz 1
    have HXb := Lib.hid hx
    have HSc := Lib.hid hsc
    clear hx hsc
    by_cases hb1 : b < s.size
    · obtain ⟨f, rfl⟩ : ∃ g, f = g + 1 := ⟨f - 1, by omega⟩
      rw [rawTo, dif_pos hb1] at hn
      cases h34 : (((s[b]'hb1).toNat : Int) != 34) with
      | false =>
        have e34 : (s[b]'hb1).toNat = 34 := by simp at h34; omega
        rw [if_neg (fun h => h.1 e34)] at hn
        have hsee : seesF s b 34 = true := by unfold seesF; rw [dif_pos hb1, decide_eq_true (by omega)]
        have hval : valueF s a = (match unF (s.extract a b) (s.extract a b).size 0 ⟨#[]⟩ with | .error i => .error (a + i, 3) | .ok v => if vvF v = 0 then .ok (v, b + 1) else .error (a, vvF v)) := by
          unfold valueF
          rw [← hn, hsee, if_pos rfl]
        obtain ⟨q, hq⟩ : ∃ q, q = s.extract a b := ⟨_, rfl⟩
        have hqs : q.size ≤ s.size := by rw [hq, ByteArray.size_extract]; omega
        have hU := Unescape_any q (by omega)
        rw [← hq] at hval
        have HS := Lib.hid hsee
        have HV : Hid (r = _) := Lib.hid (HR.out.trans hval)
        have HQ := Lib.hid hq
        clear hn hsee hval e34 hq
        generalize hD : unF q q.size 0 ⟨#[]⟩ = D at hU HV
        have hDi : ∀ i, D = .error i → i ≤ q.size := fun i h => by have := (unF_err q _ _ _ i (hD.trans h)).2; omega
        have hDv : ∀ v, D = .ok v → v.size ≤ 4 * q.size := fun v h => by have := unF_len q _ _ _ v (Nat.zero_le _) (hD.trans h); rw [show (ByteArray.mk #[]).size = 0 from rfl] at this; omega
        clear hD
        go_wp2_with fail
        go_quiet (fail)
        go_wp2_with (go_at_call 52; refine (eat_yes (by omega) HS.out _ (HXb.out.below (below_drewN (Below.refl _ _) nq)) (by omega)).mono ?_; rintro e w1 ⟨rfl, hsc1, hx1⟩)
        have hsc2 : Sc X w w1 := (HSc.out.trans (Sc.of (below_drewN (Below.refl _ _) nq))).trans hsc1
        have HSc2 := Lib.hid hsc2
        have HX1 := Lib.hid hx1
        clear hsc1 hsc2 h0 h1 hl hfz
        have k0 := hx1.c0
        have k1 := hx1.c1
        have kl := hx1.lt
        clear hx1
        have hwr : IntKind.i64.wrap (b : Int) = (b : Int) := IntWalk.i64_in _ (by omega)
        have k1 : w1.cell? ⟨X, 1, none⟩ = some (.int .i64 ((b : Int) + 1)) := k1
        have hab' : (a : Int) ≤ b := by omega
        have hbs' : (b : Int) ≤ s.size := by omega
        have hsl : ∀ W', (Instr.slice 9 (.string s) (some (.int .i64 (a : Int))) (some (.int .i64 (b : Int))) none).run Try.prog W' = .ok (.string q) W' := fun W' => by
          rw [run_slice_string W' 9 s .i64 .i64 _ _ Try.underlying9 (by omega) (by omega) (by omega), HQ.out]
          congr 3
        cases D with
        | error i =>
          have hiq := hDi i rfl
          have hiq2 : (i : Int) ≤ 1000000 := by omega
          clear hDi hDv
          simp only [unV] at hU
          dsimp only at HV
          have HU := Lib.hid hU
          clear hU
          go_region_with (go_at_call 21; refine (HU.out _).mono ?_; rintro e w2 ⟨rfl, hb2⟩)
          all_goals
            go_wp2
            exact ⟨rfl, HSc2.out.trans (Sc.of ⟨hb2.os, hb2.tape, hb2.output, hb2.size, hb2.block⟩), by rw [HV.out]; exact rfl⟩
        | ok v =>
          have hvs := hDv v rfl
          have hvs2 : v.size ≤ 140737488351232 := by omega
          clear hDi hDv
          simp only [unV] at hU
          dsimp only at HV
          have HU := Lib.hid hU
          clear hU
          have hVV := ValidValue_any v hvs2
          generalize vvF v = x at hVV HV
          have HVV := Lib.hid hVV
          clear hVV
          go_region_with (go_at_call 21; refine (HU.out _).mono ?_; rintro e w2 ⟨rfl, hb2⟩)
          all_goals
            have hx2 := HX1.out.below (W' := w2) ⟨hb2.os, hb2.tape, hb2.output, hb2.size, hb2.block⟩
            have hs2 : Sc X w w2 := HSc2.out.trans (Sc.of ⟨hb2.os, hb2.tape, hb2.output, hb2.size, hb2.block⟩)
            have HX2 := Lib.hid hx2
            have HS2 := Lib.hid hs2
            clear hb2 hx2 hs2 k0 k1 kl
            by_cases hx : x = 0
            · subst hx
              go_wp2_with (go_at_call 17; refine (HVV.out _).mono ?_; rintro e w3 ⟨rfl, hb3⟩)
              go_ret
              exact ⟨HS2.out.trans (Sc.of hb3), by rw [HV.out]; exact ⟨rfl, HX2.out.below hb3⟩⟩
            · have e0 : (x != 0) = true := by simp [hx]
              have Hx := Lib.hid hx
              clear hx
              go_wp2_with (go_at_call 17; refine (HVV.out _).mono ?_; rintro e w3 ⟨rfl, hb3⟩)
              exact ⟨rfl, HS2.out.trans (Sc.of hb3), by rw [HV.out, if_neg Hx.out]; exact rfl⟩
      | true =>
        cases h60 : (((s[b]'hb1).toNat : Int) != 60) with
        | false =>
          have e60 : (s[b]'hb1).toNat = 60 := by simp at h60; omega
          rw [if_neg (fun h => h.2.1 e60)] at hn
          have hsee : seesF s b 34 = false := by unfold seesF; rw [dif_pos hb1, decide_eq_false (by omega)]
          clear e60
          have HS := Lib.hid hsee
          have HV : Hid (r = .error (b, 3)) := by rw [HR.out]; exact valueF_no hn hsee
          clear hn hsee
          go_wp2_with fail
          go_quiet (fail)
          go_wp2_with (go_at_call 52; refine (eat_no (by omega) HS.out _ (HXb.out.below (below_drewN (Below.refl _ _) nq)) (by omega)).mono ?_; rintro e w1 ⟨rfl, hsc1⟩)
          exact ⟨rfl, (HSc.out.trans (Sc.of (below_drewN (Below.refl _ _) nq))).trans hsc1, by rw [HV.out]; exact rfl⟩
        | true =>
          cases h62 : (((s[b]'hb1).toNat : Int) != 62) with
          | false =>
            have e62 : (s[b]'hb1).toNat = 62 := by simp at h62; omega
            rw [if_neg (fun h => h.2.2 e62)] at hn
            have hsee : seesF s b 34 = false := by unfold seesF; rw [dif_pos hb1, decide_eq_false (by omega)]
            clear e62
            have HS := Lib.hid hsee
            have HV : Hid (r = .error (b, 3)) := by rw [HR.out]; exact valueF_no hn hsee
            clear hn hsee
            go_wp2_with fail
            go_quiet (fail)
            go_wp2_with (go_at_call 52; refine (eat_no (by omega) HS.out _ (HXb.out.below (below_drewN (Below.refl _ _) nq)) (by omega)).mono ?_; rintro e w1 ⟨rfl, hsc1⟩)
            exact ⟨rfl, (HSc.out.trans (Sc.of (below_drewN (Below.refl _ _) nq))).trans hsc1, by rw [HV.out]; exact rfl⟩
          | true =>
            have hgo : (s[b]'hb1).toNat ≠ 34 ∧ (s[b]'hb1).toNat ≠ 60 ∧ (s[b]'hb1).toNat ≠ 62 := ⟨fun h => by rw [h] at h34; simp at h34, fun h => by rw [h] at h60; simp at h60, fun h => by rw [h] at h62; simp at h62⟩
            rw [if_pos hgo] at hn
            have HN := Lib.hid hn
            clear hn hgo
            go_wp2_with fail
            go_quiet (fail)
            go_wp2
            go_roundw
            case rel => exact ⟨b + 1, f, by omega, by omega, by omega, HN.out, (HXb.out.below (below_drewN (Below.refl _ _) nq)).set (b + 1), (HSc.out.trans (Sc.of (below_drewN (Below.refl _ _) nq))).trans (Sc.set X _ 1 _)⟩
            case measure =>
              rw [HXb.out.atOf, ((HXb.out.below (below_drewN (Below.refl _ _) nq)).inc).atOf]
              omega
    · rw [rawTo_end s f b hb1] at hn
      have hsee : seesF s b 34 = false := by unfold seesF; rw [dif_neg hb1]
      have HS := Lib.hid hsee
      have HV : Hid (r = .error (b, 3)) := by rw [HR.out]; exact valueF_no hn hsee
      clear hn hsee
      go_wp2_with fail
      go_quiet (fail)
      go_wp2_with (go_at_call 52; refine (eat_no (by omega) HS.out _ (HXb.out.below (below_drewN (Below.refl _ _) nq)) (by omega)).mono ?_; rintro e w1 ⟨rfl, hsc1⟩)
      exact ⟨rfl, (HSc.out.trans (Sc.of (below_drewN (Below.refl _ _) nq))).trans hsc1, by rw [HV.out]; exact rfl⟩
end Go.Proofs.Ytaaegelefknkeab
