/- The reference's reader: want's uses; value. -/
import Derived.Test.YtaaegelefknkeabNvA
import Derived.Test.YtaaegelefknkeabNtJ
import Derived.Test.YtaaegelefknkeabNtQ
namespace Go.Proofs.Ytaaegelefknkeab
open Go.RowKit Go.Shelf
set_option linter.unusedSimpArgs false
set_option linter.unusedVariables false

section
variable {X : Nat} {s : ByteArray} {a : Nat} {c : Bool} {n : ByteArray} {v : Value} {p q : Int}
theorem want1_yes (ch : UInt8) {d : Int} (hd : (ch.toNat : Int) = d) (hs : s.size ≤ 1000000) (ha : a ≤ s.size) (h : seesF s a d = true) (w : World) (hx : RX w X s a c n v 0 0 false) :
    Calls Try.prog 42 #[.pointer (some ⟨X, 0, none⟩), .string ⟨#[ch]⟩] w fun e w' => e = .returned (.tuple #[]) ∧ Sc X w w' ∧ RX w' X s (a + 1) c n v 0 0 false := by
  refine (want_any (x := ⟨#[ch]⟩) hs (by show 1 ≤ 1000000; omega) ha w hx).mono ?_
  rintro e w' ⟨h1, h2, h3⟩
  have hw : wantF s ⟨#[ch]⟩ (ByteArray.mk #[ch]).size a = .ok (a + 1) := by
    show (if seesF s a ((ch.toNat : Nat) : Int) = true then _ else _) = _
    rw [hd, h]
    rfl
  rw [hw] at h3
  exact ⟨h1, h2, h3.2⟩
theorem want1_no (ch : UInt8) {d : Int} (hd : (ch.toNat : Int) = d) (hs : s.size ≤ 1000000) (ha : a ≤ s.size) (h : seesF s a d = false) (w : World) (hx : RX w X s a c n v 0 0 false) :
    Calls Try.prog 42 #[.pointer (some ⟨X, 0, none⟩), .string ⟨#[ch]⟩] w fun e w' => e = .returned (.tuple #[]) ∧ Sc X w w' ∧ RX w' X s a c n v a 3 true := by
  refine (want_any (x := ⟨#[ch]⟩) hs (by show 1 ≤ 1000000; omega) ha w hx).mono ?_
  rintro e w' ⟨h1, h2, h3⟩
  have hw : wantF s ⟨#[ch]⟩ (ByteArray.mk #[ch]).size a = .error a := by
    show (if seesF s a ((ch.toNat : Nat) : Int) = true then _ else _) = _
    rw [hd, h]
    rfl
  rw [hw] at h3
  exact ⟨h1, h2, h3.2⟩
theorem want2_yes (hs : s.size ≤ 1000000) (ha : a ≤ s.size) (h : seesF s a 61 = true) (h' : seesF s (a + 1) 34 = true) (w : World) (hx : RX w X s a c n v 0 0 false) :
    Calls Try.prog 42 #[.pointer (some ⟨X, 0, none⟩), .string ⟨#[61, 34]⟩] w fun e w' => e = .returned (.tuple #[]) ∧ Sc X w w' ∧ RX w' X s (a + 2) c n v 0 0 false := by
  refine (want_any (x := ⟨#[61, 34]⟩) hs (by show 2 ≤ 1000000; omega) ha w hx).mono ?_
  rintro e w' ⟨h1, h2, h3⟩
  have hw : wantF s ⟨#[61, 34]⟩ (ByteArray.mk #[61, 34]).size a = .ok (a + 2) := by
    show (if seesF s a 61 = true then (if seesF s (a + 1) 34 = true then _ else _) else _) = _
    rw [h, h']
    rfl
  rw [hw] at h3
  exact ⟨h1, h2, h3.2⟩
theorem want2_no1 (hs : s.size ≤ 1000000) (ha : a ≤ s.size) (h : seesF s a 61 = false) (w : World) (hx : RX w X s a c n v 0 0 false) :
    Calls Try.prog 42 #[.pointer (some ⟨X, 0, none⟩), .string ⟨#[61, 34]⟩] w fun e w' => e = .returned (.tuple #[]) ∧ Sc X w w' ∧ RX w' X s a c n v a 3 true := by
  refine (want_any (x := ⟨#[61, 34]⟩) hs (by show 2 ≤ 1000000; omega) ha w hx).mono ?_
  rintro e w' ⟨h1, h2, h3⟩
  have hw : wantF s ⟨#[61, 34]⟩ (ByteArray.mk #[61, 34]).size a = .error a := by
    show (if seesF s a 61 = true then (if seesF s (a + 1) 34 = true then _ else _) else _) = _
    rw [h]
    rfl
  rw [hw] at h3
  exact ⟨h1, h2, h3.2⟩
theorem want2_no2 (hs : s.size ≤ 1000000) (ha : a ≤ s.size) (h : seesF s a 61 = true) (h' : seesF s (a + 1) 34 = false) (w : World) (hx : RX w X s a c n v 0 0 false) :
    Calls Try.prog 42 #[.pointer (some ⟨X, 0, none⟩), .string ⟨#[61, 34]⟩] w fun e w' => e = .returned (.tuple #[]) ∧ Sc X w w' ∧ RX w' X s (a + 1) c n v ((a + 1 : Nat) : Int) 3 true := by
  refine (want_any (x := ⟨#[61, 34]⟩) hs (by show 2 ≤ 1000000; omega) ha w hx).mono ?_
  rintro e w' ⟨h1, h2, h3⟩
  have hw : wantF s ⟨#[61, 34]⟩ (ByteArray.mk #[61, 34]).size a = .error (a + 1) := by
    show (if seesF s a 61 = true then (if seesF s (a + 1) 34 = true then _ else _) else _) = _
    rw [h, h']
    rfl
  rw [hw] at h3
  exact ⟨h1, h2, h3.2⟩
end
/-- What a value's reading leaves. -/
def VlPost (W : World) (X : Nat) (s : ByteArray) (c : Bool) (n : ByteArray) (v : Value) (r : Except (Nat × Int) (ByteArray × Nat)) (e : Ending) : Prop :=
  match r with
  | .ok q => q.2 ≤ s.size ∧ e = .returned (.string q.1) ∧ RX W X s q.2 c n v 0 0 false
  | .error q => ∃ m a', e = .returned (.string m) ∧ a' ≤ s.size ∧ RX W X s a' c n v q.1 q.2 true

set_option maxHeartbeats 4000000 in
theorem rvalue_any {X : Nat} {s : ByteArray} {a : Nat} {c : Bool} {n : ByteArray} {v : Value} (hs : s.size ≤ 1000000) (ha : a ≤ s.size) (w : World) (hx : RX w X s a c n v 0 0 false) :
    Calls Try.prog 44 #[.pointer (some ⟨X, 0, none⟩)] w fun e w' => Sc X w w' ∧ VlPost w' X s c n v (valueF s a) e := by
  have h0 := hx.c0
  have h1 := hx.c1
  have hl := hx.lt
  have HX := Lib.hid hx
  obtain ⟨r, hr⟩ : ∃ r, r = valueF s a := ⟨_, rfl⟩
  rw [← hr]
  have HR := Lib.hid hr
  clear hx hr
  go_enter Try.func44, Try.ntmps44
  go_wp2_with fail
  go_loopw [13] (fun _ wr => ∃ b f, a ≤ b ∧ b ≤ s.size ∧ s.size ≤ b + f ∧ rawTo s f b = rawTo s s.size a ∧ RX wr X s b c n v 0 0 false ∧ Sc X w wr) (fun _ wr => s.size - atOf X wr)
  case atStart => exact ⟨a, s.size, by omega, by omega, by omega, rfl, HX.out, Sc.refl _ _⟩
  case round =>
    obtain ⟨b, f, hab, hbs, hf, hn, hx, hsc⟩ := hrel
    clear h0 h1 hl
    have h0 := hx.c0
    have h1 := hx.c1
    have hl := hx.lt
    have hfz := hx.fz 1
    have HXb := Lib.hid hx
    have HSc := Lib.hid hsc
    clear hx hsc
    by_cases hb1 : b < s.size
    · obtain ⟨f, rfl⟩ : ∃ g, f = g + 1 := ⟨f - 1, by omega⟩
      rw [rawTo, dif_pos hb1] at hn
      cases h34 : (((s[b]'hb1).toNat : Int) != 34) with
      | false =>
        have e34 : (s[b]'hb1).toNat = 34 := by simp at h34; omega
        rw [if_neg (fun h => h.1 e34)] at hn
        have hsee : seesF s b 34 = true := by unfold seesF; rw [dif_pos hb1, decide_eq_true (by omega)]
        have hval : valueF s a = (match unF (s.extract a b) (s.extract a b).size 0 ⟨#[]⟩ with | .error i => .error (a + i, 3) | .ok v => if vvF v = 0 then .ok (v, b + 1) else .error (a, vvF v)) := by
          unfold valueF
          rw [← hn, hsee, if_pos rfl]
          rfl
        obtain ⟨q, hq⟩ : ∃ q, q = s.extract a b := ⟨_, rfl⟩
        have hqs : q.size ≤ s.size := by rw [hq, ByteArray.size_extract]; omega
        have hU := RUnescape_any q (by omega)
        rw [← hq] at hval
        have HS := Lib.hid hsee
        have HV : Hid (r = _) := Lib.hid (HR.out.trans hval)
        have HQ := Lib.hid hq
        clear hn hsee hval e34 hq
        generalize hD : unF q q.size 0 ⟨#[]⟩ = D at hU HV
        have hDi : ∀ i, D = .error i → i ≤ q.size := fun i h => by have := (unF_err q _ _ _ i (hD.trans h)).2; omega
        clear hD
        go_wp2_with fail
        go_quiet (fail)
        obtain ⟨W5, hW5⟩ : ∃ W5, wr.drewN nq = W5 := ⟨_, rfl⟩
        have hx5 : RX W5 X s b c n v 0 0 false := by rw [← hW5]; exact HXb.out.below (below_drewN (Below.refl _ _) nq)
        have hs5 : Sc X w W5 := by rw [← hW5]; exact HSc.out.trans (Sc.of (below_drewN (Below.refl _ _) nq))
        rw [hW5]
        clear h0 h1 hl hfz HXb HSc hW5 nq
        have h1 := hx5.c1
        have hl := hx5.lt
        have HX5 := Lib.hid hx5
        have HS5 := Lib.hid hs5
        clear hx5 hs5
        have hab' : (a : Int) ≤ b := by omega
        have hbs' : (b : Int) ≤ s.size := by omega
        have hsl : ∀ W', (Instr.slice 9 (.string s) (some (.int .i64 (a : Int))) (some (.int .i64 (b : Int))) none).run Try.prog W' = .ok (.string q) W' := fun W' => by
          rw [run_slice_string W' 9 s .i64 .i64 _ _ Try.underlying9 (by omega) (by omega) (by omega), HQ.out]
          congr 3
        cases D with
        | error i =>
          have hiq := hDi i rfl
          have hiq2 : (i : Int) ≤ 1000000 := by omega
          clear hDi
          simp only [unV] at hU
          dsimp only at HV
          have HU := Lib.hid hU
          clear hU
          go_wp2_with (first | (go_at_call 42; refine (want1_yes 34 (d := 34) rfl hs (by omega) HS.out _ HX5.out).mono ?_; rintro e w1 ⟨rfl, hsc1, hx1⟩; have k0 := hx1.c0; have k7 := hx1.c7; have kl := hx1.lt) | (go_at_call 22; refine (HU.out _).mono ?_; rintro e w2 ⟨rfl, hb2⟩) | (go_at_call 45; refine (fail_first _ _ _ (hx1.below hb2)).mono ?_; rintro e w3 ⟨rfl, hsc3, hx3⟩))
          go_ret
          refine ⟨((HS5.out.trans hsc1).trans (Sc.of hb2)).trans hsc3, ?_⟩
          rw [HV.out]
          exact ⟨_, b + 1, rfl, by omega, hx3⟩
        | ok u =>
          clear hDi
          simp only [unV] at hU
          dsimp only at HV
          have HU := Lib.hid hU
          clear hU
          have hVV := RValidValue_all u
          generalize vvF u = x at hVV HV
          have HVV := Lib.hid hVV
          clear hVV
          by_cases hx : x = 0
          · subst hx
            go_wp2_with (first | (go_at_call 42; refine (want1_yes 34 (d := 34) rfl hs (by omega) HS.out _ HX5.out).mono ?_; rintro e w1 ⟨rfl, hsc1, hx1⟩; have k0 := hx1.c0; have k7 := hx1.c7; have kl := hx1.lt) | (go_at_call 22; refine (HU.out _).mono ?_; rintro e w2 ⟨rfl, hb2⟩) | (go_at_call 18; refine (HVV.out _).mono ?_; rintro e w3 ⟨rfl, hb3⟩))
            go_ret
            refine ⟨((HS5.out.trans hsc1).trans (Sc.of hb2)).trans (Sc.of hb3), ?_⟩
            rw [HV.out]
            exact ⟨by show b + 1 ≤ s.size; omega, rfl, (hx1.below hb2).below hb3⟩
          · have e0 : (x != 0) = true := by simp [hx]
            have Hx := Lib.hid hx
            clear hx
            go_wp2_with (first | (go_at_call 42; refine (want1_yes 34 (d := 34) rfl hs (by omega) HS.out _ HX5.out).mono ?_; rintro e w1 ⟨rfl, hsc1, hx1⟩; have k0 := hx1.c0; have k7 := hx1.c7; have kl := hx1.lt) | (go_at_call 22; refine (HU.out _).mono ?_; rintro e w2 ⟨rfl, hb2⟩) | (go_at_call 18; refine (HVV.out _).mono ?_; rintro e w3 ⟨rfl, hb3⟩) | (go_at_call 45; refine (fail_first _ _ _ ((hx1.below hb2).below hb3)).mono ?_; rintro e w4 ⟨rfl, hsc4, hx4⟩))
            go_ret
            refine ⟨(((HS5.out.trans hsc1).trans (Sc.of hb2)).trans (Sc.of hb3)).trans hsc4, ?_⟩
            rw [HV.out, if_neg Hx.out]
            exact ⟨_, b + 1, rfl, by omega, hx4⟩
      | true =>
        cases h60 : (((s[b]'hb1).toNat : Int) != 60) with
        | false =>
          have e60 : (s[b]'hb1).toNat = 60 := by simp at h60; omega
          rw [if_neg (fun h => h.2.1 e60)] at hn
          have hsee : seesF s b 34 = false := by unfold seesF; rw [dif_pos hb1, decide_eq_false (by omega)]
          clear e60
          have HS := Lib.hid hsee
          have HV : Hid (r = .error (b, 3)) := by rw [HR.out]; exact valueF_no hn hsee
          clear hn hsee
          go_wp2_with fail
          go_quiet (fail)
          have HXq := Lib.hid (HXb.out.below (below_drewN (Below.refl _ _) nq))
          have h1 := HXq.out.c1
          have hl := HXq.out.lt
          go_wp2_with (go_at_call 42; refine (want1_no 34 (d := 34) rfl hs (by omega) HS.out _ HXq.out).mono ?_; rintro e w1 ⟨rfl, hsc1, hx1⟩; have k7 := hx1.c7; have kl := hx1.lt)
          go_ret
          exact ⟨(HSc.out.trans (Sc.of (below_drewN (Below.refl _ _) nq))).trans hsc1, by rw [HV.out]; exact ⟨_, b, rfl, hbs, hx1⟩⟩
        | true =>
          cases h62 : (((s[b]'hb1).toNat : Int) != 62) with
          | false =>
            have e62 : (s[b]'hb1).toNat = 62 := by simp at h62; omega
            rw [if_neg (fun h => h.2.2 e62)] at hn
            have hsee : seesF s b 34 = false := by unfold seesF; rw [dif_pos hb1, decide_eq_false (by omega)]
            clear e62
            have HS := Lib.hid hsee
            have HV : Hid (r = .error (b, 3)) := by rw [HR.out]; exact valueF_no hn hsee
            clear hn hsee
            go_wp2_with fail
            go_quiet (fail)
            have HXq := Lib.hid (HXb.out.below (below_drewN (Below.refl _ _) nq))
            have h1 := HXq.out.c1
            have hl := HXq.out.lt
            go_wp2_with (go_at_call 42; refine (want1_no 34 (d := 34) rfl hs (by omega) HS.out _ HXq.out).mono ?_; rintro e w1 ⟨rfl, hsc1, hx1⟩; have k7 := hx1.c7; have kl := hx1.lt)
            go_ret
            exact ⟨(HSc.out.trans (Sc.of (below_drewN (Below.refl _ _) nq))).trans hsc1, by rw [HV.out]; exact ⟨_, b, rfl, hbs, hx1⟩⟩
          | true =>
            have hgo : (s[b]'hb1).toNat ≠ 34 ∧ (s[b]'hb1).toNat ≠ 60 ∧ (s[b]'hb1).toNat ≠ 62 := ⟨fun h => by rw [h] at h34; simp at h34, fun h => by rw [h] at h60; simp at h60, fun h => by rw [h] at h62; simp at h62⟩
            rw [if_pos hgo] at hn
            have HN := Lib.hid hn
            clear hn hgo
            go_wp2_with fail
            go_quiet (fail)
            go_wp2
            go_roundw
            case rel => exact ⟨b + 1, f, by omega, by omega, by omega, HN.out, (HXb.out.below (below_drewN (Below.refl _ _) nq)).inc, (HSc.out.trans (Sc.of (below_drewN (Below.refl _ _) nq))).trans (Sc.set X _ 1 _)⟩
            case measure =>
              rw [HXb.out.atOf, ((HXb.out.below (below_drewN (Below.refl _ _) nq)).inc).atOf]
              omega
    · obtain rfl : b = s.size := by omega
      rw [rawTo_end s f _ hb1] at hn
      have hsee : seesF s s.size 34 = false := by unfold seesF; rw [dif_neg hb1]
      have HS := Lib.hid hsee
      have HV : Hid (r = .error (s.size, 3)) := by rw [HR.out]; exact valueF_no hn hsee
      clear hn hsee
      go_wp2_with fail
      go_quiet (fail)
      have HXq := Lib.hid (HXb.out.below (below_drewN (Below.refl _ _) nq))
      have h1 := HXq.out.c1
      have hl := HXq.out.lt
      go_wp2_with (go_at_call 42; refine (want1_no 34 (d := 34) rfl hs (by omega) HS.out _ HXq.out).mono ?_; rintro e w1 ⟨rfl, hsc1, hx1⟩; have k7 := hx1.c7; have kl := hx1.lt)
      go_ret
      exact ⟨(HSc.out.trans (Sc.of (below_drewN (Below.refl _ _) nq))).trans hsc1, by rw [HV.out]; exact ⟨_, s.size, rfl, hbs, hx1⟩⟩

theorem tag_of_any {W : World} {B : Nat} {x y z : Value} {t : TypeId} (h : W.heap[B]? = some (.cells #[x, y, z] t (0, 0))) :
    W.cell? ⟨B, 0, none⟩ = some x ∧ W.cell? ⟨B, 1, none⟩ = some y ∧ W.cell? ⟨B, 2, none⟩ = some z := ⟨(tag_of_row h).1, (tag_of_row h).2.1, (tag_of_row h).2.2.1⟩

set_option maxHeartbeats 4000000 in
theorem equal_same (c : Bool) (n : ByteArray) (l : List Pr) (v v' : Value) (a a' : Option Addr) (cap cap' : Nat) (w : World) (h : RdP w v l a cap) (h' : RdP w v' l a' cap') :
    Calls Try.prog 25 #[.agg #[.bool c, .string n, v], .agg #[.bool c, .string n, v']] w fun e w' => e = .returned (.bool true) ∧ Below w.heap.size w w' := by
  obtain rfl := h.eq
  obtain rfl := h'.eq
  have hmx : l.length ≤ 9223372036854775807 := Nat.le_trans h.le h.max
  obtain ⟨W1, hW1⟩ : ∃ W1, w.alloc (.cells #[.bool c, .string n, .slice a l.length cap] 33) = W1 := ⟨_, rfl⟩
  obtain ⟨W2, hW2⟩ : ∃ W2, W1.alloc (.cells #[.bool c, .string n, .slice a' l.length cap'] 36) = W2 := ⟨_, rfl⟩
  have z1 : W1.heap.size = w.heap.size + 1 := by rw [← hW1, World.size_alloc]
  have b1 : Below w.heap.size w W1 := by rw [← hW1]; exact b0 w _
  have b2 : Below W1.heap.size W1 W2 := by rw [← hW2]; exact b0 W1 _
  have r1 : W2.heap[w.heap.size]? = some (.cells #[.bool c, .string n, .slice a l.length cap] 33 (0, 0)) := by
    rw [b2.block _ (by omega), ← hW1]; exact heap_alloc_new w _
  have r2 : W2.heap[w.heap.size + 1]? = some (.cells #[.bool c, .string n, .slice a' l.length cap'] 36 (0, 0)) := by
    rw [← hW2, ← z1]; exact heap_alloc_new W1 _
  have hb : Below w.heap.size w W2 := bchain b1 b2
  have HR := Lib.hid (h.below hb)
  have HR' := Lib.hid (h'.below hb)
  have HB := Lib.hid hb
  have HR1 := Lib.hid r1
  have HR2 := Lib.hid r2
  have HW : Hid ((w.alloc (.cells #[.bool c, .string n, .slice a l.length cap] 33)).alloc (.cells #[.bool c, .string n, .slice a' l.length cap'] 36) = W2) := Lib.hid (by rw [hW1, hW2])
  clear h h' hb r1 r2 b1 b2 z1 hW1 hW2
  obtain ⟨x0, x1, x2⟩ := tag_of_any HR1.out
  obtain ⟨y0, y1, y2⟩ := tag_of_any HR2.out
  go_enter Try.func25, Try.ntmps25
  go_wp2_with fail
  rw [HW.out]
  clear x0 x1 x2 y0 y1 y2
  go_loopw [30] (fun i wr => ∃ k : Nat, i = .int .i64 k ∧ k ≤ l.length ∧ Below W2.heap.size W2 wr) (fun i _ => l.length - (intOf i).toNat)
  case atStart => exact ⟨0, rfl, by omega, Below.refl _ _⟩
  case round =>
    obtain ⟨k, rfl, hk, hb⟩ := hrel
    have HBr := Lib.hid hb
    obtain ⟨x0, x1, x2⟩ := tag_of_any ((hb.block _ (Array.getElem?_eq_some_iff.1 HR1.out).1).trans HR1.out)
    obtain ⟨y0, y1, y2⟩ := tag_of_any ((hb.block _ (Array.getElem?_eq_some_iff.1 HR2.out).1).trans HR2.out)
    have HK := Lib.hid (HR.out.below hb)
    have HK' := Lib.hid (HR'.out.below hb)
    clear hb
    by_cases hk1 : k < l.length
    · have hk1' : (k : Int) < l.length := by omega
      obtain ⟨p, hp⟩ : ∃ p, l[k]? = some p := ⟨l[k], List.getElem?_eq_getElem hk1⟩
      obtain ⟨b, o, rfl, hc0, hc1⟩ := HK.out.cells k p hp
      obtain ⟨b', o', rfl, hc0', hc1'⟩ := HK'.out.cells k p hp
      clear hp
      go_wp2_with fail
      go_quiet (fail)
      go_wp2
      go_roundw
      case rel => exact ⟨k + 1, by go_num, by omega, HBr.out.trans ((below_drewN (Below.refl _ _) nq).mono HBr.out.size)⟩
      case measure => simp [intOf]; omega
    · have hk1' : ¬ (k : Int) < l.length := by omega
      go_wp2
      go_ret
      exact ⟨rfl, HB.out.trans (HBr.out.mono HB.out.size)⟩
end Go.Proofs.Ytaaegelefknkeab
