/- The reference's ValidValue; the law on values, walked. -/
import Derived.Test.YtaaegelefknkeabNuC
import Derived.Test.YtaaegelefknkeabMtK
import Derived.Lib.ConvBytes
namespace Go.Proofs.Ytaaegelefknkeab
open Go.RowKit Go.Shelf
set_option linter.unusedSimpArgs false
set_option linter.unusedVariables false

theorem bytesWorld_os (w : World) (e : TypeId) (s : ByteArray) : (Lib.bytesWorld w e s).os = w.os := by
  simp [Lib.bytesWorld, World.freeze, World.alloc, World.drew, -World.alloc_eq, -World.drew_eq]
theorem bytesWorld_tape (w : World) (e : TypeId) (s : ByteArray) : (Lib.bytesWorld w e s).tape = w.tape := by
  simp [Lib.bytesWorld, World.freeze, World.alloc, World.drew, -World.alloc_eq, -World.drew_eq]
theorem bytesWorld_output (w : World) (e : TypeId) (s : ByteArray) : (Lib.bytesWorld w e s).output = w.output := by
  simp [Lib.bytesWorld, World.freeze, World.alloc, World.drew, -World.alloc_eq, -World.drew_eq]
set_option maxHeartbeats 1000000 in
theorem RValidValue_any (s : ByteArray) (hs : s.size ≤ 1000000) (w : World) :
    Calls Try.prog 18 #[.string s] w fun e w' => e = .returned (.int .i64 (vvF s)) ∧ Below w.heap.size w w' := by
  rw [vvF_bytes]
  by_cases hl : 120 < s.size
  · rw [if_pos hl]
    have hl' : (120 : Int) < s.size := by omega
    go_enter Try.func18, Try.ntmps18
    go_wp2
    go_ret
    exact ⟨rfl, Below.refl _ _⟩
  · rw [if_neg hl]
    have hl' : ¬ (120 : Int) < s.size := by omega
    have hV := RValid_any s hs
    cases hv : validF s with
    | false =>
      rw [hv] at hV
      have HV := Lib.hid hV
      clear hV hv
      rw [if_pos rfl]
      go_enter Try.func18, Try.ntmps18
      go_wp2_with (go_at_call 37; refine (HV.out _).mono ?_; rintro e w1 ⟨rfl, hb⟩)
      go_ret
      exact ⟨rfl, hb⟩
    | true =>
      rw [hv] at hV
      have HV := Lib.hid hV
      clear hV hv
      rw [if_neg (by simp)]
      obtain ⟨r, hr⟩ : ∃ r, r = if (lst s).any badB = true then (14 : Int) else 0 := ⟨_, rfl⟩
      rw [← hr]
      have HR := Lib.hid hr
      clear hr
      have hcv := fun w : World => Lib.run_convert_string_bytes (P := Try.prog) w 9 53 5 s Try.underlying9 Try.underlying53 Try.underlying5
      go_enter Try.func18, Try.ntmps18
      go_wp2_with (go_at_call 37; refine (HV.out _).mono ?_; rintro e w1 ⟨rfl, hb1⟩)
      have hcell := Lib.bytesWorld_cell w1 5 s
      have hbw : Below w1.heap.size w1 (Lib.bytesWorld w1 5 s) := ⟨bytesWorld_os w1 5 s, bytesWorld_tape w1 5 s, bytesWorld_output w1 5 s, by rw [Lib.bytesWorld_size]; omega, fun k hk => Lib.bytesWorld_at_old w1 5 s k hk⟩
      obtain ⟨W2, hW2⟩ : ∃ W2, Lib.bytesWorld w1 5 s = W2 := ⟨_, rfl⟩
      obtain ⟨cp, hcp⟩ : ∃ cp, grownCap w1 s.size 0 5 = cp := ⟨_, rfl⟩
      rw [hW2] at hcell hbw ⊢
      rw [hcp]
      have HB2 := Lib.hid (bchain hb1 hbw)
      clear hb1 hbw hcv hW2 hcp HV
      go_loopw [14] (fun i wr => ∃ k : Nat, i = .int .i64 k ∧ k ≤ s.size ∧ ((lst s).drop k).any badB = (lst s).any badB ∧ wr = W2) (fun i _ => s.size - (intOf i).toNat)
      case atStart => exact ⟨0, rfl, by omega, by rw [List.drop_zero], rfl⟩
      case round =>
        obtain ⟨k, rfl, hk, hd, rfl⟩ := hrel
        by_cases hk1 : k < s.size
        · have hk1' : (k : Int) < s.size := by omega
          have hcl : k < (lst s).length := hk1
          obtain ⟨x, hx⟩ : ∃ x, x = (lst s)[k]'hcl := ⟨_, rfl⟩
          have hc := hcell k hk1
          rw [show s.data.toList.getD k 0 = x by rw [hx, List.getD_eq_getElem?_getD, List.getElem?_eq_getElem hcl]; rfl] at hc
          rw [List.drop_eq_getElem_cons hcl, List.any_cons, ← hx] at hd
          have HD := Lib.hid hd
          clear hd hx hcell
          by_cases h32 : x.toNat < 32
          · have h32' : (x.toNat : Int) < 32 := by omega
            have hb : badB x = true := by unfold badB; simp [h32]
            have H14 : Hid ((lst s).any badB = true) := Lib.hid (by rw [← HD.out, hb]; rfl)
            clear hb
            go_wp2
            go_ret
            exact ⟨ret_int (by rw [HR.out, if_pos H14.out]), HB2.out⟩
          · have h32' : decide ((x.toNat : Int) < 32) = false := by simp; omega
            cases h127 : ((x.toNat : Int) == 127) with
            | true =>
              have hb : badB x = true := by unfold badB; simp at h127; simp; omega
              have H14 : Hid ((lst s).any badB = true) := Lib.hid (by rw [← HD.out, hb]; rfl)
              clear hb
              go_wp2
              go_ret
              exact ⟨ret_int (by rw [HR.out, if_pos H14.out]), HB2.out⟩
            | false =>
              have hb : badB x = false := by unfold badB; simp at h127; simp; omega
              have HN : Hid (((lst s).drop (k + 1)).any badB = (lst s).any badB) := Lib.hid (by rw [← HD.out, hb]; rfl)
              clear hb
              go_wp2
              go_roundw
              case rel => exact ⟨k + 1, by go_num, by omega, HN.out, by first | trivial | rfl⟩
              case measure => simp [intOf]; omega
        · have h0 : (lst s).any badB = false := by rw [← hd, List.drop_eq_nil_of_le (by rw [lst_length]; omega)]; rfl
          have hk1' : ¬ (k : Int) < s.size := by omega
          have H0 := Lib.hid h0
          clear h0 hd hcell
          go_wp2
          go_ret
          exact ⟨ret_int (by rw [HR.out, if_neg (by rw [H0.out]; simp)]), HB2.out⟩

set_option maxHeartbeats 1000000 in
theorem walk_Values (s : ByteArray) (w : World) : Calls Try.prog 4 #[.string s] w fun e w' => e = .returned (.bool true) ∧ Below w.heap.size w w' := by
  by_cases h : 400 < s.size
  · have h' : (400 : Int) < s.size := by omega
    go_enter Try.func4, Try.ntmps4
    go_wp2
    go_ret
    exact ⟨rfl, Below.refl _ _⟩
  · have h' : ¬ (400 : Int) < s.size := by omega
    have HV := Lib.hid (ValidValue_any s (by omega))
    have HR := Lib.hid (RValidValue_any s (by omega))
    generalize vvF s = b at HV HR
    have HA := Lib.hid awake_any
    go_enter Try.func4, Try.ntmps4
    go_wp2_with (first | (go_at_call 17; refine (HV.out _).mono ?_; rintro e w1 ⟨rfl, hb1⟩; have HB1 := Lib.hid hb1; clear hb1) | (go_at_call 18; refine (HR.out _).mono ?_; rintro e w2 ⟨rfl, hb2⟩; have HB2 := Lib.hid hb2; clear hb2) | (go_at_call 16; refine (HA.out _).mono ?_; rintro e w3 ⟨rfl, hb3⟩; have HB3 := Lib.hid hb3; clear hb3))
    go_ret
    exact ⟨rfl, bchain (bchain HB1.out HB2.out) HB3.out⟩
end Go.Proofs.Ytaaegelefknkeab
