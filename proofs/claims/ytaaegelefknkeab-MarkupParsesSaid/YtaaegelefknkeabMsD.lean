/- HasPrefix and escape. -/
import Derived.Test.YtaaegelefknkeabMsC
namespace Go.Proofs.Ytaaegelefknkeab
open Go.RowKit Go.Shelf
set_option linter.unusedVariables false
set_option linter.unusedSimpArgs false

def prefF (s p : ByteArray) : Bool := decide (p.size ≤ s.size) && ((s.extract 0 p.size).toList == p.toList)

set_option maxHeartbeats 4000000 in
theorem HasPrefix1_any (s p : ByteArray) (hs : s.size ≤ 140737488351232) (hp : p.size ≤ 140737488351232) (w : World) :
    Calls Try.prog 58 #[.string s, .string p] w fun e w' => e = .returned (.bool (prefF s p)) ∧ w = w' := by
  by_cases h : p.size ≤ s.size
  · have h' : (p.size : Int) ≤ s.size := by omega
    have hr : prefF s p = ((s.extract 0 p.size).toList == p.toList) := by unfold prefF; rw [decide_eq_true h]; rfl
    rw [hr]
    clear hr
    go_enter Try.func58, Try.ntmps58
    go_wp2
    go_ret
    exact ⟨rfl, rfl⟩
  · have h' : ¬ (p.size : Int) ≤ s.size := by omega
    have hr : prefF s p = false := by unfold prefF; rw [decide_eq_false h]; rfl
    rw [hr]
    clear hr
    go_enter Try.func58, Try.ntmps58
    go_wp2
    go_ret
    exact ⟨rfl, rfl⟩
set_option maxHeartbeats 4000000 in
theorem HasPrefix_any (s p : ByteArray) (hs : s.size ≤ 140737488351232) (hp : p.size ≤ 140737488351232) (w : World) :
    Calls Try.prog 51 #[.string s, .string p] w fun e w' => e = .returned (.bool (prefF s p)) ∧ w = w' := by
  go_enter Try.func51, Try.ntmps51
  go_wp2_with (go_at_call 58; refine (HasPrefix1_any s p hs hp _).mono ?_; rintro e w1 ⟨rfl, rfl⟩)
  go_ret
  exact ⟨rfl, rfl⟩

/-- The digits from place i on: the number, and the place behind them. -/
def digF (s : ByteArray) : Nat → Nat → Nat → Nat × Nat
  | 0, n, i => (n, i)
  | f + 1, n, i => if h : i < s.size then (if i < 9 ∧ 48 ≤ (s[i]'h).toNat ∧ (s[i]'h).toNat ≤ 57 then digF s f (10 * n + ((s[i]'h).toNat - 48)) (i + 1) else (n, i)) else (n, i)
/-- What the number n of the digits up to place i gives. -/
def numF (s : ByteArray) (n i : Nat) : Int × Int :=
  if i = 2 then (0, 0)
  else if h : i < s.size then
    if (s[i]'h).toNat ≠ 59 then (0, 0)
    else if (∃ h2 : 2 < s.size, (s[2]'h2).toNat = 48) ∧ 3 < i then (0, 0)
    else if 55296 ≤ n ∧ n ≤ 57343 ∨ 1114111 < n then (0, 0) else ((n : Int), (i : Int) + 1)
  else (0, 0)
instance (s : ByteArray) : Decidable (∃ h2 : 2 < s.size, (s[2]'h2).toNat = 48) := inferInstance
def escF (s : ByteArray) : Int × Int :=
  if prefF s ⟨#[38, 97, 109, 112, 59]⟩ = true then (38, 5)
  else if prefF s ⟨#[38, 108, 116, 59]⟩ = true then (60, 4)
  else if prefF s ⟨#[38, 103, 116, 59]⟩ = true then (62, 4)
  else if prefF s ⟨#[38, 113, 117, 111, 116, 59]⟩ = true then (34, 6)
  else if prefF s ⟨#[38, 35]⟩ = false then (0, 0)
  else numF s (digF s s.size 0 2).1 (digF s s.size 0 2).2
def escV (p : Int × Int) : Value := .tuple #[.int .i32 p.1, .int .i64 p.2]

def dB (k m : Nat) : Prop := (k = 2 ∧ m < 1) ∨ (k = 3 ∧ m < 10) ∨ (k = 4 ∧ m < 100) ∨ (k = 5 ∧ m < 1000) ∨ (k = 6 ∧ m < 10000) ∨ (k = 7 ∧ m < 100000) ∨ (k = 8 ∧ m < 1000000) ∨ (k = 9 ∧ m < 10000000)

set_option maxRecDepth 20000 in
set_option maxHeartbeats 4000000 in
theorem escape_any (s : ByteArray) (hs : s.size ≤ 140737488351232) (w : World) :
    Calls Try.prog 38 #[.string s] w fun e w' => e = .returned (escV (escF s)) ∧ w = w' := by
  have P1 := Lib.hid (HasPrefix_any s ⟨#[38, 97, 109, 112, 59]⟩ hs (by decide))
  have P2 := Lib.hid (HasPrefix_any s ⟨#[38, 108, 116, 59]⟩ hs (by decide))
  have P3 := Lib.hid (HasPrefix_any s ⟨#[38, 103, 116, 59]⟩ hs (by decide))
  have P4 := Lib.hid (HasPrefix_any s ⟨#[38, 113, 117, 111, 116, 59]⟩ hs (by decide))
  have P5 := Lib.hid (HasPrefix_any s ⟨#[38, 35]⟩ hs (by decide))
  have h2 : prefF s ⟨#[38, 35]⟩ = true → 2 ≤ s.size := fun h => by
    unfold prefF at h
    rw [Bool.and_eq_true, decide_eq_true_eq] at h
    exact h.1
  obtain ⟨D, hD⟩ : ∃ D, D = digF s s.size 0 2 := ⟨_, rfl⟩
  have HD := Lib.hid hD
  unfold escF
  rw [← hD]
  clear hD
  generalize prefF s ⟨#[38, 97, 109, 112, 59]⟩ = b1 at P1 ⊢
  generalize prefF s ⟨#[38, 108, 116, 59]⟩ = b2 at P2 ⊢
  generalize prefF s ⟨#[38, 103, 116, 59]⟩ = b3 at P3 ⊢
  generalize prefF s ⟨#[38, 113, 117, 111, 116, 59]⟩ = b4 at P4 ⊢
  generalize prefF s ⟨#[38, 35]⟩ = b5 at P5 h2 ⊢
  cases b1
  case true =>
    rw [if_pos rfl]
    unfold escV
    go_enter Try.func38, Try.ntmps38
    go_wp2_with ((go_at_call 51; with_reducible refine (P1.out _).mono ?_; rintro e w1 ⟨rfl, rfl⟩))
    exact bodyPost_ret (v := .tuple #[.int .i32 38, .int .i64 5]) (by simp [results, Try.results38, go_sem]) rfl ⟨rfl, rfl⟩
  rw [if_neg (by simp)]
  cases b2
  case true =>
    rw [if_pos rfl]
    unfold escV
    go_enter Try.func38, Try.ntmps38
    go_wp2_with (first | (go_at_call 51; with_reducible refine (P1.out _).mono ?_; rintro e w1 ⟨rfl, rfl⟩) | (go_at_call 51; with_reducible refine (P2.out _).mono ?_; rintro e w1 ⟨rfl, rfl⟩))
    exact bodyPost_ret (v := .tuple #[.int .i32 60, .int .i64 4]) (by simp [results, Try.results38, go_sem]) rfl ⟨rfl, rfl⟩
  rw [if_neg (by simp)]
  cases b3
  case true =>
    rw [if_pos rfl]
    unfold escV
    go_enter Try.func38, Try.ntmps38
    go_wp2_with (first | (go_at_call 51; with_reducible refine (P1.out _).mono ?_; rintro e w1 ⟨rfl, rfl⟩) | (go_at_call 51; with_reducible refine (P2.out _).mono ?_; rintro e w1 ⟨rfl, rfl⟩) | (go_at_call 51; with_reducible refine (P3.out _).mono ?_; rintro e w1 ⟨rfl, rfl⟩))
    exact bodyPost_ret (v := .tuple #[.int .i32 62, .int .i64 4]) (by simp [results, Try.results38, go_sem]) rfl ⟨rfl, rfl⟩
  rw [if_neg (by simp)]
  cases b4
  case true =>
    rw [if_pos rfl]
    unfold escV
    go_enter Try.func38, Try.ntmps38
    go_wp2_with (first | (go_at_call 51; with_reducible refine (P1.out _).mono ?_; rintro e w1 ⟨rfl, rfl⟩) | (go_at_call 51; with_reducible refine (P2.out _).mono ?_; rintro e w1 ⟨rfl, rfl⟩) | (go_at_call 51; with_reducible refine (P3.out _).mono ?_; rintro e w1 ⟨rfl, rfl⟩) | (go_at_call 51; with_reducible refine (P4.out _).mono ?_; rintro e w1 ⟨rfl, rfl⟩))
    exact bodyPost_ret (v := .tuple #[.int .i32 34, .int .i64 6]) (by simp [results, Try.results38, go_sem]) rfl ⟨rfl, rfl⟩
  rw [if_neg (by simp)]
  cases b5
  case false =>
    rw [if_pos rfl]
    unfold escV
    go_enter Try.func38, Try.ntmps38
    go_wp2_with (first | (go_at_call 51; with_reducible refine (P1.out _).mono ?_; rintro e w1 ⟨rfl, rfl⟩) | (go_at_call 51; with_reducible refine (P2.out _).mono ?_; rintro e w1 ⟨rfl, rfl⟩) | (go_at_call 51; with_reducible refine (P3.out _).mono ?_; rintro e w1 ⟨rfl, rfl⟩) | (go_at_call 51; with_reducible refine (P4.out _).mono ?_; rintro e w1 ⟨rfl, rfl⟩) | (go_at_call 51; with_reducible refine (P5.out _).mono ?_; rintro e w1 ⟨rfl, rfl⟩))
    exact bodyPost_ret (v := .tuple #[.int .i32 0, .int .i64 0]) (by simp [results, Try.results38, go_sem]) rfl ⟨rfl, rfl⟩
  rw [if_neg (by simp)]
  have hs2 := h2 rfl
  clear h2
  obtain ⟨R, hR⟩ : ∃ R, R = numF s D.1 D.2 := ⟨_, rfl⟩
  rw [← hR]
  have HR := Lib.hid hR
  clear hR
  obtain ⟨R1, R2⟩ := R
  unfold escV
  go_enter Try.func38, Try.ntmps38
  go_wp2_with (first | (go_at_call 51; with_reducible refine (P1.out _).mono ?_; rintro e w1 ⟨rfl, rfl⟩) | (go_at_call 51; with_reducible refine (P2.out _).mono ?_; rintro e w1 ⟨rfl, rfl⟩) | (go_at_call 51; with_reducible refine (P3.out _).mono ?_; rintro e w1 ⟨rfl, rfl⟩) | (go_at_call 51; with_reducible refine (P4.out _).mono ?_; rintro e w1 ⟨rfl, rfl⟩) | (go_at_call 51; with_reducible refine (P5.out _).mono ?_; rintro e w1 ⟨rfl, rfl⟩))
  clear P1 P2 P3 P4 P5
  go_loopw [4, 5] (fun n i wr => ∃ m k f : Nat, n = .int .i64 m ∧ i = .int .i64 k ∧ k ≤ s.size ∧ dB k m ∧ digF s f m k = D ∧ s.size ≤ k + f ∧ wr = w) (fun _ i _ => s.size - (intOf i).toNat)
  case atStart => exact ⟨0, 2, s.size, rfl, rfl, hs2, .inl ⟨rfl, by omega⟩, HD.out.symm, by omega, rfl⟩
  case round =>
    obtain ⟨m, k, f, rfl, rfl, hk, hd, hdig, hf, rfl⟩ := hrel
    have hm9 : m ≤ 9999999 ∧ 2 ≤ k ∧ k ≤ 9 := by unfold dB at hd; omega
    have hm := hm9.1
    have hk2 := hm9.2.1
    have hk9 := hm9.2.2
    clear hm9
    have Hd := Lib.hid hd
    have Hdig := Lib.hid hdig
    clear hd hdig
    by_cases hk1 : k < s.size
    · have hk1' : (k : Int) < s.size := by omega
      obtain ⟨f, rfl⟩ : ∃ g, f = g + 1 := ⟨f - 1, by omega⟩
      have hstep : digF s (f + 1) m k = if k < 9 ∧ 48 ≤ (s[k]'hk1).toNat ∧ (s[k]'hk1).toNat ≤ 57 then digF s f (10 * m + ((s[k]'hk1).toNat - 48)) (k + 1) else (m, k) := by rw [digF, dif_pos hk1]
      rw [hstep] at Hdig
      clear hstep
      by_cases h9 : k < 9
      · by_cases hlo : 48 ≤ (s[k]'hk1).toNat
        · by_cases hhi : (s[k]'hk1).toNat ≤ 57
          · rw [if_pos ⟨h9, hlo, hhi⟩] at Hdig
            have h9' : (k : Int) < 9 := by omega
            have hlo' : (48 : Int) ≤ (s[k]'hk1).toNat := by omega
            have hhi' : ((s[k]'hk1).toNat : Int) ≤ 57 := by omega
            go_wp2
            go_roundw
            case rel => exact ⟨10 * m + ((s[k]'hk1).toNat - 48), k + 1, f, by go_num, by go_num, by omega, by have := Hd.out; unfold dB at this ⊢; omega, Hdig.out, by omega, by first | trivial | rfl⟩
            case measure => simp [intOf]; omega
          · rw [if_neg (by omega)] at Hdig
            have HD2 := Hdig.out
            rw [← HD2] at HR
            clear HD2
            dsimp only at HR
            have h9' : (k : Int) < 9 := by omega
            have hlo' : (48 : Int) ≤ (s[k]'hk1).toNat := by omega
            have hhi' : ¬ ((s[k]'hk1).toNat : Int) ≤ 57 := by omega
            by_cases hk2' : k = 2
            · have e2 : ((k : Int) == 2) = true := by simp [hk2']
              have HK2 := Lib.hid hk2'
              clear hk2'
              go_wp2
              refine bodyPost_ret (v := .tuple #[.int .i32 0, .int .i64 0]) (by simp [results, Try.results38, go_sem]) rfl ⟨?_, rfl⟩
              have hr := HR.out
              rw [numF, if_pos HK2.out] at hr
              obtain ⟨h1, h2⟩ := Prod.mk.inj hr
              rw [h1, h2]
            · have e2 : ((k : Int) == 2) = false := by simp; omega
              have e3 : ((k : Int) == (s.size : Int)) = false := by simp; omega
              have hi2 : 2 < s.size := by omega
              by_cases h59 : (s[k]'hk1).toNat = 59
              · have e4 : (((s[k]'hk1).toNat : Int) != 59) = false := by simp [h59]
                have H59 := Lib.hid h59
                clear h59
                have hnum : numF s m k = if (∃ h2 : 2 < s.size, (s[2]'h2).toNat = 48) ∧ 3 < k then (0, 0) else if 55296 ≤ m ∧ m ≤ 57343 ∨ 1114111 < m then (0, 0) else ((m : Int), (k : Int) + 1) := by rw [numF, if_neg hk2', dif_pos hk1, if_neg (by rw [H59.out]; simp)]
                rw [hnum] at HR
                clear hnum
                cases h48 : (((s[2]'hi2).toNat : Int) == 48) with
                | true =>
                  have h48' : (s[2]'hi2).toNat = 48 := by have := eq_of_beq h48; omega
                  by_cases hk3 : 3 < k
                  · have g0 : (3 : Int) < k := by omega
                    go_wp2
                    refine bodyPost_ret (v := .tuple #[.int .i32 0, .int .i64 0]) (by simp [results, Try.results38, go_sem]) rfl ⟨?_, rfl⟩
                    have hr := HR.out
                    rw [if_pos ⟨⟨hi2, h48'⟩, hk3⟩] at hr
                    obtain ⟨h1, h2⟩ := Prod.mk.inj hr
                    rw [h1, h2]
                  · have g0 : ¬ (3 : Int) < k := by omega
                    rw [if_neg (fun h => hk3 h.2)] at HR
                    by_cases hbig : 1114111 < m
                    · have g1 : (1114111 : Int) < m := by omega
                      have g2 : (55296 : Int) ≤ m := by omega
                      have g3 : ¬ (m : Int) ≤ 57343 := by omega
                      go_wp2
                      refine bodyPost_ret (v := .tuple #[.int .i32 0, .int .i64 0]) (by simp [results, Try.results38, go_sem]) rfl ⟨?_, rfl⟩
                      have hr := HR.out
                      rw [if_pos (.inr hbig)] at hr
                      obtain ⟨h1, h2⟩ := Prod.mk.inj hr
                      rw [h1, h2]
                    · by_cases hlo : 55296 ≤ m
                      · by_cases hhi : m ≤ 57343
                        · have g2 : (55296 : Int) ≤ m := by omega
                          have g3 : (m : Int) ≤ 57343 := by omega
                          go_wp2
                          refine bodyPost_ret (v := .tuple #[.int .i32 0, .int .i64 0]) (by simp [results, Try.results38, go_sem]) rfl ⟨?_, rfl⟩
                          have hr := HR.out
                          rw [if_pos (.inl ⟨hlo, hhi⟩)] at hr
                          obtain ⟨h1, h2⟩ := Prod.mk.inj hr
                          rw [h1, h2]
                        · have g1 : ¬ (1114111 : Int) < m := by omega
                          have g2 : (55296 : Int) ≤ m := by omega
                          have g3 : ¬ (m : Int) ≤ 57343 := by omega
                          go_wp2
                          refine bodyPost_ret (v := .tuple #[.int .i32 (m : Int), .int .i64 ((k : Int) + 1)]) (by simp [results, Try.results38, go_sem]) rfl ⟨?_, rfl⟩
                          have hr := HR.out
                          rw [if_neg (by omega)] at hr
                          obtain ⟨h1, h2⟩ := Prod.mk.inj hr
                          rw [h1, h2]
                      · have g1 : ¬ (1114111 : Int) < m := by omega
                        have e5 : decide ((55296 : Int) ≤ (m : Int)) = false := by simp; omega
                        have HLO := Lib.hid hlo
                        have HBIG := Lib.hid hbig
                        clear hlo hbig
                        go_wp2
                        refine bodyPost_ret (v := .tuple #[.int .i32 (m : Int), .int .i64 ((k : Int) + 1)]) (by simp [results, Try.results38, go_sem]) rfl ⟨?_, rfl⟩
                        have hr := HR.out
                        rw [if_neg (by have := HLO.out; have := HBIG.out; omega)] at hr
                        obtain ⟨h1, h2⟩ := Prod.mk.inj hr
                        rw [h1, h2]
                | false =>
                  have h48' : ¬ (s[2]'hi2).toNat = 48 := fun h => by rw [h] at h48; simp at h48
                  rw [if_neg (fun h => h48' h.1.2)] at HR
                  by_cases hbig : 1114111 < m
                  · have g1 : (1114111 : Int) < m := by omega
                    have g2 : (55296 : Int) ≤ m := by omega
                    have g3 : ¬ (m : Int) ≤ 57343 := by omega
                    go_wp2
                    refine bodyPost_ret (v := .tuple #[.int .i32 0, .int .i64 0]) (by simp [results, Try.results38, go_sem]) rfl ⟨?_, rfl⟩
                    have hr := HR.out
                    rw [if_pos (.inr hbig)] at hr
                    obtain ⟨h1, h2⟩ := Prod.mk.inj hr
                    rw [h1, h2]
                  · by_cases hlo : 55296 ≤ m
                    · by_cases hhi : m ≤ 57343
                      · have g2 : (55296 : Int) ≤ m := by omega
                        have g3 : (m : Int) ≤ 57343 := by omega
                        go_wp2
                        refine bodyPost_ret (v := .tuple #[.int .i32 0, .int .i64 0]) (by simp [results, Try.results38, go_sem]) rfl ⟨?_, rfl⟩
                        have hr := HR.out
                        rw [if_pos (.inl ⟨hlo, hhi⟩)] at hr
                        obtain ⟨h1, h2⟩ := Prod.mk.inj hr
                        rw [h1, h2]
                      · have g1 : ¬ (1114111 : Int) < m := by omega
                        have g2 : (55296 : Int) ≤ m := by omega
                        have g3 : ¬ (m : Int) ≤ 57343 := by omega
                        go_wp2
                        refine bodyPost_ret (v := .tuple #[.int .i32 (m : Int), .int .i64 ((k : Int) + 1)]) (by simp [results, Try.results38, go_sem]) rfl ⟨?_, rfl⟩
                        have hr := HR.out
                        rw [if_neg (by omega)] at hr
                        obtain ⟨h1, h2⟩ := Prod.mk.inj hr
                        rw [h1, h2]
                    · have g1 : ¬ (1114111 : Int) < m := by omega
                      have e5 : decide ((55296 : Int) ≤ (m : Int)) = false := by simp; omega
                      have HLO := Lib.hid hlo
                      have HBIG := Lib.hid hbig
                      clear hlo hbig
                      go_wp2
                      refine bodyPost_ret (v := .tuple #[.int .i32 (m : Int), .int .i64 ((k : Int) + 1)]) (by simp [results, Try.results38, go_sem]) rfl ⟨?_, rfl⟩
                      have hr := HR.out
                      rw [if_neg (by have := HLO.out; have := HBIG.out; omega)] at hr
                      obtain ⟨h1, h2⟩ := Prod.mk.inj hr
                      rw [h1, h2]
              · have e4 : (((s[k]'hk1).toNat : Int) != 59) = true := by simp; omega
                go_wp2
                refine bodyPost_ret (v := .tuple #[.int .i32 0, .int .i64 0]) (by simp [results, Try.results38, go_sem]) rfl ⟨?_, rfl⟩
                have hr := HR.out
                rw [numF, if_neg hk2', dif_pos hk1, if_pos h59] at hr
                obtain ⟨h1, h2⟩ := Prod.mk.inj hr
                rw [h1, h2]
        · rw [if_neg (by omega)] at Hdig
          have HD2 := Hdig.out
          rw [← HD2] at HR
          clear HD2
          dsimp only at HR
          have h9' : (k : Int) < 9 := by omega
          have hlo' : ¬ (48 : Int) ≤ (s[k]'hk1).toNat := by omega
          by_cases hk2' : k = 2
          · have e2 : ((k : Int) == 2) = true := by simp [hk2']
            have HK2 := Lib.hid hk2'
            clear hk2'
            go_wp2
            refine bodyPost_ret (v := .tuple #[.int .i32 0, .int .i64 0]) (by simp [results, Try.results38, go_sem]) rfl ⟨?_, rfl⟩
            have hr := HR.out
            rw [numF, if_pos HK2.out] at hr
            obtain ⟨h1, h2⟩ := Prod.mk.inj hr
            rw [h1, h2]
          · have e2 : ((k : Int) == 2) = false := by simp; omega
            have e3 : ((k : Int) == (s.size : Int)) = false := by simp; omega
            have hi2 : 2 < s.size := by omega
            by_cases h59 : (s[k]'hk1).toNat = 59
            · have e4 : (((s[k]'hk1).toNat : Int) != 59) = false := by simp [h59]
              have H59 := Lib.hid h59
              clear h59
              have hnum : numF s m k = if (∃ h2 : 2 < s.size, (s[2]'h2).toNat = 48) ∧ 3 < k then (0, 0) else if 55296 ≤ m ∧ m ≤ 57343 ∨ 1114111 < m then (0, 0) else ((m : Int), (k : Int) + 1) := by rw [numF, if_neg hk2', dif_pos hk1, if_neg (by rw [H59.out]; simp)]
              rw [hnum] at HR
              clear hnum
              cases h48 : (((s[2]'hi2).toNat : Int) == 48) with
              | true =>
                have h48' : (s[2]'hi2).toNat = 48 := by have := eq_of_beq h48; omega
                by_cases hk3 : 3 < k
                · have g0 : (3 : Int) < k := by omega
                  go_wp2
                  refine bodyPost_ret (v := .tuple #[.int .i32 0, .int .i64 0]) (by simp [results, Try.results38, go_sem]) rfl ⟨?_, rfl⟩
                  have hr := HR.out
                  rw [if_pos ⟨⟨hi2, h48'⟩, hk3⟩] at hr
                  obtain ⟨h1, h2⟩ := Prod.mk.inj hr
                  rw [h1, h2]
                · have g0 : ¬ (3 : Int) < k := by omega
                  rw [if_neg (fun h => hk3 h.2)] at HR
                  by_cases hbig : 1114111 < m
                  · have g1 : (1114111 : Int) < m := by omega
                    have g2 : (55296 : Int) ≤ m := by omega
                    have g3 : ¬ (m : Int) ≤ 57343 := by omega
                    go_wp2
                    refine bodyPost_ret (v := .tuple #[.int .i32 0, .int .i64 0]) (by simp [results, Try.results38, go_sem]) rfl ⟨?_, rfl⟩
                    have hr := HR.out
                    rw [if_pos (.inr hbig)] at hr
                    obtain ⟨h1, h2⟩ := Prod.mk.inj hr
                    rw [h1, h2]
                  · by_cases hlo : 55296 ≤ m
                    · by_cases hhi : m ≤ 57343
                      · have g2 : (55296 : Int) ≤ m := by omega
                        have g3 : (m : Int) ≤ 57343 := by omega
                        go_wp2
                        refine bodyPost_ret (v := .tuple #[.int .i32 0, .int .i64 0]) (by simp [results, Try.results38, go_sem]) rfl ⟨?_, rfl⟩
                        have hr := HR.out
                        rw [if_pos (.inl ⟨hlo, hhi⟩)] at hr
                        obtain ⟨h1, h2⟩ := Prod.mk.inj hr
                        rw [h1, h2]
                      · have g1 : ¬ (1114111 : Int) < m := by omega
                        have g2 : (55296 : Int) ≤ m := by omega
                        have g3 : ¬ (m : Int) ≤ 57343 := by omega
                        go_wp2
                        refine bodyPost_ret (v := .tuple #[.int .i32 (m : Int), .int .i64 ((k : Int) + 1)]) (by simp [results, Try.results38, go_sem]) rfl ⟨?_, rfl⟩
                        have hr := HR.out
                        rw [if_neg (by omega)] at hr
                        obtain ⟨h1, h2⟩ := Prod.mk.inj hr
                        rw [h1, h2]
                    · have g1 : ¬ (1114111 : Int) < m := by omega
                      have e5 : decide ((55296 : Int) ≤ (m : Int)) = false := by simp; omega
                      have HLO := Lib.hid hlo
                      have HBIG := Lib.hid hbig
                      clear hlo hbig
                      go_wp2
                      refine bodyPost_ret (v := .tuple #[.int .i32 (m : Int), .int .i64 ((k : Int) + 1)]) (by simp [results, Try.results38, go_sem]) rfl ⟨?_, rfl⟩
                      have hr := HR.out
                      rw [if_neg (by have := HLO.out; have := HBIG.out; omega)] at hr
                      obtain ⟨h1, h2⟩ := Prod.mk.inj hr
                      rw [h1, h2]
              | false =>
                have h48' : ¬ (s[2]'hi2).toNat = 48 := fun h => by rw [h] at h48; simp at h48
                rw [if_neg (fun h => h48' h.1.2)] at HR
                by_cases hbig : 1114111 < m
                · have g1 : (1114111 : Int) < m := by omega
                  have g2 : (55296 : Int) ≤ m := by omega
                  have g3 : ¬ (m : Int) ≤ 57343 := by omega
                  go_wp2
                  refine bodyPost_ret (v := .tuple #[.int .i32 0, .int .i64 0]) (by simp [results, Try.results38, go_sem]) rfl ⟨?_, rfl⟩
                  have hr := HR.out
                  rw [if_pos (.inr hbig)] at hr
                  obtain ⟨h1, h2⟩ := Prod.mk.inj hr
                  rw [h1, h2]
                · by_cases hlo : 55296 ≤ m
                  · by_cases hhi : m ≤ 57343
                    · have g2 : (55296 : Int) ≤ m := by omega
                      have g3 : (m : Int) ≤ 57343 := by omega
                      go_wp2
                      refine bodyPost_ret (v := .tuple #[.int .i32 0, .int .i64 0]) (by simp [results, Try.results38, go_sem]) rfl ⟨?_, rfl⟩
                      have hr := HR.out
                      rw [if_pos (.inl ⟨hlo, hhi⟩)] at hr
                      obtain ⟨h1, h2⟩ := Prod.mk.inj hr
                      rw [h1, h2]
                    · have g1 : ¬ (1114111 : Int) < m := by omega
                      have g2 : (55296 : Int) ≤ m := by omega
                      have g3 : ¬ (m : Int) ≤ 57343 := by omega
                      go_wp2
                      refine bodyPost_ret (v := .tuple #[.int .i32 (m : Int), .int .i64 ((k : Int) + 1)]) (by simp [results, Try.results38, go_sem]) rfl ⟨?_, rfl⟩
                      have hr := HR.out
                      rw [if_neg (by omega)] at hr
                      obtain ⟨h1, h2⟩ := Prod.mk.inj hr
                      rw [h1, h2]
                  · have g1 : ¬ (1114111 : Int) < m := by omega
                    have e5 : decide ((55296 : Int) ≤ (m : Int)) = false := by simp; omega
                    have HLO := Lib.hid hlo
                    have HBIG := Lib.hid hbig
                    clear hlo hbig
                    go_wp2
                    refine bodyPost_ret (v := .tuple #[.int .i32 (m : Int), .int .i64 ((k : Int) + 1)]) (by simp [results, Try.results38, go_sem]) rfl ⟨?_, rfl⟩
                    have hr := HR.out
                    rw [if_neg (by have := HLO.out; have := HBIG.out; omega)] at hr
                    obtain ⟨h1, h2⟩ := Prod.mk.inj hr
                    rw [h1, h2]
            · have e4 : (((s[k]'hk1).toNat : Int) != 59) = true := by simp; omega
              go_wp2
              refine bodyPost_ret (v := .tuple #[.int .i32 0, .int .i64 0]) (by simp [results, Try.results38, go_sem]) rfl ⟨?_, rfl⟩
              have hr := HR.out
              rw [numF, if_neg hk2', dif_pos hk1, if_pos h59] at hr
              obtain ⟨h1, h2⟩ := Prod.mk.inj hr
              rw [h1, h2]
      · rw [if_neg (by omega)] at Hdig
        have HD2 := Hdig.out
        rw [← HD2] at HR
        clear HD2
        dsimp only at HR
        have h9' : ¬ (k : Int) < 9 := by omega
        by_cases hk2' : k = 2
        · have e2 : ((k : Int) == 2) = true := by simp [hk2']
          have HK2 := Lib.hid hk2'
          clear hk2'
          go_wp2
          refine bodyPost_ret (v := .tuple #[.int .i32 0, .int .i64 0]) (by simp [results, Try.results38, go_sem]) rfl ⟨?_, rfl⟩
          have hr := HR.out
          rw [numF, if_pos HK2.out] at hr
          obtain ⟨h1, h2⟩ := Prod.mk.inj hr
          rw [h1, h2]
        · have e2 : ((k : Int) == 2) = false := by simp; omega
          have e3 : ((k : Int) == (s.size : Int)) = false := by simp; omega
          have hi2 : 2 < s.size := by omega
          by_cases h59 : (s[k]'hk1).toNat = 59
          · have e4 : (((s[k]'hk1).toNat : Int) != 59) = false := by simp [h59]
            have H59 := Lib.hid h59
            clear h59
            have hnum : numF s m k = if (∃ h2 : 2 < s.size, (s[2]'h2).toNat = 48) ∧ 3 < k then (0, 0) else if 55296 ≤ m ∧ m ≤ 57343 ∨ 1114111 < m then (0, 0) else ((m : Int), (k : Int) + 1) := by rw [numF, if_neg hk2', dif_pos hk1, if_neg (by rw [H59.out]; simp)]
            rw [hnum] at HR
            clear hnum
            cases h48 : (((s[2]'hi2).toNat : Int) == 48) with
            | true =>
              have h48' : (s[2]'hi2).toNat = 48 := by have := eq_of_beq h48; omega
              by_cases hk3 : 3 < k
              · have g0 : (3 : Int) < k := by omega
                go_wp2
                refine bodyPost_ret (v := .tuple #[.int .i32 0, .int .i64 0]) (by simp [results, Try.results38, go_sem]) rfl ⟨?_, rfl⟩
                have hr := HR.out
                rw [if_pos ⟨⟨hi2, h48'⟩, hk3⟩] at hr
                obtain ⟨h1, h2⟩ := Prod.mk.inj hr
                rw [h1, h2]
              · have g0 : ¬ (3 : Int) < k := by omega
                rw [if_neg (fun h => hk3 h.2)] at HR
                by_cases hbig : 1114111 < m
                · have g1 : (1114111 : Int) < m := by omega
                  have g2 : (55296 : Int) ≤ m := by omega
                  have g3 : ¬ (m : Int) ≤ 57343 := by omega
                  go_wp2
                  refine bodyPost_ret (v := .tuple #[.int .i32 0, .int .i64 0]) (by simp [results, Try.results38, go_sem]) rfl ⟨?_, rfl⟩
                  have hr := HR.out
                  rw [if_pos (.inr hbig)] at hr
                  obtain ⟨h1, h2⟩ := Prod.mk.inj hr
                  rw [h1, h2]
                · by_cases hlo : 55296 ≤ m
                  · by_cases hhi : m ≤ 57343
                    · have g2 : (55296 : Int) ≤ m := by omega
                      have g3 : (m : Int) ≤ 57343 := by omega
                      go_wp2
                      refine bodyPost_ret (v := .tuple #[.int .i32 0, .int .i64 0]) (by simp [results, Try.results38, go_sem]) rfl ⟨?_, rfl⟩
                      have hr := HR.out
                      rw [if_pos (.inl ⟨hlo, hhi⟩)] at hr
                      obtain ⟨h1, h2⟩ := Prod.mk.inj hr
                      rw [h1, h2]
                    · have g1 : ¬ (1114111 : Int) < m := by omega
                      have g2 : (55296 : Int) ≤ m := by omega
                      have g3 : ¬ (m : Int) ≤ 57343 := by omega
                      go_wp2
                      refine bodyPost_ret (v := .tuple #[.int .i32 (m : Int), .int .i64 ((k : Int) + 1)]) (by simp [results, Try.results38, go_sem]) rfl ⟨?_, rfl⟩
                      have hr := HR.out
                      rw [if_neg (by omega)] at hr
                      obtain ⟨h1, h2⟩ := Prod.mk.inj hr
                      rw [h1, h2]
                  · have g1 : ¬ (1114111 : Int) < m := by omega
                    have e5 : decide ((55296 : Int) ≤ (m : Int)) = false := by simp; omega
                    have HLO := Lib.hid hlo
                    have HBIG := Lib.hid hbig
                    clear hlo hbig
                    go_wp2
                    refine bodyPost_ret (v := .tuple #[.int .i32 (m : Int), .int .i64 ((k : Int) + 1)]) (by simp [results, Try.results38, go_sem]) rfl ⟨?_, rfl⟩
                    have hr := HR.out
                    rw [if_neg (by have := HLO.out; have := HBIG.out; omega)] at hr
                    obtain ⟨h1, h2⟩ := Prod.mk.inj hr
                    rw [h1, h2]
            | false =>
              have h48' : ¬ (s[2]'hi2).toNat = 48 := fun h => by rw [h] at h48; simp at h48
              rw [if_neg (fun h => h48' h.1.2)] at HR
              by_cases hbig : 1114111 < m
              · have g1 : (1114111 : Int) < m := by omega
                have g2 : (55296 : Int) ≤ m := by omega
                have g3 : ¬ (m : Int) ≤ 57343 := by omega
                go_wp2
                refine bodyPost_ret (v := .tuple #[.int .i32 0, .int .i64 0]) (by simp [results, Try.results38, go_sem]) rfl ⟨?_, rfl⟩
                have hr := HR.out
                rw [if_pos (.inr hbig)] at hr
                obtain ⟨h1, h2⟩ := Prod.mk.inj hr
                rw [h1, h2]
              · by_cases hlo : 55296 ≤ m
                · by_cases hhi : m ≤ 57343
                  · have g2 : (55296 : Int) ≤ m := by omega
                    have g3 : (m : Int) ≤ 57343 := by omega
                    go_wp2
                    refine bodyPost_ret (v := .tuple #[.int .i32 0, .int .i64 0]) (by simp [results, Try.results38, go_sem]) rfl ⟨?_, rfl⟩
                    have hr := HR.out
                    rw [if_pos (.inl ⟨hlo, hhi⟩)] at hr
                    obtain ⟨h1, h2⟩ := Prod.mk.inj hr
                    rw [h1, h2]
                  · have g1 : ¬ (1114111 : Int) < m := by omega
                    have g2 : (55296 : Int) ≤ m := by omega
                    have g3 : ¬ (m : Int) ≤ 57343 := by omega
                    go_wp2
                    refine bodyPost_ret (v := .tuple #[.int .i32 (m : Int), .int .i64 ((k : Int) + 1)]) (by simp [results, Try.results38, go_sem]) rfl ⟨?_, rfl⟩
                    have hr := HR.out
                    rw [if_neg (by omega)] at hr
                    obtain ⟨h1, h2⟩ := Prod.mk.inj hr
                    rw [h1, h2]
                · have g1 : ¬ (1114111 : Int) < m := by omega
                  have e5 : decide ((55296 : Int) ≤ (m : Int)) = false := by simp; omega
                  have HLO := Lib.hid hlo
                  have HBIG := Lib.hid hbig
                  clear hlo hbig
                  go_wp2
                  refine bodyPost_ret (v := .tuple #[.int .i32 (m : Int), .int .i64 ((k : Int) + 1)]) (by simp [results, Try.results38, go_sem]) rfl ⟨?_, rfl⟩
                  have hr := HR.out
                  rw [if_neg (by have := HLO.out; have := HBIG.out; omega)] at hr
                  obtain ⟨h1, h2⟩ := Prod.mk.inj hr
                  rw [h1, h2]
          · have e4 : (((s[k]'hk1).toNat : Int) != 59) = true := by simp; omega
            go_wp2
            refine bodyPost_ret (v := .tuple #[.int .i32 0, .int .i64 0]) (by simp [results, Try.results38, go_sem]) rfl ⟨?_, rfl⟩
            have hr := HR.out
            rw [numF, if_neg hk2', dif_pos hk1, if_pos h59] at hr
            obtain ⟨h1, h2⟩ := Prod.mk.inj hr
            rw [h1, h2]
    · have hk1' : ¬ (k : Int) < s.size := by omega
      have hks : k = s.size := by omega
      have hstep : digF s f m k = (m, k) := by cases f with | zero => rfl | succ f => rw [digF, dif_neg hk1]
      rw [hstep] at Hdig
      have HD2 := Hdig.out
      rw [← HD2] at HR
      clear HD2 hstep
      dsimp only at HR
      by_cases hk2' : k = 2
      · have e2 : ((k : Int) == 2) = true := by simp [hk2']
        have HK2 := Lib.hid hk2'
        clear hk2'
        go_wp2
        refine bodyPost_ret (v := .tuple #[.int .i32 0, .int .i64 0]) (by simp [results, Try.results38, go_sem]) rfl ⟨?_, rfl⟩
        have hr := HR.out
        rw [numF, if_pos HK2.out] at hr
        obtain ⟨h1, h2⟩ := Prod.mk.inj hr
        rw [h1, h2]
      · have e2 : ((k : Int) == 2) = false := by simp; omega
        have e3 : ((k : Int) == (s.size : Int)) = true := by simp [hks]
        go_wp2
        refine bodyPost_ret (v := .tuple #[.int .i32 0, .int .i64 0]) (by simp [results, Try.results38, go_sem]) rfl ⟨?_, rfl⟩
        have hr := HR.out
        rw [numF, if_neg hk2', dif_neg hk1] at hr
        obtain ⟨h1, h2⟩ := Prod.mk.inj hr
        rw [h1, h2]
end Go.Proofs.Ytaaegelefknkeab
