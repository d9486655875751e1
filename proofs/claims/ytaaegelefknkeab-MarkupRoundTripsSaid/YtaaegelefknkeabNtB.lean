/- A string is read back from its escaped form; a concatenation is escaped part by part. -/
import Derived.Test.YtaaegelefknkeabMtK
namespace Go.Proofs.Ytaaegelefknkeab
open Go.RowKit Go.Shelf
set_option linter.unusedSimpArgs false
set_option linter.unusedVariables false

/-- Bytes as a string. -/
def ofL (l : List UInt8) : ByteArray := ⟨⟨l⟩⟩
theorem ofL_toL (s : ByteArray) : ofL s.data.toList = s := rfl
theorem ofL_size (l : List UInt8) : (ofL l).size = l.length := rfl
theorem ofL_append (a b : List UInt8) : ofL a ++ ofL b = ofL (a ++ b) := by
  apply ByteArray.ext
  rw [ByteArray.data_append]
  simp [ofL]
theorem ofL_get (l : List UInt8) (k : Nat) (h : k < (ofL l).size) : (ofL l)[k]'h = l[k]'h := rfl
theorem ofL_extract (l : List UInt8) (k : Nat) : (ofL l).extract k (ofL l).size = ofL (l.drop k) := by
  apply ByteArray.ext
  apply Array.ext'
  rw [ByteArray.data_extract, Array.toList_extract]
  show (l.extract k l.length) = l.drop k
  simp only [List.extract]
  exact List.take_of_length_le (by simp)
theorem ofL_extract0 (l : List UInt8) (k : Nat) : (ofL l).extract 0 k = ofL (l.take k) := by
  apply ByteArray.ext
  apply Array.ext'
  rw [ByteArray.data_extract, Array.toList_extract]
  show (l.extract 0 k) = l.take k
  simp [List.extract]
theorem prefF_ofL (l p : List UInt8) : prefF (ofL l) (ofL p) = (decide (p.length ≤ l.length) && (l.take p.length == p)) := by
  unfold prefF
  rw [ofL_extract0, ByteArray.toList_eq, ByteArray.toList_eq]
  rfl
/-- What takes a byte's place, as a list. -/
def escL (x : UInt8) : List UInt8 := (escB x).data.toList
def esL (l : List UInt8) : List UInt8 := l.flatMap escL
theorem esF_list (s : ByteArray) : ∀ f i o, s.size ≤ i + f → esF s f i o = o ++ ofL (esL (s.data.toList.drop i)) := by
  intro f
  induction f with
  | zero =>
    intro i o h
    unfold esF
    rw [List.drop_eq_nil_of_le (by show s.data.toList.length ≤ i; have : s.data.toList.length = s.size := rfl; omega)]
    exact (ByteArray.append_empty).symm
  | succ f ih =>
    intro i o h
    by_cases hi : i < s.size
    · have hl : i < s.data.toList.length := hi
      rw [esF, dif_pos hi, ih _ _ (by omega), List.drop_eq_getElem_cons hl, ByteArray.append_assoc]
      congr 1
    · rw [esF_end s _ _ _ hi, List.drop_eq_nil_of_le (by show s.data.toList.length ≤ i; have : s.data.toList.length = s.size := rfl; omega)]
      exact (ByteArray.append_empty).symm
theorem escT_list (s : ByteArray) : escT s = ofL (esL s.data.toList) := by
  unfold escT
  rw [esF_list s _ _ _ (by omega)]
  exact ByteArray.empty_append
theorem escT_append (s t : ByteArray) : escT (s ++ t) = escT s ++ escT t := by
  rw [escT_list, escT_list, escT_list, ofL_append, ByteArray.data_append, Array.toList_append]
  unfold esL
  rw [List.flatMap_append]
theorem escL_amp (r : List UInt8) : escF (ofL ([38, 97, 109, 112, 59] ++ r)) = (38, 5) := by
  unfold escF
  rw [show (⟨#[38, 97, 109, 112, 59]⟩ : ByteArray) = ofL [38, 97, 109, 112, 59] from rfl, prefF_ofL]
  simp
theorem escL_lt (r : List UInt8) : escF (ofL ([38, 108, 116, 59] ++ r)) = (60, 4) := by
  unfold escF
  rw [show (⟨#[38, 97, 109, 112, 59]⟩ : ByteArray) = ofL [38, 97, 109, 112, 59] from rfl, show (⟨#[38, 108, 116, 59]⟩ : ByteArray) = ofL [38, 108, 116, 59] from rfl, prefF_ofL, prefF_ofL]
  simp
theorem escL_gt (r : List UInt8) : escF (ofL ([38, 103, 116, 59] ++ r)) = (62, 4) := by
  unfold escF
  rw [show (⟨#[38, 97, 109, 112, 59]⟩ : ByteArray) = ofL [38, 97, 109, 112, 59] from rfl, show (⟨#[38, 108, 116, 59]⟩ : ByteArray) = ofL [38, 108, 116, 59] from rfl,
    show (⟨#[38, 103, 116, 59]⟩ : ByteArray) = ofL [38, 103, 116, 59] from rfl, prefF_ofL, prefF_ofL, prefF_ofL]
  simp
theorem escL_quot (r : List UInt8) : escF (ofL ([38, 113, 117, 111, 116, 59] ++ r)) = (34, 6) := by
  unfold escF
  rw [show (⟨#[38, 97, 109, 112, 59]⟩ : ByteArray) = ofL [38, 97, 109, 112, 59] from rfl, show (⟨#[38, 108, 116, 59]⟩ : ByteArray) = ofL [38, 108, 116, 59] from rfl,
    show (⟨#[38, 103, 116, 59]⟩ : ByteArray) = ofL [38, 103, 116, 59] from rfl, show (⟨#[38, 113, 117, 111, 116, 59]⟩ : ByteArray) = ofL [38, 113, 117, 111, 116, 59] from rfl, prefF_ofL, prefF_ofL, prefF_ofL, prefF_ofL]
  simp
/-- One escape, read. -/
theorem unF_esc (A e : List UInt8) (x : UInt8) (r : List UInt8) (f : Nat) (o : ByteArray) (c n : Int) (h0 : e.head? = some 38) (he : escF (ofL (e ++ r)) = (c, n)) (hn : n = e.length) (h1 : 0 < e.length) (hc : Utf8.encode c = ofL [x]) :
    unF (ofL (A ++ (e ++ r))) (f + 1) A.length o = unF (ofL ((A ++ e) ++ r)) f (A ++ e).length (o ++ ofL [x]) := by
  have hlt : A.length < (ofL (A ++ (e ++ r))).size := by rw [ofL_size]; simp; omega
  have hb : ((ofL (A ++ (e ++ r)))[A.length]'hlt) = 38 := by
    rw [ofL_get]
    match e, h0 with
    | a :: e, h0 =>
      simp at h0
      subst h0
      simp
  rw [unF, dif_pos hlt, if_neg (by rw [hb]; simp), ofL_extract, List.drop_left, he]
  dsimp only
  rw [if_neg (by omega), hc, hn, List.append_assoc, List.length_append]
  rfl
theorem unF_esL : ∀ (m A : List UInt8) (f : Nat) (o : ByteArray), (esL m).length ≤ f → unF (ofL (A ++ esL m)) f A.length o = .ok (o ++ ofL m) := by
  intro m
  induction m with
  | nil =>
    intro A f o _
    rw [unF_end _ _ _ _ (by rw [ofL_size]; simp [esL])]
    congr 1
    exact (ByteArray.append_empty).symm
  | cons x m ih =>
    intro A f o hf
    have hs : esL (x :: m) = escL x ++ esL m := rfl
    have hlen : 0 < (escL x).length := by
      unfold escL escB
      repeat' split
      all_goals simp
    rw [hs, List.length_append] at hf
    obtain ⟨f, rfl⟩ : ∃ g, f = g + 1 := ⟨f - 1, by omega⟩
    rw [hs]
    have hfin : o ++ ofL [x] ++ ofL m = o ++ ofL (x :: m) := by rw [ByteArray.append_assoc, ofL_append]; rfl
    have toB : ∀ n : Nat, x.toNat = n → n < 256 → x = UInt8.ofNat n := fun n h _ => by rw [← h]; simp
    by_cases h38 : x.toNat = 38
    · have e : escL x = [38, 97, 109, 112, 59] := by unfold escL escB; rw [if_pos h38]
      rw [e, unF_esc A _ x _ f o 38 5 rfl (escL_amp _) rfl (by simp) (by rw [toB 38 h38 (by omega)]; decide), ih _ _ _ (by omega), hfin]
    by_cases h60 : x.toNat = 60
    · have e : escL x = [38, 108, 116, 59] := by unfold escL escB; rw [if_neg h38, if_pos h60]
      rw [e, unF_esc A _ x _ f o 60 4 rfl (escL_lt _) rfl (by simp) (by rw [toB 60 h60 (by omega)]; decide), ih _ _ _ (by omega), hfin]
    by_cases h62 : x.toNat = 62
    · have e : escL x = [38, 103, 116, 59] := by unfold escL escB; rw [if_neg h38, if_neg h60, if_pos h62]
      rw [e, unF_esc A _ x _ f o 62 4 rfl (escL_gt _) rfl (by simp) (by rw [toB 62 h62 (by omega)]; decide), ih _ _ _ (by omega), hfin]
    by_cases h34 : x.toNat = 34
    · have e : escL x = [38, 113, 117, 111, 116, 59] := by unfold escL escB; rw [if_neg h38, if_neg h60, if_neg h62, if_pos h34]
      rw [e, unF_esc A _ x _ f o 34 6 rfl (escL_quot _) rfl (by simp) (by rw [toB 34 h34 (by omega)]; decide), ih _ _ _ (by omega), hfin]
    · have e : escL x = [x] := by unfold escL escB; rw [if_neg h38, if_neg h60, if_neg h62, if_neg h34]
      rw [e]
      have hlt : A.length < (ofL (A ++ ([x] ++ esL m))).size := by rw [ofL_size]; simp
      have hb : ((ofL (A ++ ([x] ++ esL m)))[A.length]'hlt) = x := by rw [ofL_get]; simp
      rw [unF, dif_pos hlt, if_pos (by rw [hb]; exact h38), hb, ← List.append_assoc]
      have := ih (A ++ [x]) f (o ++ ofL [x]) (by omega)
      rw [List.length_append] at this
      rw [← hfin]
      exact this
/-- A string is read back from its escaped form. -/
theorem unF_escT (s : ByteArray) : unF (escT s) (escT s).size 0 ⟨#[]⟩ = .ok s := by
  rw [escT_list]
  have := unF_esL s.data.toList [] (ofL (esL s.data.toList)).size ⟨#[]⟩ (Nat.le_refl _)
  rw [List.nil_append] at this
  rw [show (0 : Nat) = ([] : List UInt8).length from rfl, this, ofL_toL]
  exact congrArg Except.ok ByteArray.empty_append

set_option maxHeartbeats 1000000 in
theorem walk_Back (s t : ByteArray) (w : World) : Calls Try.prog 8 #[.string s, .string t] w fun e w' => e = .returned (.bool true) ∧ Below w.heap.size w w' := by
  by_cases h1 : 300 < s.size
  · have h1' : (300 : Int) < s.size := by omega
    go_enter Try.func8, Try.ntmps8
    go_wp2
    go_ret
    exact ⟨rfl, Below.refl _ _⟩
  have h1' : ¬ (300 : Int) < s.size := by omega
  by_cases h2 : 300 < t.size
  · have h2' : (300 : Int) < t.size := by omega
    go_enter Try.func8, Try.ntmps8
    go_wp2
    go_ret
    exact ⟨rfl, Below.refl _ _⟩
  have h2' : ¬ (300 : Int) < t.size := by omega
  obtain ⟨S, hS⟩ : ∃ x, x = escT s := ⟨_, rfl⟩
  obtain ⟨T, hT⟩ : ∃ x, x = escT t := ⟨_, rfl⟩
  have hSl : S.size ≤ 1800 := by rw [hS]; have := escT_len s; omega
  have hTl : T.size ≤ 1800 := by rw [hT]; have := escT_len t; omega
  have HS : Hid (∀ w : World, Calls Try.prog 19 #[.string s] w fun e w' => e = .returned (.string S) ∧ Below w.heap.size w w') := Lib.hid (fun w => by rw [hS]; exact Escape_any s (by omega) w)
  have HT : Hid (∀ w : World, Calls Try.prog 19 #[.string t] w fun e w' => e = .returned (.string T) ∧ Below w.heap.size w w') := Lib.hid (fun w => by rw [hT]; exact Escape_any t (by omega) w)
  have HST : Hid (∀ w : World, Calls Try.prog 19 #[.string (s ++ t)] w fun e w' => e = .returned (.string (S ++ T)) ∧ Below w.heap.size w w') := Lib.hid (fun w => by
    rw [hS, hT, ← escT_append]; exact Escape_any (s ++ t) (by rw [ByteArray.size_append]; omega) w)
  have HU : Hid (∀ w : World, Calls Try.prog 21 #[.string S] w fun e w' => e = .returned (.tuple #[.string s, .int .i64 0, .int .i64 0]) ∧ Below w.heap.size w w') := Lib.hid (fun w => by
    have := Unescape_any S (by omega) w
    rw [show unF S S.size 0 ⟨#[]⟩ = .ok s by rw [hS]; exact unF_escT s] at this
    exact this)
  have HA := Lib.hid awake_any
  clear hS hT
  go_enter Try.func8, Try.ntmps8
  go_wp2_with (first | (go_at_call 19; with_reducible refine (HST.out _).mono ?_; rintro e w4 ⟨rfl, hb4⟩; have HB4 := Lib.hid hb4; clear hb4) | (go_at_call 21; refine (HU.out _).mono ?_; rintro e w2 ⟨rfl, hb2⟩; have HB2 := Lib.hid hb2; clear hb2) | (go_at_call 16; refine (HA.out _).mono ?_; rintro e w7 ⟨rfl, hb7⟩; have HB7 := Lib.hid hb7; clear hb7) | (go_at_call 19; with_reducible refine (HT.out _).mono ?_; rintro e w6 ⟨rfl, hb6⟩; have HB6 := Lib.hid hb6; clear hb6) | (go_at_call 19; with_reducible refine (HS.out _).mono ?_; rintro e wx ⟨rfl, hbx⟩; have HBX := Lib.hid hbx; clear hbx))
  go_ret
  rename_i w1 HB1
  exact ⟨rfl, bchain (bchain (bchain (bchain (bchain HB1.out HB2.out) HB4.out) HBX.out) HB6.out) HB7.out⟩
end Go.Proofs.Ytaaegelefknkeab
