/- Escape. -/
import Derived.Test.YtaaegelefknkeabMsE
namespace Go.Proofs.Ytaaegelefknkeab
open Go.RowKit Go.Shelf
set_option linter.unusedSimpArgs false

/-- What takes a byte's place. -/
def escB (x : UInt8) : ByteArray :=
  if x.toNat = 38 then ⟨#[38, 97, 109, 112, 59]⟩ else if x.toNat = 60 then ⟨#[38, 108, 116, 59]⟩ else if x.toNat = 62 then ⟨#[38, 103, 116, 59]⟩
  else if x.toNat = 34 then ⟨#[38, 113, 117, 111, 116, 59]⟩ else ⟨#[x]⟩
def esF (s : ByteArray) : Nat → Nat → ByteArray → ByteArray
  | 0, _, o => o
  | f + 1, i, o => if h : i < s.size then esF s f (i + 1) (o ++ escB (s[i]'h)) else o
theorem esF_end (s : ByteArray) (f i : Nat) (o : ByteArray) (h : ¬ i < s.size) : esF s f i o = o := by
  cases f with
  | zero => rfl
  | succ f => unfold esF; rw [dif_neg h]

set_option maxHeartbeats 4000000 in
theorem Escape_any (s : ByteArray) (hs : s.size ≤ 1000000) (w : World) :
    Calls Try.prog 19 #[.string s] w fun e w' => e = .returned (.string (esF s s.size 0 ⟨#[]⟩)) ∧ Below w.heap.size w w' := by
  obtain ⟨i0, hi, hz0, hz1, hz2⟩ := info_parts Try.info5
  have Hhi := Lib.hid hi
  clear hi
  obtain ⟨D, hD⟩ : ∃ D, D = esF s s.size 0 ⟨#[]⟩ := ⟨_, rfl⟩
  rw [← hD]
  have HD := Lib.hid hD
  clear hD
  go_enter Try.func19, Try.ntmps19
  go_wp2_with fail
  go_loopw [3, 7] (fun o i wr => ∃ (k f : Nat) (b : ByteArray) (v : Value), i = .int .i64 k ∧ v = o ∧ k ≤ s.size ∧ s.size ≤ k + f ∧ OwnsB wr w.heap.size v b ∧ b.size ≤ 6 * k ∧ esF s f k b = D ∧ Below w.heap.size w wr) (fun _ i _ => s.size - (intOf i).toNat)
  case atStart => exact ⟨0, s.size, ⟨#[]⟩, _, rfl, rfl, by omega, by omega, World.ownsRow_nil _ _ _ _, by decide, HD.out.symm, Below.refl _ _⟩
  case round =>
    obtain ⟨k, f, b, v, rfl, rfl, hk, hf, hrow, hbs, hun, hbl⟩ := hrel
    have hwl := hbl.size
    have Hrow := Lib.hid hrow
    have Hbl := Lib.hid hbl
    have Hun := Lib.hid hun
    clear hrow hbl hun
    by_cases hk1 : k < s.size
    · have hk1' : (k : Int) < s.size := by omega
      obtain ⟨f, rfl⟩ : ∃ g, f = g + 1 := ⟨f - 1, by omega⟩
      have h1 : esF s (f + 1) k b = esF s f (k + 1) (b ++ escB (s[k]'hk1)) := by rw [esF, dif_pos hk1]
      rw [h1] at Hun
      clear h1
      cases h38 : (((s[k]'hk1).toNat : Int) == 38) with
      | true =>
        have hb : escB (s[k]'hk1) = ⟨#[38, 97, 109, 112, 59]⟩ := by
          have e : (s[k]'hk1).toNat = 38 := by have := eq_of_beq h38; omega
          unfold escB
          rw [if_pos e]
        have HB := Lib.hid hb
        clear hb
        have HZ : Hid ((ByteArray.mk #[38, 97, 109, 112, 59]).size ≤ 6) := Lib.hid (by decide)
        go_wp2_with (at_builtin; refine wpList_append_string rfl _ _ 53 9 rfl w.heap.size i0 Try.underlying53 Try.underlying9 Hhi.out hz0 hz1 hz2 _ _ rfl Hrow.out ⟨#[38, 97, 109, 112, 59]⟩ rfl (by have := HZ.out; omega) (by omega) ?_; intro v' w1 hown' hgrow; have HX := Lib.hid hown'; have HG := Lib.hid hgrow; clear hown' hgrow)
        refine ⟨⟨k + 1, f, b ++ escB (s[k]'hk1), v', by go_num, rfl, by omega, by omega, ?_, ?_, Hun.out, ?_⟩, by simp [intOf]; omega⟩
        · rw [HB.out]; exact HX.out
        · rw [HB.out, ByteArray.size_append]; have : (ByteArray.mk #[38, 97, 109, 112, 59]).size ≤ 6 := by decide
          omega
        · exact Hbl.out.grown HG.out Hbl.out.size (fun j e => (World.ownsRow.lt Hrow.out j e).1)
      | false =>
        cases h60 : (((s[k]'hk1).toNat : Int) == 60) with
        | true =>
          have hb : escB (s[k]'hk1) = ⟨#[38, 108, 116, 59]⟩ := by
            have e : (s[k]'hk1).toNat = 60 := by have := eq_of_beq h60; omega
            unfold escB
            rw [if_neg (by omega), if_pos e]
          have e38 : (((s[k]'hk1).toNat : Int) == 38) = false := h38
          have HB := Lib.hid hb
          clear hb
          have HZ : Hid ((ByteArray.mk #[38, 108, 116, 59]).size ≤ 6) := Lib.hid (by decide)
          go_wp2_with (at_builtin; refine wpList_append_string rfl _ _ 53 9 rfl w.heap.size i0 Try.underlying53 Try.underlying9 Hhi.out hz0 hz1 hz2 _ _ rfl Hrow.out ⟨#[38, 108, 116, 59]⟩ rfl (by have := HZ.out; omega) (by omega) ?_; intro v' w1 hown' hgrow; have HX := Lib.hid hown'; have HG := Lib.hid hgrow; clear hown' hgrow)
          refine ⟨⟨k + 1, f, b ++ escB (s[k]'hk1), v', by go_num, rfl, by omega, by omega, ?_, ?_, Hun.out, ?_⟩, by simp [intOf]; omega⟩
          · rw [HB.out]; exact HX.out
          · rw [HB.out, ByteArray.size_append]; have : (ByteArray.mk #[38, 108, 116, 59]).size ≤ 6 := by decide
            omega
          · exact Hbl.out.grown HG.out Hbl.out.size (fun j e => (World.ownsRow.lt Hrow.out j e).1)
        | false =>
          cases h62 : (((s[k]'hk1).toNat : Int) == 62) with
          | true =>
            have hb : escB (s[k]'hk1) = ⟨#[38, 103, 116, 59]⟩ := by
              have e : (s[k]'hk1).toNat = 62 := by have := eq_of_beq h62; omega
              unfold escB
              rw [if_neg (by omega), if_neg (by omega), if_pos e]
            have e38 : (((s[k]'hk1).toNat : Int) == 38) = false := h38
            have e60 : (((s[k]'hk1).toNat : Int) == 60) = false := h60
            have HB := Lib.hid hb
            clear hb
            have HZ : Hid ((ByteArray.mk #[38, 103, 116, 59]).size ≤ 6) := Lib.hid (by decide)
            go_wp2_with (at_builtin; refine wpList_append_string rfl _ _ 53 9 rfl w.heap.size i0 Try.underlying53 Try.underlying9 Hhi.out hz0 hz1 hz2 _ _ rfl Hrow.out ⟨#[38, 103, 116, 59]⟩ rfl (by have := HZ.out; omega) (by omega) ?_; intro v' w1 hown' hgrow; have HX := Lib.hid hown'; have HG := Lib.hid hgrow; clear hown' hgrow)
            refine ⟨⟨k + 1, f, b ++ escB (s[k]'hk1), v', by go_num, rfl, by omega, by omega, ?_, ?_, Hun.out, ?_⟩, by simp [intOf]; omega⟩
            · rw [HB.out]; exact HX.out
            · rw [HB.out, ByteArray.size_append]; have : (ByteArray.mk #[38, 103, 116, 59]).size ≤ 6 := by decide
              omega
            · exact Hbl.out.grown HG.out Hbl.out.size (fun j e => (World.ownsRow.lt Hrow.out j e).1)
          | false =>
            cases h34 : (((s[k]'hk1).toNat : Int) == 34) with
            | true =>
              have hb : escB (s[k]'hk1) = ⟨#[38, 113, 117, 111, 116, 59]⟩ := by
                have e : (s[k]'hk1).toNat = 34 := by have := eq_of_beq h34; omega
                unfold escB
                rw [if_neg (by omega), if_neg (by omega), if_neg (by omega), if_pos e]
              have e38 : (((s[k]'hk1).toNat : Int) == 38) = false := h38
              have e60 : (((s[k]'hk1).toNat : Int) == 60) = false := h60
              have e62 : (((s[k]'hk1).toNat : Int) == 62) = false := h62
              have HB := Lib.hid hb
              clear hb
              have HZ : Hid ((ByteArray.mk #[38, 113, 117, 111, 116, 59]).size ≤ 6) := Lib.hid (by decide)
              go_wp2_with (at_builtin; refine wpList_append_string rfl _ _ 53 9 rfl w.heap.size i0 Try.underlying53 Try.underlying9 Hhi.out hz0 hz1 hz2 _ _ rfl Hrow.out ⟨#[38, 113, 117, 111, 116, 59]⟩ rfl (by have := HZ.out; omega) (by omega) ?_; intro v' w1 hown' hgrow; have HX := Lib.hid hown'; have HG := Lib.hid hgrow; clear hown' hgrow)
              refine ⟨⟨k + 1, f, b ++ escB (s[k]'hk1), v', by go_num, rfl, by omega, by omega, ?_, ?_, Hun.out, ?_⟩, by simp [intOf]; omega⟩
              · rw [HB.out]; exact HX.out
              · rw [HB.out, ByteArray.size_append]; have : (ByteArray.mk #[38, 113, 117, 111, 116, 59]).size ≤ 6 := by decide
                omega
              · exact Hbl.out.grown HG.out Hbl.out.size (fun j e => (World.ownsRow.lt Hrow.out j e).1)
            | false =>
              have hb : escB (s[k]'hk1) = ⟨#[s[k]'hk1]⟩ := by
                have n38 : ¬ (s[k]'hk1).toNat = 38 := fun h => by rw [h] at h38; simp at h38
                have n60 : ¬ (s[k]'hk1).toNat = 60 := fun h => by rw [h] at h60; simp at h60
                have n62 : ¬ (s[k]'hk1).toNat = 62 := fun h => by rw [h] at h62; simp at h62
                have n34 : ¬ (s[k]'hk1).toNat = 34 := fun h => by rw [h] at h34; simp at h34
                unfold escB
                rw [if_neg n38, if_neg n60, if_neg n62, if_neg n34]
              have HB := Lib.hid hb
              clear hb
              go_wp2_with (at_builtin; refine wpList_append_own _ rfl _ _ 53 rfl w.heap.size 5 i0 _ 1 1 Try.underlying53 Hhi.out hz0 hz1 hz2 rfl (by decide) v b.size (Lib.strCells b) rfl (World.ownsRow.alloc Hrow.out _) ⟨wr.heap.size, 0, none⟩ 1 1 [.int .u8 ((s[k]'hk1).toNat : Int)] rfl rfl (cell_one_new _ _ _) (by simp [Value.oneCell']) (by unfold maxLen; omega) (by omega) (by simp; omega) ?_; intro v' w1 hown' hgrow _; have HX := Lib.hid hown'; have HG := Lib.hid hgrow; clear hown' hgrow)
              refine ⟨⟨k + 1, f, b ++ escB (s[k]'hk1), v', by go_num, rfl, by omega, by omega, ?_, ?_, Hun.out, ?_⟩, by simp [intOf]; omega⟩
              · rw [HB.out]; exact OwnsB.append (a := b) (b := ⟨#[s[k]'hk1]⟩) HX.out
              · rw [HB.out, ByteArray.size_append]; rw [show (ByteArray.mk #[s[k]'hk1]).size = 1 from rfl]; omega
              · exact (Hbl.out.alloc Hbl.out.size _).grown HG.out (by rw [World.size_alloc]; omega) (fun j e => (World.ownsRow.lt Hrow.out j e).1)
    · obtain rfl : k = s.size := by omega
      have hD := Hun.out
      rw [esF_end s f _ _ hk1] at hD
      subst hD
      have hcv := run_convert_owned 53 9 Try.underlying53 Try.underlying5 Try.underlying9 Hrow.out
      go_wp2
      go_ret
      exact ⟨rfl, Hbl.out⟩
end Go.Proofs.Ytaaegelefknkeab
