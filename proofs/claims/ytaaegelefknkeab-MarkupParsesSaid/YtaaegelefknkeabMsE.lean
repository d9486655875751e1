/- Unescape. -/
import Derived.Test.YtaaegelefknkeabMsD
namespace Go.Proofs.Ytaaegelefknkeab
open Go.RowKit Go.Shelf
set_option linter.unusedSimpArgs false

/-- What is read so far, and what comes of it: the string, or the place where no escape begins. -/
def unF (s : ByteArray) : Nat → Nat → ByteArray → Except Nat ByteArray
  | 0, _, o => .ok o
  | f + 1, i, o => if h : i < s.size then
      (if (s[i]'h).toNat ≠ 38 then unF s f (i + 1) (o ++ ⟨#[s[i]'h]⟩)
       else if (escF (s.extract i s.size)).2 = 0 then .error i
       else unF s f (i + (escF (s.extract i s.size)).2.toNat) (o ++ Utf8.encode (escF (s.extract i s.size)).1)) else .ok o
def unV : Except Nat ByteArray → Value
  | .ok b => .tuple #[.string b, .int .i64 0, .int .i64 0]
  | .error i => .tuple #[.string ⟨#[]⟩, .int .i64 i, .int .i64 3]
theorem unF_end (s : ByteArray) (f i : Nat) (o : ByteArray) (h : ¬ i < s.size) : unF s f i o = .ok o := by
  cases f with
  | zero => rfl
  | succ f => unfold unF; rw [dif_neg h]

theorem cell_one_new (w : World) (a : Value) (t : TypeId) : ∀ j u, [a][j]? = some u → (w.alloc (.cells #[a] t)).cell? ((⟨w.heap.size, 0, none⟩ : Addr).add j) = some u := by
  intro j u hu
  have hadd : (⟨w.heap.size, 0, none⟩ : Addr).add j = ⟨w.heap.size, j, none⟩ := by unfold Addr.add; split <;> simp_all
  rw [hadd, cell_of_row _ w.heap.size j #[a] t (0, 0) (heap_alloc_new w _)]
  rw [← hu]
  simp
theorem prefF_size {s p : ByteArray} (h : prefF s p = true) : p.size ≤ s.size := by
  unfold prefF at h
  rw [Bool.and_eq_true, decide_eq_true_eq] at h
  exact h.1
theorem digF_bound (s : ByteArray) : ∀ f n i, i ≤ 9 → (i ≤ (digF s f n i).2 ∧ (digF s f n i).2 ≤ 9) := by
  intro f
  induction f with
  | zero => intro n i h; exact ⟨Nat.le_refl _, h⟩
  | succ f ih =>
    intro n i h
    unfold digF
    split
    · split
      · rename_i h9
        have := ih (10 * n + ((s[i]'(by assumption)).toNat - 48)) (i + 1) (by omega)
        omega
      · exact ⟨Nat.le_refl _, h⟩
    · exact ⟨Nat.le_refl _, h⟩
/-- The length of an escape: 0, or from 4 (3) on and within the string. -/
theorem numF_bounds (s : ByteArray) (n i : Nat) (hi : 2 ≤ i) : ((numF s n i).2 = 0 ∨ (4 ≤ (numF s n i).2 ∧ (numF s n i).2 ≤ s.size)) ∧ 0 ≤ (numF s n i).1 ∧ (numF s n i).1 ≤ 1114111 := by
  unfold numF
  repeat' split
  all_goals (refine ⟨?_, ?_, ?_⟩ <;> dsimp only <;> omega)
theorem escF_bounds (s : ByteArray) : ((escF s).2 = 0 ∨ (4 ≤ (escF s).2 ∧ (escF s).2 ≤ s.size)) ∧ 0 ≤ (escF s).1 ∧ (escF s).1 ≤ 1114111 := by
  unfold escF
  split
  · rename_i h; have := prefF_size h; exact ⟨.inr ⟨by decide, by have h5 : (ByteArray.mk #[38, 97, 109, 112, 59]).size = 5 := rfl; show (5 : Int) ≤ _; omega⟩, by decide, by decide⟩
  split
  · rename_i h; have := prefF_size h; exact ⟨.inr ⟨by decide, by have h5 : (ByteArray.mk #[38, 108, 116, 59]).size = 4 := rfl; show (4 : Int) ≤ _; omega⟩, by decide, by decide⟩
  split
  · rename_i h; have := prefF_size h; exact ⟨.inr ⟨by decide, by have h5 : (ByteArray.mk #[38, 103, 116, 59]).size = 4 := rfl; show (4 : Int) ≤ _; omega⟩, by decide, by decide⟩
  split
  · rename_i h; have := prefF_size h; exact ⟨.inr ⟨by decide, by have h5 : (ByteArray.mk #[38, 113, 117, 111, 116, 59]).size = 6 := rfl; show (6 : Int) ≤ _; omega⟩, by decide, by decide⟩
  split
  · exact ⟨.inl rfl, by decide, by decide⟩
  · exact numF_bounds s _ _ (digF_bound s s.size 0 2 (by omega)).1

set_option maxHeartbeats 4000000 in
theorem Unescape_any (s : ByteArray) (hs : s.size ≤ 1000000) (w : World) :
    Calls Try.prog 21 #[.string s] w fun e w' => e = .returned (unV (unF s s.size 0 ⟨#[]⟩)) ∧ Below w.heap.size w w' := by
  obtain ⟨i0, hi, hz0, hz1, hz2⟩ := info_parts Try.info5
  have Hhi := Lib.hid hi
  clear hi
  obtain ⟨D, hD⟩ : ∃ D, D = unF s s.size 0 ⟨#[]⟩ := ⟨_, rfl⟩
  rw [← hD]
  have HD := Lib.hid hD
  clear hD
  go_enter Try.func21, Try.ntmps21
  go_wp2_with fail
  go_loopw [5, 6] (fun o i wr => ∃ (k f : Nat) (b : ByteArray) (v : Value), i = .int .i64 k ∧ v = o ∧ k ≤ s.size ∧ s.size ≤ k + f ∧ OwnsB wr w.heap.size v b ∧ b.size ≤ 4 * k ∧ unF s f k b = D ∧ Below w.heap.size w wr) (fun _ i _ => s.size - (intOf i).toNat)
  case atStart => exact ⟨0, s.size, ⟨#[]⟩, _, rfl, rfl, by omega, by omega, World.ownsRow_nil _ _ _ _, by decide, HD.out.symm, Below.refl _ _⟩
  case round =>
    obtain ⟨k, f, b, v, rfl, rfl, hk, hf, hrow, hbs, hun, hbl⟩ := hrel
    have hwl := hbl.size
    have Hrow := Lib.hid hrow
    have Hbl := Lib.hid hbl
    have Hun := Lib.hid hun
    clear hrow hbl hun
    by_cases hk1 : k < s.size
    · have hk1' : (k : Int) < s.size := by omega
      obtain ⟨f, rfl⟩ : ∃ g, f = g + 1 := ⟨f - 1, by omega⟩
      cases h38 : (((s[k]'hk1).toNat : Int) != 38) with
      | true =>
        have h1 : unF s (f + 1) k b = unF s f (k + 1) (b ++ ⟨#[s[k]'hk1]⟩) := by
          rw [unF, dif_pos hk1, if_pos (by intro h; rw [h] at h38; simp at h38)]
        rw [h1] at Hun
        clear h1
        go_wp2_with (at_builtin; refine wpList_append_own _ rfl _ _ 53 rfl w.heap.size 5 i0 _ 1 1 Try.underlying53 Hhi.out hz0 hz1 hz2 rfl (by decide) v b.size (Lib.strCells b) rfl (World.ownsRow.alloc Hrow.out _) ⟨wr.heap.size, 0, none⟩ 1 1 [.int .u8 ((s[k]'hk1).toNat : Int)] rfl rfl (cell_one_new _ _ _) (by simp [Value.oneCell']) (by unfold maxLen; omega) (by omega) (by simp; omega) ?_; intro v' w1 hown' hgrow _; have HX := Lib.hid hown'; have HG := Lib.hid hgrow; clear hown' hgrow)
        refine ⟨⟨k + 1, f, b ++ ⟨#[s[k]'hk1]⟩, v', by go_num, rfl, by omega, by omega, OwnsB.append (a := b) (b := ⟨#[s[k]'hk1]⟩) HX.out, ?_, Hun.out, ?_⟩, by simp [intOf]; omega⟩
        · rw [ByteArray.size_append, show (ByteArray.mk #[s[k]'hk1]).size = 1 from rfl]; omega
        · exact (Hbl.out.alloc Hbl.out.size _).grown HG.out (by rw [World.size_alloc]; omega) (fun j e => (World.ownsRow.lt Hrow.out j e).1)
      | false =>
        have h38' : (s[k]'hk1).toNat = 38 := by simp at h38; omega
        obtain ⟨q, hq⟩ : ∃ q, q = s.extract k s.size := ⟨_, rfl⟩
        have hqs : q.size = s.size - k := by rw [hq, ByteArray.size_extract]; omega
        have hbd := escF_bounds q
        have hesc := escape_any q (by omega)
        have h1 : unF s (f + 1) k b = if (escF q).2 = 0 then .error k else unF s f (k + (escF q).2.toNat) (b ++ Utf8.encode (escF q).1) := by
          rw [unF, dif_pos hk1, if_neg (by simp [h38']), hq]
        rw [h1] at Hun
        have HQ := Lib.hid hq
        generalize escF q = p at hbd hesc Hun
        obtain ⟨r, n⟩ := p
        dsimp only at hbd Hun
        obtain ⟨hb1, hb2, hb3⟩ := hbd
        unfold escV at hesc
        have HE := Lib.hid hesc
        clear h1 hq hesc h38'
        by_cases hn : n = 0
        · rw [if_pos hn] at Hun
          have hD := Hun.out
          subst hD
          subst hn
          go_wp2_with (go_at_call 38; rw [← HQ.out]; refine (HE.out _).mono ?_; rintro e w1 ⟨rfl, rfl⟩)
          exact bodyPost_ret (v := .tuple #[.string ⟨#[]⟩, .int .i64 k, .int .i64 3]) (by simp [results, Try.results21, go_sem]) rfl ⟨rfl, Hbl.out⟩
        · have e0 : (n == 0) = false := by simp [hn]
          rw [if_neg hn] at Hun
          have hn4 : 4 ≤ n ∧ n ≤ q.size := by omega
          have hn4' := hn4.1
          have hn5 : n ≤ s.size - k := by omega
          have hes := encode_size_le r
          clear hb1 hn4
          obtain ⟨z, rfl⟩ : ∃ z : Nat, n = z := ⟨n.toNat, by omega⟩
          rw [Int.toNat_natCast] at Hun
          go_wp2_with (first | (go_at_call 38; rw [← HQ.out]; refine (HE.out _).mono ?_; rintro e w1 ⟨rfl, rfl⟩) | (at_builtin; refine wpList_append_string rfl _ _ 53 9 rfl w.heap.size i0 Try.underlying53 Try.underlying9 Hhi.out hz0 hz1 hz2 _ _ rfl Hrow.out (Utf8.encode r) rfl (by omega) (by omega) ?_; intro v' w1 hown' hgrow; have HX := Lib.hid hown'; have HG := Lib.hid hgrow; clear hown' hgrow))
          refine ⟨⟨k + z, f, b ++ Utf8.encode r, v', by go_num, rfl, by omega, by omega, HX.out, ?_, Hun.out, ?_⟩, by simp [intOf]; omega⟩
          · rw [ByteArray.size_append]; omega
          · exact Hbl.out.grown HG.out Hbl.out.size (fun j e => (World.ownsRow.lt Hrow.out j e).1)
    · obtain rfl : k = s.size := by omega
      have hD := Hun.out
      rw [unF_end s f _ _ hk1] at hD
      subst hD
      have hcv := run_convert_owned 53 9 Try.underlying53 Try.underlying5 Try.underlying9 Hrow.out
      go_wp2
      exact bodyPost_ret (v := .tuple #[.string b, .int .i64 0, .int .i64 0]) (by simp [results, Try.results21, go_sem]) rfl ⟨rfl, Hbl.out⟩
end Go.Proofs.Ytaaegelefknkeab
