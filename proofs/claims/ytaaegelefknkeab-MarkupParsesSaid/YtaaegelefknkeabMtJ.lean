/- FormatTag. -/
import Derived.Test.YtaaegelefknkeabMtI
namespace Go.Proofs.Ytaaegelefknkeab
open Go.RowKit Go.Shelf
set_option linter.unusedSimpArgs false

theorem escB_size (x : UInt8) : (escB x).size ≤ 6 := by
  unfold escB
  repeat' split
  all_goals first | decide | (show 1 ≤ 6; decide)
theorem esF_len (s : ByteArray) : ∀ f i o, (esF s f i o).size ≤ o.size + 6 * (s.size - i) := by
  intro f
  induction f with
  | zero => intro i o; unfold esF; omega
  | succ f ih =>
    intro i o
    by_cases h : i < s.size
    · rw [esF, dif_pos h]
      have h1 := ih (i + 1) (o ++ escB (s[i]'h))
      have h2 := escB_size (s[i]'h)
      rw [ByteArray.size_append] at h1
      omega
    · rw [esF_end s _ _ _ h]; omega
/-- A string's escaped form. -/
def escT (s : ByteArray) : ByteArray := esF s s.size 0 ⟨#[]⟩
theorem escT_len (s : ByteArray) : (escT s).size ≤ 6 * s.size := by
  have := esF_len s s.size 0 ⟨#[]⟩
  rw [show (ByteArray.mk #[]).size = 0 from rfl] at this
  unfold escT
  omega
/-- A key as it is written. -/
def keyT (p : Pr) : ByteArray := (⟨#[32]⟩ ++ p.1 ++ ⟨#[61, 34]⟩ ++ escT p.2) ++ ⟨#[34]⟩
def fmtK (l : List Pr) (o : ByteArray) : ByteArray := l.foldl (fun o p => o ++ keyT p) o
/-- A tag's text, or the error. -/
def fmtF (t : Tg) : ByteArray × Int :=
  if chkF t.1 t.2.1 t.2.2 = 0 then
    (if t.1 = true then (⟨#[60, 47]⟩ ++ t.2.1 ++ ⟨#[62]⟩, 0) else (fmtK (sortF t.2.2) (⟨#[60]⟩ ++ t.2.1) ++ ⟨#[62]⟩, 0))
  else (⟨#[]⟩, chkF t.1 t.2.1 t.2.2)
theorem mem_insF {o : List Pr} {p x : Pr} (h : x ∈ insF o p) : x ∈ o ∨ x = p := by
  unfold insF at h
  rw [List.mem_append, List.mem_cons] at h
  rcases h with h | h | h
  · exact .inl (List.mem_of_mem_take h)
  · exact .inr h
  · exact .inl (List.mem_of_mem_drop h)
theorem mem_sortF {l : List Pr} {x : Pr} (h : x ∈ sortF l) : x ∈ l := by
  have : ∀ (l o : List Pr), x ∈ l.foldl insF o → x ∈ o ∨ x ∈ l := by
    intro l
    induction l with
    | nil => intro o h; exact .inl h
    | cons p l ih =>
      intro o h
      rw [List.foldl_cons] at h
      rcases ih _ h with h | h
      · rcases mem_insF h with h | h
        · exact .inl h
        · exact .inr (by rw [h]; exact List.mem_cons_self ..)
      · exact .inr (List.mem_cons_of_mem _ h)
  rcases this l [] h with h | h
  · cases h
  · exact h
theorem vnF_size {s : ByteArray} (h : vnF s = true) : 1 ≤ s.size ∧ s.size ≤ 32 := by
  unfold vnF at h
  split at h
  · rename_i h0
    rw [Bool.and_eq_true, Bool.and_eq_true, decide_eq_true_eq] at h
    exact ⟨h0, h.1.1⟩
  · cases h
theorem vvF_size {s : ByteArray} (h : vvF s = 0) : s.size ≤ 120 := by
  unfold vvF at h
  split at h
  · cases h
  · omega
theorem chkK_zero (l : List Pr) : ∀ f i, l.length ≤ i + f → chkK l f i = 0 → ∀ j p, i ≤ j → l[j]? = some p → vnF p.1 = true ∧ hasF (l.take j) p.1 = false ∧ vvF p.2 = 0 := by
  intro f
  induction f with
  | zero =>
    intro i h _ j p hj hp
    have := (List.getElem?_eq_some_iff.1 hp).1
    omega
  | succ f ih =>
    intro i h h0 j p hj hp
    have hjl := (List.getElem?_eq_some_iff.1 hp).1
    obtain ⟨q, hq⟩ : ∃ q, l[i]? = some q := ⟨l[i]'(by omega), List.getElem?_eq_getElem (by omega)⟩
    rw [chkK, hq] at h0
    dsimp only at h0
    split at h0
    · cases h0
    rename_i h1
    split at h0
    · cases h0
    rename_i h2
    split at h0
    · rename_i h3
      by_cases hij : i = j
      · subst hij
        rw [hq] at hp
        cases hp
        exact ⟨by simpa using h1, by simpa using h2, h3⟩
      · exact ih (i + 1) (by omega) h0 j p (by omega) hp
    · rename_i h3; exact absurd h0 h3
theorem chkF_zero {c : Bool} {n : ByteArray} {l : List Pr} (h : chkF c n l = 0) : vnF n = true ∧ (c = true → l = []) ∧ l.length ≤ 8 ∧ ∀ j p, l[j]? = some p → vnF p.1 = true ∧ hasF (l.take j) p.1 = false ∧ vvF p.2 = 0 := by
  unfold chkF at h
  split at h
  · cases h
  rename_i h1
  split at h
  · cases h
  rename_i h2
  split at h
  · cases h
  rename_i h3
  refine ⟨by simpa using h1, fun hc => ?_, by omega, fun j p hp => chkK_zero l _ 0 (by omega) h j p (Nat.zero_le _) hp⟩
  subst hc
  cases l with
  | nil => rfl
  | cons a l => simp at h2
theorem mem_get {l : List Pr} {p : Pr} (h : p ∈ l) : ∃ j : Nat, l[j]? = some p := by
  obtain ⟨j, hj, rfl⟩ := List.mem_iff_getElem.1 h
  exact ⟨j, List.getElem?_eq_getElem hj⟩

theorem str_add (a b : ByteArray) (h : a.size + b.size ≤ 9223372036854775807) : ∀ W : World, (Op.stringOp .add a b).run Try.prog W = .ok (.string (a ++ b)) W := fun W => by
  have h' : ¬ ((9223372036854775807 : Int) < (a.size : Int) + (b.size : Int)) := by omega
  simp [Op.stringOp, h']

set_option maxHeartbeats 1000000 in
theorem FormatTag_any (c : Bool) (n : ByteArray) (l : List Pr) (v : Value) (a : Option Addr) (cap : Nat) (w : World) (h : RdP w v l a cap)
    (hn : n.size ≤ 140737488351232) (hl : ∀ p ∈ l, p.1.size ≤ 140737488351232 ∧ p.2.size ≤ 140737488351232) :
    Calls Try.prog 27 #[.agg #[.bool c, .string n, v]] w fun e w' => e = .returned (.tuple #[.string (fmtF (c, n, l)).1, .int .i64 (fmtF (c, n, l)).2]) ∧ Below w.heap.size w w' := by
  obtain rfl := h.eq
  have hmx : l.length ≤ 9223372036854775807 := Nat.le_trans h.le h.max
  have hT := heap_alloc_new w (.cells #[.bool c, .string n, .slice a l.length cap] 33)
  have hbT := b0 w (.cells #[.bool c, .string n, .slice a l.length cap] 33)
  obtain ⟨W1, hW1⟩ : ∃ W1, w.alloc (.cells #[.bool c, .string n, .slice a l.length cap] 33) = W1 := ⟨_, rfl⟩
  rw [hW1] at hT hbT
  have HR := Lib.hid (h.below hbT)
  have HW1 := Lib.hid hW1
  have HT := Lib.hid hT
  have HBT := Lib.hid hbT
  clear h hW1 hT hbT
  obtain ⟨r, hr⟩ : ∃ r, r = fmtF (c, n, l) := ⟨_, rfl⟩
  rw [← hr]
  unfold fmtF at hr
  dsimp only at hr
  have hchk := fun w h => check_any c n l (.slice a l.length cap) a cap w h hn hl
  by_cases h0 : chkF c n l = 0
  · rw [if_pos h0] at hr
    have hz := chkF_zero h0
    rw [h0] at hchk
    have HCH := Lib.hid hchk
    have hn32 := (vnF_size hz.1).2
    clear h0 hchk hl
    cases c with
    | true =>
      rw [if_pos rfl] at hr
      have HRR := Lib.hid hr
      clear hr hz
      go_enter Try.func27, Try.ntmps27
      go_wp2_with (go_at_call 46; rw [HW1.out]; refine (HCH.out _ HR.out).mono ?_; rintro e w2 ⟨rfl, hb2⟩; have hT2 := (hb2.block _ (Array.getElem?_eq_some_iff.1 HT.out).1).trans HT.out; obtain ⟨z0, z1, z2, zf0, zf1, zf2⟩ := tag_of_row hT2)
      exact bodyPost_ret (v := .tuple #[.string (⟨#[60, 47]⟩ ++ n ++ ⟨#[62]⟩), .int .i64 0]) (by simp [results, Try.results27, go_sem]) rfl ⟨by rw [HRR.out], bchain HBT.out hb2⟩
    | false =>
      rw [if_neg (by simp)] at hr
      obtain ⟨S, hS⟩ : ∃ S, S = sortF l := ⟨_, rfl⟩
      have hSl : S.length = l.length := by rw [hS, sortF_len]
      have hS8 : S.length ≤ 8 := by rw [hSl]; exact hz.2.2.1
      have hSm : ∀ p ∈ S, p.1.size ≤ 32 ∧ p.2.size ≤ 120 := fun p hp => by
        rw [hS] at hp
        obtain ⟨j, hj⟩ := mem_get (mem_sortF hp)
        have h3 := hz.2.2.2 j p hj
        exact ⟨(vnF_size h3.1).2, vvF_size h3.2.2⟩
      have hl8 : l.length ≤ 1000000 := by omega
      rw [← hS] at hr
      obtain ⟨D, hD⟩ : ∃ D, D = fmtK S (⟨#[60]⟩ ++ n) := ⟨_, rfl⟩
      rw [← hD] at hr
      have HRR := Lib.hid hr
      have HD := Lib.hid hD
      have HS := Lib.hid hS
      have HSM := Lib.hid hSm
      clear hr hz hS hSm hD hSl
      go_enter Try.func27, Try.ntmps27
      go_wp2_with (first | (go_at_call 46; rw [HW1.out]; refine (HCH.out _ HR.out).mono ?_; rintro e w2 ⟨rfl, hb2⟩; have hT2 := (hb2.block _ (Array.getElem?_eq_some_iff.1 HT.out).1).trans HT.out; obtain ⟨z0, z1, z2, zf0, zf1, zf2⟩ := tag_of_row hT2) | (go_at_call 47; refine (sorted_any l _ a cap _ (HR.out.below hb2) hl8).mono ?_; rw [← HS.out]; rintro e w3 ⟨sv, rfl, hown3, hb3⟩; obtain ⟨so, sc, rfl⟩ := hown3.lenv))
      have HOWN3 := Lib.hid (hown3.mono (base' := w.heap.size) (Nat.le_trans HBT.out.size hb2.size))
      have HB3 := Lib.hid (bchain (bchain HBT.out hb2) hb3)
      clear hown3 hb3 hb2 hT2 z0 z1 z2 zf0 zf1 zf2 HCH hmx
      go_loopw [5, 26] (fun o i wr => ∃ (k : Nat) (b : ByteArray), i = .int .i64 k ∧ o = .string b ∧ k ≤ S.length ∧ b.size ≤ 40 + 1000 * k ∧ fmtK (S.drop k) b = D ∧ OwnsP wr w.heap.size (.slice so S.length sc) S ∧ Below w.heap.size w wr) (fun _ i _ => S.length - (intOf i).toNat)
      case atStart => exact ⟨0, _, rfl, rfl, by omega, by rw [ByteArray.size_append]; show 1 + n.size ≤ _; omega, HD.out.symm, HOWN3.out, HB3.out⟩
      case round =>
        obtain ⟨k, b, rfl, rfl, hk, hbs, hf, hown, hb⟩ := hrel
        by_cases hk1 : k < S.length
        · have hk1' : (k : Int) < S.length := by omega
          obtain ⟨p, hp⟩ : ∃ p, S[k]? = some p := ⟨S[k], List.getElem?_eq_getElem hk1⟩
          obtain ⟨g, cap3, hv3, hbg, hle3, hmx3, c0, c1⟩ := hown.at hp
          simp only [Value.slice.injEq, true_and] at hv3
          obtain ⟨rfl, rfl⟩ := hv3
          have hps := HSM.out p (List.mem_of_getElem? hp)
          have hps1 := hps.1
          have hps2 := hps.2
          have hd : S.drop k = p :: S.drop (k + 1) := by
            rw [List.drop_eq_getElem_cons hk1]
            rw [List.getElem?_eq_getElem hk1] at hp
            cases hp
            rfl
          have hf2 : fmtK (S.drop (k + 1)) (b ++ keyT p) = D := by rw [← hf, hd]; rfl
          have hE := Escape_any p.2 (by omega)
          have hEl := escT_len p.2
          obtain ⟨E, hEE⟩ : ∃ E, E = escT p.2 := ⟨_, rfl⟩
          rw [show esF p.2 p.2.size 0 ⟨#[]⟩ = E from hEE.symm] at hE
          rw [← hEE] at hEl
          have hE720 : E.size ≤ 720 := by omega
          have hK : keyT p = (⟨#[32]⟩ ++ p.1 ++ ⟨#[61, 34]⟩ ++ E) ++ ⟨#[34]⟩ := by rw [hEE]; rfl
          have HK := Lib.hid hK
          have HE := Lib.hid hE
          have HF2 := Lib.hid hf2
          have HOWN := Lib.hid hown
          have HB := Lib.hid hb
          have hP4 := heap_alloc_new wr (.cells #[.string p.1, .string p.2] 52)
          have hb4 := b0 wr (.cells #[.string p.1, .string p.2] 52)
          clear hK hE hf2 hown hb hEE hd hf hp hEl hps
          go_wp2_with fail
          obtain ⟨W4, hW4⟩ : ∃ W4, wr.alloc (.cells #[.string p.1, .string p.2] 52) = W4 := ⟨_, rfl⟩
          rw [hW4] at hP4 hb4 ⊢
          obtain ⟨p0, p1, pf0, pf1⟩ := pair_of_row hP4
          have HP4 := Lib.hid hP4
          have HB4 := Lib.hid hb4
          clear hP4 hb4 hW4 c0 c1
          have q1 := str_add (⟨#[32]⟩ : ByteArray) p.1 (by show 1 + _ ≤ _; omega)
          have q2 := str_add (⟨#[32]⟩ ++ p.1 : ByteArray) ⟨#[61, 34]⟩ (by rw [ByteArray.size_append]; show 1 + _ + 2 ≤ _; omega)
          have q3 := str_add (⟨#[32]⟩ ++ p.1 ++ ⟨#[61, 34]⟩ : ByteArray) E (by simp only [ByteArray.size_append]; show 1 + _ + 2 + _ ≤ _; omega)
          have q4 := str_add (⟨#[32]⟩ ++ p.1 ++ ⟨#[61, 34]⟩ ++ E : ByteArray) ⟨#[34]⟩ (by simp only [ByteArray.size_append]; show 1 + _ + 2 + _ + 1 ≤ _; omega)
          have q5 := str_add b (⟨#[32]⟩ ++ p.1 ++ ⟨#[61, 34]⟩ ++ E ++ ⟨#[34]⟩ : ByteArray) (by simp only [ByteArray.size_append]; show _ + (1 + _ + 2 + _ + 1) ≤ _; omega)
          go_region_held3 (fun w' => w'.cell? ⟨wr.heap.size, 0, none⟩ = some (.string p.1) ∧ w'.cell? ⟨wr.heap.size, 1, none⟩ = some (.string p.2))
            (first | exact ⟨p0, p1⟩ | (go_keep; done) | exact ⟨(pair_of_row hP6).1, (pair_of_row hP6).2.1⟩)
            (first | (go_at_call 19; refine (HE.out _).mono ?_; rintro e w6 ⟨rfl, hb6⟩; have hP6 := (hb6.block _ (Array.getElem?_eq_some_iff.1 HP4.out).1).trans HP4.out))
          all_goals
            have hB6 : Below w.heap.size w w6 := bchain (bchain HB.out HB4.out) ⟨hb6.os, hb6.tape, hb6.output, hb6.size, hb6.block⟩
            have hO6 : OwnsP w6 w.heap.size (.slice (some ⟨g, 0, none⟩) S.length sc) S := (HOWN.out.below HB4.out).below ⟨hb6.os, hb6.tape, hb6.output, hb6.size, hb6.block⟩
            have HB6 := Lib.hid hB6
            have HO6 := Lib.hid hO6
            clear hB6 hO6 hb6 hP6 p0 p1 pf0 pf1 q1 q2 q3 q4 q5
            go_wp2
            refine ⟨⟨k + 1, _, by go_num, rfl, by omega, ?_, ?_, HO6.out, HB6.out⟩, by simp [intOf]; omega⟩
            · simp only [ByteArray.size_append]
              rw [show (ByteArray.mk #[32]).size = 1 from rfl, show (ByteArray.mk #[61, 34]).size = 2 from rfl, show (ByteArray.mk #[34]).size = 1 from rfl]
              omega
            · rw [← HK.out]; exact HF2.out
        · have hk1' : ¬ (k : Int) < S.length := by omega
          have hbD : b = D := by rw [← hf, List.drop_eq_nil_of_le (by omega)]; rfl
          have HBD := Lib.hid hbD
          have HB := Lib.hid hb
          clear hbD hb hf hown
          go_wp2
          exact bodyPost_ret (v := .tuple #[.string (b ++ ⟨#[62]⟩), .int .i64 0]) (by simp [results, Try.results27, go_sem]) rfl ⟨by rw [HRR.out, HBD.out], HB.out⟩
  · rw [if_neg h0] at hr
    have e0 : (chkF c n l != 0) = true := by simp [h0]
    generalize chkF c n l = x at hchk hr e0
    have HCH := Lib.hid hchk
    have HRR := Lib.hid hr
    clear h0 hchk hl hr
    go_enter Try.func27, Try.ntmps27
    go_wp2_with (go_at_call 46; rw [HW1.out]; refine (HCH.out _ HR.out).mono ?_; rintro e w2 ⟨rfl, hb2⟩)
    exact bodyPost_ret (v := .tuple #[.string ⟨#[]⟩, .int .i64 x]) (by simp [results, Try.results27, go_sem]) rfl ⟨by rw [HRR.out], bchain HBT.out hb2⟩
end Go.Proofs.Ytaaegelefknkeab
