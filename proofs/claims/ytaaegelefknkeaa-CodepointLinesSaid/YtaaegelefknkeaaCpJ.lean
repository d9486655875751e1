/- The walk of Reverse. -/
import Derived.Test.YtaaegelefknkeaaCpI
import Derived.Deep.RegionHeld3
import Derived.Deep.Draws
import Derived.StillTailTactics
namespace Go.Proofs.Ytaaegelefknkeaa
open Go.RowKit Go.Shelf
set_option linter.unusedSimpArgs false

/-- The cells of an owned row of units. -/
structure UnitsAt (w : World) (v : Value) (us : List U) : Prop where
  ex : ∃ A cap, v = .slice A us.length cap ∧ (us = [] ∨ ∃ g, A = some ⟨g, 0, none⟩ ∧ ∀ (k : Nat) (hk : k < us.length), w.cell? ⟨g, k * 3, none⟩ = some (.int .i32 us[k].1) ∧ w.cell? ⟨g, k * 3 + 1, none⟩ = some (.int .i64 us[k].2.1) ∧ w.cell? ⟨g, k * 3 + 2, none⟩ = some (.int .i64 us[k].2.2))
theorem OwnsU.at {w : World} {base : Nat} {v : Value} {us : List U} (h : OwnsU w base v us) : UnitsAt w v us := by
  rcases h.2 with ⟨rfl, h0⟩ | ⟨g, cap, cur, rfl, hbg, hg, hle, hm, hcs, htk⟩
  · have : us = [] := List.eq_nil_of_length_eq_zero h0
    subst this
    exact ⟨none, 0, rfl, .inl rfl⟩
  · refine ⟨_, cap, rfl, .inr ⟨g, rfl, fun k hk => ?_⟩⟩
    obtain ⟨h0, h1, h2⟩ := cellsU_get us k hk
    rw [Nat.mul_comm] at h0 h1 h2
    have e : ∀ o u, o < 3 → (cellsU us)[k * 3 + o]? = some u → w.cell? ⟨g, k * 3 + o, none⟩ = some u := by
      intro o u ho hu
      rw [cell_of_row w g _ cur 46 (0, 0) hg]
      rw [← htk, List.getElem?_take, if_pos (by omega)] at hu
      rw [← Array.getElem?_toList]; exact hu
    exact ⟨e 0 _ (by omega) h0, e 1 _ (by omega) h1, e 2 _ (by omega) h2⟩

/-- The units' bytes in reverse order. -/
def revL (s : ByteArray) (us : List U) : ByteArray := us.foldl (fun o u => bytesU s u ++ o) ⟨#[]⟩
def revF (s : ByteArray) : ByteArray := revL s (unitsOf s)

theorem drop_cons {α : Type} {l : List α} {k : Nat} {x : α} (h : l[k]? = some x) : l.drop k = x :: l.drop (k + 1) := by
  obtain ⟨hk, rfl⟩ := List.getElem?_eq_some_iff.1 h
  exact List.drop_eq_getElem_cons hk
theorem nil_append_b (o : ByteArray) : (⟨#[]⟩ : ByteArray) ++ o = o := ByteArray.ext (by simp)
theorem append_nil_b (o : ByteArray) : o ++ (⟨#[]⟩ : ByteArray) = o := ByteArray.ext (by simp)
theorem revL_foldl (s : ByteArray) : ∀ (us : List U) (o : ByteArray), us.foldl (fun o u => bytesU s u ++ o) o = revL s us ++ o := by
  intro us
  induction us with
  | nil => intro o; exact (nil_append_b o).symm
  | cons u us ih =>
    intro o
    simp only [revL, List.foldl_cons]
    rw [ih, ih (bytesU s u ++ ⟨#[]⟩), append_nil_b, ByteArray.append_assoc]
theorem revL_cons (s : ByteArray) (u : U) (us : List U) : revL s (u :: us) = revL s us ++ bytesU s u := by
  simp only [revL, List.foldl_cons]
  rw [revL_foldl, append_nil_b, revL]
theorem revL_size (s : ByteArray) (us : List U) (h : ∀ u ∈ us, u.2.2 ≤ 4) : (revL s us).size ≤ 4 * us.length := by
  induction us with
  | nil => exact Nat.le_refl _
  | cons u us ih =>
    rw [revL_cons, ByteArray.size_append]
    have h1 := ih (fun x hx => h x (List.mem_cons_of_mem _ hx))
    have h2 := bytesU_size s u
    have h3 := h u (List.mem_cons_self ..)
    simp; omega

set_option maxHeartbeats 4000000 in
theorem Reverse_any (s : ByteArray) (hs : s.size ≤ 1000000) (w : World) :
    Calls Try.prog 17 #[.string s] w fun e w' => e = .returned (.string (revF s)) ∧ Below w.heap.size w w' := by
  obtain ⟨i0, hi, hz0, hz1, hz2⟩ := info_parts Try.info5
  have hlen : (unitsOf s).length ≤ 1000000 := by have := unitsFrom_len s s.size 0; unfold unitsOf; omega
  go_enter Try.func17, Try.ntmps17
  go_wp2_with (first | (at_make; refine wpList_make_own _ rfl _ _ 44 rfl _ 5 i0 _ 1 Try.underlying44 hi hz0 hz1 .i64 .i64 _ s.size rfl rfl rfl (by rw [hz2]; omega) (by unfold maxLen; omega) (Nat.le_refl _) ?_; intro w1 hown1 hg1) | (go_at_call 29; refine (list_any s hs _).mono ?_; rintro e wl ⟨v, rfl, hv, hbl⟩; obtain ⟨A, cap, rfl, hA⟩ := hv.at.ex))
  have hUA : ∀ (k : Nat) (hk : k < (unitsOf s).length), ∃ g, A = some ⟨g, 0, none⟩ ∧ g < wl.heap.size ∧ wl.cell? ⟨g, k * 3, none⟩ = some (.int .i32 (unitsOf s)[k].1) ∧ wl.cell? ⟨g, k * 3 + 1, none⟩ = some (.int .i64 (unitsOf s)[k].2.1) ∧ wl.cell? ⟨g, k * 3 + 2, none⟩ = some (.int .i64 (unitsOf s)[k].2.2) := by
    intro k hk
    rcases hA with h | ⟨g, h, hc⟩
    · rw [h] at hk; cases hk
    · obtain ⟨h0, h1, h2⟩ := hc k hk
      exact ⟨g, h, World.block_lt_of_cell? _ _ h0, h0, h1, h2⟩
  have HUA := Lib.hid hUA
  have Hhi := Lib.hid hi
  have Hg1 := Lib.hid hg1
  have Hown1 := Lib.hid hown1
  have Hbl := Lib.hid hbl
  have hwlt : wl.heap.size < w1.heap.size := (World.ownsRow.lt hown1 _ rfl).2
  clear hA hUA hg1 hown1 hv hbl
  obtain ⟨n, hn⟩ : ∃ n, n = (unitsOf s).length := ⟨_, rfl⟩
  have Hn := Lib.hid hn
  rw [← hn] at hlen ⊢
  clear hn
  go_loopw [4, 5] (fun o i wr => ∃ (k : Nat) (j : Int) (v : Value), k ≤ n ∧ j = (k : Int) - 1 ∧ i = .int .i64 j ∧ o = v ∧ OwnsB wr wl.heap.size v (revL s ((unitsOf s).drop k)) ∧ Below wl.heap.size wl wr) (fun _ i _ => (intOf i + 1).toNat)
  case atStart =>
    refine ⟨n, _, _, Nat.le_refl _, rfl, rfl, rfl, ?_, ?_⟩
    · rw [List.drop_eq_nil_of_le (by rw [Hn.out]; exact Nat.le_refl _)]
      exact Hown1.out
    · exact (Below.refl _ _).grown Hg1.out (Nat.le_refl _) (by simp)
  case round =>
    obtain ⟨k, j, v, hk, hj, rfl, rfl, hrow, hbl⟩ := hrel
    cases k with
    | zero =>
      obtain rfl : j = -1 := by omega
      clear hj
      have hcv := run_convert_owned 44 9 Try.underlying44 Try.underlying5 Try.underlying9 hrow
      go_wp2
      go_ret
      exact ⟨rfl, Hbl.out.trans (hbl.mono Hbl.out.size)⟩
    | succ k =>
      obtain rfl : j = (k : Int) := by omega
      clear hj
      have hk' : k < (unitsOf s).length := by have := Hn.out; omega
      obtain ⟨g, rfl, hglt, h0, h1, h2⟩ := HUA.out k hk'
      have hgu : GoodU s (unitsOf s)[k] := goodU (List.getElem_mem hk')
      have hx1 := (hbl.cell (p := ⟨g, k * 3 + 1, none⟩) hglt).trans h1
      have hx2 := (hbl.cell (p := ⟨g, k * 3 + 2, none⟩) hglt).trans h2
      have hfit := hgu.fit
      obtain ⟨x, hx⟩ : ∃ x, (unitsOf s)[k]? = some x := ⟨_, List.getElem?_eq_getElem hk'⟩
      have hxe : (unitsOf s)[k] = x := by rw [List.getElem?_eq_getElem hk'] at hx; exact Option.some.inj hx
      rw [hxe] at hx1 hx2 hfit hgu
      have Hx := Lib.hid hx
      have Hrow := Lib.hid hrow
      have Hb := Lib.hid hbl
      clear hrow hbl h0 h1 h2 hx hxe hk'
      go_wp2
      have hwr : IntKind.i64.wrap ((x.2.1 : Int) + x.2.2) = (x.2.1 : Int) + x.2.2 := IntWalk.i64_in _ (by omega)
      have hsl : ∀ W', (Instr.slice 9 (.string s) (some (.int .i64 x.2.1)) (some (.int .i64 ((x.2.1 : Int) + x.2.2))) none).run Try.prog W' = .ok (.string (bytesU s x)) W' := fun W' => by
        rw [run_slice_string W' 9 s .i64 .i64 _ _ Try.underlying9 (by omega) (by omega) (by omega)]
        unfold bytesU
        congr 3
      have hkn : (k : Int) < (n : Int) := by omega
      have hk0 : (0 : Int) ≤ (k : Int) := by omega
      have hxw1 : World.cell? { heap := wr.heap, tape := wr.tape, drawn := wr.drawn + 1, os := wr.os, output := wr.output } ⟨g, k * 3 + 1, none⟩ = some (.int .i64 x.2.1) := hx1
      have hxw2 : World.cell? { heap := wr.heap, tape := wr.tape, drawn := wr.drawn + 1, os := wr.os, output := wr.output } ⟨g, k * 3 + 2, none⟩ = some (.int .i64 x.2.2) := hx2
      go_still_tail 19, (by kernel_rfl)
      refine wpList_append_string rfl (.tmp 18) (.tmp 36) 44 9 rfl wl.heap.size i0 Try.underlying44 Try.underlying9 Hhi.out hz0 hz1 hz2 u4 _ rfl (World.ownsRow.drew Hrow.out) (bytesU s x) rfl ?_ Hb.out.size ?_
      · have h1 := bytesU_size s x; have h2 := hgu.w4
        have h3 := revL_size s ((unitsOf s).drop (k + 1)) (fun u hu => (goodU (List.mem_of_mem_drop hu)).w4)
        have h4 := Hn.out; simp at h3; omega
      intro v' w2 hown' hgrow
      rw [← revL_cons, ← drop_cons Hx.out] at hown'
      have HX := Lib.hid hown'
      have HG := Lib.hid hgrow
      clear hown' hgrow hx1 hx2 hxw1 hxw2 hsl
      go_wp2
      go_roundw
      case rel =>
        refine ⟨k, _, v', by omega, rfl, by go_num, rfl, HX.out, Hb.out.grown ⟨HG.out.os, HG.out.tape, HG.out.output, HG.out.size, HG.out.block⟩ Hb.out.size (fun j e => (World.ownsRow.lt Hrow.out j e).1)⟩
      case measure => simp [intOf]
end Go.Proofs.Ytaaegelefknkeaa
