/- For every tag and every number the law MarkupRoundTrips returns true: a tag that has a text is read back from it. No condition. -/
import Derived.Test.YtaaegelefknkeabRows
import Derived.Test.YtaaegelefknkeabNwC
import Derived.WalkKit
import Derived.ProofKit
import Derived.OpenShut
import Derived.ShutString
import Derived.Lib.SmallJoins
import Derived.Deep.SlicePairs
import Derived.ReadAgain
import Derived.ChangeBook
import Derived.ChangeOld
namespace Go.Proofs.Ytaaegelefknkeab.markupRoundTrips
open Go.ChangeShapes Go.WideShapes Go.ChangeAt Go.RowKit
open Go.ChangeMaps (open_string shut_string)
open Go.Joins (open_agg3)
set_option linter.unusedVariables false

theorem own : ownKnob Try.prog.godebug = none := by kernel_rfl
theorem cells52 : Try.prog.cellsOf 52 = 2 := by kernel_rfl
theorem cells33 : Try.prog.cellsOf 33 = 3 := by kernel_rfl
theorem cells9 : Try.prog.cellsOf 9 = 1 := by kernel_rfl
/-- A list of pairs that came in, as it lies. -/
theorem open_keys {H : Type} {enc : TypeId × Value → H} {W : World} {base : Nat} {held : Bool} {fuel : Nat} {v : Value} {x : DataW H × List MemPlace}
    (h : DataW.trod enc Try.prog W base (fun _ => true) held fuel 31 [v] = some x) : ∃ (l : List Pr) (a : Option Addr) (cap : Nat), RdP W v l a cap := by
  rcases Deep.open_slice_pairs Try.underlying31 Try.underlying52 cells52 rfl rfl cells9 cells9 h with ⟨h1, _⟩ | ⟨ad, len, cap, m, n, V0, V1, D0, D1, P0, P1, hcs, _, hle, hmx, hm, _, hc⟩
  · simp only [List.cons.injEq, and_true] at h1
    subst h1
    exact ⟨[], none, 0, rfl, Nat.le_refl _, by decide, fun i p hi => by simp at hi⟩
  · simp only [List.cons.injEq, and_true] at hcs
    subst hcs
    simp only [if_true] at hm
    subst hm
    have hall : ∀ i, i < len → ∃ s0 s1, V0 i = .string s0 ∧ V1 i = .string s1 := fun i hi => by
      obtain ⟨_, _, t0, t1⟩ := hc i (by omega)
      obtain ⟨s0, e0, _, _⟩ := DataW.trod_string Try.underlying9 t0
      obtain ⟨s1, e1, _, _⟩ := DataW.trod_string Try.underlying9 t1
      simp only [List.cons.injEq, and_true] at e0 e1
      exact ⟨s0, s1, e0, e1⟩
    refine ⟨(List.range len).map fun i => ((match V0 i with | .string s => s | _ => ⟨#[]⟩), (match V1 i with | .string s => s | _ => ⟨#[]⟩)), some ad, m, by simp, by simpa using hle, hmx, fun i p hi => ?_⟩
    rw [List.getElem?_map] at hi
    have hil : i < len := by
      rcases Nat.lt_or_ge i len with h | h
      · exact h
      · rw [List.getElem?_eq_none (by simpa using h)] at hi
        cases hi
    rw [List.getElem?_range hil] at hi
    simp only [Option.map_some, Option.some.injEq] at hi
    subst hi
    obtain ⟨k0, k1, _, _⟩ := hc i (by omega)
    obtain ⟨s0, s1, e0, e1⟩ := hall i hil
    have hsp : ad.spot = none := by
      cases hs : ad.spot with
      | none => rfl
      | some q =>
        obtain ⟨k00, _, _, _⟩ := hc 0 (by omega)
        simp [Addr.add, World.cell?, hs] at k00
        split at k00 <;> simp_all
    obtain ⟨bl, of, sp⟩ := ad
    dsimp only at hsp
    subst hsp
    have ha : ∀ j, (⟨bl, of, none⟩ : Addr).add j = ⟨bl, of + j, none⟩ := fun j => by unfold Addr.add; split <;> simp_all
    rw [ha] at k0 k1
    exact ⟨bl, of, rfl, by rw [k0, e0], by rw [show of + i * 2 + 1 = of + (i * 2 + 1) by omega, k1, e1]⟩

theorem walk (v : Value) (c : Bool) (n : ByteArray) (l : List Pr) (a : Option Addr) (cap : Nat) (m : Int) (w : World) (h : RdP w v l a cap) :
    Calls Try.prog 12 #[.agg #[.bool c, .string n, v], .int .i64 m] w fun e w' => e = .returned (.bool true) ∧ Below w.heap.size w w' :=
  walk_Round c n l v a cap m w h

set_option maxRecDepth 100000 in
theorem lifted (os : Os) (started : os.Started) (H : Type) (enc : TypeId × Value → H) :
    ReturnsInHanded {} Try.checked os 12 .any (Rows.markupRoundTripsSpec.pre6 enc Try.prog Try.f12 Rows.markupRoundTripsRow.domain false) (Rows.markupRoundTripsSpec.post enc Try.prog Try.f12 false true false false) := by
  refine returnsInHanded_of_change (C := Try.checked) own started (by kernel_rfl) Try.func12
    (ChangeSpec.witness6 (enc := enc) (C := Try.checked) false ⟨#[], #[.agg #[.bool false, .string ByteArray.empty, .slice none 0 0], .int .i64 0], []⟩ 8 (by kernel_rfl) (by kernel_rfl) (by kernel_rfl) (by kernel_rfl)) ?_
  intro W base args ds gs before hval0 hW hcnd _
  have hval : ∀ (j : Nat) t v, Try.f12.params[j]? = some t → args[j]? = some v → Value.okWide Try.prog W .any base t v := hval0
  have hW' := hW
  obtain ⟨p, q, hA0, hV, rfl, hfz, hnd⟩ := hW
  have hA : DataW.TrodAll enc Try.prog W 0 (fun _ => true) true Try.f12.params.toList args.toList ds p := hA0
  have hA1 := hA
  rw [Try.params12] at hA hval
  obtain ⟨v0, vs0, d0, ds0, p0, q0, hargs, rfl, rfl, h0, r0⟩ := trodAll_cons hA
  obtain ⟨v1, vs1, d1, ds1, p1, q1, rfl, rfl, rfl, h1, r1⟩ := trodAll_cons r0
  obtain ⟨rfl, rfl, rfl⟩ := trodAll_nil r1
  obtain rfl : args = #[v0, v1] := by cases args; simp_all
  obtain ⟨rfl, rfl⟩ := trodVars_none hV
  obtain ⟨x0, x1, x2, y0, y1, y2, m, rfl, hd, hp, t0, t1, t2⟩ := open_agg3 Try.underlying33 (by kernel_rfl) cells33 (hval 0 33 v0 rfl rfl) h0
  obtain ⟨c, hc, _⟩ := DataW.trod_bool Try.underlying4 t0
  obtain ⟨n, hn, _, _⟩ := DataW.trod_string Try.underlying9 t1
  simp only [List.cons.injEq, and_true] at hc hn
  subst hc
  subst hn
  obtain ⟨l, a, cap, hrd⟩ := open_keys t2
  obtain ⟨mo, rfl, rfl, rfl, wm⟩ := open_int Try.underlying3 (hval 1 3 v1 rfl rfl) h1
  clear hA0 hval0
  have hlt := hW'.lt
  refine (walk x2 c n l a cap mo W hrd).mono fun e W' ⟨he, hg⟩ => ?_
  subst he
  have K : Kids Try.prog (InBook Try.prog 33) := kids_book (by kernel_rfl) (by kernel_rfl)
  have hz : ∀ t e, InBook Try.prog 33 t → Try.prog.underlying t = some (.slice e) → 0 < Try.prog.cellsOf e := fun t e ht => slices_full_of Try.prog (by kernel_rfl) t e ht.1
  have hcar : DataW.Trod enc Try.prog W' 0 (fun _ => true) true 33 (.agg #[.bool c, .string n, x2]) d0 p0 := by
    obtain ⟨f, hf⟩ := h0
    exact ⟨f, DataW.trod_carry f _ _ _ hf fun pl hpl => Below.same hg (hlt pl (by simpa using hpl))⟩
  have hres := hcar.respare (spare' := fun b => decide (b < W.heap.size)) K hz ⟨by decide +kernel, book_self 33⟩ (fun pl hpl => decide_eq_true (hlt pl (by simpa using hpl)))
  exact ⟨_, rfl, _, _, _, [], p0, [], hW', (trodAll_cons_mk (shut_bool Try.underlying4 _) trodAll_mk0), (by have ht := trodAll_cons_mk hres (trodAll_cons_mk (shut_int Try.underlying3 wm) trodAll_mk0); simp only [List.append_nil] at ht; exact ht), rfl, hg.frame _, fun h => by cases h⟩

theorem over : Rows.markupRoundTripsRow.holds Try.pinned (OpenSpec.ofChange Rows.markupRoundTripsSpec) :=
  OpenClaim.holds_of_wide 12 Try.f12 rfl rfl rfl rfl rfl rfl rfl ⟨rfl, rfl, rfl, rfl, rfl⟩ rfl rfl rfl rfl rfl (by kernel_rfl) Try.func12 (by kernel_rfl)
    (of_decide_eq_true (by kernel_rfl)) (by unfold Func.isWrapper; first | (rw [if_pos (by decide +kernel)]; kernel_rfl) | (rw [if_neg (by decide +kernel)]; exact ⟨rfl, rfl⟩))
    (fun os started H enc _ => lifted os started H enc)

theorem proved : Rows.MarkupRoundTripsSaid :=
  over
#print axioms proved
end Go.Proofs.Ytaaegelefknkeab.markupRoundTrips
