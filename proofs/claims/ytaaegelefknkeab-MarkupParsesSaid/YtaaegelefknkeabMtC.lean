/- copy within a row of the call's own, whatever the element's size; rows of pairs. -/
import Derived.Test.YtaaegelefknkeabMtB
import Derived.Laws.CopyOwn
import Derived.Laws.OwnMore
import Derived.Deep.RegionLaw
namespace Go.Proofs.Ytaaegelefknkeab
open Go.RowKit Go.Shelf
set_option linter.unusedSimpArgs false

theorem run_copy_k {P : Program} (w : World) (dT sT ty elem : TypeId) (k g o dLen dCap : Nat) (a : Addr) (sLen sCap : Nat) (cur : Array Value) (t : TypeId) (cs : List Value)
    (hu : P.underlying dT = some (.slice elem)) (hs : (P.info? elem).map (·.size) = some k)
    (hg : w.heap[g]? = some (.cells cur t (0, 0))) (hn : cs.length = Nat.min sLen dLen * k)
    (hsrc : ∀ j v, cs[j]? = some v → w.cell? (a.add j) = some v) (hfit : o + cs.length ≤ cur.size) (h1 : ∀ v ∈ cs, v.oneCell' = true) :
    (Builtin.copy_ #[dT, sT] ty #[.slice (some ⟨g, o, none⟩) dLen dCap, .slice (some a) sLen sCap]).run P w =
      .ok (goInt (Nat.min sLen dLen)) (w.setRow g (cur.toList.take o ++ cs ++ cur.toList.drop (o + cs.length)).toArray) := by
  have hl := run_loadCells_list (P := P) w a cs hsrc
  have hst := run_storeCells_at P g o t cs 0 cur w hg (by simpa using hfit) h1
  cases hq : P.info? elem with
  | none => simp [hq] at hs
  | some i =>
    have hi : i.size = k := by simpa [hq] using hs
    simp [Builtin.copy_, run_underlying hu, Builtin.lenOf, Builtin.firstCells, sizeOf, typeInfo, hq, hi, ← hn, hl, hst]
theorem run_copy_k_none {P : Program} (w : World) (dT sT ty elem : TypeId) (k : Nat) (d a : Option Addr) (dLen dCap sLen sCap : Nat) (hu : P.underlying dT = some (.slice elem)) (hs : (P.info? elem).map (·.size) = some k) (hn : Nat.min sLen dLen = 0) :
    (Builtin.copy_ #[dT, sT] ty #[.slice d dLen dCap, .slice a sLen sCap]).run P w = .ok (goInt 0) w := by
  cases hq : P.info? elem with
  | none => simp [hq] at hs
  | some i =>
    have hl : ∀ (x : Addr), (loadCells x 0).run P w = .ok #[] w := fun x => by simpa using run_loadCells_list (P := P) w x [] (by simp)
    cases d <;> cases a <;> simp [Builtin.copy_, run_underlying hu, Builtin.lenOf, Builtin.firstCells, sizeOf, typeInfo, hq, hn, storeCells, hl]

theorem ownsRow_splice {w : World} {base : Nat} {e : TypeId} {k g N cap : Nat} {xs cs : List Value} {cur : Array Value} {off : Nat}
    (hg : w.heap[g]? = some (.cells cur e (0, 0))) (hb : base ≤ g) (hN : N ≤ cap) (hm : cap ≤ maxLen) (hcs : cur.size = cap * k) (ht : cur.toList.take (N * k) = xs) (hx : xs.length = N * k)
    (hfit : off + cs.length ≤ N * k) :
    (w.setRow g (cur.toList.take off ++ cs ++ cur.toList.drop (off + cs.length)).toArray).ownsRow base e k (.slice (some ⟨g, 0, none⟩) N cap) N (splice xs off cs) := by
  have hNc : N * k ≤ cap * k := Nat.mul_le_mul_right k hN
  refine ⟨by rw [length_splice _ _ _ (by omega)]; exact hx, .inr ⟨g, cap, _, rfl, hb, setRow_heap w g _ _ e _ hg, hN, hm, ?_, ?_⟩⟩
  · simp
    omega
  · subst ht
    unfold splice
    rw [List.take_take, List.append_assoc, List.take_append, List.length_take, List.take_take, List.take_append, List.take_of_length_le (l := cs) (by simp; omega), Array.length_toList]
    have e1 : min (N * k) off = off := by omega
    have e2 : min off (N * k) = off := by omega
    have e3 : min off cur.size = off := by omega
    rw [e1, e2, e3, List.drop_take]
    congr 3
    omega

theorem step_copy_own {P : Program} {ops : Array Oper} {o : Oper} {a : Act} {w : World} {K : Act → World → Prop} {Q : Exit → Act → World → Prop} {E : Prop} (hgd : o.guard = none) (d s : Operand) (dT sT : TypeId)
    (ho : o.op = .call { callee := .builtin .copy, args := #[d, s], argTypes := #[dT, sT] }) (elem : TypeId) (k : Nat) (hu : P.underlying dT = some (.slice elem)) (hsz : (P.info? elem).map (·.size) = some k)
    (dp sp : Option Addr) (dLen dCap sLen sCap : Nat) (hd : a.eval d = .slice dp dLen dCap) (hs : a.eval s = .slice sp sLen sCap)
    (base g N cap : Nat) (e : TypeId) (xs : List Value) (hown : w.ownsRow base e k (.slice (some ⟨g, 0, none⟩) N cap) N xs)
    (off : Nat) (cs : List Value) (hn : cs.length = Nat.min sLen dLen * k) (hk : 0 < k)
    (hpos : 0 < cs.length → dp = some ⟨g, off, none⟩ ∧ ∃ ad, sp = some ad ∧ ∀ j v, cs[j]? = some v → w.cell? (ad.add j) = some v)
    (hfit : off + cs.length ≤ N * k) (h1 : ∀ v ∈ cs, v.oneCell' = true)
    (h : ∀ w', Hid (w'.ownsRow base e k (.slice (some ⟨g, 0, none⟩) N cap) N (splice xs off cs)) → Hid (w.grownBy w' (some g)) → K (a.put o.dst (goInt (Nat.min sLen dLen))) w') :
    if Region.wanted o (yielded ops a.tmps) = true then Oper.wp P o a w K Q else E := by
  have hw : Region.wanted o (yielded ops a.tmps) = true := by simp [Region.wanted, hgd]
  rw [if_pos hw]
  by_cases h0 : cs.length = 0
  · obtain rfl : cs = [] := List.eq_nil_of_length_eq_zero h0
    have hz : Nat.min sLen dLen = 0 := by
      rcases Nat.mul_eq_zero.1 (hn.symm.trans h0) with h | h
      · exact h
      · omega
    have hrun := run_copy_k_none (P := P) w dT sT o.type elem k dp sp dLen dCap sLen sCap hu hsz hz
    unfold Oper.wp
    simp [execOp, ho, resolve, invoke, builtin, hd, hs, hrun, Result.andThen]
    rw [hz] at h
    exact h w (Lib.hid (by simpa [splice] using hown)) (Lib.hid ⟨rfl, rfl, rfl, Nat.le_refl _, fun _ _ _ => rfl⟩)
  · obtain ⟨rfl, ad, rfl, hsrc⟩ := hpos (by omega)
    obtain ⟨hx, hn' | ⟨g', cap', cur, he, hb, hg, hN, hm, hcs, ht⟩⟩ := hown
    · exact absurd hn'.1 (by simp)
    · simp only [Value.slice.injEq, Option.some.injEq, Addr.mk.injEq, and_true, true_and] at he
      obtain ⟨rfl, rfl⟩ := he
      have hNc : N * k ≤ cap * k := Nat.mul_le_mul_right k hN
      have hrun := run_copy_k (P := P) w dT sT o.type elem k g off dLen dCap ad sLen sCap cur e cs hu hsz hg hn hsrc (by omega) h1
      unfold Oper.wp
      simp [execOp, ho, resolve, invoke, builtin, hd, hs, hrun, Result.andThen]
      have h2 := ownsRow_splice (off := off) (cs := cs) hg hb hN hm hcs ht hx hfit
      rw [List.append_assoc] at h2
      refine h _ (Lib.hid h2) (Lib.hid ⟨rfl, rfl, rfl, by simp [World.setRow], fun k _ hk => setRow_other w g k _ (fun e => hk (by rw [e]))⟩)

/-- The cells of a list of pairs. -/
def pcells (l : List Pr) : List Value := l.flatMap fun p => [.string p.1, .string p.2]
theorem pcells_length (l : List Pr) : (pcells l).length = l.length * 2 := by
  induction l with
  | nil => rfl
  | cons p l ih =>
    show ([Value.string p.1, Value.string p.2] ++ pcells l).length = _
    rw [List.length_append, ih, List.length_cons]
    simp; omega
theorem pcells_append (l m : List Pr) : pcells (l ++ m) = pcells l ++ pcells m := by simp [pcells]
theorem pcells_get (l : List Pr) (i : Nat) (p : Pr) (h : l[i]? = some p) : (pcells l)[i * 2]? = some (.string p.1) ∧ (pcells l)[i * 2 + 1]? = some (.string p.2) := by
  induction l generalizing i with
  | nil => simp at h
  | cons q l ih =>
    show ([Value.string q.1, Value.string q.2] ++ pcells l)[i * 2]? = _ ∧ ([Value.string q.1, Value.string q.2] ++ pcells l)[i * 2 + 1]? = _
    cases i with
    | zero => simp at h; subst h; exact ⟨rfl, rfl⟩
    | succ i =>
      have h' := ih i (by simpa using h)
      rw [show (i + 1) * 2 = i * 2 + 2 by omega, show i * 2 + 2 + 1 = (i * 2 + 1) + 2 by omega]
      simpa using h'
theorem pcells_one (l : List Pr) : ∀ v ∈ pcells l, v.oneCell' = true := by
  intro v hv
  unfold pcells at hv
  rw [List.mem_flatMap] at hv
  obtain ⟨p, _, hp⟩ := hv
  simp at hp
  rcases hp with rfl | rfl <;> rfl
/-- The slice v is the call's own and holds the pairs l. -/
def OwnsP (w : World) (base : Nat) (v : Value) (l : List Pr) : Prop := w.ownsRow base 52 2 v l.length (pcells l)
theorem OwnsP.rd {w : World} {base : Nat} {v : Value} {l : List Pr} (h : OwnsP w base v l) : ∃ a cap, RdP w v l a cap := by
  unfold OwnsP at h
  rcases h.2 with ⟨h1, h2⟩ | ⟨g, cap, cur, h1, hb, hg, hn, hm, hc, ht⟩
  · refine ⟨none, 0, by rw [h1, h2], by omega, by omega, fun i p hi => ?_⟩
    rw [List.eq_nil_of_length_eq_zero h2] at hi
    simp at hi
  · refine ⟨some ⟨g, 0, none⟩, cap, h1, hn, hm, fun i p hi => ⟨g, 0, rfl, ?_, ?_⟩⟩
    all_goals
      subst h1
      have hlt : i < l.length := (List.getElem?_eq_some_iff.1 hi).1
      have hp := pcells_get l i p hi
      rw [Nat.zero_add, World.ownsRow.cellAt h _ (by omega)]
      first | exact hp.1 | exact hp.2
theorem OwnsP.below {w w' : World} {base : Nat} {v : Value} {l : List Pr} (h : OwnsP w base v l) (hb : Below w.heap.size w w') : OwnsP w' base v l :=
  World.ownsRow.kept (row := none) h ⟨hb.os, hb.tape, hb.output, hb.size, fun k hk _ => hb.block k hk⟩ (by cases hv : v.ownBlock <;> simp)
theorem splice_set (A B : List Value) (z1 z2 n v : Value) (i : Nat) (hA : A.length = i * 2) : ((splice (A ++ B ++ [z1, z2]) ((i + 1) * 2) B).set (i * 2) n).set (i * 2 + 1) v = A ++ (n :: v :: B) := by
  have hz : ∃ y1 y2, (B ++ [z1, z2]).take 2 = [y1, y2] := by
    match B with
    | [] => exact ⟨z1, z2, rfl⟩
    | [b] => exact ⟨b, z1, rfl⟩
    | b :: c :: r => exact ⟨b, c, rfl⟩
  obtain ⟨y1, y2, hy⟩ := hz
  have h1 : splice (A ++ B ++ [z1, z2]) ((i + 1) * 2) B = A ++ (y1 :: y2 :: B) := by
    unfold splice
    rw [List.append_assoc, List.take_append, List.take_of_length_le (by omega), show (i + 1) * 2 - A.length = 2 by omega, hy, List.drop_eq_nil_of_le (by simp; omega)]
    simp
  rw [h1, List.set_append_right _ _ (by omega), List.set_append_right _ _ (by omega), show i * 2 - A.length = 0 by omega, show i * 2 + 1 - A.length = 1 by omega]
  rfl
end Go.Proofs.Ytaaegelefknkeab
