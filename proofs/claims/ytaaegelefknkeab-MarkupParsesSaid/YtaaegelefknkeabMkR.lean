/- A region that draws its order, within a round: out of the plain calculus of orders. -/
import Derived.RangeFuncIn
import Derived.OrdersHeld
import Derived.OrdersIn
import Derived.CallsIn
import Derived.WalkKit
import Derived.Test.YtaaegelefknkeabProg
namespace Go.Proofs.Ytaaegelefknkeab


def noDefer (ops : Array Oper) : Bool := ops.toList.all fun o => match o.op with | .defer _ => false | _ => true
theorem noDefer_spec {ops : Array Oper} (h : noDefer ops = true) {i : Nat} {o : Oper} (ho : ops[i]? = some o) : ∀ c, o.op ≠ .defer c := by
  intro c hc
  unfold noDefer at h
  rw [List.all_eq_true] at h
  have := h o (by rw [← Array.getElem?_toList] at ho; exact List.mem_of_getElem? ho)
  simp [hc] at this

theorem rowsIn_round {l n : Nat} {P : Program} {row : String} {args : Array Value} {w : World} {R : Value → World → Prop} (h : Rows P row args w R) : RowsIn (Fence.wide.inRound l) n P row args w R :=
  fun c cs _ => let ⟨v, w', r, s⟩ := h c cs; ⟨v, w', r, stepsIn_wide.2 s⟩

theorem opIn_round {l n : Nat} {P : Program} {o : Oper} {a : Act} {w : World} {K : Act → World → Prop} {Q : Exit → Act → World → Prop} (hd : ∀ c, o.op ≠ .defer c) (h : o.wp P a w K Q) :
    o.wpIn (Fence.wide.inRound l) n P a w K Q := by
  unfold Oper.wp at h
  refine ⟨fun _ _ => trivial, ?_⟩
  rw [Oper.semAt_eq _ _ _ hd]
  generalize (execOp a.eval o).run P w = r at h
  cases r with
  | ok x w' =>
    cases x <;> simp only [Oper.upon] at h <;> simp only [Oper.uponIn]
    case value => exact h
    case skip => exact h
    case defer => exact h
    case enter f args => exact ⟨fun h => (by cases h), callsIn_wide.2 (Calls.mono h fun e w'' he => by cases e <;> exact he)⟩
    case row row args => exact ⟨fun h => (by cases h), rowsIn_round h⟩
  | halt x w' => cases x <;> simp only [Oper.upon] at h ⊢ <;> exact h

theorem opsIn_round {l n : Nat} {P : Program} {ops : Array Oper} {Q : Exit → Act → World → Prop} (hnd : noDefer ops = true) (hlo : ¬ LetsOut Q) :
    ∀ (lst : List Nat) (a : Act) (w : World), wpOps P ops Q lst a w → wpOpsIn (Fence.wide.inRound l) n P ops Q lst a w := by
  intro lst
  induction lst with
  | nil => exact fun _ _ h => h
  | cons i rest ih =>
    intro a w h
    simp only [wpOps] at h
    simp only [wpOpsIn]
    cases ho : ops[i]? with
    | none => simp only [ho] at h ⊢; exact ih _ _ h
    | some o =>
      simp only [ho] at h ⊢
      split
      · rename_i hw
        simp only [hw, if_true] at h
        rcases h with h | h
        · exact opIn_round (noDefer_spec hnd ho) (Oper.wp_mono ih h)
        · exact absurd h.2 hlo
      · rename_i hw
        simp only [hw, Bool.false_eq_true, if_false] at h
        exact ⟨fun _ _ => trivial, ih _ _ h⟩

theorem wpOp_of {P : Program} {ops : Array Oper} {Q : Exit → Act → World → Prop} {i : Nat} {K : Act → World → Prop} {a : Act} {w : World} {o : Oper} (ho : ops[i]? = some o) (hg : o.guard = none) (h : o.wp P a w K Q) : wpOp P ops Q i K a w := by
  unfold wpOp
  rw [ho]
  simp only [Region.wanted, hg, if_true]
  exact .inl h

/-- Take number i first (it writes temporary d). -/
theorem held_take {P : Program} {ops : Array Oper} {Q : Exit → Act → World → Prop} {S : World → Prop} (i d : Nat) (v : Value) {oi : Oper} {fuel : Nat} {listed : Array Bool} {T : Array Value} {w : World} (hi : ops[i]? = some oi) (hd : oi.dst = some d)
    (hs : Region.noSelect ops = true) (hf : Region.free .any ops listed i = true) (hr : (Region.ready .any ops listed).contains i = true)
    (hQ : ∀ c a a' w, Q (.panic c) a w → Q (.panic c) a' w) (hy : YieldsIf P ops S oi v { tmps := T, defers := [] }) (hS : S w)
    (h : wpAnyH P .any ops Q S fuel (listed.setIfInBounds i true) { tmps := T.setIfInBounds d v, defers := [] } w) : wpAnyH P .any ops Q S (fuel + 1) listed { tmps := T, defers := [] } w := by
  refine wpAnyH_take (i := i) (v := v) hi hs hf hr (fun _ _ _ h => hQ _ _ _ _ h) hy hS ?_
  unfold Act.put
  rw [hd]
  exact h

/-- THE BEGINNING: a region that draws, within a round, of a program under 'wide'. -/
theorem regionIn_round {l n id : Nat} {P : Program} {ops : Array Oper} {Q : Exit → Act → World → Prop} {a : Act} {w : World} {S : World → Prop} (hm : P.follows .mixedOrders = true) (hnd : noDefer ops = true) (hlo : ¬ LetsOut Q)
    (h : wpAnyH P .any ops Q S ops.size (Array.replicate ops.size false) a w.drew) : (Code.region id ops true).wpIn (Fence.wide.inRound l) n P Q a w :=
  wpIn_region_draw fun t => by
    simp only [Region.schedule, hm, Bool.true_or, if_true]
    exact opsIn_round hnd hlo _ _ _ (wpAny_sound ops.size t _ a _ (wpAny_of_held _ _ _ _ h))

end Go.Proofs.Ytaaegelefknkeab
