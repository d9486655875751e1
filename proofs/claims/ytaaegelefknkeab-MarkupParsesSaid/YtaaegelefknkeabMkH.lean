/- Bytes that a call owns; the walk of Fold. -/
import Derived.Test.YtaaegelefknkeabMkG
import Derived.Laws.Cover4
namespace Go.Proofs.Ytaaegelefknkeab

open Go.RowKit Go.Shelf
attribute [local go_sem] Oper.semAt_some

theorem Try.info5 : (Try.prog.info? 5).map (fun i => (i.zero, i.size, i.bytes)) = some (some (.int .u8 0), 1, 1) := by kernel_rfl

/-- v is a slice of bytes that owns the bytes o. -/
def OwnsB (w : World) (base : Nat) (v : Value) (o : ByteArray) : Prop := w.ownsRow base 5 1 v o.size (Lib.strCells o)
theorem strCells_append (a b : ByteArray) : Lib.strCells (a ++ b) = Lib.strCells a ++ Lib.strCells b := by
  simp [Lib.strCells]
theorem OwnsB.append {w : World} {base : Nat} {v : Value} {a b : ByteArray} (h : w.ownsRow base 5 1 v (a.size + b.size) (Lib.strCells a ++ Lib.strCells b)) : OwnsB w base v (a ++ b) := by
  unfold OwnsB
  rw [strCells_append, ByteArray.size_append]
  exact h

theorem OwnsB.slice {w : World} {base : Nat} {v : Value} {o : ByteArray} (h : OwnsB w base v o) : ∃ a l c, v = .slice a l c := by
  rcases h.2 with ⟨rfl, _⟩ | ⟨g, cap, _, rfl, _⟩ <;> exact ⟨_, _, _, rfl⟩

theorem UB.kept {W W' : World} {k : Nat} {r a z : Int} {row : Option Nat} (h : UB W k r a z) (hg : W.grownBy W' row) (hne : some k ≠ row) : UB W' k r a z := (hg.block k (Array.getElem?_eq_some_iff.1 h).1 hne).trans h
theorem UB.not_row {W : World} {B : Nat} {r a z : Int} {e : TypeId} (h : UB W B r a z) (hte : (75 : TypeId) ≠ e) {base size k : Nat} {v : Value} {xs : List Value} (hr : W.ownsRow base e size v k xs) : some B ≠ v.ownBlock := by
  rcases hr.2 with ⟨rfl, _⟩ | ⟨g, cap, cur, rfl, _, hgb, _⟩
  · simp [Value.ownBlock]
  · intro e'
    obtain rfl : B = g := by simpa [Value.ownBlock] using e'
    have := (show W.heap[B]? = _ from h).symm.trans hgb
    simp at this
    exact hte this.2

/-- An append of a string to owned bytes, at the operation. -/
theorem wp_append_string {P : Program} {w : World} {o : Oper} {a : Act} {K : Act → World → Prop} {Q : Exit → Act → World → Prop} (sl x : Operand) (t u : TypeId)
    (ho : o.op = .call { callee := .builtin .append, args := #[sl, x], argTypes := #[t, u] })
    (base : Nat) (i : TypeInfo) (ht : P.underlying t = some (.slice 5)) (hu : P.underlying u = some .string) (hi : P.info? 5 = some i) (hz : i.zero = some (.int .u8 0))
    (hsize : i.size = 1) (hby : i.bytes = 1)
    (v : Value) (b : ByteArray) (hs : a.eval sl = v) (hown : OwnsB w base v b) (s : ByteArray) (hx : a.eval x = .string s)
    (hb : b.size + s.size ≤ 100000000) (hbase : base ≤ w.heap.size)
    (h : ∀ v' w', OwnsB w' base v' (b ++ s) → w.grownBy w' v.ownBlock → K (a.put o.dst v') w') : o.wp P a w K Q := by
  obtain ⟨v', w', hr, h2, h3, h4⟩ := Lib.run_append_own_string (P := P) w base t u o.type 5 i ht hu hi hz hsize hby v b.size (Lib.strCells b) hown s (by unfold maxLen; omega) (by omega) hbase
  unfold Oper.wp execOp
  simp only [ho, resolve, invoke, builtin, Sem.run_bind, Sem.run_pure, Result.andThen_ok, List.map_toArray, List.map_cons, List.map_nil, hs, hx, hr]
  exact h v' w' (OwnsB.append h2) h3

theorem wpList_append_string {P : Program} {w : World} {ops : Array Oper} {rest : List Oper} {o : Oper} {a : Act} {Q : Exit → Act → World → Prop} (hgd : o.guard = none) (sl x : Operand) (t u : TypeId)
    (ho : o.op = .call { callee := .builtin .append, args := #[sl, x], argTypes := #[t, u] })
    (base : Nat) (i : TypeInfo) (ht : P.underlying t = some (.slice 5)) (hu : P.underlying u = some .string) (hi : P.info? 5 = some i) (hz : i.zero = some (.int .u8 0))
    (hsize : i.size = 1) (hby : i.bytes = 1)
    (v : Value) (b : ByteArray) (hs : a.eval sl = v) (hown : OwnsB w base v b) (s : ByteArray) (hx : a.eval x = .string s)
    (hb : b.size + s.size ≤ 100000000) (hbase : base ≤ w.heap.size)
    (h : ∀ v' w', OwnsB w' base v' (b ++ s) → w.grownBy w' v.ownBlock → wpList P ops Q rest (a.put o.dst v') w') : wpList P ops Q (o :: rest) a w :=
  wpList_plain hgd fun _ hK => wp_append_string sl x t u ho base i ht hu hi hz hsize hby v b hs hown s hx hb hbase fun v' w' h1 h2 => hK _ _ (h v' w' h1 h2)

theorem wpListIn_append_string {F : Fence} {n : Nat} {P : Program} {w : World} {ops : Array Oper} {rest : List Oper} {o : Oper} {a : Act} {Q : Exit → Act → World → Prop} (hgd : o.guard = none) (sl x : Operand) (t u : TypeId)
    (ho : o.op = .call { callee := .builtin .append, args := #[sl, x], argTypes := #[t, u] })
    (base : Nat) (i : TypeInfo) (ht : P.underlying t = some (.slice 5)) (hu : P.underlying u = some .string) (hi : P.info? 5 = some i) (hz : i.zero = some (.int .u8 0))
    (hsize : i.size = 1) (hby : i.bytes = 1)
    (v : Value) (b : ByteArray) (hs : a.eval sl = v) (hown : OwnsB w base v b) (s : ByteArray) (hx : a.eval x = .string s)
    (hb : b.size + s.size ≤ 100000000) (hbase : base ≤ w.heap.size)
    (h : ∀ v' w', OwnsB w' base v' (b ++ s) → w.grownBy w' v.ownBlock → wpListIn F n P ops Q rest (a.put o.dst v') w') : wpListIn F n P ops Q (o :: rest) a w := by
  refine wpListIn_plain hgd fun K hK' => ?_
  obtain ⟨v', w', hrun, h2, h3, h4⟩ := Lib.run_append_own_string (P := P) w base t u o.type 5 i ht hu hi hz hsize hby v b.size (Lib.strCells b) hown s (by unfold maxLen; omega) (by omega) hbase
  unfold Oper.wpIn
  refine ⟨?_, ?_⟩
  · simp [Oper.about, ho, resolve, Target.leads, Sem.run_pure]
  · rw [Oper.semAt_plain F _ _ (by rw [ho]; intro c hc'; cases hc')]
    simp [execOp, ho, resolve, invoke, builtin, hs, hx, hrun, Result.andThen]
    exact hK' _ _ (h v' w' (OwnsB.append h2) h3)

/-- Owned bytes as a string. -/
theorem strOfNums_toNat (l : List UInt8) : strOfNums (l.map fun b => (b.toNat : Int)) = ⟨l.toArray⟩ := by
  unfold strOfNums
  congr 1
  simp [Function.comp_def]
theorem run_convert_owned {P : Program} {w : World} {base : Nat} {v : Value} {o : ByteArray} (src dst : TypeId) (hs : P.underlying src = some (.slice 5)) (he : P.underlying 5 = some (.int .u8)) (hd : P.underlying dst = some .string) (h : OwnsB w base v o) :
    (convert src dst v).run P w = .ok (.string o) w := by
  rcases h.2 with ⟨rfl, h0⟩ | ⟨g, cap, cur, rfl, hbg, hg, hle, hm, hcs, htk⟩
  · rw [run_convert_bytes_nil w src 5 hs he _ _ dst hd]
    have : o = ByteArray.empty := by
      apply ByteArray.ext
      exact Array.eq_empty_of_size_eq_zero h0
    rw [this]
  · have hc : ∀ j, j < o.size → w.cell? ⟨g, 0 + j, none⟩ = some (.int .u8 ((o.data.toList.map fun b => (b.toNat : Int)).getD j 0)) := by
      intro j hj
      rw [Nat.zero_add]
      have h1 := cell_of_row w g j cur 5 (0, 0) hg
      rw [h1]
      have hj' : j < o.data.toList.length := by rw [Array.length_toList]; exact hj
      have h2 : (Lib.strCells o)[j]? = some (.int .u8 (o.data.toList[j].toNat : Int)) := by
        simp [Lib.strCells, List.getElem?_eq_getElem hj']
      rw [← htk, Nat.mul_one, List.getElem?_take, if_pos hj] at h2
      rw [← Array.getElem?_toList, h2]
      simp [List.getD, List.getElem?_eq_getElem hj']
    rw [run_convert_bytes_arg w src 5 hs he g 0 o.size cap _ (by rw [List.length_map, Array.length_toList]; rfl) hc dst hd, strOfNums_toNat]

end Go.Proofs.Ytaaegelefknkeab
