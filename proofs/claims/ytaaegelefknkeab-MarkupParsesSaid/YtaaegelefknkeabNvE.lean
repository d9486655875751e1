/- The reference's ParseTag: what its reader keeps. -/
import Derived.Test.YtaaegelefknkeabNvB
import Derived.Test.YtaaegelefknkeabNvC
namespace Go.Proofs.Ytaaegelefknkeab
open Go.RowKit Go.Shelf
set_option linter.unusedSimpArgs false

theorem keyF_nameK (s : ByteArray) (a : Nat) (l : List Pr) : keyF s a l =
    (match nameK s a l with
    | .error q => .error q
    | .ok b =>
      if seesF s b 61 = true then
        if seesF s (b + 1) 34 = true then
          match valueF s (b + 2) with
          | .error q => .error q
          | .ok q => .ok ((s.extract a b, q.1), q.2)
        else .error (b + 1, 3)
      else .error (b, 3)) := by
  unfold keyF nameK
  cases nameF s a with
  | error q => rfl
  | ok b =>
    dsimp only
    split
    · rfl
    · split
      · rfl
      · rfl
/-- The reader as it stands: RX, its keys l in a row of its own, all else of w as it lay. -/
structure RS (w : World) (X : Nat) (s : ByteArray) (W : World) (a : Nat) (c : Bool) (n : ByteArray) (v : Value) (l : List Pr) (p q : Int) (o : Bool) : Prop where
  lt : w.heap.size = X + 1
  rx : RX W X s a c n v p q o
  own : OwnsP W (X + 1) v l
  sc : Sc X w W
section
variable {w : World} {X : Nat} {s : ByteArray} {W W' : World} {a b : Nat} {c c' : Bool} {n n' : ByteArray} {v v' : Value} {l l' : List Pr} {p q p' q' : Int} {o o' : Bool}
theorem RS.go (h : RS w X s W a c n v l p q o) (hs : Sc X W W') (hx : RX W' X s b c n v p' q' o') : RS w X s W' b c n v l p' q' o' :=
  ⟨h.lt, hx, h.own.sc hs (Nat.lt_succ_self X), h.sc.trans hs⟩
theorem RS.below (h : RS w X s W a c n v l p q o) (hb : Below W.heap.size W W') : RS w X s W' a c n v l p q o := h.go (Sc.of hb) (h.rx.below hb)
theorem RS.inc (h : RS w X s W a c n v l p q o) : RS w X s (W.setCell ⟨X, 1, none⟩ (.int .i64 ((a : Int) + 1))) (a + 1) c n v l p q o := h.go (Sc.set X W 1 _) h.rx.inc
theorem RS.close (h : RS w X s W a c n v l p q o) : RS w X s (W.setCell ⟨X, 2, none⟩ (.bool true)) a true n v l p q o :=
  ⟨h.lt, setCell_heap_same h.rx 2 _, h.own.sc (Sc.set X W 2 _) (Nat.lt_succ_self X), h.sc.trans (Sc.set X W 2 _)⟩
theorem RS.named (h : RS w X s W a c n v l p q o) (m : ByteArray) : RS w X s (W.setCell ⟨X, 3, none⟩ (.string m)) a c m v l p q o :=
  ⟨h.lt, setCell_heap_same h.rx 3 _, h.own.sc (Sc.set X W 3 _) (Nat.lt_succ_self X), h.sc.trans (Sc.set X W 3 _)⟩
theorem RS.apart (h : RS w X s W a c n v l p q o) {k : Nat} (hk : k ≤ X) : v.ownBlock ≠ some k := fun e => by
  have := (World.ownsRow.lt h.own k e).1
  omega
theorem RS.keys (h : RS w X s W a c n v l p q o) (hown : OwnsP W (X + 1) v' l') : RS w X s (W.setCell ⟨X, 4, none⟩ v') a c n v' l' p q o :=
  ⟨h.lt, setCell_heap_same h.rx 4 _, OwnsP.sc (v := v') hown (Sc.set X W 4 _) (Nat.lt_succ_self X), h.sc.trans (Sc.set X W 4 _)⟩
theorem RS.grown (h : RS w X s W a c n v l p q o) {ob : Obj} (hg : (W.alloc ob).grownBy W' v.ownBlock) : RX W' X s a c n v p q o :=
  row_grown hg (((b0 W ob).block _ h.rx.lt).trans h.rx) (h.apart (Nat.le_refl _))
theorem RS.append (h : RS w X s W a c n v l p q o) {ob : Obj} (hg : (W.alloc ob).grownBy W' v.ownBlock) (hown : OwnsP W' (X + 1) v' l') : RS w X s (W'.setCell ⟨X, 4, none⟩ v') a c n v' l' p q o := by
  have hl := h.lt
  have hb := b0 W ob
  have hs : Sc X w W' := ⟨hg.os.trans h.sc.os, hg.tape.trans h.sc.tape, hg.output.trans h.sc.output, Nat.le_trans h.sc.size (Nat.le_trans hb.size hg.size), fun k hk hx => by
    have hlt : k < W.heap.size := Nat.lt_of_lt_of_le hk h.sc.size
    by_cases hkx : k ≤ X
    · rw [hg.block k (Nat.lt_of_lt_of_le hlt hb.size) (fun e => h.apart hkx e.symm), hb.block k hlt]
      exact h.sc.block k hk hx
    · omega⟩
  exact ⟨h.lt, setCell_heap_same (h.grown hg) 4 _, OwnsP.sc (v := v') hown (Sc.set X W' 4 _) (Nat.lt_succ_self X), hs.trans (Sc.set X W' 4 _)⟩
/-- What is left to read. -/
def leftOf (s : ByteArray) (X : Nat) (w : World) : Nat := match w.cell? ⟨X, 7, none⟩ with | some (.bool true) => 0 | _ => s.size - atOf X w + 1
theorem RS.left (h : RS w X s W a c n v l p q o) : leftOf s X W = if o = true then 0 else s.size - a + 1 := by
  unfold leftOf
  rw [h.rx.c7, h.rx.atOf]
  cases o <;> rfl
theorem RS.start (w : World) (s : ByteArray) : RS (w.alloc (.cells #[.string s, .int .i64 0, .bool false, .string ⟨#[]⟩, .slice none 0 0, .int .i64 0, .int .i64 0, .bool false] 66)) w.heap.size s
    (w.alloc (.cells #[.string s, .int .i64 0, .bool false, .string ⟨#[]⟩, .slice none 0 0, .int .i64 0, .int .i64 0, .bool false] 66)) 0 false ⟨#[]⟩ (.slice none 0 0) [] 0 0 false :=
  ⟨World.size_alloc _ _, heap_alloc_new w _, World.ownsRow_nil _ _ _ _, Sc.refl _ _⟩
end
end Go.Proofs.Ytaaegelefknkeab
