/- What a reading of a tag keeps. -/
import Derived.Test.YtaaegelefknkeabMtE
import Derived.Deep.RegionHeld3
namespace Go.Proofs.Ytaaegelefknkeab
open Go.RowKit Go.Shelf
set_option linter.unusedSimpArgs false

theorem OwnsP.mono {w : World} {base base' : Nat} {v : Value} {l : List Pr} (h : OwnsP w base v l) (hb : base' ≤ base) : OwnsP w base' v l := by
  refine ⟨h.1, ?_⟩
  rcases h.2 with h1 | ⟨g, cap, cur, h1, h2, h3⟩
  · exact .inl h1
  · exact .inr ⟨g, cap, cur, h1, by omega, h3⟩
/-- The state of the scanner's tag: the scanner at place a, the tag as it stands, its keys l. -/
structure TS (w : World) (X : Nat) (s : ByteArray) (W : World) (a : Nat) (c : Bool) (n : ByteArray) (v : Value) (l : List Pr) : Prop where
  lt : X < w.heap.size
  sx : SX W X s a
  rx : W.heap[w.heap.size]? = some (.cells #[.bool false, .string ⟨#[]⟩, .slice none 0 0] 33 (0, 0))
  tx : W.heap[w.heap.size + 1]? = some (.cells #[.bool c, .string n, v] 33 (0, 0))
  own : OwnsP W (w.heap.size + 2) v l
  sc : Sc X w W
section
variable {w : World} {X : Nat} {s : ByteArray} {W : World} {a : Nat} {c : Bool} {n : ByteArray} {v : Value} {l : List Pr}
theorem OwnsP.sc {base : Nat} (h : OwnsP W base v l) {W' : World} (hs : Sc X W W') (hX : X < base) : OwnsP W' base v l :=
  World.ownsRow.kept (row := some X) h ⟨hs.os, hs.tape, hs.output, hs.size, fun k hk hx => hs.block k hk (fun e => hx (by rw [e]))⟩ (by
    right
    intro e
    have := (World.ownsRow.lt h X e).1
    omega)
theorem TS.go (h : TS w X s W a c n v l) {W' : World} {b : Nat} (hs : Sc X W W') (hx : SX W' X s b) : TS w X s W' b c n v l :=
  ⟨h.lt, hx, hs.kept h.rx (by have := h.lt; omega), hs.kept h.tx (by have := h.lt; omega), h.own.sc hs (by have := h.lt; omega), h.sc.trans hs⟩
theorem TS.below (h : TS w X s W a c n v l) {W' : World} (hb : Below W.heap.size W W') : TS w X s W' a c n v l := h.go (Sc.of hb) (h.sx.below hb)
theorem tag_of_row {B : Nat} {x y z : Value} {t : TypeId} (h : W.heap[B]? = some (.cells #[x, y, z] t (0, 0))) :
    W.cell? ⟨B, 0, none⟩ = some x ∧ W.cell? ⟨B, 1, none⟩ = some y ∧ W.cell? ⟨B, 2, none⟩ = some z ∧ W.frozen? ⟨B, 0, none⟩ = false ∧ W.frozen? ⟨B, 1, none⟩ = false ∧ W.frozen? ⟨B, 2, none⟩ = false := by
  refine ⟨?_, ?_, ?_, ?_, ?_, ?_⟩
  · rw [cell_of_row _ B 0 _ t (0, 0) h]; rfl
  · rw [cell_of_row _ B 1 _ t (0, 0) h]; rfl
  · rw [cell_of_row _ B 2 _ t (0, 0) h]; rfl
  all_goals simp [World.frozen?, h]
theorem TS.set (h : TS w X s W a c n v l) (o : Nat) (u : Value) {c' : Bool} {n' : ByteArray} {v' : Value} {l' : List Pr} (hu : (#[.bool c, .string n, v] : Array Value).setIfInBounds o u = #[.bool c', .string n', v']) (hown : OwnsP W (w.heap.size + 2) v' l') :
    TS w X s (W.setCell ⟨w.heap.size + 1, o, none⟩ u) a c' n' v' l' := by
  have hl := h.lt
  refine ⟨h.lt, h.sx.other (by omega) _ _, (Below.heap_setCell _ _ _ _ (by show w.heap.size ≠ w.heap.size + 1; omega)).trans h.rx, ?_, ownsRow_setCell_below hown (by show w.heap.size + 1 < w.heap.size + 2; omega) _, h.sc.setNew (by omega) _ _⟩
  have := setCell_heap_same h.tx o u
  rw [hu] at this
  exact this
theorem row_grown {W W' : World} {row : Option Nat} (hg : W.grownBy W' row) {k : Nat} {o : Obj} (hk : W.heap[k]? = some o) (hne : row ≠ some k) : W'.heap[k]? = some o :=
  (hg.block k (Array.getElem?_eq_some_iff.1 hk).1 (fun e => hne e.symm)).trans hk
theorem TS.apart (h : TS w X s W a c n v l) {k : Nat} (hk : k < w.heap.size + 2) : v.ownBlock ≠ some k := fun e => by
  have := (World.ownsRow.lt h.own k e).1
  omega
theorem TS.grown (h : TS w X s W a c n v l) {W' : World} {o : Obj} (hg : (W.alloc o).grownBy W' v.ownBlock) : W'.heap[w.heap.size + 1]? = some (.cells #[.bool c, .string n, v] 33 (0, 0)) := by
  have hb := b0 W o
  exact row_grown hg ((hb.block _ (Array.getElem?_eq_some_iff.1 h.tx).1).trans h.tx) (h.apart (by omega))
theorem TS.append (h : TS w X s W a c n v l) {W' : World} {o : Obj} (hg : (W.alloc o).grownBy W' v.ownBlock) {v' : Value} {l' : List Pr} (hown : OwnsP W' (w.heap.size + 2) v' l') :
    TS w X s (W'.setCell ⟨w.heap.size + 1, 2, none⟩ v') a c n v' l' := by
  have hl := h.lt
  have hb := b0 W o
  have hs : Sc X w W' := ⟨hg.os.trans h.sc.os, hg.tape.trans h.sc.tape, hg.output.trans h.sc.output, Nat.le_trans h.sc.size (Nat.le_trans hb.size hg.size), fun k hk hx => by
    have hlt : k < W.heap.size := Nat.lt_of_lt_of_le hk h.sc.size
    rw [hg.block k (Nat.lt_of_lt_of_le hlt hb.size) (fun e => h.apart (k := k) (by omega) e.symm), hb.block k hlt]
    exact h.sc.block k hk hx⟩
  refine ⟨h.lt, ?_, ?_, ?_, ownsRow_setCell_below hown (by show w.heap.size + 1 < w.heap.size + 2; omega) _, hs.setNew (by omega) _ _⟩
  · have h1 : SX W' X s a := row_grown hg ((hb.block _ h.sx.lt).trans h.sx) (h.apart (by omega))
    exact h1.other (by omega) _ _
  · exact (Below.heap_setCell _ _ _ _ (by show w.heap.size ≠ w.heap.size + 1; omega)).trans (row_grown hg ((hb.block _ (Array.getElem?_eq_some_iff.1 h.rx).1).trans h.rx) (h.apart (by omega)))
  · exact setCell_heap_same (h.grown hg) 2 v'
theorem by_dummy {G : Prop} (w : World) (h : G) (_ : wpAny Try.prog .text #[] (fun _ _ _ => True) 0 #[] ⟨#[], []⟩ w) : G := h
theorem TS.inc (h : TS w X s W a c n v l) : TS w X s (W.setCell ⟨X, 1, none⟩ (.int .i64 ((a : Int) + 1))) (a + 1) c n v l := h.go (Sc.set X W 1 _) h.sx.inc
theorem TS.start (w : World) (hx : SX w X s a) : TS w X s ((w.alloc (.cells #[.bool false, .string ⟨#[]⟩, .slice none 0 0] 33)).alloc (.cells #[.bool false, .string ⟨#[]⟩, .slice none 0 0] 33)) a false ⟨#[]⟩ (.slice none 0 0) [] := by
  have b1 := b0 w (.cells #[.bool false, .string ⟨#[]⟩, .slice none 0 0] 33)
  have b2 := b0 (w.alloc (.cells #[.bool false, .string ⟨#[]⟩, .slice none 0 0] 33)) (.cells #[.bool false, .string ⟨#[]⟩, .slice none 0 0] 33)
  have b := bchain b1 b2
  refine ⟨hx.lt, hx.below b, ?_, ?_, World.ownsRow_nil _ _ _ _, Sc.of b⟩
  · exact (b2.block _ (by rw [World.size_alloc]; omega)).trans (heap_alloc_new w _)
  · have := heap_alloc_new (w.alloc (.cells #[.bool false, .string ⟨#[]⟩, .slice none 0 0] 33)) (.cells #[.bool false, .string ⟨#[]⟩, .slice none 0 0] 33)
    rw [World.size_alloc] at this
    exact this
end
theorem key_ok {X : Nat} {s : ByteArray} {a : Nat} {l : List Pr} {q : Pr × Nat} (hs : s.size ≤ 1000000) (h : keyF s a l = .ok q) (w : World) (hx : SX w X s a) (ha : a ≤ s.size) (v : Value) (ad : Option Addr) (cap : Nat) (hr : RdP w v l ad cap) :
    Calls Try.prog 55 #[.pointer (some ⟨X, 0, none⟩), v] w fun e w' => e = .returned (.agg #[.string q.1.1, .string q.1.2]) ∧ Sc X w w' ∧ SX w' X s q.2 := by
  refine (key_any X s a l v ad cap hs w hx ha hr).mono ?_
  rintro e w' ⟨h1, h2⟩
  rw [h] at h2
  exact ⟨h2.1, h1, h2.2⟩
theorem key_err {X : Nat} {s : ByteArray} {a : Nat} {l : List Pr} {q : Nat × Int} (hs : s.size ≤ 1000000) (h : keyF s a l = .error q) (w : World) (hx : SX w X s a) (ha : a ≤ s.size) (v : Value) (ad : Option Addr) (cap : Nat) (hr : RdP w v l ad cap) :
    Calls Try.prog 55 #[.pointer (some ⟨X, 0, none⟩), v] w fun e w' => e = .panicked [{ v := .iface 59 (.agg #[.int .i64 q.1, .int .i64 q.2]), recovered := false }] ∧ Sc X w w' := by
  refine (key_any X s a l v ad cap hs w hx ha hr).mono ?_
  rintro e w' ⟨h1, h2⟩
  rw [h] at h2
  exact ⟨h2, h1⟩
/-- The keys of a tag: none, if it closes. -/
def keysC (c : Bool) (s : ByteArray) (f a : Nat) (l : List Pr) : Except (Nat × Int) (List Pr × Nat) := if c = true then .ok (l, a) else keysF s f a l
/-- A tag: whether it closes, its name, its keys. -/
abbrev Tg := Bool × ByteArray × List Pr
/-- What stands behind the keys. -/
def endF (s : ByteArray) (c : Bool) (n : ByteArray) : Except (Nat × Int) (List Pr × Nat) → Except (Nat × Int) Tg
  | .error q => .error q
  | .ok q => if seesF s q.2 62 = true then (if q.2 + 1 < s.size then .error (q.2 + 1, 3) else .ok (c, n, sortF q.1)) else .error (q.2, 3)
/-- A tag that is all of the text. -/
def tagF (s : ByteArray) : Except (Nat × Int) Tg :=
  if seesF s 0 60 = true then
    match nameF s (if seesF s 1 47 = true then 2 else 1) with
    | .error q => .error q
    | .ok b => endF s (seesF s 1 47) (s.extract (if seesF s 1 47 = true then 2 else 1) b) (keysC (seesF s 1 47) s s.size b [])
  else .error (0, 3)
/-- How a tag's reading ends. -/
def TagPost (base : Nat) (r : Except (Nat × Int) Tg) (e : Ending) (w' : World) : Prop :=
  match r with | .ok q => ∃ v, e = .returned (.agg #[.bool q.1, .string q.2.1, v]) ∧ OwnsP w' base v q.2.2 | .error q => e = faultV q.1 q.2
end Go.Proofs.Ytaaegelefknkeab
