/- The walk of Position. -/
import Derived.Test.YtaaegelefknkeaaCpD
namespace Go.Proofs.Ytaaegelefknkeaa
open Go.RowKit Go.Shelf

/-- The position behind the units that begin before 'at_'. -/
def posL (at_ : Int) : List U → Int → Int → Int × Int
  | [], l, c => (l, c)
  | u :: us, l, c => if at_ ≤ (u.2.1 : Int) then (l, c) else if u.1 = 10 then posL at_ us (l + 1) 1 else posL at_ us l (c + 1)
def posF (s : ByteArray) (at_ : Int) : Int × Int := posL at_ (unitsOf s) 1 1
def posV (p : Int × Int) : Value := .agg #[.int .i64 p.1, .int .i64 p.2]

/-- The two cells of a Pos. -/
def PB (W : World) (k : Nat) (l c : Int) : Prop := W.heap[k]? = some (.cells #[.int .i64 l, .int .i64 c] 24 (0, 0))
theorem PB.c0 {W : World} {k : Nat} {l c : Int} (h : PB W k l c) : W.cell? ⟨k, 0, none⟩ = some (.int .i64 l) := by simp [World.cell?, show W.heap[k]? = _ from h]
theorem PB.c1 {W : World} {k : Nat} {l c : Int} (h : PB W k l c) : W.cell? ⟨k, 1, none⟩ = some (.int .i64 c) := by simp [World.cell?, show W.heap[k]? = _ from h]
theorem PB.fz {W : World} {k : Nat} {l c : Int} (h : PB W k l c) (o : Nat) : W.frozen? ⟨k, o, none⟩ = false := by simp [World.frozen?, show W.heap[k]? = _ from h]
theorem PB.s0 {W : World} {k : Nat} {l c : Int} (h : PB W k l c) (x : Int) : PB (W.setCell ⟨k, 0, none⟩ (.int .i64 x)) k x c := setCell_heap_same h 0 _
theorem PB.s1 {W : World} {k : Nat} {l c : Int} (h : PB W k l c) (x : Int) : PB (W.setCell ⟨k, 1, none⟩ (.int .i64 x)) k l x := setCell_heap_same h 1 _
theorem PB.other {W : World} {k : Nat} {l c : Int} (h : PB W k l c) {p : Addr} (hne : p.block ≠ k) (v : Value) : PB (W.setCell p v) k l c := (Below.heap_setCell _ _ _ k (fun e => hne e.symm)).trans h

structure PL (s : ByteArray) (at_ : Int) (w : World) (pos fuel : Nat) (l c : Int) (W : World) : Prop where
  it : W.heap[w.heap.size + 2]? = some (.stringIter s pos)
  pb : PB W (w.heap.size + 1) l c
  rb : PB W w.heap.size 0 0
  fu : s.size ≤ pos + fuel
  l0 : 1 ≤ l
  l1 : l ≤ pos + 1
  c0 : 1 ≤ c
  c1 : c ≤ pos + 1
  be : Below w.heap.size w W
  st : posL at_ (unitsFrom s fuel pos) l c = posF s at_

set_option maxHeartbeats 4000000 in
theorem Position_any (s : ByteArray) (at_ : Int) (hs : s.size ≤ 140737488351232) (w : World) :
    Calls Try.prog 14 #[.string s, .int .i64 at_] w fun e w' => e = .returned (posV (posF s at_)) ∧ Below w.heap.size w w' := by
  go_enter Try.func14, Try.ntmps14
  go_wp2
  go_loopw [6] (fun _ wr => ∃ (pos fuel : Nat) (l c : Int), PL s at_ w pos fuel l c wr) (fun _ wr => s.size - wr.iterPos (w.heap.size + 2))
  case atStart =>
    refine ⟨0, s.size, 1, 1, ?_, ?_, ?_, by omega, by omega, by omega, by omega, by omega, ?_, rfl⟩
    · have := World.iter_heap ((w.alloc (.cells #[.int .i64 0, .int .i64 0] 24)).alloc (.cells #[.int .i64 1, .int .i64 1] 24)) s 0
      simpa using this
    · exact (Below.heap_alloc _ _ _ (by simp)).trans (by have := World.alloc_heap_new (w.alloc (.cells #[.int .i64 0, .int .i64 0] 24)) (.cells #[.int .i64 1, .int .i64 1] 24); rwa [World.size_alloc] at this)
    · exact (Below.heap_alloc _ _ _ (by simp; omega)).trans ((Below.heap_alloc _ _ _ (by simp)).trans (World.alloc_heap_new w _))
    · exact (((Below.refl _ w).alloc (Nat.le_refl _) _).alloc (by simp) _).alloc (by simp; omega) _
  case round =>
    obtain ⟨pos, fuel, l, c, hU⟩ := hrel
    have hsz : w.heap.size + 2 < wr.heap.size := (Array.getElem?_eq_some_iff.1 hU.it).1
    have l0 := hU.l0; have l1 := hU.l1; have c0 := hU.c0; have c1 := hU.c1
    by_cases hp : pos < s.size
    · obtain ⟨W1, hW1⟩ : ∃ W1, W1 = wr.iterAt (w.heap.size + 2) s (pos + (Utf8.decode s pos).2) := ⟨_, rfl⟩
      have hnx : ∀ ty, (Instr.next (.pointer (some ⟨w.heap.size + 2, 0, none⟩)) true ty).run Try.prog wr = .ok (.tuple #[.bool true, .int .i64 pos, .int .i32 (Utf8.decode s pos).1]) W1 := fun ty => by
        rw [hW1]; exact Lib.run_next_any_at wr (w.heap.size + 2) s pos ty hU.it hp
      have hwd := width_pos s pos hp
      have hit1 : W1.heap[w.heap.size + 2]? = some (.stringIter s (pos + (Utf8.decode s pos).2)) := by rw [hW1]; exact Lib.iterAt_heap wr _ s pos _ hU.it
      have hpb1 : PB W1 (w.heap.size + 1) l c := by rw [hW1]; exact (Lib.iterAt_other wr _ _ s _ (by omega)).trans hU.pb
      have hrb1 : PB W1 w.heap.size 0 0 := by rw [hW1]; exact (Lib.iterAt_other wr _ _ s _ (by omega)).trans hU.rb
      have hbe1 : Below w.heap.size w W1 := by rw [hW1]; exact Lib.below_iterAt hU.be (by omega) s _
      have hc0 := hpb1.c0
      have hc1 := hpb1.c1
      have hf0 := hpb1.fz 0
      have hf1 := hpb1.fz 1
      have hd0 := hrb1.c0
      have hd1 := hrb1.c1
      have hg0 := hrb1.fz 0
      have hg1 := hrb1.fz 1
      have HU := Lib.hid hU
      have HW1 := Lib.hid hW1
      have Hit1 := Lib.hid hit1
      have Hpb1 := Lib.hid hpb1
      have Hrb1 := Lib.hid hrb1
      have Hbe1 := Lib.hid hbe1
      obtain ⟨f, rfl⟩ : ∃ f, fuel = f + 1 := ⟨fuel - 1, by have := hU.fu; omega⟩
      have hst := hU.st
      simp only [unitsFrom, if_pos hp, posL] at hst
      have Hst := Lib.hid hst
      clear hU hW1 hit1 hpb1 hrb1 hbe1 hst
      by_cases hat : at_ ≤ (pos : Int)
      · go_wp2
        have hr := (((Hrb1.out).s0 l).s1 c)
        have hr0 := hr.c0
        have hr1 := hr.c1
        refine bodyPost_ret (v := .agg #[.int .i64 l, .int .i64 c]) (by simp [results, Try.results14, go_sem, hr0, hr1]) rfl ⟨?_, ?_⟩
        · have h := Hst.out
          rw [if_pos hat] at h
          rw [← h]; rfl
        · exact ((Hbe1.out).setCell (p := ⟨w.heap.size, 0, none⟩) (Nat.le_refl _) _).setCell (p := ⟨w.heap.size, 1, none⟩) (Nat.le_refl _) _
      · by_cases h10 : (Utf8.decode s pos).1 = 10
        · have e1 : (((Utf8.decode s pos).1 : Int) == 10) = true := by simp; omega
          have H10 := Lib.hid h10
          clear h10
          go_wp2
          go_roundw
          case rel =>
            refine ⟨pos + (Utf8.decode s pos).2, f, l + 1, 1, ?_, (Hpb1.out.s0 _).s1 _, (Hrb1.out.other (by simp) _).other (by simp) _, by have := HU.out.fu; omega, by omega, by omega, by omega, by omega, ?_, ?_⟩
            · exact (Below.heap_setCell _ _ _ _ (by simp)).trans ((Below.heap_setCell _ _ _ _ (by simp)).trans Hit1.out)
            · exact ((Hbe1.out).setCell (p := ⟨w.heap.size + 1, 0, none⟩) (by simp) _).setCell (p := ⟨w.heap.size + 1, 1, none⟩) (by simp) _
            · have h := Hst.out
              rwa [if_neg hat, if_pos H10.out] at h
          case measure =>
            rw [iterPos_of HU.out.it, iterPos_of (s := s) (p := pos + (Utf8.decode s pos).2) ((Below.heap_setCell _ _ _ _ (by simp)).trans ((Below.heap_setCell _ _ _ _ (by simp)).trans Hit1.out))]
            omega
        · have e1 : (((Utf8.decode s pos).1 : Int) == 10) = false := by simp; omega
          go_wp2
          go_roundw
          case rel =>
            refine ⟨pos + (Utf8.decode s pos).2, f, l, c + 1, ?_, Hpb1.out.s1 _, Hrb1.out.other (by simp) _, by have := HU.out.fu; omega, by omega, by omega, by omega, by omega, ?_, ?_⟩
            · exact (Below.heap_setCell _ _ _ _ (by simp)).trans Hit1.out
            · exact (Hbe1.out).setCell (p := ⟨w.heap.size + 1, 1, none⟩) (by simp) _
            · have h := Hst.out
              rwa [if_neg hat, if_neg h10] at h
          case measure =>
            rw [iterPos_of HU.out.it, iterPos_of (s := s) (p := pos + (Utf8.decode s pos).2) ((Below.heap_setCell _ _ _ _ (by simp)).trans Hit1.out)]
            omega
    · have hnx : ∀ ty, (Instr.next (.pointer (some ⟨w.heap.size + 2, 0, none⟩)) true ty).run Try.prog wr = _ := fun ty => Lib.run_next_end_at wr (w.heap.size + 2) s pos ty hU.it hp
      have hc0 := hU.pb.c0
      have hc1 := hU.pb.c1
      have hd0 := hU.rb.c0
      have hd1 := hU.rb.c1
      have hg0 := hU.rb.fz 0
      have hg1 := hU.rb.fz 1
      have HU := Lib.hid hU
      clear hU
      go_wp2
      have hr := (((HU.out.rb).s0 l).s1 c)
      have hr0 := hr.c0
      have hr1 := hr.c1
      refine bodyPost_ret (v := .agg #[.int .i64 l, .int .i64 c]) (by simp [results, Try.results14, go_sem, hr0, hr1]) rfl ⟨?_, ?_⟩
      · have h := HU.out.st
        rw [unitsFrom_end s fuel pos hp] at h
        rw [← h]; rfl
      · exact ((HU.out.be).setCell (p := ⟨w.heap.size, 0, none⟩) (Nat.le_refl _) _).setCell (p := ⟨w.heap.size, 1, none⟩) (Nat.le_refl _) _
end Go.Proofs.Ytaaegelefknkeaa
