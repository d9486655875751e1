/- The reference's escape. -/
import Derived.Test.YtaaegelefknkeabMtK
namespace Go.Proofs.Ytaaegelefknkeab
open Go.RowKit Go.Shelf
set_option linter.unusedSimpArgs false
set_option linter.unusedVariables false

def rch4 (s : ByteArray) : Int × Int := if prefF s ⟨#[38, 35]⟩ = false then (0, 0) else numF s (digF s s.size 0 2).1 (digF s s.size 0 2).2
def rch3 (s : ByteArray) : Int × Int := if prefF s ⟨#[38, 113, 117, 111, 116, 59]⟩ = true then (34, 6) else rch4 s
def rch2 (s : ByteArray) : Int × Int := if prefF s ⟨#[38, 103, 116, 59]⟩ = true then (62, 4) else rch3 s
def rch1 (s : ByteArray) : Int × Int := if prefF s ⟨#[38, 108, 116, 59]⟩ = true then (60, 4) else rch2 s
/-- What an escape gives, from its kind number k on. -/
def rch (s : ByteArray) (k : Nat) : Int × Int := match k with | 0 => escF s | 1 => rch1 s | 2 => rch2 s | 3 => rch3 s | _ => rch4 s
def rescV (p : Int × Int) : Value := .tuple #[.string (if p.2 = 0 then ⟨#[]⟩ else Utf8.encode p.1), .int .i64 p.2]
theorem rescV_pos (m k : Nat) : Ending.returned (.tuple #[.string (Utf8.encode (m : Int)), .int .i64 ((k : Int) + 1)]) = .returned (rescV ((m : Int), (k : Int) + 1)) := by
  unfold rescV
  dsimp only
  rw [if_neg (by omega)]
theorem rch4_short (s : ByteArray) (h : s.size < 4) : rch4 s = (0, 0) := by
  unfold rch4
  split
  · rfl
  · have hb := digF_bound s s.size 0 2 (by omega)
    unfold numF
    split
    · rfl
    · split
      · omega
      · rfl
def row8 : Array Value := #[.string ⟨#[38, 97, 109, 112, 59]⟩, .string ⟨#[38]⟩, .string ⟨#[38, 108, 116, 59]⟩, .string ⟨#[60]⟩, .string ⟨#[38, 103, 116, 59]⟩, .string ⟨#[62]⟩, .string ⟨#[38, 113, 117, 111, 116, 59]⟩, .string ⟨#[34]⟩]
theorem row8_cells {W : World} {B : Nat} (h : W.heap[B]? = some (.cells row8 52 (0, 0))) :
    W.cell? ⟨B, 0, none⟩ = some (.string ⟨#[38, 97, 109, 112, 59]⟩) ∧ W.cell? ⟨B, 1, none⟩ = some (.string ⟨#[38]⟩) ∧ W.cell? ⟨B, 2, none⟩ = some (.string ⟨#[38, 108, 116, 59]⟩) ∧ W.cell? ⟨B, 3, none⟩ = some (.string ⟨#[60]⟩) ∧
    W.cell? ⟨B, 4, none⟩ = some (.string ⟨#[38, 103, 116, 59]⟩) ∧ W.cell? ⟨B, 5, none⟩ = some (.string ⟨#[62]⟩) ∧ W.cell? ⟨B, 6, none⟩ = some (.string ⟨#[38, 113, 117, 111, 116, 59]⟩) ∧ W.cell? ⟨B, 7, none⟩ = some (.string ⟨#[34]⟩) := by
  refine ⟨?_, ?_, ?_, ?_, ?_, ?_, ?_, ?_⟩
  all_goals (rw [cell_of_row _ B _ _ 52 (0, 0) h]; rfl)

set_option maxRecDepth 20000 in
set_option maxHeartbeats 4000000 in
theorem REscape1_any (s : ByteArray) (hs : s.size ≤ 1000000) (w : World) :
    Calls Try.prog 39 #[.string s] w fun e w' => e = .returned (rescV (escF s)) ∧ Below w.heap.size w w' := by
  obtain ⟨D, hD⟩ : ∃ D, D = digF s s.size 0 2 := ⟨_, rfl⟩
  have HD := Lib.hid hD
  clear hD
  obtain ⟨R, hR⟩ : ∃ R, R = escF s := ⟨_, rfl⟩
  rw [← hR]
  have HRR := Lib.hid hR
  clear hR
  go_enter Try.func39, Try.ntmps39
  go_wp2_with fail
  obtain ⟨W1, hW1⟩ : ∃ W1, w.alloc (.cells row8 52) = W1 := ⟨_, rfl⟩
  have hr1 := heap_alloc_new w (.cells row8 52)
  have hb1 := b0 w (.cells row8 52)
  rw [hW1] at hr1 hb1
  change Code.wp _ _ _ _ (w.alloc (.cells row8 52))
  rw [hW1]
  have HR1 := Lib.hid hr1
  have HB1 := Lib.hid hb1
  clear hW1 hr1 hb1
  go_loopw [14] (fun i wr => ∃ k : Nat, i = .int .i64 k ∧ k ≤ 4 ∧ rch s k = R ∧ Below W1.heap.size W1 wr) (fun i _ => 4 - (intOf i).toNat)
  case atStart => exact ⟨0, rfl, by omega, HRR.out.symm, Below.refl _ _⟩
  case round =>
    obtain ⟨k, rfl, hk4, hk, hbl⟩ := hrel
    have hr8 := (hbl.block _ (Array.getElem?_eq_some_iff.1 HR1.out).1).trans HR1.out
    obtain ⟨c0, c1, c2, c3, c4, c5, c6, c7⟩ := row8_cells hr8
    have HBL := Lib.hid hbl
    have HB := Lib.hid (bchain HB1.out hbl)
    clear hbl hr8
    match k, hk4, hk with
    | 0, hk4, hk =>
      have hch : rch s 0 = if prefF s ⟨#[38, 97, 109, 112, 59]⟩ = true then (38, 5) else rch s 1 := rfl
      rw [hch] at hk
      by_cases hn : 5 ≤ s.size
      · have hn' : (5 : Int) ≤ s.size := by omega
        have hpf : prefF s ⟨#[38, 97, 109, 112, 59]⟩ = ((s.extract 0 5).toList == [38, 97, 109, 112, 59]) := by
          unfold prefF
          rw [decide_eq_true (show (ByteArray.mk #[38, 97, 109, 112, 59]).size ≤ s.size from hn), Bool.true_and, ByteArray.toList_eq ⟨#[38, 97, 109, 112, 59]⟩]
          rfl
        rw [hpf] at hk
        cases hq : ((s.extract 0 5).toList == [38, 97, 109, 112, 59]) with
        | true =>
          rw [hq, if_pos rfl] at hk
          have HK := Lib.hid hk
          clear hk hch hpf
          have HB5 : Hid (Below w.heap.size w (wr.alloc (.cells #[.string ⟨#[38, 97, 109, 112, 59]⟩, .string ⟨#[38]⟩] 52))) := Lib.hid (HB.out.alloc HB.out.size _)
          have HB6 : Hid (Below W1.heap.size W1 (wr.alloc (.cells #[.string ⟨#[38, 97, 109, 112, 59]⟩, .string ⟨#[38]⟩] 52))) := Lib.hid (HBL.out.alloc HBL.out.size _)
          have hP := heap_alloc_new wr (.cells #[.string ⟨#[38, 97, 109, 112, 59]⟩, .string ⟨#[38]⟩] 52)
          obtain ⟨p0, p1, _, _⟩ := pair_of_row hP
          have HP := Lib.hid hP
          clear hP
          go_wp2_with fail
          go_quiet (fail)
          go_wp2_with fail
          obtain ⟨W5, hW5⟩ : ∃ W5, (wr.alloc (.cells #[.string ⟨#[38, 97, 109, 112, 59]⟩, .string ⟨#[38]⟩] 52)).drewN nq = W5 := ⟨_, rfl⟩
          have hP5 : W5.heap[wr.heap.size]? = some (.cells #[.string ⟨#[38, 97, 109, 112, 59]⟩, .string ⟨#[38]⟩] 52 (0, 0)) := by rw [← hW5]; exact HP.out
          have hB5 : Below w.heap.size w W5 := by rw [← hW5]; exact below_drewN HB5.out nq
          rw [hW5]
          obtain ⟨y0, y1, _, _⟩ := pair_of_row hP5
          have HB7 := Lib.hid hB5
          clear hP5 hB5 hW5 HP HB5 HB6 p0 p1 nq
          go_quiet (fail)
          go_wp2
          refine bodyPost_ret (v := .tuple #[.string ⟨#[38]⟩, .int .i64 5]) (by simp [results, Try.results39, go_sem]) rfl ⟨?_, below_drewN HB7.out _⟩
          rw [← HK.out]
          rfl
        | false =>
          rw [hq, if_neg (by simp)] at hk
          have HK := Lib.hid hk
          clear hk hch hpf
          have HB5 : Hid (Below w.heap.size w (wr.alloc (.cells #[.string ⟨#[38, 97, 109, 112, 59]⟩, .string ⟨#[38]⟩] 52))) := Lib.hid (HB.out.alloc HB.out.size _)
          have HB6 : Hid (Below W1.heap.size W1 (wr.alloc (.cells #[.string ⟨#[38, 97, 109, 112, 59]⟩, .string ⟨#[38]⟩] 52))) := Lib.hid (HBL.out.alloc HBL.out.size _)
          have hP := heap_alloc_new wr (.cells #[.string ⟨#[38, 97, 109, 112, 59]⟩, .string ⟨#[38]⟩] 52)
          obtain ⟨p0, p1, _, _⟩ := pair_of_row hP
          have HP := Lib.hid hP
          clear hP
          go_wp2_with fail
          go_quiet (fail)
          go_wp2
          go_roundw
          case rel => exact ⟨1, by go_num, by omega, HK.out, below_drewN HB6.out _⟩
          case measure => simp [intOf]
      · have hn' : ¬ (5 : Int) ≤ s.size := by omega
        have hn2 : decide ((5 : Int) ≤ (s.size : Int)) = false := by simp; omega
        clear hn'
        have hpf : prefF s ⟨#[38, 97, 109, 112, 59]⟩ = false := by
          unfold prefF
          rw [decide_eq_false (show ¬ (ByteArray.mk #[38, 97, 109, 112, 59]).size ≤ s.size from hn)]
          rfl
        rw [hpf, if_neg (by simp)] at hk
        have HK := Lib.hid hk
        clear hk hch hpf
        have HB5 : Hid (Below w.heap.size w (wr.alloc (.cells #[.string ⟨#[38, 97, 109, 112, 59]⟩, .string ⟨#[38]⟩] 52))) := Lib.hid (HB.out.alloc HB.out.size _)
        have HB6 : Hid (Below W1.heap.size W1 (wr.alloc (.cells #[.string ⟨#[38, 97, 109, 112, 59]⟩, .string ⟨#[38]⟩] 52))) := Lib.hid (HBL.out.alloc HBL.out.size _)
        have hP := heap_alloc_new wr (.cells #[.string ⟨#[38, 97, 109, 112, 59]⟩, .string ⟨#[38]⟩] 52)
        obtain ⟨p0, p1, _, _⟩ := pair_of_row hP
        have HP := Lib.hid hP
        clear hP
        go_wp2_with fail
        go_quiet (fail)
        go_wp2
        go_roundw
        case rel => exact ⟨1, by go_num, by omega, HK.out, below_drewN HB6.out _⟩
        case measure => simp [intOf]
    | 1, hk4, hk =>
      have hch : rch s 1 = if prefF s ⟨#[38, 108, 116, 59]⟩ = true then (60, 4) else rch s 2 := rfl
      rw [hch] at hk
      by_cases hn : 4 ≤ s.size
      · have hn' : (4 : Int) ≤ s.size := by omega
        have hpf : prefF s ⟨#[38, 108, 116, 59]⟩ = ((s.extract 0 4).toList == [38, 108, 116, 59]) := by
          unfold prefF
          rw [decide_eq_true (show (ByteArray.mk #[38, 108, 116, 59]).size ≤ s.size from hn), Bool.true_and, ByteArray.toList_eq ⟨#[38, 108, 116, 59]⟩]
          rfl
        rw [hpf] at hk
        cases hq : ((s.extract 0 4).toList == [38, 108, 116, 59]) with
        | true =>
          rw [hq, if_pos rfl] at hk
          have HK := Lib.hid hk
          clear hk hch hpf
          have HB5 : Hid (Below w.heap.size w (wr.alloc (.cells #[.string ⟨#[38, 108, 116, 59]⟩, .string ⟨#[60]⟩] 52))) := Lib.hid (HB.out.alloc HB.out.size _)
          have HB6 : Hid (Below W1.heap.size W1 (wr.alloc (.cells #[.string ⟨#[38, 108, 116, 59]⟩, .string ⟨#[60]⟩] 52))) := Lib.hid (HBL.out.alloc HBL.out.size _)
          have hP := heap_alloc_new wr (.cells #[.string ⟨#[38, 108, 116, 59]⟩, .string ⟨#[60]⟩] 52)
          obtain ⟨p0, p1, _, _⟩ := pair_of_row hP
          have HP := Lib.hid hP
          clear hP
          go_wp2_with fail
          go_quiet (fail)
          go_wp2_with fail
          obtain ⟨W5, hW5⟩ : ∃ W5, (wr.alloc (.cells #[.string ⟨#[38, 108, 116, 59]⟩, .string ⟨#[60]⟩] 52)).drewN nq = W5 := ⟨_, rfl⟩
          have hP5 : W5.heap[wr.heap.size]? = some (.cells #[.string ⟨#[38, 108, 116, 59]⟩, .string ⟨#[60]⟩] 52 (0, 0)) := by rw [← hW5]; exact HP.out
          have hB5 : Below w.heap.size w W5 := by rw [← hW5]; exact below_drewN HB5.out nq
          rw [hW5]
          obtain ⟨y0, y1, _, _⟩ := pair_of_row hP5
          have HB7 := Lib.hid hB5
          clear hP5 hB5 hW5 HP HB5 HB6 p0 p1 nq
          go_quiet (fail)
          go_wp2
          refine bodyPost_ret (v := .tuple #[.string ⟨#[60]⟩, .int .i64 4]) (by simp [results, Try.results39, go_sem]) rfl ⟨?_, below_drewN HB7.out _⟩
          rw [← HK.out]
          rfl
        | false =>
          rw [hq, if_neg (by simp)] at hk
          have HK := Lib.hid hk
          clear hk hch hpf
          have HB5 : Hid (Below w.heap.size w (wr.alloc (.cells #[.string ⟨#[38, 108, 116, 59]⟩, .string ⟨#[60]⟩] 52))) := Lib.hid (HB.out.alloc HB.out.size _)
          have HB6 : Hid (Below W1.heap.size W1 (wr.alloc (.cells #[.string ⟨#[38, 108, 116, 59]⟩, .string ⟨#[60]⟩] 52))) := Lib.hid (HBL.out.alloc HBL.out.size _)
          have hP := heap_alloc_new wr (.cells #[.string ⟨#[38, 108, 116, 59]⟩, .string ⟨#[60]⟩] 52)
          obtain ⟨p0, p1, _, _⟩ := pair_of_row hP
          have HP := Lib.hid hP
          clear hP
          go_wp2_with fail
          go_quiet (fail)
          go_wp2
          go_roundw
          case rel => exact ⟨2, by go_num, by omega, HK.out, below_drewN HB6.out _⟩
          case measure => simp [intOf]
      · have hn' : ¬ (4 : Int) ≤ s.size := by omega
        have hn2 : decide ((4 : Int) ≤ (s.size : Int)) = false := by simp; omega
        clear hn'
        have hpf : prefF s ⟨#[38, 108, 116, 59]⟩ = false := by
          unfold prefF
          rw [decide_eq_false (show ¬ (ByteArray.mk #[38, 108, 116, 59]).size ≤ s.size from hn)]
          rfl
        rw [hpf, if_neg (by simp)] at hk
        have HK := Lib.hid hk
        clear hk hch hpf
        have HB5 : Hid (Below w.heap.size w (wr.alloc (.cells #[.string ⟨#[38, 108, 116, 59]⟩, .string ⟨#[60]⟩] 52))) := Lib.hid (HB.out.alloc HB.out.size _)
        have HB6 : Hid (Below W1.heap.size W1 (wr.alloc (.cells #[.string ⟨#[38, 108, 116, 59]⟩, .string ⟨#[60]⟩] 52))) := Lib.hid (HBL.out.alloc HBL.out.size _)
        have hP := heap_alloc_new wr (.cells #[.string ⟨#[38, 108, 116, 59]⟩, .string ⟨#[60]⟩] 52)
        obtain ⟨p0, p1, _, _⟩ := pair_of_row hP
        have HP := Lib.hid hP
        clear hP
        go_wp2_with fail
        go_quiet (fail)
        go_wp2
        go_roundw
        case rel => exact ⟨2, by go_num, by omega, HK.out, below_drewN HB6.out _⟩
        case measure => simp [intOf]
    | 2, hk4, hk =>
      have hch : rch s 2 = if prefF s ⟨#[38, 103, 116, 59]⟩ = true then (62, 4) else rch s 3 := rfl
      rw [hch] at hk
      by_cases hn : 4 ≤ s.size
      · have hn' : (4 : Int) ≤ s.size := by omega
        have hpf : prefF s ⟨#[38, 103, 116, 59]⟩ = ((s.extract 0 4).toList == [38, 103, 116, 59]) := by
          unfold prefF
          rw [decide_eq_true (show (ByteArray.mk #[38, 103, 116, 59]).size ≤ s.size from hn), Bool.true_and, ByteArray.toList_eq ⟨#[38, 103, 116, 59]⟩]
          rfl
        rw [hpf] at hk
        cases hq : ((s.extract 0 4).toList == [38, 103, 116, 59]) with
        | true =>
          rw [hq, if_pos rfl] at hk
          have HK := Lib.hid hk
          clear hk hch hpf
          have HB5 : Hid (Below w.heap.size w (wr.alloc (.cells #[.string ⟨#[38, 103, 116, 59]⟩, .string ⟨#[62]⟩] 52))) := Lib.hid (HB.out.alloc HB.out.size _)
          have HB6 : Hid (Below W1.heap.size W1 (wr.alloc (.cells #[.string ⟨#[38, 103, 116, 59]⟩, .string ⟨#[62]⟩] 52))) := Lib.hid (HBL.out.alloc HBL.out.size _)
          have hP := heap_alloc_new wr (.cells #[.string ⟨#[38, 103, 116, 59]⟩, .string ⟨#[62]⟩] 52)
          obtain ⟨p0, p1, _, _⟩ := pair_of_row hP
          have HP := Lib.hid hP
          clear hP
          go_wp2_with fail
          go_quiet (fail)
          go_wp2_with fail
          obtain ⟨W5, hW5⟩ : ∃ W5, (wr.alloc (.cells #[.string ⟨#[38, 103, 116, 59]⟩, .string ⟨#[62]⟩] 52)).drewN nq = W5 := ⟨_, rfl⟩
          have hP5 : W5.heap[wr.heap.size]? = some (.cells #[.string ⟨#[38, 103, 116, 59]⟩, .string ⟨#[62]⟩] 52 (0, 0)) := by rw [← hW5]; exact HP.out
          have hB5 : Below w.heap.size w W5 := by rw [← hW5]; exact below_drewN HB5.out nq
          rw [hW5]
          obtain ⟨y0, y1, _, _⟩ := pair_of_row hP5
          have HB7 := Lib.hid hB5
          clear hP5 hB5 hW5 HP HB5 HB6 p0 p1 nq
          go_quiet (fail)
          go_wp2
          refine bodyPost_ret (v := .tuple #[.string ⟨#[62]⟩, .int .i64 4]) (by simp [results, Try.results39, go_sem]) rfl ⟨?_, below_drewN HB7.out _⟩
          rw [← HK.out]
          rfl
        | false =>
          rw [hq, if_neg (by simp)] at hk
          have HK := Lib.hid hk
          clear hk hch hpf
          have HB5 : Hid (Below w.heap.size w (wr.alloc (.cells #[.string ⟨#[38, 103, 116, 59]⟩, .string ⟨#[62]⟩] 52))) := Lib.hid (HB.out.alloc HB.out.size _)
          have HB6 : Hid (Below W1.heap.size W1 (wr.alloc (.cells #[.string ⟨#[38, 103, 116, 59]⟩, .string ⟨#[62]⟩] 52))) := Lib.hid (HBL.out.alloc HBL.out.size _)
          have hP := heap_alloc_new wr (.cells #[.string ⟨#[38, 103, 116, 59]⟩, .string ⟨#[62]⟩] 52)
          obtain ⟨p0, p1, _, _⟩ := pair_of_row hP
          have HP := Lib.hid hP
          clear hP
          go_wp2_with fail
          go_quiet (fail)
          go_wp2
          go_roundw
          case rel => exact ⟨3, by go_num, by omega, HK.out, below_drewN HB6.out _⟩
          case measure => simp [intOf]
      · have hn' : ¬ (4 : Int) ≤ s.size := by omega
        have hn2 : decide ((4 : Int) ≤ (s.size : Int)) = false := by simp; omega
        clear hn'
        have hpf : prefF s ⟨#[38, 103, 116, 59]⟩ = false := by
          unfold prefF
          rw [decide_eq_false (show ¬ (ByteArray.mk #[38, 103, 116, 59]).size ≤ s.size from hn)]
          rfl
        rw [hpf, if_neg (by simp)] at hk
        have HK := Lib.hid hk
        clear hk hch hpf
        have HB5 : Hid (Below w.heap.size w (wr.alloc (.cells #[.string ⟨#[38, 103, 116, 59]⟩, .string ⟨#[62]⟩] 52))) := Lib.hid (HB.out.alloc HB.out.size _)
        have HB6 : Hid (Below W1.heap.size W1 (wr.alloc (.cells #[.string ⟨#[38, 103, 116, 59]⟩, .string ⟨#[62]⟩] 52))) := Lib.hid (HBL.out.alloc HBL.out.size _)
        have hP := heap_alloc_new wr (.cells #[.string ⟨#[38, 103, 116, 59]⟩, .string ⟨#[62]⟩] 52)
        obtain ⟨p0, p1, _, _⟩ := pair_of_row hP
        have HP := Lib.hid hP
        clear hP
        go_wp2_with fail
        go_quiet (fail)
        go_wp2
        go_roundw
        case rel => exact ⟨3, by go_num, by omega, HK.out, below_drewN HB6.out _⟩
        case measure => simp [intOf]
    | 3, hk4, hk =>
      have hch : rch s 3 = if prefF s ⟨#[38, 113, 117, 111, 116, 59]⟩ = true then (34, 6) else rch s 4 := rfl
      rw [hch] at hk
      by_cases hn : 6 ≤ s.size
      · have hn' : (6 : Int) ≤ s.size := by omega
        have hpf : prefF s ⟨#[38, 113, 117, 111, 116, 59]⟩ = ((s.extract 0 6).toList == [38, 113, 117, 111, 116, 59]) := by
          unfold prefF
          rw [decide_eq_true (show (ByteArray.mk #[38, 113, 117, 111, 116, 59]).size ≤ s.size from hn), Bool.true_and, ByteArray.toList_eq ⟨#[38, 113, 117, 111, 116, 59]⟩]
          rfl
        rw [hpf] at hk
        cases hq : ((s.extract 0 6).toList == [38, 113, 117, 111, 116, 59]) with
        | true =>
          rw [hq, if_pos rfl] at hk
          have HK := Lib.hid hk
          clear hk hch hpf
          have HB5 : Hid (Below w.heap.size w (wr.alloc (.cells #[.string ⟨#[38, 113, 117, 111, 116, 59]⟩, .string ⟨#[34]⟩] 52))) := Lib.hid (HB.out.alloc HB.out.size _)
          have HB6 : Hid (Below W1.heap.size W1 (wr.alloc (.cells #[.string ⟨#[38, 113, 117, 111, 116, 59]⟩, .string ⟨#[34]⟩] 52))) := Lib.hid (HBL.out.alloc HBL.out.size _)
          have hP := heap_alloc_new wr (.cells #[.string ⟨#[38, 113, 117, 111, 116, 59]⟩, .string ⟨#[34]⟩] 52)
          obtain ⟨p0, p1, _, _⟩ := pair_of_row hP
          have HP := Lib.hid hP
          clear hP
          go_wp2_with fail
          go_quiet (fail)
          go_wp2_with fail
          obtain ⟨W5, hW5⟩ : ∃ W5, (wr.alloc (.cells #[.string ⟨#[38, 113, 117, 111, 116, 59]⟩, .string ⟨#[34]⟩] 52)).drewN nq = W5 := ⟨_, rfl⟩
          have hP5 : W5.heap[wr.heap.size]? = some (.cells #[.string ⟨#[38, 113, 117, 111, 116, 59]⟩, .string ⟨#[34]⟩] 52 (0, 0)) := by rw [← hW5]; exact HP.out
          have hB5 : Below w.heap.size w W5 := by rw [← hW5]; exact below_drewN HB5.out nq
          rw [hW5]
          obtain ⟨y0, y1, _, _⟩ := pair_of_row hP5
          have HB7 := Lib.hid hB5
          clear hP5 hB5 hW5 HP HB5 HB6 p0 p1 nq
          go_quiet (fail)
          go_wp2
          refine bodyPost_ret (v := .tuple #[.string ⟨#[34]⟩, .int .i64 6]) (by simp [results, Try.results39, go_sem]) rfl ⟨?_, below_drewN HB7.out _⟩
          rw [← HK.out]
          rfl
        | false =>
          rw [hq, if_neg (by simp)] at hk
          have HK := Lib.hid hk
          clear hk hch hpf
          have HB5 : Hid (Below w.heap.size w (wr.alloc (.cells #[.string ⟨#[38, 113, 117, 111, 116, 59]⟩, .string ⟨#[34]⟩] 52))) := Lib.hid (HB.out.alloc HB.out.size _)
          have HB6 : Hid (Below W1.heap.size W1 (wr.alloc (.cells #[.string ⟨#[38, 113, 117, 111, 116, 59]⟩, .string ⟨#[34]⟩] 52))) := Lib.hid (HBL.out.alloc HBL.out.size _)
          have hP := heap_alloc_new wr (.cells #[.string ⟨#[38, 113, 117, 111, 116, 59]⟩, .string ⟨#[34]⟩] 52)
          obtain ⟨p0, p1, _, _⟩ := pair_of_row hP
          have HP := Lib.hid hP
          clear hP
          go_wp2_with fail
          go_quiet (fail)
          go_wp2
          go_roundw
          case rel => exact ⟨4, by go_num, by omega, HK.out, below_drewN HB6.out _⟩
          case measure => simp [intOf]
      · have hn' : ¬ (6 : Int) ≤ s.size := by omega
        have hn2 : decide ((6 : Int) ≤ (s.size : Int)) = false := by simp; omega
        clear hn'
        have hpf : prefF s ⟨#[38, 113, 117, 111, 116, 59]⟩ = false := by
          unfold prefF
          rw [decide_eq_false (show ¬ (ByteArray.mk #[38, 113, 117, 111, 116, 59]).size ≤ s.size from hn)]
          rfl
        rw [hpf, if_neg (by simp)] at hk
        have HK := Lib.hid hk
        clear hk hch hpf
        have HB5 : Hid (Below w.heap.size w (wr.alloc (.cells #[.string ⟨#[38, 113, 117, 111, 116, 59]⟩, .string ⟨#[34]⟩] 52))) := Lib.hid (HB.out.alloc HB.out.size _)
        have HB6 : Hid (Below W1.heap.size W1 (wr.alloc (.cells #[.string ⟨#[38, 113, 117, 111, 116, 59]⟩, .string ⟨#[34]⟩] 52))) := Lib.hid (HBL.out.alloc HBL.out.size _)
        have hP := heap_alloc_new wr (.cells #[.string ⟨#[38, 113, 117, 111, 116, 59]⟩, .string ⟨#[34]⟩] 52)
        obtain ⟨p0, p1, _, _⟩ := pair_of_row hP
        have HP := Lib.hid hP
        clear hP
        go_wp2_with fail
        go_quiet (fail)
        go_wp2
        go_roundw
        case rel => exact ⟨4, by go_num, by omega, HK.out, below_drewN HB6.out _⟩
        case measure => simp [intOf]
    | 4, hk4, hk =>
      have hk : rch4 s = R := hk
      clear c0 c1 c2 c3 c4 c5 c6 c7
      by_cases h4 : s.size < 4
      · have h4' : (s.size : Int) < 4 := by omega
        rw [rch4_short s h4] at hk
        have HK := Lib.hid hk
        clear hk
        go_wp2
        refine bodyPost_ret (v := .tuple #[.string ⟨#[]⟩, .int .i64 0]) (by simp [results, Try.results39, go_sem]) rfl ⟨?_, HB.out⟩
        rw [← HK.out]
        rfl
      · have h4' : ¬ (s.size : Int) < 4 := by omega
        have hpf : prefF s ⟨#[38, 35]⟩ = ((s.extract 0 2).toList == [38, 35]) := by
          unfold prefF
          rw [decide_eq_true (show (ByteArray.mk #[38, 35]).size ≤ s.size by show 2 ≤ _; omega), Bool.true_and, ByteArray.toList_eq ⟨#[38, 35]⟩]
          rfl
        unfold rch4 at hk
        rw [hpf] at hk
        cases hq : ((s.extract 0 2).toList == [38, 35]) with
        | false =>
          rw [hq, if_pos rfl] at hk
          have HK := Lib.hid hk
          clear hk hpf
          go_wp2
          refine bodyPost_ret (v := .tuple #[.string ⟨#[]⟩, .int .i64 0]) (by simp [results, Try.results39, go_sem]) rfl ⟨?_, HB.out⟩
          rw [← HK.out]
          rfl
        | true =>
          rw [hq, if_neg (by simp), ← HD.out] at hk
          obtain ⟨R1, R2⟩ := R
          have HR := Lib.hid hk.symm
          have HBW := HB
          clear hk hpf HBL HRR
          go_wp2_with fail
          obtain ⟨wo, rfl⟩ : ∃ x, x = wr := ⟨_, rfl⟩
          go_loopw [6, 7] (fun n i wr => ∃ m k f : Nat, n = .int .i64 m ∧ i = .int .i64 k ∧ k ≤ s.size ∧ dB k m ∧ digF s f m k = D ∧ s.size ≤ k + f ∧ wr = wo) (fun _ i _ => s.size - (intOf i).toNat)
          case atStart => exact ⟨0, 2, s.size, rfl, rfl, by omega, .inl ⟨rfl, by omega⟩, HD.out.symm, by omega, rfl⟩
          case round =>
            obtain ⟨m, k, f, rfl, rfl, hk, hd, hdig, hf, rfl⟩ := hrel
            have hm9 : m ≤ 9999999 ∧ 2 ≤ k ∧ k ≤ 9 := by unfold dB at hd; omega
            have hm := hm9.1
            have hk2 := hm9.2.1
            have hk9 := hm9.2.2
            clear hm9
            have Hd := Lib.hid hd
            have Hdig := Lib.hid hdig
            clear hd hdig
            by_cases hk1 : k < s.size
            · have hk1' : (k : Int) < s.size := by omega
              obtain ⟨f, rfl⟩ : ∃ g, f = g + 1 := ⟨f - 1, by omega⟩
              have hstep : digF s (f + 1) m k = if k < 9 ∧ 48 ≤ (s[k]'hk1).toNat ∧ (s[k]'hk1).toNat ≤ 57 then digF s f (10 * m + ((s[k]'hk1).toNat - 48)) (k + 1) else (m, k) := by rw [digF, dif_pos hk1]
              rw [hstep] at Hdig
              clear hstep
              by_cases h9 : k < 9
              · by_cases hlo : 48 ≤ (s[k]'hk1).toNat
                · by_cases hhi : (s[k]'hk1).toNat ≤ 57
                  · rw [if_pos ⟨h9, hlo, hhi⟩] at Hdig
                    have h9' : (k : Int) < 9 := by omega
                    have hlo' : (48 : Int) ≤ (s[k]'hk1).toNat := by omega
                    have hhi' : ((s[k]'hk1).toNat : Int) ≤ 57 := by omega
                    go_wp2
                    go_roundw
                    case rel => exact ⟨10 * m + ((s[k]'hk1).toNat - 48), k + 1, f, by go_num, by go_num, by omega, by have := Hd.out; unfold dB at this ⊢; omega, Hdig.out, by omega, by first | trivial | rfl⟩
                    case measure => simp [intOf]; omega
                  · rw [if_neg (by omega)] at Hdig
                    have HD2 := Hdig.out
                    rw [← HD2] at HR
                    clear HD2
                    dsimp only at HR
                    have h9' : (k : Int) < 9 := by omega
                    have hlo' : (48 : Int) ≤ (s[k]'hk1).toNat := by omega
                    have hhi' : ¬ ((s[k]'hk1).toNat : Int) ≤ 57 := by omega
                    by_cases hk2' : k = 2
                    · have e2 : ((k : Int) == 2) = true := by simp [hk2']
                      have HK2 := Lib.hid hk2'
                      clear hk2'
                      go_wp2
                      refine bodyPost_ret (v := .tuple #[.string ⟨#[]⟩, .int .i64 0]) (by simp [results, Try.results39, go_sem]) rfl ⟨?_, HBW.out⟩
                      have hr := HR.out
                      rw [numF, if_pos HK2.out] at hr
                      obtain ⟨h1, h2⟩ := Prod.mk.inj hr
                      rw [h1, h2]
                      rfl
                    · have e2 : ((k : Int) == 2) = false := by simp; omega
                      have e3 : ((k : Int) == (s.size : Int)) = false := by simp; omega
                      have hi2 : 2 < s.size := by omega
                      by_cases h59 : (s[k]'hk1).toNat = 59
                      · have e4 : (((s[k]'hk1).toNat : Int) != 59) = false := by simp [h59]
                        have H59 := Lib.hid h59
                        clear h59
                        have hnum : numF s m k = if (∃ h2 : 2 < s.size, (s[2]'h2).toNat = 48) ∧ 3 < k then (0, 0) else if 55296 ≤ m ∧ m ≤ 57343 ∨ 1114111 < m then (0, 0) else ((m : Int), (k : Int) + 1) := by rw [numF, if_neg hk2', dif_pos hk1, if_neg (by rw [H59.out]; simp)]
                        rw [hnum] at HR
                        clear hnum
                        cases h48 : (((s[2]'hi2).toNat : Int) == 48) with
                        | true =>
                          have h48' : (s[2]'hi2).toNat = 48 := by have := eq_of_beq h48; omega
                          by_cases hk3 : 3 < k
                          · have g0 : (3 : Int) < k := by omega
                            go_wp2
                            refine bodyPost_ret (v := .tuple #[.string ⟨#[]⟩, .int .i64 0]) (by simp [results, Try.results39, go_sem]) rfl ⟨?_, HBW.out⟩
                            have hr := HR.out
                            rw [if_pos ⟨⟨hi2, h48'⟩, hk3⟩] at hr
                            obtain ⟨h1, h2⟩ := Prod.mk.inj hr
                            rw [h1, h2]
                            rfl
                          · have g0 : ¬ (3 : Int) < k := by omega
                            rw [if_neg (fun h => hk3 h.2)] at HR
                            by_cases hbig : 1114111 < m
                            · have g1 : (1114111 : Int) < m := by omega
                              have g2 : (55296 : Int) ≤ m := by omega
                              have g3 : ¬ (m : Int) ≤ 57343 := by omega
                              go_wp2
                              refine bodyPost_ret (v := .tuple #[.string ⟨#[]⟩, .int .i64 0]) (by simp [results, Try.results39, go_sem]) rfl ⟨?_, HBW.out⟩
                              have hr := HR.out
                              rw [if_pos (.inr hbig)] at hr
                              obtain ⟨h1, h2⟩ := Prod.mk.inj hr
                              rw [h1, h2]
                              rfl
                            · by_cases hlo : 55296 ≤ m
                              · by_cases hhi : m ≤ 57343
                                · have g2 : (55296 : Int) ≤ m := by omega
                                  have g3 : (m : Int) ≤ 57343 := by omega
                                  go_wp2
                                  refine bodyPost_ret (v := .tuple #[.string ⟨#[]⟩, .int .i64 0]) (by simp [results, Try.results39, go_sem]) rfl ⟨?_, HBW.out⟩
                                  have hr := HR.out
                                  rw [if_pos (.inl ⟨hlo, hhi⟩)] at hr
                                  obtain ⟨h1, h2⟩ := Prod.mk.inj hr
                                  rw [h1, h2]
                                  rfl
                                · have g1 : ¬ (1114111 : Int) < m := by omega
                                  have g2 : (55296 : Int) ≤ m := by omega
                                  have g3 : ¬ (m : Int) ≤ 57343 := by omega
                                  go_wp2
                                  refine bodyPost_ret (v := .tuple #[.string (Utf8.encode (m : Int)), .int .i64 ((k : Int) + 1)]) (by simp [results, Try.results39, go_sem]) rfl ⟨?_, HBW.out⟩
                                  have hr := HR.out
                                  rw [if_neg (by omega)] at hr
                                  obtain ⟨h1, h2⟩ := Prod.mk.inj hr
                                  rw [h1, h2]
                                  exact rescV_pos _ _
                              · have g1 : ¬ (1114111 : Int) < m := by omega
                                have e5 : decide ((55296 : Int) ≤ (m : Int)) = false := by simp; omega
                                have HLO := Lib.hid hlo
                                have HBIG := Lib.hid hbig
                                clear hlo hbig
                                go_wp2
                                refine bodyPost_ret (v := .tuple #[.string (Utf8.encode (m : Int)), .int .i64 ((k : Int) + 1)]) (by simp [results, Try.results39, go_sem]) rfl ⟨?_, HBW.out⟩
                                have hr := HR.out
                                rw [if_neg (by have := HLO.out; have := HBIG.out; omega)] at hr
                                obtain ⟨h1, h2⟩ := Prod.mk.inj hr
                                rw [h1, h2]
                                exact rescV_pos _ _
                        | false =>
                          have h48' : ¬ (s[2]'hi2).toNat = 48 := fun h => by rw [h] at h48; simp at h48
                          rw [if_neg (fun h => h48' h.1.2)] at HR
                          by_cases hbig : 1114111 < m
                          · have g1 : (1114111 : Int) < m := by omega
                            have g2 : (55296 : Int) ≤ m := by omega
                            have g3 : ¬ (m : Int) ≤ 57343 := by omega
                            go_wp2
                            refine bodyPost_ret (v := .tuple #[.string ⟨#[]⟩, .int .i64 0]) (by simp [results, Try.results39, go_sem]) rfl ⟨?_, HBW.out⟩
                            have hr := HR.out
                            rw [if_pos (.inr hbig)] at hr
                            obtain ⟨h1, h2⟩ := Prod.mk.inj hr
                            rw [h1, h2]
                            rfl
                          · by_cases hlo : 55296 ≤ m
                            · by_cases hhi : m ≤ 57343
                              · have g2 : (55296 : Int) ≤ m := by omega
                                have g3 : (m : Int) ≤ 57343 := by omega
                                go_wp2
                                refine bodyPost_ret (v := .tuple #[.string ⟨#[]⟩, .int .i64 0]) (by simp [results, Try.results39, go_sem]) rfl ⟨?_, HBW.out⟩
                                have hr := HR.out
                                rw [if_pos (.inl ⟨hlo, hhi⟩)] at hr
                                obtain ⟨h1, h2⟩ := Prod.mk.inj hr
                                rw [h1, h2]
                                rfl
                              · have g1 : ¬ (1114111 : Int) < m := by omega
                                have g2 : (55296 : Int) ≤ m := by omega
                                have g3 : ¬ (m : Int) ≤ 57343 := by omega
                                go_wp2
                                refine bodyPost_ret (v := .tuple #[.string (Utf8.encode (m : Int)), .int .i64 ((k : Int) + 1)]) (by simp [results, Try.results39, go_sem]) rfl ⟨?_, HBW.out⟩
                                have hr := HR.out
                                rw [if_neg (by omega)] at hr
                                obtain ⟨h1, h2⟩ := Prod.mk.inj hr
                                rw [h1, h2]
                                exact rescV_pos _ _
                            · have g1 : ¬ (1114111 : Int) < m := by omega
                              have e5 : decide ((55296 : Int) ≤ (m : Int)) = false := by simp; omega
                              have HLO := Lib.hid hlo
                              have HBIG := Lib.hid hbig
                              clear hlo hbig
                              go_wp2
                              refine bodyPost_ret (v := .tuple #[.string (Utf8.encode (m : Int)), .int .i64 ((k : Int) + 1)]) (by simp [results, Try.results39, go_sem]) rfl ⟨?_, HBW.out⟩
                              have hr := HR.out
                              rw [if_neg (by have := HLO.out; have := HBIG.out; omega)] at hr
                              obtain ⟨h1, h2⟩ := Prod.mk.inj hr
                              rw [h1, h2]
                              exact rescV_pos _ _
                      · have e4 : (((s[k]'hk1).toNat : Int) != 59) = true := by simp; omega
                        go_wp2
                        refine bodyPost_ret (v := .tuple #[.string ⟨#[]⟩, .int .i64 0]) (by simp [results, Try.results39, go_sem]) rfl ⟨?_, HBW.out⟩
                        have hr := HR.out
                        rw [numF, if_neg hk2', dif_pos hk1, if_pos h59] at hr
                        obtain ⟨h1, h2⟩ := Prod.mk.inj hr
                        rw [h1, h2]
                        rfl
                · rw [if_neg (by omega)] at Hdig
                  have HD2 := Hdig.out
                  rw [← HD2] at HR
                  clear HD2
                  dsimp only at HR
                  have h9' : (k : Int) < 9 := by omega
                  have hlo' : ¬ (48 : Int) ≤ (s[k]'hk1).toNat := by omega
                  by_cases hk2' : k = 2
                  · have e2 : ((k : Int) == 2) = true := by simp [hk2']
                    have HK2 := Lib.hid hk2'
                    clear hk2'
                    go_wp2
                    refine bodyPost_ret (v := .tuple #[.string ⟨#[]⟩, .int .i64 0]) (by simp [results, Try.results39, go_sem]) rfl ⟨?_, HBW.out⟩
                    have hr := HR.out
                    rw [numF, if_pos HK2.out] at hr
                    obtain ⟨h1, h2⟩ := Prod.mk.inj hr
                    rw [h1, h2]
                    rfl
                  · have e2 : ((k : Int) == 2) = false := by simp; omega
                    have e3 : ((k : Int) == (s.size : Int)) = false := by simp; omega
                    have hi2 : 2 < s.size := by omega
                    by_cases h59 : (s[k]'hk1).toNat = 59
                    · have e4 : (((s[k]'hk1).toNat : Int) != 59) = false := by simp [h59]
                      have H59 := Lib.hid h59
                      clear h59
                      have hnum : numF s m k = if (∃ h2 : 2 < s.size, (s[2]'h2).toNat = 48) ∧ 3 < k then (0, 0) else if 55296 ≤ m ∧ m ≤ 57343 ∨ 1114111 < m then (0, 0) else ((m : Int), (k : Int) + 1) := by rw [numF, if_neg hk2', dif_pos hk1, if_neg (by rw [H59.out]; simp)]
                      rw [hnum] at HR
                      clear hnum
                      cases h48 : (((s[2]'hi2).toNat : Int) == 48) with
                      | true =>
                        have h48' : (s[2]'hi2).toNat = 48 := by have := eq_of_beq h48; omega
                        by_cases hk3 : 3 < k
                        · have g0 : (3 : Int) < k := by omega
                          go_wp2
                          refine bodyPost_ret (v := .tuple #[.string ⟨#[]⟩, .int .i64 0]) (by simp [results, Try.results39, go_sem]) rfl ⟨?_, HBW.out⟩
                          have hr := HR.out
                          rw [if_pos ⟨⟨hi2, h48'⟩, hk3⟩] at hr
                          obtain ⟨h1, h2⟩ := Prod.mk.inj hr
                          rw [h1, h2]
                          rfl
                        · have g0 : ¬ (3 : Int) < k := by omega
                          rw [if_neg (fun h => hk3 h.2)] at HR
                          by_cases hbig : 1114111 < m
                          · have g1 : (1114111 : Int) < m := by omega
                            have g2 : (55296 : Int) ≤ m := by omega
                            have g3 : ¬ (m : Int) ≤ 57343 := by omega
                            go_wp2
                            refine bodyPost_ret (v := .tuple #[.string ⟨#[]⟩, .int .i64 0]) (by simp [results, Try.results39, go_sem]) rfl ⟨?_, HBW.out⟩
                            have hr := HR.out
                            rw [if_pos (.inr hbig)] at hr
                            obtain ⟨h1, h2⟩ := Prod.mk.inj hr
                            rw [h1, h2]
                            rfl
                          · by_cases hlo : 55296 ≤ m
                            · by_cases hhi : m ≤ 57343
                              · have g2 : (55296 : Int) ≤ m := by omega
                                have g3 : (m : Int) ≤ 57343 := by omega
                                go_wp2
                                refine bodyPost_ret (v := .tuple #[.string ⟨#[]⟩, .int .i64 0]) (by simp [results, Try.results39, go_sem]) rfl ⟨?_, HBW.out⟩
                                have hr := HR.out
                                rw [if_pos (.inl ⟨hlo, hhi⟩)] at hr
                                obtain ⟨h1, h2⟩ := Prod.mk.inj hr
                                rw [h1, h2]
                                rfl
                              · have g1 : ¬ (1114111 : Int) < m := by omega
                                have g2 : (55296 : Int) ≤ m := by omega
                                have g3 : ¬ (m : Int) ≤ 57343 := by omega
                                go_wp2
                                refine bodyPost_ret (v := .tuple #[.string (Utf8.encode (m : Int)), .int .i64 ((k : Int) + 1)]) (by simp [results, Try.results39, go_sem]) rfl ⟨?_, HBW.out⟩
                                have hr := HR.out
                                rw [if_neg (by omega)] at hr
                                obtain ⟨h1, h2⟩ := Prod.mk.inj hr
                                rw [h1, h2]
                                exact rescV_pos _ _
                            · have g1 : ¬ (1114111 : Int) < m := by omega
                              have e5 : decide ((55296 : Int) ≤ (m : Int)) = false := by simp; omega
                              have HLO := Lib.hid hlo
                              have HBIG := Lib.hid hbig
                              clear hlo hbig
                              go_wp2
                              refine bodyPost_ret (v := .tuple #[.string (Utf8.encode (m : Int)), .int .i64 ((k : Int) + 1)]) (by simp [results, Try.results39, go_sem]) rfl ⟨?_, HBW.out⟩
                              have hr := HR.out
                              rw [if_neg (by have := HLO.out; have := HBIG.out; omega)] at hr
                              obtain ⟨h1, h2⟩ := Prod.mk.inj hr
                              rw [h1, h2]
                              exact rescV_pos _ _
                      | false =>
                        have h48' : ¬ (s[2]'hi2).toNat = 48 := fun h => by rw [h] at h48; simp at h48
                        rw [if_neg (fun h => h48' h.1.2)] at HR
                        by_cases hbig : 1114111 < m
                        · have g1 : (1114111 : Int) < m := by omega
                          have g2 : (55296 : Int) ≤ m := by omega
                          have g3 : ¬ (m : Int) ≤ 57343 := by omega
                          go_wp2
                          refine bodyPost_ret (v := .tuple #[.string ⟨#[]⟩, .int .i64 0]) (by simp [results, Try.results39, go_sem]) rfl ⟨?_, HBW.out⟩
                          have hr := HR.out
                          rw [if_pos (.inr hbig)] at hr
                          obtain ⟨h1, h2⟩ := Prod.mk.inj hr
                          rw [h1, h2]
                          rfl
                        · by_cases hlo : 55296 ≤ m
                          · by_cases hhi : m ≤ 57343
                            · have g2 : (55296 : Int) ≤ m := by omega
                              have g3 : (m : Int) ≤ 57343 := by omega
                              go_wp2
                              refine bodyPost_ret (v := .tuple #[.string ⟨#[]⟩, .int .i64 0]) (by simp [results, Try.results39, go_sem]) rfl ⟨?_, HBW.out⟩
                              have hr := HR.out
                              rw [if_pos (.inl ⟨hlo, hhi⟩)] at hr
                              obtain ⟨h1, h2⟩ := Prod.mk.inj hr
                              rw [h1, h2]
                              rfl
                            · have g1 : ¬ (1114111 : Int) < m := by omega
                              have g2 : (55296 : Int) ≤ m := by omega
                              have g3 : ¬ (m : Int) ≤ 57343 := by omega
                              go_wp2
                              refine bodyPost_ret (v := .tuple #[.string (Utf8.encode (m : Int)), .int .i64 ((k : Int) + 1)]) (by simp [results, Try.results39, go_sem]) rfl ⟨?_, HBW.out⟩
                              have hr := HR.out
                              rw [if_neg (by omega)] at hr
                              obtain ⟨h1, h2⟩ := Prod.mk.inj hr
                              rw [h1, h2]
                              exact rescV_pos _ _
                          · have g1 : ¬ (1114111 : Int) < m := by omega
                            have e5 : decide ((55296 : Int) ≤ (m : Int)) = false := by simp; omega
                            have HLO := Lib.hid hlo
                            have HBIG := Lib.hid hbig
                            clear hlo hbig
                            go_wp2
                            refine bodyPost_ret (v := .tuple #[.string (Utf8.encode (m : Int)), .int .i64 ((k : Int) + 1)]) (by simp [results, Try.results39, go_sem]) rfl ⟨?_, HBW.out⟩
                            have hr := HR.out
                            rw [if_neg (by have := HLO.out; have := HBIG.out; omega)] at hr
                            obtain ⟨h1, h2⟩ := Prod.mk.inj hr
                            rw [h1, h2]
                            exact rescV_pos _ _
                    · have e4 : (((s[k]'hk1).toNat : Int) != 59) = true := by simp; omega
                      go_wp2
                      refine bodyPost_ret (v := .tuple #[.string ⟨#[]⟩, .int .i64 0]) (by simp [results, Try.results39, go_sem]) rfl ⟨?_, HBW.out⟩
                      have hr := HR.out
                      rw [numF, if_neg hk2', dif_pos hk1, if_pos h59] at hr
                      obtain ⟨h1, h2⟩ := Prod.mk.inj hr
                      rw [h1, h2]
                      rfl
              · rw [if_neg (by omega)] at Hdig
                have HD2 := Hdig.out
                rw [← HD2] at HR
                clear HD2
                dsimp only at HR
                have h9' : ¬ (k : Int) < 9 := by omega
                by_cases hk2' : k = 2
                · have e2 : ((k : Int) == 2) = true := by simp [hk2']
                  have HK2 := Lib.hid hk2'
                  clear hk2'
                  go_wp2
                  refine bodyPost_ret (v := .tuple #[.string ⟨#[]⟩, .int .i64 0]) (by simp [results, Try.results39, go_sem]) rfl ⟨?_, HBW.out⟩
                  have hr := HR.out
                  rw [numF, if_pos HK2.out] at hr
                  obtain ⟨h1, h2⟩ := Prod.mk.inj hr
                  rw [h1, h2]
                  rfl
                · have e2 : ((k : Int) == 2) = false := by simp; omega
                  have e3 : ((k : Int) == (s.size : Int)) = false := by simp; omega
                  have hi2 : 2 < s.size := by omega
                  by_cases h59 : (s[k]'hk1).toNat = 59
                  · have e4 : (((s[k]'hk1).toNat : Int) != 59) = false := by simp [h59]
                    have H59 := Lib.hid h59
                    clear h59
                    have hnum : numF s m k = if (∃ h2 : 2 < s.size, (s[2]'h2).toNat = 48) ∧ 3 < k then (0, 0) else if 55296 ≤ m ∧ m ≤ 57343 ∨ 1114111 < m then (0, 0) else ((m : Int), (k : Int) + 1) := by rw [numF, if_neg hk2', dif_pos hk1, if_neg (by rw [H59.out]; simp)]
                    rw [hnum] at HR
                    clear hnum
                    cases h48 : (((s[2]'hi2).toNat : Int) == 48) with
                    | true =>
                      have h48' : (s[2]'hi2).toNat = 48 := by have := eq_of_beq h48; omega
                      by_cases hk3 : 3 < k
                      · have g0 : (3 : Int) < k := by omega
                        go_wp2
                        refine bodyPost_ret (v := .tuple #[.string ⟨#[]⟩, .int .i64 0]) (by simp [results, Try.results39, go_sem]) rfl ⟨?_, HBW.out⟩
                        have hr := HR.out
                        rw [if_pos ⟨⟨hi2, h48'⟩, hk3⟩] at hr
                        obtain ⟨h1, h2⟩ := Prod.mk.inj hr
                        rw [h1, h2]
                        rfl
                      · exfalso; omega
                    | false =>
                      have h48' : ¬ (s[2]'hi2).toNat = 48 := fun h => by rw [h] at h48; simp at h48
                      rw [if_neg (fun h => h48' h.1.2)] at HR
                      by_cases hbig : 1114111 < m
                      · have g1 : (1114111 : Int) < m := by omega
                        have g2 : (55296 : Int) ≤ m := by omega
                        have g3 : ¬ (m : Int) ≤ 57343 := by omega
                        go_wp2
                        refine bodyPost_ret (v := .tuple #[.string ⟨#[]⟩, .int .i64 0]) (by simp [results, Try.results39, go_sem]) rfl ⟨?_, HBW.out⟩
                        have hr := HR.out
                        rw [if_pos (.inr hbig)] at hr
                        obtain ⟨h1, h2⟩ := Prod.mk.inj hr
                        rw [h1, h2]
                        rfl
                      · by_cases hlo : 55296 ≤ m
                        · by_cases hhi : m ≤ 57343
                          · have g2 : (55296 : Int) ≤ m := by omega
                            have g3 : (m : Int) ≤ 57343 := by omega
                            go_wp2
                            refine bodyPost_ret (v := .tuple #[.string ⟨#[]⟩, .int .i64 0]) (by simp [results, Try.results39, go_sem]) rfl ⟨?_, HBW.out⟩
                            have hr := HR.out
                            rw [if_pos (.inl ⟨hlo, hhi⟩)] at hr
                            obtain ⟨h1, h2⟩ := Prod.mk.inj hr
                            rw [h1, h2]
                            rfl
                          · have g1 : ¬ (1114111 : Int) < m := by omega
                            have g2 : (55296 : Int) ≤ m := by omega
                            have g3 : ¬ (m : Int) ≤ 57343 := by omega
                            go_wp2
                            refine bodyPost_ret (v := .tuple #[.string (Utf8.encode (m : Int)), .int .i64 ((k : Int) + 1)]) (by simp [results, Try.results39, go_sem]) rfl ⟨?_, HBW.out⟩
                            have hr := HR.out
                            rw [if_neg (by omega)] at hr
                            obtain ⟨h1, h2⟩ := Prod.mk.inj hr
                            rw [h1, h2]
                            exact rescV_pos _ _
                        · have g1 : ¬ (1114111 : Int) < m := by omega
                          have e5 : decide ((55296 : Int) ≤ (m : Int)) = false := by simp; omega
                          have HLO := Lib.hid hlo
                          have HBIG := Lib.hid hbig
                          clear hlo hbig
                          go_wp2
                          refine bodyPost_ret (v := .tuple #[.string (Utf8.encode (m : Int)), .int .i64 ((k : Int) + 1)]) (by simp [results, Try.results39, go_sem]) rfl ⟨?_, HBW.out⟩
                          have hr := HR.out
                          rw [if_neg (by have := HLO.out; have := HBIG.out; omega)] at hr
                          obtain ⟨h1, h2⟩ := Prod.mk.inj hr
                          rw [h1, h2]
                          exact rescV_pos _ _
                  · have e4 : (((s[k]'hk1).toNat : Int) != 59) = true := by simp; omega
                    go_wp2
                    refine bodyPost_ret (v := .tuple #[.string ⟨#[]⟩, .int .i64 0]) (by simp [results, Try.results39, go_sem]) rfl ⟨?_, HBW.out⟩
                    have hr := HR.out
                    rw [numF, if_neg hk2', dif_pos hk1, if_pos h59] at hr
                    obtain ⟨h1, h2⟩ := Prod.mk.inj hr
                    rw [h1, h2]
                    rfl
            · have hk1' : ¬ (k : Int) < s.size := by omega
              have hks : k = s.size := by omega
              have hstep : digF s f m k = (m, k) := by cases f with | zero => rfl | succ f => rw [digF, dif_neg hk1]
              rw [hstep] at Hdig
              have HD2 := Hdig.out
              rw [← HD2] at HR
              clear HD2 hstep
              dsimp only at HR
              by_cases hk2' : k = 2
              · have e2 : ((k : Int) == 2) = true := by simp [hk2']
                have HK2 := Lib.hid hk2'
                clear hk2'
                go_wp2
                refine bodyPost_ret (v := .tuple #[.string ⟨#[]⟩, .int .i64 0]) (by simp [results, Try.results39, go_sem]) rfl ⟨?_, HBW.out⟩
                have hr := HR.out
                rw [numF, if_pos HK2.out] at hr
                obtain ⟨h1, h2⟩ := Prod.mk.inj hr
                rw [h1, h2]
                rfl
              · have e2 : ((k : Int) == 2) = false := by simp; omega
                have e3 : ((k : Int) == (s.size : Int)) = true := by simp [hks]
                go_wp2
                refine bodyPost_ret (v := .tuple #[.string ⟨#[]⟩, .int .i64 0]) (by simp [results, Try.results39, go_sem]) rfl ⟨?_, HBW.out⟩
                have hr := HR.out
                rw [numF, if_neg hk2', dif_neg hk1] at hr
                obtain ⟨h1, h2⟩ := Prod.mk.inj hr
                rw [h1, h2]
                rfl
end Go.Proofs.Ytaaegelefknkeab
