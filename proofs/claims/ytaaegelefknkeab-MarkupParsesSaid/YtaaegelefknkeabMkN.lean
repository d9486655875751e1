/- The walks of the reference's Position, At, Valid. -/
import Derived.Test.YtaaegelefknkeabMkM
namespace Go.Proofs.Ytaaegelefknkeab

open Go.RowKit Go.Shelf
set_option linter.unusedSimpArgs false

theorem unitsFrom_getElem {s : ByteArray} {k : Nat} {u : U} (h : (unitsOf s)[k]? = some u) : u ∈ unitsOf s := List.mem_of_getElem? h

/-- The reference's units. -/
def unitsR (s : ByteArray) : List (U × Bool) := (unitsOf s).map fun u => (u, okU u)
theorem unitsR_get {s : ByteArray} {k : Nat} {u : U} (h : (unitsOf s)[k]? = some u) : (unitsR s)[k]? = some (u, okU u) := by simp [unitsR, h]
theorem unitsR_length (s : ByteArray) : (unitsR s).length = (unitsOf s).length := by simp [unitsR]

/-- One unit out of the row that RUnits has made. -/
theorem OwnsR.unit {w : World} {base : Nat} {A : Option Addr} {n cap : Nat} {s : ByteArray} (h : OwnsR w base (.slice A n cap) (unitsR s)) {k : Nat} {u : U} (hu : (unitsOf s)[k]? = some u) :
    ∃ g, A = some ⟨g, 0, none⟩ ∧ base ≤ g ∧ g < w.heap.size ∧ w.cell? ⟨g, k * 4, none⟩ = some (.int .i32 u.1) ∧ w.cell? ⟨g, k * 4 + 1, none⟩ = some (.int .i64 u.2.1) ∧ w.cell? ⟨g, k * 4 + 2, none⟩ = some (.int .i64 u.2.2) ∧ w.cell? ⟨g, k * 4 + 3, none⟩ = some (.bool (okU u)) := by
  obtain ⟨A', cap', he, _, hc⟩ := h.cells
  cases he
  obtain ⟨g, h1, h2, h3, h4, h5, h6, h7, _⟩ := hc k _ (unitsR_get hu)
  exact ⟨g, h1, h2, h3, h4, h5, h6, h7⟩
theorem OwnsR.len {w : World} {base : Nat} {v : Value} {s : ByteArray} (h : OwnsR w base v (unitsR s)) : ∃ A cap, v = .slice A (unitsOf s).length cap := by
  obtain ⟨A, cap, he, _⟩ := h.cells
  rw [unitsR_length] at he
  exact ⟨A, cap, he⟩

set_option maxHeartbeats 4000000 in
theorem RValid_any (s : ByteArray) (hs : s.size ≤ 1000000) (w : World) :
    Calls Try.prog 37 #[.string s] w fun e w' => e = .returned (.bool (validF s)) ∧ Below w.heap.size w w' := by
  have hlen : (unitsOf s).length ≤ 1000000 := by have := unitsFrom_len s s.size 0; unfold unitsOf; omega
  go_enter Try.func37, Try.ntmps37
  go_wp2_with (go_at_call 50; refine (RUnits_any s hs _).mono ?_; rintro e wl ⟨v, rfl, hv, hbl⟩; obtain ⟨A, cap, rfl⟩ := OwnsR.len hv; have Hv := Lib.hid hv; have Hbl := Lib.hid hbl; clear hv hbl)
  obtain ⟨n, hn⟩ : ∃ n, n = (unitsOf s).length := ⟨_, rfl⟩
  have Hn := Lib.hid hn
  rw [← hn] at hlen Hv ⊢
  clear hn
  go_loopw [8] (fun i wr => ∃ k : Nat, k ≤ n ∧ i = .int .i64 k ∧ OwnsR wr w.heap.size (.slice A n cap) (unitsR s) ∧ Below w.heap.size w wr ∧ ((unitsOf s).take k).all okU = true) (fun i _ => n - (intOf i).toNat)
  case atStart => exact ⟨0, by omega, rfl, Hv.out, Hbl.out, rfl⟩
  case round =>
    obtain ⟨k, hk, rfl, how, hbe, hall⟩ := hrel
    by_cases hkn : k < n
    · obtain ⟨u, hu⟩ : ∃ u, (unitsOf s)[k]? = some u := ⟨_, List.getElem?_eq_getElem (by have := Hn.out; omega)⟩
      obtain ⟨g, rfl, hgb, hglt, hx0, hx1, hx2, hx3⟩ := how.unit hu
      have How := Lib.hid how
      have Hbe := Lib.hid hbe
      have Hu := Lib.hid hu
      have Hall := Lib.hid hall
      clear how hbe hu hall
      cases hok : okU u with
      | true =>
        rw [hok] at hx3
        have Hok := Lib.hid hok
        clear hok
        go_wp2
        go_roundw
        case rel =>
          refine ⟨k + 1, by omega, by go_num, ?_, Hbe.out.alloc Hbe.out.size _, ?_⟩
          · exact World.ownsRow.alloc How.out _
          · have h := Hu.out
            obtain ⟨hk', rfl⟩ := List.getElem?_eq_some_iff.1 h
            rw [List.take_succ_eq_append_getElem hk', List.all_append, Hall.out]
            simp [Hok.out]
        case measure => simp [intOf]; omega
      | false =>
        rw [hok] at hx3
        have Hok := Lib.hid hok
        clear hok
        go_wp2
        go_ret
        refine ⟨ret_bool ?_, Hbe.out.alloc Hbe.out.size _⟩
        rw [eq_comm, validF, Bool.eq_false_iff]
        intro h
        rw [List.all_eq_true] at h
        have := h u (List.mem_of_getElem? Hu.out)
        rw [Hok.out] at this
        cases this
    · obtain rfl : k = n := by omega
      rw [List.take_of_length_le (by have := Hn.out; omega)] at hall
      have Hall := Lib.hid hall
      have Hbe := Lib.hid hbe
      clear hall hbe how
      go_wp2
      go_ret
      exact ⟨ret_bool Hall.out.symm, Hbe.out⟩

end Go.Proofs.Ytaaegelefknkeab
