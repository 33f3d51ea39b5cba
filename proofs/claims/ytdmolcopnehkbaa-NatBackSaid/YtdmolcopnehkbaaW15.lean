/-
  Walks: may; small contracts that do not say how the world has grown.
-/
import Derived.Test.YtdmolcopnehkbaaW14
set_option autoImplicit false
namespace Go.Proofs.Ytdmolcopnehkbaa
open Go.RowKit

def mayB (A C : List Nat) : Bool := decide (A.length ≤ 40) && decide (C.length ≤ 40) && topB A && topB C

theorem may_sl (va vc : Value) (A C : List Nat) (w : World) (hA : SL w va A) (hC : SL w vc C) : Calls Try.prog 11 #[va, vc] w (fun e w' => e = .returned (.bool (mayB A C)) ∧ w = w') := by
  obtain ⟨ao, n, cap, rfl, hA⟩ := hA
  obtain ⟨co, m, cap', rfl, hC⟩ := hC
  have hn := hA.small
  have hm := hC.small
  have HL := Lib.hid hA.len
  have HL' := Lib.hid hC.len
  have HA : Hid (SL w (.slice ao n cap) A) := ⟨_, _, _, rfl, hA⟩
  have HC : Hid (SL w (.slice co m cap') C) := ⟨_, _, _, rfl, hC⟩
  clear hA hC
  by_cases h1 : n ≤ 40
  · by_cases h2 : m ≤ 40
    · cases h3 : topB A with
      | false =>
        have hr : Hid (mayB A C = false) := by unfold mayB; rw [h3]; simp [Hid]
        go_enter Try.func11, Try.ntmps11
        go_wp2_with (go_at_call 30; refine Calls.mono (rright_sl _ A _ HA.out) ?_; rw [h3]; rintro e w2 ⟨rfl, rfl⟩)
        go_ret
        exact ⟨by rw [hr.out]; rfl, rfl⟩
      | true =>
        have hr : Hid (mayB A C = topB C) := by show mayB A C = topB C; unfold mayB; rw [h3, HL.out, HL'.out, decide_eq_true h1, decide_eq_true h2]; simp
        go_enter Try.func11, Try.ntmps11
        go_wp2_with (first
          | (go_at_call 30; refine Calls.mono (rright_sl _ A _ HA.out) ?_; rw [h3]; rintro e w2 ⟨rfl, rfl⟩)
          | (go_at_call 30; refine Calls.mono (rright_sl _ C _ HC.out) ?_; rintro e w2 ⟨rfl, rfl⟩))
        go_ret
        exact ⟨by rw [hr.out]; rfl, rfl⟩
    · have hr : Hid (mayB A C = false) := by show mayB A C = false; unfold mayB; rw [HL'.out, decide_eq_false h2]; simp
      go_enter Try.func11, Try.ntmps11
      go_wp2
      go_ret
      exact ⟨by rw [hr.out]; rfl, rfl⟩
  · have hr : Hid (mayB A C = false) := by show mayB A C = false; unfold mayB; rw [HL.out, decide_eq_false h1]; simp
    go_enter Try.func11, Try.ntmps11
    go_wp2
    go_ret
    exact ⟨by rw [hr.out]; rfl, rfl⟩
#print axioms may_sl
theorem may_no (va vc : Value) (A C : List Nat) (w : World) (hA : SL w va A) (hC : SL w vc C) (h : mayB A C = false) : Calls Try.prog 11 #[va, vc] w (fun e w' => e = .returned (.bool false) ∧ w = w') :=
  (may_sl va vc A C w hA hC).mono fun _ _ ⟨h1, h2⟩ => ⟨by rw [h1, h], h2⟩
theorem may_yes (va vc : Value) (A C : List Nat) (w : World) (hA : SL w va A) (hC : SL w vc C) (h : mayB A C = true) : Calls Try.prog 11 #[va, vc] w (fun e w' => e = .returned (.bool true) ∧ w = w') :=
  (may_sl va vc A C w hA hC).mono fun _ _ ⟨h1, h2⟩ => ⟨by rw [h1, h], h2⟩
theorem mayB.parts {A C : List Nat} (h : mayB A C = true) : A.length ≤ 40 ∧ C.length ≤ 40 ∧ topB A = true ∧ topB C = true := by
  unfold mayB at h
  simp only [Bool.and_eq_true, decide_eq_true_eq] at h
  exact ⟨h.1.1.1, h.1.1.2, h.1.2, h.2⟩
theorem val_B {w : World} {v : Value} {A : List Nat} {k : Nat} (h : SL w v A) (hl : A.length ≤ k) : val A < B k := Nat.lt_of_lt_of_le (val_lt h.lim) (B_mono hl)
theorem SL.nil (w : World) : SL w (.slice none 0 0) [] := ⟨none, 0, 0, rfl, ⟨rfl, Nat.le_refl _, by omega, by omega, Lim.nil, fun _ => rfl, fun i hi => by omega⟩⟩
theorem Top.of {A : List Nat} (h : topB A = true) : Top A := (topB_iff A).1 h

theorem cmp_b (va vc : Value) (a c : Nat) (w : World) (hA : RN w va a) (hC : RN w vc c) : Calls Try.prog 18 #[va, vc] w (fun e w' => e = .returned (.int .i64 (cmpN a c)) ∧ Below w.heap.size w w') := by
  refine (cmp_rn va vc a c w hA hC).mono ?_
  rintro e w' ⟨rfl, n, rfl⟩
  exact ⟨rfl, below_drewN _ _ _⟩
theorem rcmp_b (va vc : Value) (a c : Nat) (w : World) (hA : RN w va a) (hC : RN w vc c) : Calls Try.prog 19 #[va, vc] w (fun e w' => e = .returned (.int .i64 (cmpN a c)) ∧ Below w.heap.size w w') := by
  refine (rcmp_rn va vc a c w hA hC).mono ?_
  rintro e w' ⟨rfl, n, rfl⟩
  exact ⟨rfl, below_drewN _ _ _⟩
theorem same_bb (va vc : Value) (a c : Nat) (w : World) (hA : RN w va a) (hC : RN w vc c) : Calls Try.prog 15 #[va, vc] w (fun e w' => e = .returned (.bool (decide (a = c))) ∧ Below w.heap.size w w') := by
  refine (same_rn va vc a c w hA hC).mono ?_
  rintro e w' ⟨rfl, n, rfl⟩
  exact ⟨rfl, below_drewN _ _ _⟩
theorem uint_b (va : Value) (a : Nat) (w : World) (hA : RN w va a) : Calls Try.prog 33 #[va] w (fun e w' => e = .returned (.tuple #[.int .u64 (u64N a : Nat), .bool (decide (a < 18446744073709551616))]) ∧ Below w.heap.size w w') := by
  refine (uint_rn va a w hA).mono ?_
  rintro e w' ⟨rfl, n, rfl⟩
  exact ⟨rfl, below_drewN _ _ _⟩
theorem ruint_b (va : Value) (a : Nat) (w : World) (hA : RN w va a) : Calls Try.prog 37 #[va] w (fun e w' => e = .returned (.tuple #[.int .u64 (u64N a : Nat), .bool (decide (a < 18446744073709551616))]) ∧ Below w.heap.size w w') := by
  refine (ruint_rn va a w hA).mono ?_
  rintro e w' ⟨rfl, n, rfl⟩
  exact ⟨rfl, below_drewN _ _ _⟩
theorem shl_b (va : Value) (a : Nat) (n : Int) (w : World) (hA : RN w va a) (k : Nat) (hk : a < B k) (hk' : k ≤ 8796093022208) : Calls Try.prog 24 #[va, .int .i64 n] w (RNmade (shlN a n) w) :=
  (shl_rn va a n w hA k hk hk').mono fun _ _ ⟨u, h1, h2, _, h3⟩ => ⟨u, h1, h2, h3⟩
theorem shr_b (va : Value) (a : Nat) (n : Int) (w : World) (hA : RN w va a) : Calls Try.prog 26 #[va, .int .i64 n] w (RNmade (shrN a n) w) := by
  obtain ⟨A, h, _, rfl⟩ := hA
  exact (shr_sl va A n w h).mono fun _ _ ⟨u, h1, h2, _, h3⟩ => ⟨u, h1, h2, h3⟩
theorem right_b (va : Value) (a : Nat) (w : World) (hA : RN w va a) : Calls Try.prog 36 #[va] w (fun e w' => e = .returned (.bool true) ∧ w = w') := by
  obtain ⟨A, h, t, rfl⟩ := hA
  exact (right_sl va A w h).mono fun _ _ ⟨h1, h2⟩ => ⟨by rw [h1, (topB_iff A).2 t], h2⟩
end Go.Proofs.Ytdmolcopnehkbaa
