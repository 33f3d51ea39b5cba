/-
  Walks: Shr of the reference.
-/
import Derived.Test.YtdmolcopnehkbaaChain
set_option autoImplicit false
namespace Go.Proofs.Ytdmolcopnehkbaa
open Go.RowKit

theorem SlOk.drop {w : World} {ao : Option Addr} {n cap q : Nat} {L : List Nat} (h : SlOk w ao n cap L) (hq : q < n) : SlOk w (ao.map fun x => x.add q) (n - q) (cap - q) (L.drop q) := by
  have hl := h.len
  have hle := h.le
  cases ao with
  | none => have := h.nil' rfl; omega
  | some a =>
    refine ⟨by simp; omega, by omega, by have := h.max; omega, by have := h.small; omega, h.lim.drop q, by simp, fun i hi => ?_⟩
    have hc := h.cell (q + i) (by omega)
    rw [nth_drop]
    rw [← hc]
    congr 1
    show (a.add q).add i = a.add (q + i)
    unfold Addr.add
    by_cases h1 : q = 0
    · subst h1; simp
    · by_cases h2 : i = 0
      · subst h2; simp [h1]
      · simp [h1, h2]; omega
theorem Top.drop {L : List Nat} (t : Top L) {q : Nat} (hq : q < L.length) : Top (L.drop q) := by
  right
  have := t.resolve_left (by intro e; subst e; simp at hq)
  rw [nth_drop, List.length_drop, show q + (L.length - q - 1) = L.length - 1 by omega]
  exact this

theorem rshr_rn (va : Value) (a : Nat) (n : Int) (w : World) (hA : RN w va a) (k : Nat) (hk : a < B k) (hk' : k ≤ 1048576) : Calls Try.prog 27 #[va, .int .i64 n] w (RNmade (shrN a n) w) := by
  obtain ⟨A, ⟨ao, l, cap, rfl, hA⟩, tA, rfl⟩ := hA
  have hsm := hA.small
  have hcl := hA.le
  have hmx := hA.max
  by_cases hmay : 0 ≤ n ∧ n ≤ 100000
  · obtain ⟨N, rfl⟩ : ∃ N : Nat, n = N := ⟨n.toNat, by omega⟩
    have hN : N ≤ 100000 := by omega
    obtain ⟨q, hq⟩ : ∃ q, q = N / 32 := ⟨_, rfl⟩
    obtain ⟨s, hs⟩ : ∃ s, s = N % 32 := ⟨_, rfl⟩
    have hv : Hid (shrN (val A) N = val A / B q / 2 ^ s) := by
      show shrN (val A) N = _
      unfold shrN
      rw [if_pos hmay, Int.toNat_natCast, two_split N q s (by omega), Nat.div_div_eq_div_mul]
    have hq1 : (N : Int) / 32 = (q : Int) := by omega
    have hs1 : (N : Int) % 32 = (s : Int) := by omega
    have hsl : s < 32 := by omega
    have hql : q ≤ 3125 := by omega
    have hN1 : decide (100000 < N) = false := by simp; omega
    have HA := Lib.hid hA
    have TA := Lib.hid tA
    have HL := Lib.hid hA.len
    have HK := Lib.hid hk
    have HP := Lib.hid (shl_lim hsl)
    clear hA hk hmay hq hs tA
    by_cases hqn : l ≤ q
    · have hz : shrN (val A) N = 0 := by
        rw [hv.out, Nat.div_eq_of_lt (Nat.lt_of_lt_of_le (val_lt HA.out.lim) (B_mono (by rw [HL.out]; exact hqn))), Nat.zero_div]
      rw [hz]
      clear hz hv
      go_enter Try.func27, Try.ntmps27
      go_wp2
      go_ret
      exact RNmade.nil _
    · have hql2 : q < l := by omega
      have hd2 : decide (l ≤ q) = false := by simp; omega
      have hcq : (cap = q) = False := by simp; omega
      have RD : Hid (RN w (.slice (ao.map fun x => x.add q) (l - q) (cap - q)) (val A / B q)) :=
        ⟨A.drop q, ⟨_, _, _, rfl, HA.out.drop hql2⟩, TA.out.drop (by rw [HL.out]; exact hql2), (val_div_B HA.out.lim (by rw [HL.out]; omega)).symm⟩
      clear hqn
      go_enter Try.func27, Try.ntmps27
      go_wp2
      go_loop [5, 6] (fun x i => ∃ j y : Nat, j ≤ s ∧ i = .int .i64 j ∧ x = .int .u64 y ∧ Hid (y = 2 ^ j)) (fun _ i => s - (intOf i).toNat)
      case atStart => exact ⟨0, 1, Nat.zero_le _, rfl, rfl, rfl⟩
      case round =>
        obtain ⟨j, y, hj, rfl, rfl, hy⟩ := hrel
        by_cases hjs : j < s
        · have hyl : y < 4294967296 := by rw [hy.out]; exact shl_lim (by omega)
          go_wp2
          go_round
          case rel => exact ⟨j + 1, y * 2, by omega, by go_num, by go_num, (by show _ = _; rw [hy.out, Nat.pow_succ])⟩
          case measure => simp [intOf]; omega
        · have e : j = s := by omega
          subst e
          have hyl : y < 4294967296 := by rw [hy.out]; exact HP.out
          have hwq : IntKind.i64.wrap (q : Int) = (q : Int) := IntWalk.i64_in _ (by omega)
          have hq0 : (0 : Int) ≤ (q : Int) := by omega
          have hqi : (q : Int) ≤ (l : Int) := by omega
          go_wp2
          go_region_law (first
            | (go_simp; go_at_call 35; refine (rOf_any y _ (by omega)).mono ?_; rintro e w3 ⟨x, rfl, hx, hb3⟩; have HX := Lib.hid hx; clear hx)
            | (go_simp; go_at_call 21; refine (rdiv_rn _ _ (val A / B q) y _ (RD.out.step (by repeat (first | exact Below.refl _ _ | refine bdrew1 ?_ | refine bstep ?_ (by assumption) (Nat.le_refl _)))) HX.out k (Nat.lt_of_le_of_lt (Nat.div_le_self _ _) HK.out) hk').mono ?_; rintro e w4 ⟨x4, x5, rfl, hx4, hx5, hb4⟩))
          all_goals
            rw [hy.out, ← hv.out] at hx4
            have hfin : Below w.heap.size w w4 := by repeat (first | exact Below.refl _ _ | refine bdrew1 ?_ | refine bstep ?_ (by assumption) (Nat.le_refl _))
            clear hx5 hb3 hb4
            go_wp2
            go_ret
            exact ⟨_, rfl, hx4, hfin⟩
  · have hv : Hid (shrN (val A) n = 0) := by show shrN (val A) n = 0; unfold shrN; rw [if_neg hmay]
    clear hA hk
    by_cases h0 : 0 ≤ n
    · have h1 : decide (100000 < n) = true := by simp; omega
      clear hmay
      go_enter Try.func27, Try.ntmps27
      go_wp2
      go_ret
      rw [hv.out]
      exact RNmade.nil w
    · clear hmay
      go_enter Try.func27, Try.ntmps27
      go_wp2
      go_ret
      rw [hv.out]
      exact RNmade.nil w
#print axioms rshr_rn
end Go.Proofs.Ytdmolcopnehkbaa
