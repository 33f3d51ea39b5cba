/-
  Small steps by which what is known of an older world is carried on to a younger one.
-/
import Derived.Test.YtdmolcopnehkbaaW10
set_option autoImplicit false
namespace Go.Proofs.Ytdmolcopnehkbaa
open Go.RowKit

theorem bstep {b : Nat} {w W W' : World} (h : Below b w W) (h' : Below W.heap.size W W') (hb : b ≤ w.heap.size) : Below b w W' := h.trans (h'.mono (Nat.le_trans hb h.size))
theorem balloc {b : Nat} {w W : World} (h : Below b w W) (hb : b ≤ w.heap.size) (o : Obj) : Below b w (W.alloc o) := h.alloc (Nat.le_trans hb h.size) o
theorem bdrew {b : Nat} {w W : World} (h : Below b w W) (n : Nat) : Below b w (W.drewN n) := h.trans (below_drewN b W n)
theorem bdrew1 {b : Nat} {w W : World} (h : Below b w W) : Below b w W.drew := h.trans (below_drewN b W 1)
theorem RN.step {w W : World} {v : Value} {n : Nat} (h : RN w v n) (hb : Below w.heap.size w W) : RN W v n := h.mono hb (Nat.le_refl _)
theorem SL.step {w W : World} {v : Value} {L : List Nat} (h : SL w v L) (hb : Below w.heap.size w W) : SL W v L := h.mono hb (Nat.le_refl _)
theorem Own.step {w W : World} {g : Nat} {L : List Nat} (h : Own w g L) (hb : Below w.heap.size w W) : Own W g L := h.below hb h.lt
theorem Grows.step {w W : World} {b n : Nat} {v : Value} {L : List Nat} (h : Grows w b v n L) (hb : Below w.heap.size w W) : Grows W b v n L := h.below hb (Nat.le_refl _)

/-- the doubling loop of the reference's shifts: 2^s -/
theorem shl_lim {s : Nat} (h : s < 32) : 2 ^ s < 4294967296 := by
  have : 2 ^ s < 2 ^ 32 := Nat.pow_lt_pow_right (by decide) h
  simpa using this

theorem rshl_rn (va : Value) (a : Nat) (n : Int) (w : World) (hA : RN w va a) (k : Nat) (hk : a < B k) (hk' : k ≤ 1048576) : Calls Try.prog 25 #[va, .int .i64 n] w (RNmade (shlN a n) w) := by
  by_cases hmay : 0 ≤ n ∧ n ≤ 100000
  · obtain ⟨N, rfl⟩ : ∃ N : Nat, n = N := ⟨n.toNat, by omega⟩
    have hN : N ≤ 100000 := by omega
    obtain ⟨q, hq⟩ : ∃ q, q = N / 32 := ⟨_, rfl⟩
    obtain ⟨s, hs⟩ : ∃ s, s = N % 32 := ⟨_, rfl⟩
    have hv : Hid (shlN a N = a * 2 ^ s * B q) := by
      show shlN a N = _
      unfold shlN
      rw [if_pos hmay, Int.toNat_natCast, two_split N q s (by omega), Nat.mul_assoc, Nat.mul_comm (2 ^ s)]
    have hq1 : (N : Int) / 32 = (q : Int) := by omega
    have hs1 : (N : Int) % 32 = (s : Int) := by omega
    have hsl : s < 32 := by omega
    have hql : q ≤ 3125 := by omega
    have hN1 : decide (100000 < N) = false := by simp; omega
    have HA := Lib.hid hA
    have HK := Lib.hid hk
    have HP := Lib.hid (shl_lim hsl)
    clear hA hk hmay hq hs
    go_enter Try.func25, Try.ntmps25
    go_wp2
    go_loop [5, 6] (fun x i => ∃ j y : Nat, j ≤ s ∧ i = .int .i64 j ∧ x = .int .u64 y ∧ Hid (y = 2 ^ j)) (fun _ i => s - (intOf i).toNat)
    case atStart => exact ⟨0, 1, Nat.zero_le _, rfl, rfl, rfl⟩
    case round =>
      obtain ⟨j, y, hj, rfl, rfl, hy⟩ := hrel
      by_cases hjs : j < s
      · have hyl : y < 4294967296 := by rw [hy.out]; exact shl_lim (by omega)
        go_wp2
        go_round
        case rel => exact ⟨j + 1, y * 2, by omega, by go_num, by go_num, (by show _ = _; rw [hy.out, Nat.pow_succ])⟩
        case measure => simp [intOf]; omega
      · have e : j = s := by omega
        subst e
        have hyl : y < 4294967296 := by rw [hy.out]; exact HP.out
        have hmk := fun w => run_mk w q (by omega)
        have hwq : IntKind.i64.wrap (q : Int) = (q : Int) := IntWalk.i64_in _ (by omega)
        go_wp2
        go_region_law (first
          | (refine step_app rfl _ _ rfl w.heap.size _ q (List.replicate q 0) rfl (by first | exact Own.grows (Own.new _ _) (Below.size (B := w.heap.size) (by repeat (first | exact Below.refl _ _ | refine balloc ?_ (Nat.le_refl _) _ | refine bdrew ?_ _ | refine bdrew1 ?_ | refine bstep ?_ (by assumption) (Nat.le_refl _)))) (by simp) (by omega) | exact Own.grows (Own.step (Own.new w.drew _) (by repeat (first | exact Below.refl _ _ | refine balloc ?_ (Nat.le_refl _) _ | refine bdrew ?_ _ | refine bdrew1 ?_ | refine bstep ?_ (by assumption) (Nat.le_refl _)))) (Below.size (B := w.heap.size) (by repeat (first | exact Below.refl _ _ | refine balloc ?_ (Nat.le_refl _) _ | refine bdrew ?_ _ | refine bdrew1 ?_ | refine bstep ?_ (by assumption) (Nat.le_refl _)))) (by simp) (by omega) | exact Own.grows (Own.step (Own.new _ _) (by repeat (first | exact Below.refl _ _ | refine balloc ?_ (Nat.le_refl _) _ | refine bdrew ?_ _ | refine bdrew1 ?_ | refine bstep ?_ (by assumption) (Nat.le_refl _)))) (Below.size (B := w.heap.size) (by repeat (first | exact Below.refl _ _ | refine balloc ?_ (Nat.le_refl _) _ | refine bdrew ?_ _ | refine bdrew1 ?_ | refine bstep ?_ (by assumption) (Nat.le_refl _)))) (by simp) (by omega)) _ Y rfl (by first | exact SY.out | exact SY.out.step (by repeat (first | exact Below.refl _ _ | refine balloc ?_ (Nat.le_refl _) _ | refine bdrew ?_ _ | refine bdrew1 ?_ | refine bstep ?_ (by assumption) (Nat.le_refl _)))) (by have := HYl.out; omega) (Below.size (B := w.heap.size) (by repeat (first | exact Below.refl _ _ | refine balloc ?_ (Nat.le_refl _) _ | refine bdrew ?_ _ | refine bdrew1 ?_ | refine bstep ?_ (by assumption) (Nat.le_refl _)))) ?_; intro x2 w6 hgx hb6)
          | (go_simp; go_at_call 35; refine (rOf_any y _ (by omega)).mono ?_; rintro e w3 ⟨x, rfl, hx, hb3⟩; have HX := Lib.hid hx; clear hx)
          | (go_simp; go_at_call 23; refine (rmul_rn _ _ a y _ (HA.out.step (by repeat (first | exact Below.refl _ _ | refine balloc ?_ (Nat.le_refl _) _ | refine bdrew ?_ _ | refine bdrew1 ?_ | refine bstep ?_ (by assumption) (Nat.le_refl _)))) (by first | exact HX.out | exact HX.out.step (by repeat (first | exact Below.refl _ _ | refine balloc ?_ (Nat.le_refl _) _ | refine bdrew ?_ _ | refine bdrew1 ?_ | refine bstep ?_ (by assumption) (Nat.le_refl _)))) k 2 HK.out (by rw [show B 2 = 18446744073709551616 from (by decide)]; omega) (by omega) (by omega)).mono ?_; rintro e w4 ⟨x4, rfl, hx4, hb4⟩; obtain ⟨Y, hY, tY, vY⟩ := hx4; have SY := Lib.hid hY; have VY := Lib.hid vY; have HYl : Hid (Y.length ≤ k + 2) := RN.len_le tY (by rw [vY, B_add]; exact Nat.mul_lt_mul_of_lt_of_le HK.out (by rw [show B 2 = 18446744073709551616 from (by decide)]; omega) (B_pos _)); clear hY tY vY)
          | (go_simp; go_at_call 41; refine (Trim_any _ _ _ (hgx.sl ((Lim.replicate q).append (by obtain ⟨_, _, _, _, h⟩ := SY.out; exact h.lim)) (by have := HYl.out; omega))).mono ?_; rintro e w5 ⟨x5, rfl, hx5, hb5⟩))
        all_goals
          have hr := RN.of_sl hx5
          have ev : val (List.replicate q 0 ++ Y) = shlN a N := by
            rw [zeros_val, VY.out, hv.out, hy.out, Nat.mul_zero, Nat.zero_add, Nat.mul_comm]
          rw [ev] at hr
          have hfin : Below w.heap.size w w5 := by
            refine bstep (Below.trans ?_ hb6) hb5 (Nat.le_refl _)
            repeat (first | exact Below.refl _ _ | refine balloc ?_ (Nat.le_refl _) _ | refine bdrew ?_ _ | refine bdrew1 ?_ | refine bstep ?_ (by assumption) (Nat.le_refl _))
          clear hb3 hb4 hb6 hb5 hmk
          go_wp2
          go_ret
          exact ⟨_, rfl, hr, hfin⟩
  · have hv : Hid (shlN a n = 0) := by show shlN a n = 0; unfold shlN; rw [if_neg hmay]
    clear hA hk
    by_cases h0 : 0 ≤ n
    · have h1 : decide (100000 < n) = true := by simp; omega
      clear hmay
      go_enter Try.func25, Try.ntmps25
      go_wp2
      go_ret
      rw [hv.out]
      exact RNmade.nil w
    · clear hmay
      go_enter Try.func25, Try.ntmps25
      go_wp2
      go_ret
      rw [hv.out]
      exact RNmade.nil w
#print axioms rshl_rn
end Go.Proofs.Ytdmolcopnehkbaa
