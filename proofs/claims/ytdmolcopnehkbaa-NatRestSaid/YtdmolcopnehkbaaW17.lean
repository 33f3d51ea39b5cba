/-
  What a quotient's long road starts from: numbers shifted until the divisor's top bit is set, in memory of their own.
-/
import Derived.Test.YtdmolcopnehkbaaW16
import Derived.Test.YtdmolcopnehkbaaW15
set_option autoImplicit false
namespace Go.Proofs.Ytdmolcopnehkbaa
open Go.RowKit

/-- limbs at an address, with no room behind them; the world is as it was -/
def AtPost (ao : Option Addr) (L : List Nat) (w : World) (e : Ending) (w' : World) : Prop := ∃ k, e = .returned (.slice ao k k) ∧ SlOk w ao k k L ∧ w = w'

theorem trim_at (ao : Option Addr) (n cap : Nat) (L : List Nat) (w : World) (h : SlOk w ao n cap L) : Calls Try.prog 39 #[.slice ao n cap] w (AtPost ao (strip L) w) := by
  have hle := h.le
  have hmax := h.max
  have HS := Lib.hid h
  have hmz := addr_map_zero ao
  have hlen := h.len
  clear h
  go_enter Try.func39, Try.ntmps39
  go_wp2
  go_loop [0] (fun s => ∃ k : Nat, k ≤ n ∧ Hid (slen L k = slen L n) ∧ s = .slice ao k cap) (fun s => match s with | .slice _ k _ => k | _ => 0)
  case atStart => exact ⟨n, Nat.le_refl _, rfl, rfl⟩
  case round =>
    obtain ⟨k, hk, hsl, rfl⟩ := hrel
    cases k with
    | zero =>
      go_wp2
      go_ret
      refine ⟨_, rfl, ?_, rfl⟩
      unfold strip
      rw [hlen, ← hsl.out]
      exact HS.out.take (Nat.zero_le _) (Nat.le_refl _) (Nat.zero_le _)
    | succ j =>
      have hix := fun w => run_ix w (ao := ao) (cap := cap) (show j < j + 1 by omega) (fun e => by have := HS.out.nil' e; omega)
      have hcell := HS.out.cell j (by omega)
      have hnl := nth_lt HS.out.lim j
      go_wp2
      · have h0 := beq_cast_true (by assumption)
        refine ⟨⟨j, by omega, ?_, rfl⟩, by simp⟩
        have h1 := hsl.out
        simp only [slen, h0, if_true] at h1
        exact h1
      · have h0 := beq_cast_false (by assumption)
        go_ret
        refine ⟨_, rfl, ?_, rfl⟩
        unfold strip
        have h1 := hsl.out
        simp only [slen, h0, if_false] at h1
        rw [hlen, ← h1]
        exact HS.out.take hk (Nat.le_refl _) (by omega)

/-- limbs of a number in a block that the call has made -/
def FreshPost (a : Nat) (w : World) (e : Ending) (w' : World) : Prop :=
  ∃ k S, e = .returned (.slice (some ⟨w.heap.size, 0, none⟩) k k) ∧ SlOk w' (some ⟨w.heap.size, 0, none⟩) k k S ∧ Top S ∧ val S = a ∧ Below w.heap.size w w'

set_option maxHeartbeats 800000 in
theorem shl_at (ao : Option Addr) (j cap : Nat) (A : List Nat) (N : Nat) (w : World) (hA : SlOk w ao (j + 1) cap A) (tA : Top A) (hN : N ≤ 31) (hl : j + 1 ≤ 8796093022208) :
    Calls Try.prog 24 #[.slice ao (j + 1) cap, .int .i64 (N : Int)] w (FreshPost (val A * 2 ^ N) w) := by
  have hmay : (0 : Int) ≤ N ∧ (N : Int) ≤ 100000 := by omega
  obtain ⟨q, hq⟩ : ∃ q, q = N / 32 := ⟨_, rfl⟩
  obtain ⟨s, hs⟩ : ∃ s, s = N % 32 := ⟨_, rfl⟩
  have hp : Pw (2 ^ s) s := ⟨rfl, by omega⟩
  have hv : Hid (shlN (val A) N = B q * 2 ^ s * val A) := by
    show shlN (val A) N = _
    unfold shlN
    rw [if_pos hmay, Int.toNat_natCast, two_split N q s (by omega), Nat.mul_comm]
  have hq1 : (N : Int) / 32 = (q : Int) := by omega
  have hs1 : (N : Int) % 32 = (s : Int) := by omega
  have hsl : s < 32 := by omega
  have hql : q ≤ 3125 := by omega
  have hn0 : (((j : Int) + 1) == 0) = false := by simp; omega
  have HA := Lib.hid hA
  have TA := Lib.hid tA
  have hmy := Lib.hid (decide_eq_true hmay)
  clear hA tA hmay hq hs
  generalize hpp : 2 ^ s = p at *
  have HP := Lib.hid hp
  have hpe : (2 : Int) ^ s = (p : Int) := by rw [← hpp]; rw [Int.natCast_pow]; rfl
  clear hpp hp
  generalize hg : w.heap.size = g
  have Hg := Lib.hid hg
  clear hg
  go_enter Try.func24, Try.ntmps24
  go_wp2_with (first | (go_at_call 49; refine (may_int _ _).mono ?_; rw [hmy.out]; rintro e w' ⟨rfl, rfl⟩) | (at_make; refine wpList_mk rfl _ _ rfl _ _ (q + (j + 1) + 1) rfl rfl (by omega) (by omega) (by omega) ?_; rw [Hg.out]; intro w1 hown hb hs'))
  have Hst := Lib.hid (ShlSt.start (A := A) HP.out hown hb)
  clear hown hb
  go_loopw [31] (fun i wr => ∃ k : Nat, k ≤ j + 1 ∧ i = .int .i64 k ∧ Hid (ShlSt w g (j + 1) q p A k wr)) (fun i _ => j + 1 - (intOf i).toNat)
  case atStart => exact ⟨0, Nat.zero_le _, rfl, Hst⟩
  case round =>
    obtain ⟨i, hi, rfl, hst⟩ := hrel
    clear Hst
    by_cases hij : i < j + 1
    · have SA := Lib.hid (HA.out.mono hst.out.below (by rw [Hg.out]; exact Nat.le_refl _))
      have ia := SA.out.ix hij
      have ca := SA.out.cell i hij
      have na := nth_lt HA.out.lim i
      obtain ⟨c, hc1, hc2, hc3, ⟨c', hc4⟩, hc5, hnext⟩ := hst.out.next HP.out HA.out.lim hij
      have HN := Lib.hid hnext
      have hml := HP.out.mul_lt (nth A i) na
      have hor := or_join HP.out (nth A i) c hc3
      have hhi := HP.out.hi (nth A i) na
      have hpl := HP.out.le
      have hroom := HP.out.room (nth A i) c hc3
      clear hnext hc3
      go_wp2
      go_roundw
      case rel =>
        refine ⟨i + 1, by omega, by go_num, HN.out _ _ ?_ ?_⟩
        · rw [Int.natCast_add, Int.natCast_emod, Int.natCast_mul]; rfl
        · rw [Int.natCast_ediv, Int.natCast_mul]; rfl
      case measure => simp [intOf]; omega
    · have e : i = j + 1 := by omega
      subst e
      obtain ⟨S, ⟨ao', n', cap2, hvv, hS⟩, hvS, hbe⟩ := hst.out.fin HA.out.len (by omega)
      cases hvv
      have HV := Lib.hid hvS
      clear hvS
      go_wp2_with (go_at_call 39; refine (trim_at _ _ _ S _ hS).mono ?_; rintro e w' ⟨k', rfl, hu, rfl⟩)
      go_ret
      refine ⟨k', strip S, by rw [Hg.out]; rfl, by rw [Hg.out]; exact hu, strip_top S, ?_, by rw [Hg.out]; exact hbe⟩
      rw [strip_val, HV.out, ← hv.out]
      unfold shlN
      rw [if_pos (by omega), Int.toNat_natCast]
#print axioms shl_at
end Go.Proofs.Ytdmolcopnehkbaa
