/-
  Walks: Len, Uint, Pow, both of each.
-/
import Derived.Test.YtdmolcopnehkbaaW7
set_option autoImplicit false
namespace Go.Proofs.Ytdmolcopnehkbaa
open Go.RowKit

/-- how many bits a number has -/
def nlen (a : Nat) : Nat := if a = 0 then 0 else a.log2 + 1
theorem nlen_eq {a k : Nat} (h0 : a ≠ 0) (h1 : 2 ^ k ≤ a) (h2 : a < 2 ^ (k + 1)) : nlen a = k + 1 := by
  unfold nlen; rw [if_neg h0, (Nat.log2_eq_iff h0).2 ⟨h1, h2⟩]
theorem nlen_limbs {A : List Nat} {j : Nat} (hA : Lim A) (tA : Top A) (hl : A.length = j + 1) : nlen (val A) = 32 * j + blen (nth A j) := by
  have hne : A ≠ [] := by intro e; subst e; simp at hl
  have ht : nth A j ≠ 0 := by have := tA.resolve_left hne; rw [hl] at this; simpa using this
  have hx := nth_lt hA j
  obtain ⟨h1, h2, h3⟩ := blen_spec (nth A j) ht (by omega)
  have hv := val_take_succ (L := A) (k := j) (by omega)
  rw [← hl, List.take_length] at hv
  have hlt := val_take_lt hA j
  rw [B_two] at hv hlt
  obtain ⟨m, hm⟩ : ∃ m, blen (nth A j) = m + 1 := ⟨blen (nth A j) - 1, by omega⟩
  rw [hm] at h1 h2 ⊢
  simp only [Nat.add_sub_cancel] at h1
  rw [show 32 * j + (m + 1) = (32 * j + m) + 1 by omega]
  have e1 : 2 ^ (32 * j) * 2 ^ m ≤ 2 ^ (32 * j) * nth A j := Nat.mul_le_mul_left _ h1
  have e2 : 2 ^ (32 * j) * (nth A j + 1) ≤ 2 ^ (32 * j) * 2 ^ (m + 1) := Nat.mul_le_mul_left _ h2
  rw [← Nat.pow_add] at e1 e2
  rw [show 32 * j + (m + 1) = 32 * j + m + 1 by omega] at e2
  rw [Nat.mul_add] at e2
  refine nlen_eq ?_ ?_ ?_
  · intro e; have := (val_eq_zero_iff tA).1 e; exact hne this
  · omega
  · omega
theorem nlen_shift (a k : Nat) (h : a ≠ 0) : nlen (a * 2 ^ k) = nlen a + k := by
  have h1 := Nat.log2_self_le h
  have h2 := @Nat.lt_log2_self a
  have hn : a * 2 ^ k ≠ 0 := Nat.mul_ne_zero h (by have := Nat.pow_pos (n := k) (show 0 < 2 by decide); omega)
  have e : nlen (a * 2 ^ k) = a.log2 + k + 1 := by
    refine nlen_eq hn ?_ ?_
    · rw [Nat.pow_add]; exact Nat.mul_le_mul_right _ h1
    · rw [show a.log2 + k + 1 = (a.log2 + 1) + k by omega, Nat.pow_add]; exact (Nat.mul_lt_mul_right (Nat.pow_pos (by decide))).2 h2
  rw [e]; unfold nlen; rw [if_neg h]; omega

theorem len_rn (va : Value) (a : Nat) (w : World) (hA : RN w va a) : Calls Try.prog 28 #[va] w (fun e w' => e = .returned (.int .i64 (nlen a : Nat)) ∧ w = w') := by
  obtain ⟨A, ⟨ao, n, cap, rfl, hA⟩, tA, rfl⟩ := hA
  have hn := hA.small
  have HA := Lib.hid hA
  have TA := Lib.hid tA
  clear hA tA
  cases n with
  | zero =>
    have hz : Hid (nlen (val A) = 0) := by
      have : A = [] := List.eq_nil_of_length_eq_zero HA.out.len
      subst this; rfl
    go_enter Try.func28, Try.ntmps28
    go_wp2
    go_ret
    exact ⟨by rw [hz.out]; rfl, rfl⟩
  | succ j =>
    have ix := HA.out.ix (show j < j + 1 by omega)
    have hcell := HA.out.cell j (by omega)
    have nl := nth_lt HA.out.lim j
    have hv := Lib.hid (nlen_limbs HA.out.lim TA.out HA.out.len)
    have hb := blen_le (nth A j) 32 (by omega) (by omega)
    have h0 : (((j : Int) + 1) == 0) = false := by simp; omega
    go_enter Try.func28, Try.ntmps28
    go_wp2_with (go_at_call 50; refine (len32_any (nth A j) _ nl).mono ?_; rintro e w' ⟨rfl, rfl⟩)
    go_ret
    exact ⟨ret_int (by rw [hv.out]; omega), rfl⟩

theorem rlen_rn (va : Value) (a : Nat) (w : World) (hA : RN w va a) : Calls Try.prog 29 #[va] w (fun e w' => e = .returned (.int .i64 (nlen a : Nat)) ∧ w = w') := by
  obtain ⟨A, ⟨ao, n, cap, rfl, hA⟩, tA, rfl⟩ := hA
  have hn := hA.small
  have HA := Lib.hid hA
  have TA := Lib.hid tA
  clear hA tA
  cases n with
  | zero =>
    have hz : Hid (nlen (val A) = 0) := by
      have : A = [] := List.eq_nil_of_length_eq_zero HA.out.len
      subst this; rfl
    go_enter Try.func29, Try.ntmps29
    go_wp2
    go_ret
    exact ⟨by rw [hz.out]; rfl, rfl⟩
  | succ j =>
    have ix := HA.out.ix (show j < j + 1 by omega)
    have hcell := HA.out.cell j (by omega)
    have nl := nth_lt HA.out.lim j
    have hv := Lib.hid (nlen_limbs HA.out.lim TA.out HA.out.len)
    have hb := blen_le (nth A j) 32 (by omega) (by omega)
    have h0 : (((j : Int) + 1) == 0) = false := by simp; omega
    go_enter Try.func29, Try.ntmps29
    go_wp2
    go_loop [3, 4] (fun m x => ∃ y q : Nat, y < 4294967296 ∧ q ≤ 32 * j + 32 ∧ m = .int .i64 q ∧ x = .int .u32 y ∧ Hid (q + blen y = 32 * j + blen (nth A j)) ∧ blen y ≤ 32) (fun _ x => (intOf x).toNat)
    case atStart => exact ⟨nth A j, 32 * j, nl, by omega, by go_num, rfl, rfl, hb⟩
    case round =>
      obtain ⟨y, q, hy, hq, rfl, rfl, hs, hby⟩ := hrel
      by_cases h1 : y = 0
      · subst h1
        go_wp2
        go_ret
        refine ⟨ret_int ?_, rfl⟩
        have := hs.out
        rw [blen_zero] at this
        rw [hv.out]; omega
      · have hh := blen_half y h1 (by omega)
        have HH := Lib.hid hh
        have hy0 : 0 < y := by omega
        have hs1 := hs.out
        have hq2 : q + 1 ≤ 32 * j + 32 := by omega
        have hby2 : blen (y / 2) ≤ 32 := by omega
        clear hh h1 hs1
        go_wp2
        go_round
        case rel => exact ⟨y / 2, q + 1, by omega, by omega, by go_num, by go_num, (by have := HH.out; have := hs.out; show q + 1 + blen (y / 2) = _; omega), by omega⟩
        case measure => simp [intOf]; omega

/-- a number as one of 64 bits -/
def u64N (a : Nat) : Nat := if a < 18446744073709551616 then a else 0
theorem pair_u64 {a : Int} {b : Bool} {c : Nat} {d : Bool} (h1 : a = (c : Int)) (h2 : b = d) : Ending.returned (.tuple #[.int .u64 a, .bool b]) = .returned (.tuple #[.int .u64 (c : Int), .bool d]) := by rw [h1, h2]
theorem val_two {A : List Nat} (h : A.length = 2) : val A = nth A 0 + nth A 1 * 4294967296 := by
  match A, h with
  | [x, y], _ => simp [val, nth]; omega
theorem val_one {A : List Nat} (h : A.length = 1) : val A = nth A 0 := by
  match A, h with
  | [x], _ => simp [val, nth]
theorem val_zero {A : List Nat} (h : A.length = 0) : val A = 0 := by
  match A, h with
  | [], _ => rfl
theorem val_three {A : List Nat} (t : Top A) (h : 2 < A.length) : 18446744073709551616 ≤ val A := by
  have h1 := le_val_of_top t (by intro e; subst e; simp at h)
  have h2 := B_mono (show 2 ≤ A.length - 1 by omega)
  have : B 2 = 18446744073709551616 := by decide
  omega

def UintPost (a : Nat) (w : World) (e : Ending) (w' : World) : Prop := e = .returned (.tuple #[.int .u64 (u64N a : Nat), .bool (decide (a < 18446744073709551616))]) ∧ ∃ n, w' = w.drewN n
theorem UintPost.big {a : Nat} (w : World) (n : Nat) (h : 18446744073709551616 ≤ a) : UintPost a w (.returned (.tuple #[.int .u64 0, .bool false])) (w.drewN n) := by
  refine ⟨?_, n, rfl⟩
  have e1 : u64N a = 0 := by unfold u64N; rw [if_neg (by omega)]
  have e2 : decide (a < 18446744073709551616) = false := by simp; omega
  rw [e1, e2]; rfl
theorem UintPost.small {a : Nat} {z : Int} (w : World) (n : Nat) (h : a < 18446744073709551616) (hz : z = (a : Int)) : UintPost a w (.returned (.tuple #[.int .u64 z, .bool true])) (w.drewN n) := by
  subst hz
  refine ⟨?_, n, rfl⟩
  have e1 : u64N a = a := by unfold u64N; rw [if_pos h]
  have e2 : decide (a < 18446744073709551616) = true := by simp; omega
  rw [e1, e2]

theorem addr_zero (a : Addr) : a.add 0 = a := by simp [Addr.add]
theorem addr_one (a : Addr) : a.add 1 = ⟨a.block, a.off + 1, none⟩ := by simp [Addr.add]

theorem uint_rn (va : Value) (a : Nat) (w : World) (hA : RN w va a) : Calls Try.prog 33 #[va] w (UintPost a w) := by
  obtain ⟨A, ⟨ao, n, cap, rfl, hA⟩, tA, rfl⟩ := hA
  have hn := hA.small
  have HA := Lib.hid hA
  have TA := Lib.hid tA
  have hl := Lib.hid hA.len
  clear hA tA
  by_cases c0 : n = 0
  · subst c0
    have hv := Lib.hid (val_zero hl.out)
    go_enter Try.func33, Try.ntmps33
    go_wp2
    go_ret2
    exact UintPost.small w 0 (by rw [hv.out]; omega) (by rw [hv.out]; rfl)
  by_cases c1 : n = 1
  · subst c1
    have hv := Lib.hid (val_one hl.out)
    have ix := HA.out.ix (show 0 < 1 by omega)
    have cx := HA.out.cell 0 (by omega)
    rw [addr_zero] at cx
    simp only [addr_zero] at ix
    have nx := nth_lt HA.out.lim 0
    rw [Int.natCast_zero] at ix
    clear c0
    go_enter Try.func33, Try.ntmps33
    go_wp2
    go_ret2
    exact UintPost.small w 0 (by rw [hv.out]; omega) (by rw [hv.out])
  by_cases c2 : n = 2
  · subst c2
    have hv := Lib.hid (val_two hl.out)
    have ix := HA.out.ix (show 0 < 2 by omega)
    have cx := HA.out.cell 0 (by omega)
    rw [addr_zero] at cx
    simp only [addr_zero] at ix
    have nx := nth_lt HA.out.lim 0
    have iy := HA.out.ix (show 1 < 2 by omega)
    have cy := HA.out.cell 1 (by omega)
    rw [addr_one] at cy
    simp only [addr_one] at iy
    have ny := nth_lt HA.out.lim 1
    rw [Int.natCast_zero] at ix
    rw [Int.natCast_one] at iy
    have hor := or_lo (nth A 1) (nth A 0) ny nx
    clear c0 c1
    go_enter Try.func33, Try.ntmps33
    go_wp2
    go_quiet (fail)
    go_wp2
    go_ret2
    exact UintPost.small w _ (by rw [hv.out]; omega) (by rw [hv.out]; omega)
  · have hv := Lib.hid (val_three TA.out (show 2 < A.length by rw [hl.out]; omega))
    have d0 : ((n : Int) == 0) = false := by simp; omega
    have d1 : ((n : Int) == 1) = false := by simp; omega
    have d2 : ((n : Int) == 2) = false := by simp; omega
    clear c0 c1 c2
    go_enter Try.func33, Try.ntmps33
    go_wp2
    go_ret2
    exact UintPost.big w 0 hv.out

theorem ruint_rn (va : Value) (a : Nat) (w : World) (hA : RN w va a) : Calls Try.prog 37 #[va] w (UintPost a w) := by
  obtain ⟨A, ⟨ao, n, cap, rfl, hA⟩, tA, rfl⟩ := hA
  have hn := hA.small
  have HA := Lib.hid hA
  have TA := Lib.hid tA
  have hl := Lib.hid hA.len
  clear hA tA
  by_cases c2 : n ≤ 2
  · have hv : val A < 18446744073709551616 := by
      have h1 := val_lt HA.out.lim
      have h2 := B_mono (show A.length ≤ 2 by rw [hl.out]; exact c2)
      have : B 2 = 18446744073709551616 := by decide
      omega
    have HV := Lib.hid hv
    clear hv
    go_enter Try.func37, Try.ntmps37
    go_wp2
    go_loop [4, 5] (fun x i => ∃ k y : Nat, k ≤ n ∧ i = .int .i64 ((k : Int) - 1) ∧ x = .int .u64 y ∧ Hid (y = val (A.drop k))) (fun _ i => (intOf i + 1).toNat)
    case atStart => exact ⟨n, 0, Nat.le_refl _, rfl, rfl, by show 0 = _; rw [List.drop_eq_nil_of_le (by rw [hl.out]; exact Nat.le_refl _)]; rfl⟩
    case round =>
      obtain ⟨k, y, hk, hi, rfl, hy⟩ := hrel
      cases k with
      | zero =>
        obtain rfl := hi
        go_wp2
        go_ret2
        have e := hy.out
        rw [List.drop_zero] at e
        exact UintPost.small w 0 HV.out (by rw [e])
      | succ j =>
        have hi' := hi.trans (show _ = Value.int .i64 (j : Int) by congr 1; omega)
        clear hi
        obtain rfl := hi'
        have ix := HA.out.ix (show j < n by omega)
        have cx := HA.out.cell j (by omega)
        have nx := nth_lt HA.out.lim j
        have hyl : y < 4294967296 := by
          rw [hy.out]
          have h1 := val_lt (HA.out.lim.drop (j + 1))
          have h2 := B_mono (show (A.drop (j + 1)).length ≤ 1 by rw [List.length_drop, hl.out]; omega)
          have : B 1 = 4294967296 := by decide
          omega
        go_wp2
        go_round
        case rel => exact ⟨j, y * 4294967296 + nth A j, by omega, rfl, by go_num, (by show _ = _; rw [val_drop_eq (by rw [hl.out]; omega), hy.out]; omega)⟩
        case measure => simp [intOf]
  · have hv := Lib.hid (val_three TA.out (show 2 < A.length by rw [hl.out]; omega))
    have c3 : 2 < n := by omega
    clear c2
    go_enter Try.func37, Try.ntmps37
    go_wp2
    go_ret2
    exact UintPost.big w 0 hv.out

/-- a power, or 0 -/
def powN (a : Nat) (n : Int) : Nat := if 0 ≤ n ∧ n ≤ 1000 then a ^ n.toNat else 0
theorem B_pow (k e : Nat) : B k ^ e = B (k * e) := by unfold B; rw [Nat.pow_mul]
theorem pow_lt_B {a k e m : Nat} (h : a < B k) (hm : k * e < m) : a ^ e < B m := by
  have h1 : a ^ e ≤ B k ^ e := Nat.pow_le_pow_left (Nat.le_of_lt h) e
  rw [B_pow] at h1
  exact Nat.lt_of_le_of_lt h1 (B_lt hm)
theorem RN.len_le {A : List Nat} {k : Nat} (t : Top A) (h : val A < B k) : A.length ≤ k := by
  rcases Nat.lt_or_ge k A.length with h1 | h1
  · have h2 := le_val_of_top t (by intro e; subst e; simp at h1)
    have h3 := B_mono (show k ≤ A.length - 1 by omega)
    omega
  · exact h1

theorem mul_rn (va vc : Value) (a c : Nat) (w : World) (hA : RN w va a) (hC : RN w vc c) (j k : Nat) (hj : a < B j) (hk : c < B k) (hj' : j ≤ 8796093022208) (hk' : k ≤ 8796093022208) : Calls Try.prog 22 #[va, vc] w (RNmade (a * c) w) := by
  obtain ⟨A, hA, tA, rfl⟩ := hA
  obtain ⟨C, hC, tC, rfl⟩ := hC
  exact mul_sl va vc A C w hA hC (Nat.le_trans (RN.len_le tA hj) hj') (Nat.le_trans (RN.len_le tC hk) hk')
theorem rmul_rn (va vc : Value) (a c : Nat) (w : World) (hA : RN w va a) (hC : RN w vc c) (j k : Nat) (hj : a < B j) (hk : c < B k) (hj' : j ≤ 8796093022208) (hk' : k ≤ 8796093022208) : Calls Try.prog 23 #[va, vc] w (RNmade (a * c) w) := by
  obtain ⟨A, hA, tA, rfl⟩ := hA
  obtain ⟨C, hC, tC, rfl⟩ := hC
  exact rmul_sl va vc A C w hA hC (Nat.le_trans (RN.len_le tA hj) hj') (Nat.le_trans (RN.len_le tC hk) hk')
theorem add_rn (va vc : Value) (a c : Nat) (w : World) (hA : RN w va a) (hC : RN w vc c) (j k : Nat) (hj : a < B j) (hk : c < B k) (hj' : j ≤ 17592186044416) (hk' : k ≤ 17592186044416) : Calls Try.prog 16 #[va, vc] w (RNmade (a + c) w) := by
  obtain ⟨A, hA, tA, rfl⟩ := hA
  obtain ⟨C, hC, tC, rfl⟩ := hC
  exact add_sl va vc A C w hA hC (Nat.le_trans (RN.len_le tA hj) hj') (Nat.le_trans (RN.len_le tC hk) hk')
theorem radd_rn (va vc : Value) (a c : Nat) (w : World) (hA : RN w va a) (hC : RN w vc c) (j k : Nat) (hj : a < B j) (hk : c < B k) (hj' : j ≤ 17592186044416) (hk' : k ≤ 17592186044416) : Calls Try.prog 17 #[va, vc] w (RNmade (a + c) w) := by
  obtain ⟨A, hA, tA, rfl⟩ := hA
  obtain ⟨C, hC, tC, rfl⟩ := hC
  exact radd_sl va vc A C w hA hC (Nat.le_trans (RN.len_le tA hj) hj') (Nat.le_trans (RN.len_le tC hk) hk')

theorem RNmade.nil (w : World) : RNmade 0 w (.returned (.slice none 0 0)) w := ⟨_, rfl, RN.nil w, Below.refl _ _⟩

def PowSt (w0 wr : World) (v : Value) (m : Nat) : Prop := RN wr v m ∧ Below w0.heap.size w0 wr

theorem rpow_rn (va : Value) (a : Nat) (n : Int) (w : World) (hA : RN w va a) (k : Nat) (hk : a < B k) (hk' : k ≤ 1048576) : Calls Try.prog 32 #[va, .int .i64 n] w (RNmade (powN a n) w) := by
  by_cases hin : 0 ≤ n ∧ n ≤ 1000
  · obtain ⟨N, rfl⟩ : ∃ N : Nat, n = N := ⟨n.toNat, by omega⟩
    have hN : N ≤ 1000 := by omega
    have hv : Hid (powN a N = a ^ N) := by show powN a N = _; unfold powN; rw [if_pos hin, Int.toNat_natCast]
    have HA := Lib.hid hA
    have HK := Lib.hid hk
    clear hin hA hk
    go_enter Try.func32, Try.ntmps32
    go_wp2_with (go_at_call 35; refine (rOf_any 1 w (by omega)).mono ?_; rintro e w' ⟨u, rfl, hu, hb⟩)
    have Hst : Hid (PowSt w w' u (a ^ 0)) := ⟨hu, hb⟩
    clear hu hb
    go_loopw [5, 6] (fun v i wr => ∃ j : Nat, j ≤ N ∧ i = .int .i64 j ∧ Hid (PowSt w wr v (a ^ j))) (fun _ i _ => N - (intOf i).toNat)
    case atStart => exact ⟨0, Nat.zero_le _, rfl, Hst⟩
    case round =>
      rename_i u5 _
      obtain ⟨j, hj, rfl, hst⟩ := hrel
      clear Hst
      by_cases hjn : j < N
      · have hkj : Hid (k * j < 1048576 * 1000 + 1) := by
          have : k * j ≤ 1048576 * 1000 := Nat.mul_le_mul hk' (by omega)
          show _ < _; omega
        go_wp2_with (go_at_call 23; refine (rmul_rn _ _ (a ^ j) a _ hst.out.1 (HA.out.mono hst.out.2 (Nat.le_refl _)) (1048576 * 1000 + 1) k (pow_lt_B HK.out hkj.out) HK.out (by omega) (by omega)).mono ?_; rintro e w2 ⟨u2, rfl, hu2, hb2⟩)
        go_roundw
        case rel => exact ⟨j + 1, by omega, by go_num, ⟨by rw [Nat.pow_succ]; exact hu2, hst.out.2.trans (hb2.mono hst.out.2.size)⟩⟩
        case measure => simp [intOf]; omega
      · have e : j = N := by omega
        subst e
        go_wp2
        go_ret
        rw [hv.out]
        exact ⟨_, rfl, hst.out.1, hst.out.2⟩
  · have hv : Hid (powN a n = 0) := by show powN a n = 0; unfold powN; rw [if_neg hin]
    clear hA hk
    by_cases h0 : 0 ≤ n
    · have h1 : decide (1000 < n) = true := by simp; omega
      clear hin
      go_enter Try.func32, Try.ntmps32
      go_wp2
      go_ret
      rw [hv.out]
      exact RNmade.nil w
    · clear hin
      go_enter Try.func32, Try.ntmps32
      go_wp2
      go_ret
      rw [hv.out]
      exact RNmade.nil w

theorem and_one (x : Nat) (h : x < 9223372036854775808) : bits .and .i64 (x : Int) 1 = ((x % 2 : Nat) : Int) := by
  have := bits_mask .i64 63 (by decide) (fun n h0 h1 => by rw [IntKind.wrap_i64]; omega) 1 (by decide) (x : Int) (by omega) (by omega)
  simpa using this
theorem pow_step {a n j : Nat} : a ^ (n / 2 ^ j) = (a ^ (n / 2 ^ (j + 1)) * a ^ (n / 2 ^ (j + 1))) * a ^ (n / 2 ^ j % 2) := by
  have h : n / 2 ^ j = n / 2 ^ (j + 1) + n / 2 ^ (j + 1) + n / 2 ^ j % 2 := by
    rw [Nat.pow_succ, ← Nat.div_div_eq_div_mul]; omega
  rw [← Nat.pow_add, ← Nat.pow_add]
  exact congrArg _ h

theorem pow_rn (va : Value) (a : Nat) (n : Int) (w : World) (hA : RN w va a) (k : Nat) (hk : a < B k) (hk' : k ≤ 1048576) : Calls Try.prog 31 #[va, .int .i64 n] w (RNmade (powN a n) w) := by
  by_cases hin : 0 ≤ n ∧ n ≤ 1000
  · obtain ⟨N, rfl⟩ : ∃ N : Nat, n = N := ⟨n.toNat, by omega⟩
    have hN : N ≤ 1000 := by omega
    have hv : Hid (powN a N = a ^ N) := by show powN a N = _; unfold powN; rw [if_pos hin, Int.toNat_natCast]
    have hbl := blen_le N 10 (by omega) (by omega)
    have hN0 : Hid (a ^ (N / 2 ^ blen N) = 1) := by
      show _ = _
      have : N < 2 ^ blen N := by
        by_cases h : N = 0
        · subst h; exact Nat.pow_pos (by decide)
        · exact (blen_spec N h (by omega)).2.1
      rw [Nat.div_eq_of_lt this, Nat.pow_zero]
    have HA := Lib.hid hA
    have HK := Lib.hid hk
    clear hin hA hk
    go_enter Try.func31, Try.ntmps31
    go_wp2_with (first | (go_at_call 34; refine (Of_any 1 w (by omega)).mono ?_; rintro e w' ⟨u, rfl, hu, hb⟩) | (go_at_call 51; refine (len_any N _ (by omega)).mono ?_; rintro e w'' ⟨rfl, rfl⟩))
    have Hst : Hid (PowSt w w' u (a ^ (N / 2 ^ blen N))) := ⟨by rw [hN0.out]; exact hu, hb⟩
    clear hu hb
    go_loopw [5, 6] (fun v i wr => ∃ j : Nat, j ≤ blen N ∧ i = .int .i64 ((j : Int) - 1) ∧ Hid (PowSt w wr v (a ^ (N / 2 ^ j)))) (fun _ i _ => (intOf i + 1).toNat)
    case atStart => exact ⟨blen N, Nat.le_refl _, rfl, Hst⟩
    case round =>
      obtain ⟨j, hj, hi, hst⟩ := hrel
      clear Hst
      cases j with
      | zero =>
        obtain rfl := hi
        go_wp2
        go_ret
        rw [hv.out]
        have h1 := hst.out.1
        rw [Nat.pow_zero, Nat.div_one] at h1
        exact ⟨_, rfl, h1, hst.out.2⟩
      | succ j =>
        have hi' := hi.trans (show _ = Value.int .i64 (j : Int) by congr 1; omega)
        clear hi
        obtain rfl := hi'
        have hdl : N / 2 ^ (j + 1) ≤ 500 := by
          have : N / 2 ^ (j + 1) ≤ N / 2 := by
            rw [Nat.pow_succ, Nat.mul_comm, ← Nat.div_div_eq_div_mul]; exact Nat.div_le_self _ _
          omega
        have hkj : Hid (k * (N / 2 ^ (j + 1)) < 1048576 * 500 + 1) := by
          have : k * (N / 2 ^ (j + 1)) ≤ 1048576 * 500 := Nat.mul_le_mul hk' hdl
          show _ < _; omega
        have hlt := Lib.hid (pow_lt_B HK.out hkj.out)
        have hsq : Hid (a ^ (N / 2 ^ (j + 1)) * a ^ (N / 2 ^ (j + 1)) < B (1048576 * 1000 + 2)) := by
          show _ < _
          have e : 1048576 * 1000 + 2 = (1048576 * 500 + 1) + (1048576 * 500 + 1) := by omega
          rw [e, B_add]
          exact Nat.mul_lt_mul_of_lt_of_le hlt.out (Nat.le_of_lt hlt.out) (B_pos _)
        have hps := Lib.hid (pow_step (a := a) (n := N) (j := j))
        have hx : N / 2 ^ j < 9223372036854775808 := Nat.lt_of_le_of_lt (Nat.div_le_self _ _) (by omega)
        have hand := and_one (N / 2 ^ j) hx
        have hcast : (N : Int) / 2 ^ j = ((N / 2 ^ j : Nat) : Int) := by rw [Int.natCast_ediv, Int.natCast_pow]; rfl
        rw [← hcast] at hand
        clear hx hcast hdl
        rcases Nat.mod_two_eq_zero_or_one (N / 2 ^ j) with h2 | h2
        · rw [h2] at hand
          rw [h2, Nat.pow_zero, Nat.mul_one] at hps
          clear h2
          go_wp2_with (go_at_call 22; refine (mul_rn _ _ _ _ _ hst.out.1 hst.out.1 _ _ hlt.out hlt.out (by omega) (by omega)).mono ?_; rintro e w2 ⟨u2, rfl, hu2, hb2⟩)
          go_roundw
          case rel => exact ⟨j, by omega, rfl, ⟨by rw [hps.out]; exact hu2, hst.out.2.trans (hb2.mono hst.out.2.size)⟩⟩
          case measure => simp [intOf]
        · rw [h2] at hand
          rw [h2, Nat.pow_one] at hps
          clear h2
          have tok : True := trivial
          go_wp2_with (go_at_call 22; clear tok; refine (mul_rn _ _ _ _ _ hst.out.1 hst.out.1 _ _ hlt.out hlt.out (by omega) (by omega)).mono ?_; rintro e w2 ⟨u2, rfl, hu2, hb2⟩; have HB := Lib.hid (hst.out.2.trans (hb2.mono hst.out.2.size)); clear hb2)
          go_wp2_with (go_at_call 22; refine (mul_rn _ _ _ _ _ hu2 (HA.out.mono HB.out (Nat.le_refl _)) _ _ hsq.out HK.out (by omega) (by omega)).mono ?_; rintro e w3 ⟨u3, rfl, hu3, hb3⟩)
          go_roundw
          case rel => exact ⟨j, by omega, rfl, ⟨by rw [hps.out]; exact hu3, HB.out.trans (hb3.mono HB.out.size)⟩⟩
          case measure => simp [intOf]
  · have hv : Hid (powN a n = 0) := by show powN a n = 0; unfold powN; rw [if_neg hin]
    clear hA hk
    by_cases h0 : 0 ≤ n
    · have h1 : decide (1000 < n) = true := by simp; omega
      clear hin
      go_enter Try.func31, Try.ntmps31
      go_wp2
      go_ret
      rw [hv.out]
      exact RNmade.nil w
    · clear hin
      go_enter Try.func31, Try.ntmps31
      go_wp2
      go_ret
      rw [hv.out]
      exact RNmade.nil w
#print axioms pow_rn
end Go.Proofs.Ytdmolcopnehkbaa
