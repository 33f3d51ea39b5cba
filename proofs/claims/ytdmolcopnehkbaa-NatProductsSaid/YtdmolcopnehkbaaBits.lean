/-
  Walks of math/bits: Add32, Sub32, Div32, Len32, LeadingZeros32, Len64, Len.
-/
import Derived.Test.YtdmolcopnehkbaaW1
import Derived.Deep.QuietTactic
import Derived.BigQuiet
import Derived.Lib.BitFns
set_option autoImplicit false
namespace Go.Proofs.Ytdmolcopnehkbaa
open Go.RowKit

theorem or_lo (h l : Nat) (hh : h < 4294967296) (hl : l < 4294967296) : bits .or .u64 ((h : Int) * 4294967296) (l : Int) = (h : Int) * 4294967296 + (l : Int) := by
  have e : ((h : Int) * 4294967296) = ((h * 4294967296 : Nat) : Int) := by omega
  rw [e, u64_or_nat _ _ (by omega) (by omega), nat_join 32 _ _ (by omega) (by omega)]
  omega

theorem pair_u32 {a b c d : Int} (h1 : a = c) (h2 : b = d) : Ending.returned (.tuple #[.int .u32 a, .int .u32 b]) = .returned (.tuple #[.int .u32 c, .int .u32 d]) := by rw [h1, h2]

theorem add32_any (x y c : Nat) (w : World) (hx : x < 4294967296) (hy : y < 4294967296) (hc : c ≤ 1) :
    Calls Try.prog 43 #[.int .u32 x, .int .u32 y, .int .u32 c] w fun e w' => e = .returned (.tuple #[.int .u32 ((x + y + c) % 4294967296 : Nat), .int .u32 ((x + y + c) / 4294967296 : Nat)]) ∧ w = w' := by
  go_enter Try.func43, Try.ntmps43
  go_wp2
  go_ret2
  exact ⟨pair_u32 (by omega) (by omega), rfl⟩

/-- the borrow, and the difference of limbs -/
def brw (x y c : Nat) : Nat := if x < y + c then 1 else 0
def dif (x y c : Nat) : Nat := (4294967296 + x - y - c) % 4294967296
theorem brw_le (x y c : Nat) : brw x y c ≤ 1 := by unfold brw; split <;> omega
theorem dif_lt (x y c : Nat) : dif x y c < 4294967296 := by unfold dif; omega
theorem dif_eq (x y c : Nat) (hx : x < 4294967296) (hy : y < 4294967296) (hc : c ≤ 1) : x + 4294967296 * brw x y c = dif x y c + y + c := by
  unfold dif brw; split <;> omega

theorem testBit31 (x : Nat) (h : x < 4294967296) : x.testBit 31 = decide (2147483648 ≤ x) := by
  rw [Nat.testBit_eq_decide_div_mod_eq]
  simp only [Nat.reducePow, decide_eq_decide]; omega
theorem shr31 (x : Nat) (h : x < 4294967296) : x / 2147483648 = (x.testBit 31).toNat := by
  rw [testBit31 x h]
  by_cases h1 : 2147483648 ≤ x
  · simp [h1]; omega
  · simp [h1]; omega
theorem sub_bits (x y d c : Nat) (hx : x < 4294967296) (hy : y < 4294967296) (hc : c ≤ 1) (hd : d = dif x y c) :
    (((x ^^^ 4294967295) &&& y) ||| (((x ^^^ y) ^^^ 4294967295) &&& d)) / 2147483648 = brw x y c := by
  have hdl : d < 4294967296 := by rw [hd]; exact dif_lt _ _ _
  have h1 : (x ^^^ 4294967295) < 2 ^ 32 := Nat.xor_lt_two_pow (by omega) (by omega)
  have h2 : ((x ^^^ y) ^^^ 4294967295) < 2 ^ 32 := Nat.xor_lt_two_pow (Nat.xor_lt_two_pow (by omega) (by omega)) (by omega)
  have h3 : ((x ^^^ 4294967295) &&& y) < 2 ^ 32 := Nat.and_lt_two_pow _ (by omega)
  have h4 : (((x ^^^ y) ^^^ 4294967295) &&& d) < 2 ^ 32 := Nat.and_lt_two_pow _ (by omega)
  have h5 := Nat.or_lt_two_pow h3 h4
  rw [shr31 _ (by simpa using h5)]
  simp only [Nat.testBit_or, Nat.testBit_and, Nat.testBit_xor, testBit31 x hx, testBit31 y hy, testBit31 d hdl, testBit31 4294967295 (by omega)]
  have hde := dif_eq x y c hx hy hc
  rw [← hd] at hde
  have hb := brw_le x y c
  by_cases a1 : 2147483648 ≤ x <;> by_cases a2 : 2147483648 ≤ y <;> by_cases a3 : 2147483648 ≤ d <;> simp [a1, a2, a3] <;> omega

theorem sub_bits_int (x y c : Nat) (hx : x < 4294967296) (hy : y < 4294967296) (hc : c ≤ 1) :
    (bits BinOp.or IntKind.u32 (bits BinOp.and IntKind.u32 (bits BinOp.xor IntKind.u32 IntKind.u32.max x) y)
        (bits BinOp.and IntKind.u32 (bits BinOp.xor IntKind.u32 IntKind.u32.max (bits BinOp.xor IntKind.u32 x y)) (((x : Int) - y - c) % 4294967296)) / 2147483648) = ((brw x y c : Nat) : Int) := by
  have ed : (((x : Int) - y - c) % 4294967296) = ((dif x y c : Nat) : Int) := by unfold dif; omega
  have em : IntKind.u32.max = ((4294967295 : Nat) : Int) := by decide
  have hdl := dif_lt x y c
  have h1 : (4294967295 ^^^ x) < 2 ^ 32 := Nat.xor_lt_two_pow (by omega) (by omega)
  have h0 : (x ^^^ y) < 2 ^ 32 := Nat.xor_lt_two_pow (by omega) (by omega)
  have h2 : (4294967295 ^^^ (x ^^^ y)) < 2 ^ 32 := Nat.xor_lt_two_pow (by omega) h0
  have h3 : ((4294967295 ^^^ x) &&& y) < 2 ^ 32 := Nat.and_lt_two_pow _ (by omega)
  have h4 : ((4294967295 ^^^ (x ^^^ y)) &&& dif x y c) < 2 ^ 32 := Nat.and_lt_two_pow _ (by omega)
  rw [ed, em, u32_xor_nat 4294967295 x (by omega) hx, u32_and_nat _ y (by omega) hy, u32_xor_nat x y hx hy, u32_xor_nat 4294967295 _ (by omega) (by omega), u32_and_nat _ _ (by omega) hdl, u32_or_nat _ _ (by omega) (by omega)]
  have := sub_bits x y (dif x y c) c hx hy hc rfl
  rw [Nat.xor_comm x 4294967295, Nat.xor_comm (x ^^^ y) 4294967295] at this
  rw [← this]; omega

theorem sub32_any (x y c : Nat) (w : World) (hx : x < 4294967296) (hy : y < 4294967296) (hc : c ≤ 1) :
    Calls Try.prog 38 #[.int .u32 x, .int .u32 y, .int .u32 c] w fun e w' => e = .returned (.tuple #[.int .u32 (dif x y c : Nat), .int .u32 (brw x y c : Nat)]) ∧ w = w' := by
  go_enter Try.func38, Try.ntmps38
  go_wp2
  go_ret2
  exact ⟨pair_u32 (by unfold dif; omega) (sub_bits_int x y c hx hy hc), rfl⟩

theorem div32_any (h l y : Nat) (w : World) (hx : h < y) (hy : y < 4294967296) (hl : l < 4294967296) :
    Calls Try.prog 52 #[.int .u32 h, .int .u32 l, .int .u32 y] w fun e w' => e = .returned (.tuple #[.int .u32 ((h * 4294967296 + l) / y : Nat), .int .u32 ((h * 4294967296 + l) % y : Nat)]) ∧ ∃ n, w' = w.drewN n := by
  have hy0 : ((y : Int) == 0) = false := by simp; omega
  have hy1 : ((y : Int) != 0) = true := by simp; omega
  have hor := or_lo h l (by omega) hl
  have hd : (decide (y ≤ h)) = false := by simp; omega
  have hq : (h * 4294967296 + l) / y < 4294967296 := by
    rw [Nat.div_lt_iff_lt_mul (by omega)]
    have : (h + 1) * 4294967296 ≤ y * 4294967296 := Nat.mul_le_mul_right _ hx
    rw [Nat.mul_comm 4294967296 y]; omega
  have hr : (h * 4294967296 + l) % y < 4294967296 := by have := Nat.mod_lt (h * 4294967296 + l) (show 0 < y by omega); omega
  have HQ := Lib.hid hq
  have HR := Lib.hid hr
  clear hq hr
  go_enter Try.func52, Try.ntmps52
  go_wp2
  go_quiet (fail)
  go_wp2
  go_ret2
  have e : ((h : Int) * 4294967296 + l) = ((h * 4294967296 + l : Nat) : Int) := by omega
  have e1 : ((h : Int) * 4294967296 + l) / y % 4294967296 = (((h * 4294967296 + l) / y : Nat) : Int) := by
    have hq := HQ.out
    rw [e, ← Int.natCast_ediv]; generalize (h * 4294967296 + l) / y = q at *; omega
  have e2 : ((h : Int) * 4294967296 + l) % y % 4294967296 = (((h * 4294967296 + l) % y : Nat) : Int) := by
    have hr := HR.out
    rw [e, ← Int.natCast_emod]; generalize (h * 4294967296 + l) % y = q at *; omega
  exact ⟨pair_u32 e1 e2, nq, rfl⟩

/-- how many bits -/
def blen (x : Nat) : Nat := Lib.bitLen x

/-- a constant text of 256 bytes that tells how many bits its index has -/
theorem wpList_len8 {w : World} {ops : Array Oper} {rest : List Oper} {o : Oper} {a : Act} {Q : Exit → Act → World → Prop} (hg : o.guard = none) (s : ByteArray) (x : Operand)
    (ho : o.op = .index 9 (.const (.string s)) x) (z : Int) (hx : a.eval x = .int .u8 z) (h0 : 0 ≤ z) (h1 : z < 256)
    (hs : (List.range 256).all (fun n => s[n]?.map (·.toNat) == some (Lib.bitLen n)) = true)
    (h : ∀ m : Nat, m ≤ 8 → Hid (m = blen z.toNat) → wpList Try.prog ops Q rest (a.put o.dst (.int .u8 (m : Int))) w) : wpList Try.prog ops Q (o :: rest) a w := by
  refine wpList_plain hg fun K hK' => ?_
  have hz : z.toNat < 256 := by omega
  have hb := List.all_eq_true.1 hs z.toNat (by simpa using hz)
  have hb' : s[z.toNat]?.map (·.toNat) = some (Lib.bitLen z.toNat) := by simpa using hb
  obtain ⟨b, hb1, hb2⟩ := Option.map_eq_some_iff.1 hb'
  have h8 : Lib.bitLen z.toNat ≤ 8 := by
    have : ∀ n : Fin 256, Lib.bitLen n.val ≤ 8 := by decide +kernel
    exact this ⟨z.toNat, hz⟩
  have hrun : (Instr.index 9 (.string s) (.int .u8 z)).run Try.prog w = .ok (.int .u8 ((Lib.bitLen z.toNat : Nat) : Int)) w := by
    simp [Instr.index, asIntOf, run_underlying Try.underlying9, h0, hb1, hb2]
  unfold Oper.wp
  have hc : a.eval (.const (.string s)) = .string s := rfl
  simp [execOp, ho, hx, hc, hrun, Result.andThen]
  exact hK' _ _ (h _ h8 rfl)

theorem ret_int {k : IntKind} {a b : Int} (h : a = b) : Ending.returned (.int k a) = .returned (.int k b) := by rw [h]

set_option maxHeartbeats 4000000 in
set_option maxRecDepth 100000 in
theorem len32_int (x : Int) (w : World) (h0 : 0 ≤ x) (h1 : x ≤ 4294967295) :
    Calls Try.prog 50 #[.int .u32 x] w fun e w' => e = .returned (.int .i64 ((blen x.toNat : Nat) : Int)) ∧ w = w' := by
  go_enter Try.func50, Try.ntmps50
  go_wp2_with ((with_reducible refine wpList_len8 rfl _ _ rfl _ rfl ?_ ?_ (by decide +kernel) ?_); omega; omega; intro m hm hm')
  all_goals go_ret
  all_goals refine ⟨ret_int ?_, rfl⟩
  all_goals (have hm := hm'.out; unfold blen at *)
  · have s := Lib.bitLen_shift24 x.toNat (by omega) (by omega)
    have e : (x / 65536 / 256).toNat = x.toNat / 16777216 := by omega
    rw [e] at hm; omega
  · have s := Lib.bitLen_shift16 x.toNat (by omega) (by omega)
    have e : (x / 65536).toNat = x.toNat / 65536 := by omega
    rw [e] at hm; omega
  · have s := Lib.bitLen_shift8 x.toNat (by omega) (by omega)
    have e : (x / 256).toNat = x.toNat / 256 := by omega
    rw [e] at hm; omega
  · omega
theorem len32_any (x : Nat) (w : World) (h1 : x < 4294967296) :
    Calls Try.prog 50 #[.int .u32 x] w fun e w' => e = .returned (.int .i64 (blen x : Nat)) ∧ w = w' := by
  have h := len32_int x w (by omega) (by omega)
  rw [Int.toNat_natCast] at h; exact h

theorem blen_le (x k : Nat) (hk : k ≤ 64) (h : x < 2 ^ k) : blen x ≤ k := Lib.bitLen_le x k hk h
theorem blen_zero : blen 0 = 0 := by decide
theorem blen_half (x : Nat) (h0 : x ≠ 0) (h : x < 2 ^ 64) : blen x = 1 + blen (x / 2) := Lib.bitLen_half x h0 h
theorem blen_spec (x : Nat) (h0 : x ≠ 0) (h : x < 2 ^ 64) : 2 ^ (blen x - 1) ≤ x ∧ x < 2 ^ blen x ∧ 0 < blen x := by
  have key : ∀ k x : Nat, x < 2 ^ k → x < 2 ^ 64 → x ≠ 0 → 2 ^ (blen x - 1) ≤ x ∧ x < 2 ^ blen x ∧ 0 < blen x := by
    intro k
    induction k with
    | zero => intro x hx _ h0; simp at hx; exact absurd hx h0
    | succ k ih =>
      intro x hx h64 h0
      have hh := blen_half x h0 h64
      by_cases h1 : x / 2 = 0
      · rw [h1, blen_zero] at hh; rw [hh]; simp; omega
      · obtain ⟨a, b, c⟩ := ih (x / 2) (by rw [Nat.pow_succ] at hx; omega) (by omega) h1
        obtain ⟨m, hm⟩ : ∃ m, blen (x / 2) = m + 1 := ⟨blen (x / 2) - 1, by omega⟩
        rw [hm] at a b hh
        rw [hh]
        have e : 1 + (m + 1) - 1 = m + 1 := by omega
        have e2 : 1 + (m + 1) = (m + 1) + 1 := by omega
        rw [e, e2]
        simp only [Nat.add_sub_cancel] at a
        have p1 : 2 ^ (m + 1) = 2 * 2 ^ m := by rw [Nat.pow_succ, Nat.mul_comm]
        have p2 : 2 ^ (m + 1 + 1) = 2 * 2 ^ (m + 1) := by rw [Nat.pow_succ, Nat.mul_comm]
        omega
  exact key 64 x h h h0

theorem lz32_any (x : Nat) (w : World) (h1 : x < 4294967296) :
    Calls Try.prog 46 #[.int .u32 x] w fun e w' => e = .returned (.int .i64 ((32 - blen x : Nat) : Int)) ∧ w = w' := by
  have hb := blen_le x 32 (by omega) (by omega)
  have hb0 : (0 : Int) ≤ (blen x : Int) := Int.natCast_nonneg _
  go_enter Try.func46, Try.ntmps46
  go_wp2_with (go_at_call 50; refine (len32_any x _ h1).mono ?_; rintro e w' ⟨rfl, rfl⟩)
  go_ret
  exact ⟨ret_int (by omega), rfl⟩

set_option maxHeartbeats 4000000 in
set_option maxRecDepth 100000 in
theorem len64_int (x : Int) (w : World) (h0 : 0 ≤ x) (h1 : x ≤ 65535) :
    Calls Try.prog 55 #[.int .u64 x] w fun e w' => e = .returned (.int .i64 ((blen x.toNat : Nat) : Int)) ∧ w = w' := by
  go_enter Try.func55, Try.ntmps55
  go_wp2_with ((with_reducible refine wpList_len8 rfl _ _ rfl _ rfl ?_ ?_ (by decide +kernel) ?_); omega; omega; intro m hm hm')
  all_goals go_ret
  all_goals refine ⟨ret_int ?_, rfl⟩
  all_goals (have hm := hm'.out; unfold blen at *)
  · have s := Lib.bitLen_shift8 x.toNat (by omega) (by omega)
    have e : (x / 256).toNat = x.toNat / 256 := by omega
    rw [e] at hm; omega
  · omega
theorem len_any (x : Nat) (w : World) (h1 : x ≤ 65535) :
    Calls Try.prog 51 #[.int .u64 x] w fun e w' => e = .returned (.int .i64 (blen x : Nat)) ∧ w = w' := by
  have hb := blen_le x 64 (by omega) (by omega)
  go_enter Try.func51, Try.ntmps51
  go_wp2_with (go_at_call 55; refine (len64_int x _ (by omega) (by omega)).mono ?_; rintro e w' ⟨rfl, rfl⟩)
  go_ret
  exact ⟨rfl, rfl⟩

#print axioms len_any
end Go.Proofs.Ytdmolcopnehkbaa
