/-
  Walks: short, and guess of the reference.
-/
import Derived.Test.YtdmolcopnehkbaaW8
set_option autoImplicit false
namespace Go.Proofs.Ytdmolcopnehkbaa
open Go.RowKit

theorem val_drop_set {S : List Nat} {j : Nat} (x : Nat) (h : j < S.length) : val ((S.set j x).drop j) = x + 4294967296 * val (S.drop (j + 1)) := by
  rw [val_drop_eq (by simpa using h), nth_set_eq x h, List.drop_set_of_lt (by omega)]
theorem short_step {A : List Nat} {j d : Nat} (hj : j < A.length) (hd : 0 < d) :
    val (A.drop j) / d = (val (A.drop (j + 1)) % d * 4294967296 + nth A j) / d + 4294967296 * (val (A.drop (j + 1)) / d) ∧ val (A.drop j) % d = (val (A.drop (j + 1)) % d * 4294967296 + nth A j) % d := by
  rw [val_drop_eq hj]
  generalize val (A.drop (j + 1)) = n
  generalize nth A j = x
  have h := Nat.div_add_mod n d
  have e : x + 4294967296 * n = (n % d * 4294967296 + x) + d * (4294967296 * (n / d)) := by
    have : d * (4294967296 * (n / d)) = 4294967296 * (d * (n / d)) := by rw [← Nat.mul_assoc, Nat.mul_comm d, Nat.mul_assoc]
    rw [this]; omega
  rw [e, Nat.add_mul_div_left _ _ hd, Nat.add_mul_mod_self_left]
  exact ⟨rfl, rfl⟩

def ShortSt (w0 : World) (g n d : Nat) (A : List Nat) (k r : Nat) (wr : World) : Prop :=
  ∃ S, Own wr g S ∧ S.length = n ∧ Lim S ∧ val (S.drop k) = val (A.drop k) / d ∧ r = val (A.drop k) % d ∧ Below g w0 wr
theorem ShortSt.start {w0 w1 : World} {g n d : Nat} {A : List Nat} (hn : A.length = n) (h : Own w1 g (List.replicate n 0)) (hb : Below g w0 w1) : ShortSt w0 g n d A n 0 w1 :=
  ⟨_, h, by simp, Lim.replicate _, by rw [List.drop_eq_nil_of_le (by simp), List.drop_eq_nil_of_le (by omega)]; simp [val], by rw [List.drop_eq_nil_of_le (by omega)]; simp [val], hb⟩
theorem ShortSt.below {w0 wr : World} {g n d k r : Nat} {A : List Nat} (h : ShortSt w0 g n d A k r wr) : Below g w0 wr := by
  obtain ⟨S, h1, h2, h3, h4, h5, h6⟩ := h; exact h6
theorem ShortSt.next {w0 wr : World} {g n d j r : Nat} {A : List Nat} (h : ShortSt w0 g n d A (j + 1) r wr) (hn : A.length = n) (hA : Lim A) (hd : 0 < d) (hj : j < n) :
    (∃ c : Nat, wr.cell? ⟨g, j, none⟩ = some (.int .u32 (c : Int))) ∧ wr.frozen? ⟨g, j, none⟩ = false ∧ r < d ∧
      ∀ q : Nat, ShortSt w0 g n d A j ((r * 4294967296 + nth A j) % d) ((wr.drewN q).setCell ⟨g, j, none⟩ (.int .u32 (((r * 4294967296 + nth A j) / d : Nat) : Int))) := by
  obtain ⟨S, h1, h2, h3, h4, h5, h6⟩ := h
  have hr : r < d := by rw [h5]; exact Nat.mod_lt _ hd
  refine ⟨⟨_, h1.cell (by omega)⟩, h1.frozen _, hr, fun q => ?_⟩
  obtain ⟨s1, s2⟩ := short_step (A := A) (j := j) (d := d) (by omega) hd
  have hx := nth_lt hA j
  have hlt : (r * 4294967296 + nth A j) / d < 4294967296 := by
    rw [Nat.div_lt_iff_lt_mul hd]
    have : (r + 1) * 4294967296 ≤ d * 4294967296 := Nat.mul_le_mul_right _ hr
    rw [Nat.mul_comm 4294967296 d]; omega
  rw [← h5] at s1 s2
  refine ⟨S.set j ((r * 4294967296 + nth A j) / d), Own.set (w := wr.drewN q) h1 _, by simpa using h2, h3.set _ _ hlt, ?_, s2.symm, (h6.trans (below_drewN g wr q)).setCell (Nat.le_refl _) _⟩
  rw [val_drop_set _ (by omega), h4, s1]
theorem ShortSt.fin {w0 wr : World} {g n d r : Nat} {A : List Nat} (h : ShortSt w0 g n d A 0 r wr) (hs : n ≤ 35184372088832) :
    ∃ S, SL wr (.slice (some ⟨g, 0, none⟩) n n) S ∧ val S = val A / d ∧ r = val A % d ∧ Below g w0 wr := by
  obtain ⟨S, h1, h2, h3, h4, h5, h6⟩ := h
  exact ⟨S, ⟨_, _, _, rfl, h1.sl h3 h2.symm (Nat.le_refl _) (by omega) (by omega)⟩, by simpa using h4, by simpa using h5, h6⟩

def ShortPost (a d : Nat) (w : World) (e : Ending) (w' : World) : Prop := ∃ u, e = .returned (.tuple #[u, .int .u32 ((a % d : Nat) : Int)]) ∧ RN w' u (a / d) ∧ Below w.heap.size w w'

theorem short_sl (va : Value) (A : List Nat) (d : Nat) (w : World) (hA : SL w va A) (hd : 0 < d) (hd' : d < 4294967296) : Calls Try.prog 45 #[va, .int .u32 d] w (ShortPost (val A) d w) := by
  obtain ⟨ao, n, cap, rfl, hA⟩ := hA
  have hn := hA.small
  have HA := Lib.hid hA
  have hl := Lib.hid hA.len
  clear hA
  generalize hg : w.heap.size = g
  have Hg := Lib.hid hg
  clear hg
  go_enter Try.func45, Try.ntmps45
  go_wp2_with (at_make; refine wpList_mk rfl _ _ rfl _ _ n rfl rfl (by omega) (by omega) (by omega) ?_; rw [Hg.out]; intro w1 hown hb hs')
  have Hst := Lib.hid (ShortSt.start (d := d) hl.out hown hb)
  clear hown hb
  go_loopw [7, 8] (fun x i wr => ∃ k r : Nat, k ≤ n ∧ i = .int .i64 ((k : Int) - 1) ∧ x = .int .u32 r ∧ Hid (ShortSt w g n d A k r wr)) (fun _ i _ => (intOf i + 1).toNat)
  case atStart => exact ⟨n, 0, Nat.le_refl _, rfl, rfl, Hst⟩
  case round =>
    obtain ⟨k, r, hk, hi, rfl, hst⟩ := hrel
    clear Hst
    cases k with
    | zero =>
      obtain rfl := hi
      obtain ⟨S, hS, hv, hr, hbe⟩ := hst.out.fin hn
      have HV := Lib.hid hv
      have HR := Lib.hid hr
      clear hv hr
      go_wp2_with (go_at_call 39; refine (trim_any _ S _ hS).mono ?_; rintro e w' ⟨u, rfl, hu, ht, rfl⟩)
      go_ret2
      have hr := RN.of_sl hu
      rw [HV.out] at hr
      exact ⟨u, by rw [← HR.out]; rfl, hr, by rw [Hg.out]; exact hbe⟩
    | succ j =>
      have hi' := hi.trans (show _ = Value.int .i64 (j : Int) by congr 1; omega)
      clear hi
      obtain rfl := hi'
      have SA := Lib.hid (HA.out.mono hst.out.below (by rw [Hg.out]; exact Nat.le_refl _))
      have ia := SA.out.ix (show j < n by omega)
      have ca := SA.out.cell j (by omega)
      have na := nth_lt HA.out.lim j
      obtain ⟨⟨c, hc1⟩, hc2, hrd, hnext⟩ := hst.out.next hl.out HA.out.lim hd (by omega)
      have HN := Lib.hid hnext
      clear hnext
      go_wp2_with (go_at_call 52; refine (div32_any r (nth A j) d _ hrd hd' na).mono ?_; rintro e w2 ⟨rfl, q, rfl⟩)
      go_roundw
      case rel => exact ⟨j, (r * 4294967296 + nth A j) % d, by omega, rfl, by go_num, HN.out _⟩
      case measure => simp [intOf]

theorem val_lo2 {A : List Nat} {j : Nat} (h : A.length = j + 2) : (nth A (j + 1) * 4294967296 + nth A j) * B j ≤ val A := by
  have h1 := val_take_succ (L := A) (k := j + 1) (by omega)
  have h2 := val_take_succ (L := A) (k := j) (by omega)
  rw [show j + 1 + 1 = A.length by omega, List.take_length, h2, B_succ] at h1
  rw [Nat.add_mul]
  have e : 4294967296 * B j * nth A (j + 1) = nth A (j + 1) * 4294967296 * B j := by
    rw [Nat.mul_comm (4294967296 * B j), Nat.mul_assoc]
  have e2 : B j * nth A j = nth A j * B j := Nat.mul_comm _ _
  omega
/-- a guess of a quotient's limb is not too great -/
theorem guess_le {R C t y g jb k jr r c : Nat} (hb : c < y * B jb) (hr : t * B jr ≤ r) (hg : g * y ≤ t) (hj : jb + k = jr) (_e : R = r) (_e' : C = c) : g * B k * c ≤ r := by
  have h1 : g * B k * c ≤ g * B k * (y * B jb) := Nat.mul_le_mul_left _ (Nat.le_of_lt hb)
  have h2 : g * B k * (y * B jb) = g * y * B jr := by
    rw [← hj, B_add]
    generalize B jb = p; generalize B k = q
    clear h1 hb hr hg hj _e _e'
    grind
  have h3 : g * y * B jr ≤ t * B jr := Nat.mul_le_mul_right _ hg
  omega

def GuessPost (r c : Nat) (w : World) (e : Ending) (w' : World) : Prop :=
  ∃ g k : Nat, e = .returned (.tuple #[.int .u64 (g : Int), .int .i64 (k : Int)]) ∧ 1 ≤ g ∧ g < 4294967296 ∧ g * B k * c ≤ r ∧ ∃ n, w' = w.drewN n
theorem GuessPost.mk {r c : Nat} {w : World} {n g k : Nat} {z z' : Int} (hz : z = (g : Int)) (hz' : z' = (k : Int)) (h1 : 1 ≤ g) (h2 : g < 4294967296) (h3 : g * B k * c ≤ r) : GuessPost r c w (.returned (.tuple #[.int .u64 z, .int .i64 z'])) (w.drewN n) := by
  subst hz; subst hz'
  exact ⟨g, k, rfl, h1, h2, h3, n, rfl⟩

theorem guess_sl (va vc : Value) (A C : List Nat) (w : World) (hA : SL w va A) (hC : SL w vc C) (tA : Top A) (tC : Top C) (hC0 : C ≠ []) (hle : val C ≤ val A) : Calls Try.prog 48 #[va, vc] w (GuessPost (val A) (val C) w) := by
  have hll := len_le_of_val_le (by obtain ⟨_, _, _, _, h⟩ := hA; exact h.lim) tC hle
  obtain ⟨ao, n, cap, rfl, hA⟩ := hA
  obtain ⟨co, m, cap', rfl, hC⟩ := hC
  have hn := hA.small
  rw [hA.len, hC.len] at hll
  have hm0 : m ≠ 0 := by intro e; exact hC0 (List.eq_nil_of_length_eq_zero (by rw [hC.len, e]))
  obtain ⟨j, rfl⟩ : ∃ j, m = j + 1 := ⟨m - 1, by omega⟩
  obtain ⟨i, rfl⟩ : ∃ i, n = i + 1 := ⟨n - 1, by omega⟩
  have HA := Lib.hid hA
  have HC := Lib.hid hC
  have tA0 : nth A i ≠ 0 := by
    have := tA.resolve_left (by intro e; have := hA.len; rw [e] at this; simp at this)
    rw [hA.len] at this; simpa using this
  have ia := HA.out.ix (show i < i + 1 by omega)
  have ca := HA.out.cell i (by omega)
  have na := nth_lt hA.lim i
  have ic := HC.out.ix (show j < j + 1 by omega)
  have cc := HC.out.cell j (by omega)
  have nc := nth_lt hC.lim j
  have Hlo := Lib.hid (val_lo hA.len)
  have Hhi := Lib.hid (val_hi hC.lim hC.len)
  have Hle := Lib.hid hle
  have ht0 : 0 < nth A i := by omega
  clear hA hC hC0 hle tA tC hm0 tA0
  have hy0 : (((nth C j : Int) + 1) == 0) = false := by simp; omega
  by_cases c1 : nth C j + 1 ≤ nth A i
  · obtain ⟨q, hq⟩ : ∃ q, q = nth A i / (nth C j + 1) := ⟨_, rfl⟩
    have hqm : q * (nth C j + 1) ≤ nth A i := by rw [hq]; exact Nat.div_mul_le_self _ _
    have hq1 : 1 ≤ q := by rw [hq]; exact (Nat.le_div_iff_mul_le (by omega)).2 (by omega)
    have hq2 : q ≤ nth A i := by rw [hq]; exact Nat.div_le_self _ _
    have hcast : (nth A i : Int) / ((nth C j : Int) + 1) = (q : Int) := by rw [hq, Int.natCast_ediv, Int.natCast_add]; rfl
    have HQM := Lib.hid hqm
    clear hq hqm
    go_enter Try.func48, Try.ntmps48
    go_wp2
    go_quiet (fail)
    go_wp2
    go_ret2
    exact GuessPost.mk rfl (k := i - j) (by omega) hq1 (by omega) (guess_le Hhi.out Hlo.out HQM.out (by omega) rfl rfl)
  · by_cases c2 : j < i
    · obtain ⟨i, rfl⟩ : ∃ i', i = i' + 1 := ⟨i - 1, by omega⟩
      rw [addr_succ] at ca
      simp only [Int.natCast_add, Int.natCast_one] at ia
      have ib := HA.out.ix (show i < i + 1 + 1 by omega)
      rw [show ((i : Nat) : Int) = (i : Int) + 1 + 1 - 2 from by omega] at ib
      have cb := HA.out.cell i (by omega)
      have nb := nth_lt HA.out.lim i
      have Hlo2 := Lib.hid (val_lo2 HA.out.len)
      obtain ⟨q, hq⟩ : ∃ q, q = (nth A (i + 1) * 4294967296 + nth A i) / (nth C j + 1) := ⟨_, rfl⟩
      have hqm : q * (nth C j + 1) ≤ nth A (i + 1) * 4294967296 + nth A i := by rw [hq]; exact Nat.div_mul_le_self _ _
      have hq1 : 1 ≤ q := by rw [hq]; exact (Nat.le_div_iff_mul_le (by omega)).2 (by omega)
      have hq2 : q < 18446744073709551616 := by rw [hq]; exact Nat.lt_of_le_of_lt (Nat.div_le_self _ _) (by omega)
      have hcast : ((nth A (i + 1) : Int) * 4294967296 + (nth A i : Int)) / ((nth C j : Int) + 1) = (q : Int) := by
        rw [hq, Int.natCast_ediv, Int.natCast_add, Int.natCast_add, Int.natCast_mul]; rfl
      have HQM := Lib.hid hqm
      clear hq hqm
      by_cases c3 : q < 4294967295
      · go_enter Try.func48, Try.ntmps48
        go_wp2
        go_quiet (fail)
        go_wp2
        go_ret2
        exact GuessPost.mk (g := q) rfl (k := i - j) (by omega) hq1 (by omega) (guess_le Hhi.out Hlo2.out HQM.out (by omega) rfl rfl)
      · have c4 : 4294967295 ≤ q := by omega
        clear c3
        go_enter Try.func48, Try.ntmps48
        go_wp2
        go_quiet (fail)
        go_wp2
        all_goals go_ret2
        all_goals
          refine GuessPost.mk (g := 4294967295) (by omega) (k := i - j) (by omega) (by omega) (by omega) (guess_le Hhi.out Hlo2.out ?_ (by omega) rfl rfl)
          have h1 : 4294967295 * (nth C j + 1) ≤ q * (nth C j + 1) := Nat.mul_le_mul_right _ (by omega)
          have := HQM.out
          omega
    · go_enter Try.func48, Try.ntmps48
      go_wp2
      go_quiet (fail)
      go_wp2
      go_ret2
      exact GuessPost.mk (g := 1) (k := 0) rfl rfl (by omega) (by omega) (by rw [B_zero]; have := Hle.out; omega)
#print axioms guess_sl
end Go.Proofs.Ytdmolcopnehkbaa
