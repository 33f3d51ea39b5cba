/-
  Walks: Shl, Shr of the program.
-/
import Derived.Test.YtdmolcopnehkbaaW6
import Derived.Test.YtdmolcopnehkbaaShift
set_option autoImplicit false
namespace Go.Proofs.Ytdmolcopnehkbaa
open Go.RowKit

def shlN (a : Nat) (n : Int) : Nat := if 0 ≤ n ∧ n ≤ 100000 then a * 2 ^ n.toNat else 0
def shrN (a : Nat) (n : Int) : Nat := if 0 ≤ n ∧ n ≤ 100000 then a / 2 ^ n.toNat else 0
/-- a number in new memory, without spare room -/
def RNtight (n : Nat) (w : World) (e : Ending) (w' : World) : Prop := ∃ u, e = .returned u ∧ RN w' u n ∧ Tight u ∧ Below w.heap.size w w'
theorem RNtight.nil {n : Nat} (w : World) (h : n = 0) : RNtight n w (.returned (.slice none 0 0)) w := by
  subst h
  exact ⟨_, rfl, RN.nil w, ⟨_, _, rfl⟩, Below.refl _ _⟩

def ShlSt (w0 : World) (g n q p : Nat) (A : List Nat) (i : Nat) (wr : World) : Prop :=
  ∃ S, Own wr g S ∧ S.length = q + n + 1 ∧ Lim S ∧ val (S.take (q + i + 1)) = B q * p * val (A.take i) ∧ nth S (q + i) < p ∧ Below g w0 wr
theorem ShlSt.start {w0 w1 : World} {g n q p s : Nat} {A : List Nat} (hp : Pw p s) (h : Own w1 g (List.replicate (q + n + 1) 0)) (hb : Below g w0 w1) : ShlSt w0 g n q p A 0 w1 :=
  ⟨_, h, by simp, Lim.replicate _, by simp [val, List.take_replicate, val_replicate], by rw [nth_replicate]; exact hp.pos, hb⟩
theorem ShlSt.next {w0 wr : World} {g n q p s i : Nat} {A : List Nat} (h : ShlSt w0 g n q p A i wr) (hp : Pw p s) (hA : Lim A) (hi : i < n) :
    ∃ c : Nat, wr.cell? ⟨g, q + i, none⟩ = some (.int .u32 (c : Int)) ∧ wr.frozen? ⟨g, q + i, none⟩ = false ∧ c < p ∧
      (∃ c' : Nat, wr.cell? ⟨g, q + i + 1, none⟩ = some (.int .u32 (c' : Int))) ∧ wr.frozen? ⟨g, q + i + 1, none⟩ = false ∧
      ∀ z z' : Int, z = ((c + (nth A i * p) % 4294967296 : Nat) : Int) → z' = ((nth A i * p / 4294967296 : Nat) : Int) →
        ShlSt w0 g n q p A (i + 1) ((wr.setCell ⟨g, q + i, none⟩ (.int .u32 z)).setCell ⟨g, q + i + 1, none⟩ (.int .u32 z')) := by
  obtain ⟨S, h1, h2, h3, h4, h5, h6⟩ := h
  have hx := nth_lt hA i
  refine ⟨nth S (q + i), h1.cell (by omega), h1.frozen _, h5, ⟨_, h1.cell (by omega)⟩, h1.frozen _, ?_⟩
  · rintro z z' rfl rfl
    refine ⟨(S.set (q + i) (nth S (q + i) + (nth A i * p) % 4294967296)).set (q + i + 1) (nth A i * p / 4294967296), (h1.set _).set _, by simpa using h2, (h3.set _ _ (hp.room _ _ h5)).set _ _ (Nat.lt_of_lt_of_le (hp.hi _ hx) (by have := hp.le; omega)), ?_, ?_, (h6.setCell (Nat.le_refl _) _).setCell (Nat.le_refl _) _⟩
    · have := shl_step (A := A) (S := S) (q := q) (i := i) (p := p) (by omega) h4
      rw [show q + (i + 1) + 1 = q + i + 1 + 1 by omega]; exact this
    · rw [show q + (i + 1) = q + i + 1 by omega, nth_set_eq _ (by simp; omega)]
      exact hp.hi _ hx
theorem ShlSt.below {w0 wr : World} {g n q p i : Nat} {A : List Nat} (h : ShlSt w0 g n q p A i wr) : Below g w0 wr := by
  obtain ⟨S, h1, h2, h3, h4, h5, h6⟩ := h; exact h6
theorem ShlSt.fin {w0 wr : World} {g n q p : Nat} {A : List Nat} (h : ShlSt w0 g n q p A n wr) (hA : A.length = n) (hn : q + n + 1 ≤ 35184372088832) :
    ∃ S, SL wr (.slice (some ⟨g, 0, none⟩) (q + n + 1) (q + n + 1)) S ∧ val S = B q * p * val A ∧ Below g w0 wr := by
  obtain ⟨S, h1, h2, h3, h4, h5, h6⟩ := h
  refine ⟨S, ⟨_, _, _, rfl, h1.sl h3 h2.symm (Nat.le_refl _) (by omega) (by omega)⟩, ?_, h6⟩
  rw [val_take_all (by omega), val_take_all (by omega)] at h4
  exact h4

theorem or_join {p s : Nat} (hp : Pw p s) (x c : Nat) (hc : c < p) : bits .or .u32 (c : Int) ((x : Int) * p % 4294967296) = ((c + (x * p) % 4294967296 : Nat) : Int) := by
  have e : ((x : Int) * p % 4294967296) = (((x * p) % 4294967296 : Nat) : Int) := by rw [Int.natCast_emod, Int.natCast_mul]; rfl
  have hl := hp.le
  rw [e, u32_or_nat _ _ (by omega) (Nat.mod_lt _ (by decide)), hp.join _ _ hc]

theorem shl_rn (va : Value) (a : Nat) (n : Int) (w : World) (hA : RN w va a) (k : Nat) (hk : a < B k) (hk' : k ≤ 8796093022208) :
    Calls Try.prog 24 #[va, .int .i64 n] w (RNtight (shlN a n) w) := by
  obtain ⟨A, ⟨ao, l, cap, rfl, hA⟩, tA, rfl⟩ := hA
  by_cases hmay : 0 ≤ n ∧ n ≤ 100000
  · obtain ⟨N, rfl⟩ : ∃ N : Nat, n = N := ⟨n.toNat, by omega⟩
    have hN : N ≤ 100000 := by omega
    cases l with
    | zero =>
      have hv : shlN (val A) N = 0 := by
        have : A = [] := List.eq_nil_of_length_eq_zero hA.len
        subst this
        unfold shlN; split <;> simp [val]
      rw [hv]
      clear hmay hv
      go_enter Try.func24, Try.ntmps24
      go_wp2_with (go_at_call 49; refine (may_int _ _).mono ?_; rw [decide_eq_true (show (0 : Int) ≤ N ∧ (N : Int) ≤ 100000 from by omega)]; rintro e w' ⟨rfl, rfl⟩)
      go_ret
      exact RNtight.nil _ rfl
    | succ j =>
      have hl : j + 1 ≤ 8796093022208 := by
        have h1 := le_val_of_top tA (by intro e; have := hA.len; rw [e] at this; simp at this)
        rw [hA.len] at h1
        have h2 : ¬ k ≤ j := fun h => by have := B_mono h; simp at h1; omega
        omega
      obtain ⟨q, hq⟩ : ∃ q, q = N / 32 := ⟨_, rfl⟩
      obtain ⟨s, hs⟩ : ∃ s, s = N % 32 := ⟨_, rfl⟩
      have hp : Pw (2 ^ s) s := ⟨rfl, by omega⟩
      have hv : Hid (shlN (val A) N = B q * 2 ^ s * val A) := by
        show shlN (val A) N = _
        unfold shlN
        rw [if_pos hmay, Int.toNat_natCast, two_split N q s (by omega), Nat.mul_comm]
      have hq1 : (N : Int) / 32 = (q : Int) := by omega
      have hs1 : (N : Int) % 32 = (s : Int) := by omega
      have hsl : s < 32 := by omega
      have hql : q ≤ 3125 := by omega
      have hn0 : (((j : Int) + 1) == 0) = false := by simp; omega
      have HA := Lib.hid hA
      have TA := Lib.hid tA
      have hmy := Lib.hid (decide_eq_true hmay)
      clear hA tA hmay hq hs hk
      generalize hpp : 2 ^ s = p at *
      have HP := Lib.hid hp
      have hpe : (2 : Int) ^ s = (p : Int) := by rw [← hpp]; rw [Int.natCast_pow]; rfl
      clear hpp hp
      generalize hg : w.heap.size = g
      have Hg := Lib.hid hg
      clear hg
      go_enter Try.func24, Try.ntmps24
      go_wp2_with (first | (go_at_call 49; refine (may_int _ _).mono ?_; rw [hmy.out]; rintro e w' ⟨rfl, rfl⟩) | (at_make; refine wpList_mk rfl _ _ rfl _ _ (q + (j + 1) + 1) rfl rfl (by omega) (by omega) (by omega) ?_; rw [Hg.out]; intro w1 hown hb hs'))
      have Hst := Lib.hid (ShlSt.start (A := A) HP.out hown hb)
      clear hown hb
      go_loopw [31] (fun i wr => ∃ k : Nat, k ≤ j + 1 ∧ i = .int .i64 k ∧ Hid (ShlSt w g (j + 1) q p A k wr)) (fun i _ => j + 1 - (intOf i).toNat)
      case atStart => exact ⟨0, Nat.zero_le _, rfl, Hst⟩
      case round =>
        obtain ⟨i, hi, rfl, hst⟩ := hrel
        clear Hst
        by_cases hij : i < j + 1
        · have SA := Lib.hid (HA.out.mono hst.out.below (by rw [Hg.out]; exact Nat.le_refl _))
          have ia := SA.out.ix hij
          have ca := SA.out.cell i hij
          have na := nth_lt HA.out.lim i
          obtain ⟨c, hc1, hc2, hc3, ⟨c', hc4⟩, hc5, hnext⟩ := hst.out.next HP.out HA.out.lim hij
          have HN := Lib.hid hnext
          have hml := HP.out.mul_lt (nth A i) na
          have hor := or_join HP.out (nth A i) c hc3
          have hhi := HP.out.hi (nth A i) na
          have hpl := HP.out.le
          have hroom := HP.out.room (nth A i) c hc3
          clear hnext hc3
          go_wp2
          go_roundw
          case rel =>
            refine ⟨i + 1, by omega, by go_num, HN.out _ _ ?_ ?_⟩
            · rw [Int.natCast_add, Int.natCast_emod, Int.natCast_mul]; rfl
            · rw [Int.natCast_ediv, Int.natCast_mul]; rfl
          case measure => simp [intOf]; omega
        · have e : i = j + 1 := by omega
          subst e
          obtain ⟨S, hS, hvS, hbe⟩ := hst.out.fin HA.out.len (by omega)
          have HV := Lib.hid hvS
          clear hvS
          go_wp2_with (go_at_call 39; refine (trim_any _ S _ hS).mono ?_; rintro e w' ⟨u, rfl, hu, ht, rfl⟩)
          go_ret
          have hr := RN.of_sl hu
          rw [HV.out, ← hv.out] at hr
          exact ⟨_, rfl, hr, ht, by rw [Hg.out]; exact hbe⟩
  · have hv : shlN (val A) n = 0 := by unfold shlN; rw [if_neg hmay]
    rw [hv]
    have hd := Lib.hid (decide_eq_false hmay)
    clear hmay hv
    go_enter Try.func24, Try.ntmps24
    go_wp2_with (go_at_call 49; refine (may_int _ _).mono ?_; rw [hd.out]; rintro e w' ⟨rfl, rfl⟩)
    go_ret
    exact RNtight.nil _ rfl

def ShrSt (w0 : World) (g p : Nat) (D : List Nat) (i : Nat) (wr : World) : Prop :=
  ∃ S, Own wr g S ∧ S.length = D.length ∧ Lim S ∧ val (S.take i) = val D / p % B i ∧ Below g w0 wr
theorem ShrSt.start {w0 w1 : World} {g p m : Nat} {D : List Nat} (hm : m = D.length) (h : Own w1 g (List.replicate m 0)) (hb : Below g w0 w1) : ShrSt w0 g p D 0 w1 := by
  subst hm
  exact ⟨_, h, by simp, Lim.replicate _, by simp [val, B_zero, Nat.mod_one], hb⟩
theorem ShrSt.next {w0 wr : World} {g p s i : Nat} {D : List Nat} (h : ShrSt w0 g p D i wr) (hp : Pw p s) (hD : Lim D) (hi : i < D.length) :
    (∃ c : Nat, wr.cell? ⟨g, i, none⟩ = some (.int .u32 (c : Int))) ∧ wr.frozen? ⟨g, i, none⟩ = false ∧
      ∀ z : Int, z = (((nth D i + nth D (i + 1) * 4294967296) / p % 4294967296 : Nat) : Int) → ShrSt w0 g p D (i + 1) (wr.setCell ⟨g, i, none⟩ (.int .u32 z)) := by
  obtain ⟨S, h1, h2, h3, h4, h5⟩ := h
  refine ⟨⟨_, h1.cell (by omega)⟩, h1.frozen _, ?_⟩
  rintro z rfl
  exact ⟨S.set i _, h1.set _, by simpa using h2, h3.set _ _ (Nat.mod_lt _ (by decide)), shr_step hp hD hi (by omega) h4, h5.setCell (Nat.le_refl _) _⟩
theorem ShrSt.below {w0 wr : World} {g p i : Nat} {D : List Nat} (h : ShrSt w0 g p D i wr) : Below g w0 wr := by
  obtain ⟨S, h1, h2, h3, h4, h5⟩ := h; exact h5
theorem ShrSt.fin {w0 wr : World} {g p m : Nat} {D : List Nat} (h : ShrSt w0 g p D m wr) (hD : Lim D) (hm : m = D.length) (hn : m ≤ 35184372088832) :
    ∃ S, SL wr (.slice (some ⟨g, 0, none⟩) m m) S ∧ val S = val D / p ∧ Below g w0 wr := by
  subst hm
  obtain ⟨S, h1, h2, h3, h4, h5⟩ := h
  refine ⟨S, ⟨_, _, _, rfl, h1.sl h3 h2.symm (Nat.le_refl _) (by omega) (by omega)⟩, ?_, h5⟩
  rw [val_take_all (by omega)] at h4
  rw [h4]
  exact Nat.mod_eq_of_lt (Nat.lt_of_le_of_lt (Nat.div_le_self _ _) (val_lt hD))

theorem or_up (x y : Nat) (hx : x < 4294967296) (hy : y < 4294967296) : bits .or .u64 (x : Int) ((y : Int) * 4294967296) = (x : Int) + (y : Int) * 4294967296 := by
  have e : ((y : Int) * 4294967296) = ((y * 4294967296 : Nat) : Int) := by omega
  rw [e, u64_or_nat _ _ (by omega) (by omega), Nat.or_comm, nat_join 32 _ _ (by omega) (by omega)]
  omega
theorem shr_cast (x y p : Nat) : ((x : Int) + (y : Int) * 4294967296) / p % 4294967296 = (((x + y * 4294967296) / p % 4294967296 : Nat) : Int) := by
  rw [Int.natCast_emod, Int.natCast_ediv, Int.natCast_add, Int.natCast_mul]; rfl
theorem shr_cast0 (x p : Nat) : ((x : Int)) / p % 4294967296 = (((x + 0 * 4294967296) / p % 4294967296 : Nat) : Int) := by
  rw [Int.natCast_emod, Int.natCast_ediv, Int.natCast_add, Int.natCast_mul]; simp

theorem addr_succ (a : Addr) (n : Nat) : a.add (n + 1) = ⟨a.block, a.off + (n + 1), none⟩ := by simp [Addr.add]

theorem shr_sl (va : Value) (A : List Nat) (n : Int) (w : World) (hA : SL w va A) : Calls Try.prog 26 #[va, .int .i64 n] w (RNtight (shrN (val A) n) w) := by
  obtain ⟨ao, l, cap, rfl, hA⟩ := hA
  have hsm := hA.small
  by_cases hmay : 0 ≤ n ∧ n ≤ 100000
  · obtain ⟨N, rfl⟩ : ∃ N : Nat, n = N := ⟨n.toNat, by omega⟩
    have hN : N ≤ 100000 := by omega
    obtain ⟨q, hq⟩ : ∃ q, q = N / 32 := ⟨_, rfl⟩
    obtain ⟨s, hs⟩ : ∃ s, s = N % 32 := ⟨_, rfl⟩
    have hp : Pw (2 ^ s) s := ⟨rfl, by omega⟩
    have hv : Hid (shrN (val A) N = val A / B q / 2 ^ s) := by
      show shrN (val A) N = _
      unfold shrN
      rw [if_pos hmay, Int.toNat_natCast, two_split N q s (by omega), Nat.div_div_eq_div_mul]
    have hq1 : (N : Int) / 32 = (q : Int) := by omega
    have hs1 : (N : Int) % 32 = (s : Int) := by omega
    have hsl : s < 32 := by omega
    have hql : q ≤ 3125 := by omega
    have HA := Lib.hid hA
    have hmy := Lib.hid (decide_eq_true hmay)
    have hlen := Lib.hid hA.len
    clear hA hmay hq hs
    generalize hpp : 2 ^ s = p at *
    have HP := Lib.hid hp
    have hpe : (2 : Int) ^ s = (p : Int) := by rw [← hpp]; rw [Int.natCast_pow]; rfl
    have hp0 := hp.pos
    clear hpp hp
    by_cases hqn : l ≤ q
    · have hz : shrN (val A) N = 0 := by
        rw [hv.out, Nat.div_eq_of_lt (Nat.lt_of_lt_of_le (val_lt HA.out.lim) (B_mono (by rw [hlen.out]; exact hqn))), Nat.zero_div]
      rw [hz]
      clear hz hv
      go_enter Try.func26, Try.ntmps26
      go_wp2_with (go_at_call 49; refine (may_int _ _).mono ?_; rw [hmy.out]; rintro e w' ⟨rfl, rfl⟩)
      go_ret
      exact RNtight.nil _ rfl
    · obtain ⟨m, hm⟩ : ∃ m, l = q + m := ⟨l - q, by omega⟩
      have hm0 : 0 < m := by omega
      subst hm
      have HD : Hid (m = (A.drop q).length) := by show m = _; rw [List.length_drop, hlen.out]; omega
      have LD := Lib.hid (HA.out.lim.drop q)
      generalize hg : w.heap.size = g
      have Hg := Lib.hid hg
      clear hg
      go_enter Try.func26, Try.ntmps26
      go_wp2_with (first | (go_at_call 49; refine (may_int _ _).mono ?_; rw [hmy.out]; rintro e w' ⟨rfl, rfl⟩) | (at_make; refine wpList_mk rfl _ _ rfl _ _ m rfl rfl (by omega) (by omega) (by omega) ?_; rw [Hg.out]; intro w1 hown hb hs'))
      have Hst := Lib.hid (ShrSt.start (D := A.drop q) (p := p) HD.out hown hb)
      clear hown hb
      go_loopw [30] (fun i wr => ∃ k : Nat, k ≤ m ∧ i = .int .i64 k ∧ Hid (ShrSt w g p (A.drop q) k wr)) (fun i _ => m - (intOf i).toNat)
      case atStart => exact ⟨0, Nat.zero_le _, rfl, Hst⟩
      case round =>
        obtain ⟨i, hi, rfl, hst⟩ := hrel
        clear Hst
        by_cases him : i < m
        · have SA := Lib.hid (HA.out.mono hst.out.below (by rw [Hg.out]; exact Nat.le_refl _))
          have ia := SA.out.ix (show q + i < q + m by omega)
          rw [Int.natCast_add] at ia
          have ca := SA.out.cell (q + i) (by omega)
          have na := nth_lt HA.out.lim (q + i)
          obtain ⟨⟨c, hc1⟩, hc2, hnext⟩ := hst.out.next HP.out LD.out (by rw [← HD.out]; exact him)
          rw [nth_drop, nth_drop] at hnext
          have HN := Lib.hid hnext
          clear hnext
          by_cases hlast : q + i + 1 < q + m
          · have ib := SA.out.ix hlast
            rw [Int.natCast_add, Int.natCast_add, Int.natCast_one] at ib
            have cb := SA.out.cell (q + i + 1) hlast
            rw [addr_succ] at cb
            have nb := nth_lt HA.out.lim (q + i + 1)
            have hor := or_up (nth A (q + i)) (nth A (q + i + 1)) na nb
            have hll := shr_lt (nth A (q + i)) (nth A (q + i + 1)) p s HP.out na nb
            go_wp2
            go_roundw
            case rel => exact ⟨i + 1, by omega, by go_num, HN.out _ (shr_cast _ _ _)⟩
            case measure => simp [intOf]; omega
          · have hz : nth A (q + (i + 1)) = 0 := nth_ge (by rw [hlen.out]; omega)
            have HZ := Lib.hid hz
            clear hz
            have hx : (nth A (q + i)) / p ≤ nth A (q + i) := Nat.div_le_self _ _
            have hd : decide (q + i + 1 < q + m) = false := by simp; omega
            go_wp2
            go_roundw
            case rel => exact ⟨i + 1, by omega, by go_num, HN.out _ (by rw [HZ.out]; exact shr_cast0 _ _)⟩
            case measure => simp [intOf]; omega
        · have e : i = m := by omega
          subst e
          obtain ⟨S, hS, hvS, hbe⟩ := hst.out.fin LD.out HD.out (by omega)
          have HV := Lib.hid hvS
          clear hvS
          go_wp2_with (go_at_call 39; refine (trim_any _ S _ hS).mono ?_; rintro e w' ⟨u, rfl, hu, ht, rfl⟩)
          go_ret
          have hr := RN.of_sl hu
          rw [HV.out, ← val_div_B HA.out.lim (by rw [hlen.out]; omega), ← hv.out] at hr
          exact ⟨_, rfl, hr, ht, by rw [Hg.out]; exact hbe⟩
  · have hv : shrN (val A) n = 0 := by unfold shrN; rw [if_neg hmay]
    rw [hv]
    have hd := Lib.hid (decide_eq_false hmay)
    clear hmay hv
    go_enter Try.func26, Try.ntmps26
    go_wp2_with (go_at_call 49; refine (may_int _ _).mono ?_; rw [hd.out]; rintro e w' ⟨rfl, rfl⟩)
    go_ret
    exact RNtight.nil _ rfl
#print axioms shr_sl
end Go.Proofs.Ytdmolcopnehkbaa
