/-
  Walks: Right, Right of the reference, at, may, Cmp, Cmp of the reference, Same.
-/
import Derived.Test.YtdmolcopnehkbaaBits
set_option autoImplicit false
namespace Go.Proofs.Ytdmolcopnehkbaa
open Go.RowKit

/-- a limb that is read -/
theorem SlOk.ix {w : World} {ao : Option Addr} {n cap : Nat} {L : List Nat} (h : SlOk w ao n cap L) {k : Nat} (hk : k < n) :
    ∀ w1 : World, (Instr.indexAt 22 (.slice ao n cap) (.int .i64 (k : Int))).run Try.prog w1 = .ok (.pointer (some ((adr ao).add k))) w1 :=
  fun w1 => run_ix w1 hk h.nil'

/-- how two lists of limbs compare, from the place k down -/
def cmpAt (A C : List Nat) : Nat → Int
  | 0 => 0
  | i + 1 => if nth A i < nth C i then -1 else if nth C i < nth A i then 1 else cmpAt A C i
def cmpL (A C : List Nat) : Int := if A.length < C.length then -1 else if C.length < A.length then 1 else cmpAt A C A.length
/-- how two numbers compare -/
def cmpN (a c : Nat) : Int := if a < c then -1 else if c < a then 1 else 0

theorem cmpAt_spec (A C : List Nat) (hA : Lim A) (hC : Lim C) (hl : A.length = C.length) (k : Nat) (hk : k ≤ A.length) (heq : ∀ j, k ≤ j → nth A j = nth C j) : cmpAt A C k = cmpN (val A) (val C) := by
  induction k with
  | zero =>
    have e : A = C := eq_of_nth_eq hl (fun j => heq j (Nat.zero_le _))
    subst e
    simp [cmpAt, cmpN]
  | succ i ih =>
    simp only [cmpAt]
    split
    · rename_i h
      have := lt_of_nth_lt hA (n := A.length) rfl hl.symm (show i < A.length by omega) h (fun j hj => heq j hj)
      simp [cmpN, this]
    · split
      · rename_i h1 h
        have := lt_of_nth_lt hC (n := A.length) hl.symm rfl (show i < A.length by omega) h (fun j hj => (heq j hj).symm)
        simp [cmpN, this]; omega
      · rename_i h1 h2
        refine ih (by omega) (fun j hj => ?_)
        by_cases e : j = i
        · subst e; omega
        · exact heq j (by omega)
theorem cmpL_spec {A C : List Nat} (hA : Lim A) (tA : Top A) (hC : Lim C) (tC : Top C) : cmpL A C = cmpN (val A) (val C) := by
  unfold cmpL
  split
  · rename_i h
    have := lt_of_length_lt hA tC h
    simp [cmpN, this]
  · split
    · rename_i h1 h
      have := lt_of_length_lt hC tA h
      simp [cmpN, this]; omega
    · exact cmpAt_spec A C hA hC (by omega) _ (Nat.le_refl _) (fun j hj => by rw [nth_ge (by omega), nth_ge (by omega)])

/-- what a call that only reads hands back -/
def Reads (v : Value) (w : World) (e : Ending) (w' : World) : Prop := e = .returned v ∧ ∃ n, w' = w.drewN n

theorem cmp_sl (va vc : Value) (A C : List Nat) (w : World) (hA : SL w va A) (hC : SL w vc C) : Calls Try.prog 18 #[va, vc] w (Reads (.int .i64 (cmpL A C)) w) := by
  obtain ⟨ao, n, cap, rfl, hA⟩ := hA
  obtain ⟨co, m, cap', rfl, hC⟩ := hC
  have hn := hA.small
  have hm := hC.small
  have HA := Lib.hid hA
  have HC := Lib.hid hC
  have lA := Lib.hid hA.len
  have lC := Lib.hid hC.len
  clear hA hC
  rcases Nat.lt_trichotomy n m with hlt | heq | hgt
  · have h1 : ((n : Int) != (m : Int)) = true := by simp; omega
    have hres : Hid (cmpL A C = -1) := by unfold cmpL; rw [lA.out, lC.out, if_pos hlt]; rfl
    go_enter Try.func18, Try.ntmps18
    go_wp2
    go_ret
    exact ⟨by rw [hres.out]; rfl, 0, rfl⟩
  · subst heq
    have hres : Hid (cmpL A C = cmpAt A C n) := by unfold cmpL; rw [lA.out, lC.out, if_neg (by omega), if_neg (by omega)]; rfl
    go_enter Try.func18, Try.ntmps18
    go_wp2
    go_loopw [5] (fun i wr => ∃ k q : Nat, k ≤ n ∧ Hid (cmpAt A C k = cmpAt A C n) ∧ i = .int .i64 ((k : Int) - 1) ∧ wr = w.drewN q) (fun i _ => (intOf i + 1).toNat)
    case atStart => exact ⟨n, 0, Nat.le_refl _, rfl, rfl, rfl⟩
    case round =>
      obtain ⟨k, q, hk, hsl, hi, rfl⟩ := hrel
      cases k with
      | zero =>
        obtain rfl := hi
        go_wp2
        go_ret
        refine ⟨?_, q, rfl⟩
        rw [hres.out, ← hsl.out]; rfl
      | succ j =>
        have hi' := hi.trans (show _ = Value.int .i64 (j : Int) by congr 1; omega)
        clear hi
        obtain rfl := hi'
        have ia := HA.out.ix (show j < n by omega)
        have ic := HC.out.ix (show j < n by omega)
        have ca := HA.out.cell j (by omega)
        have cc := HC.out.cell j (by omega)
        have na := nth_lt HA.out.lim j
        have nc := nth_lt HC.out.lim j
        rcases Nat.lt_trichotomy (nth A j) (nth C j) with h | h | h
        · have hc : Hid (cmpAt A C (j + 1) = -1) := by simp [cmpAt, h, Hid]
          have t1 : decide (nth A j < nth C j) = true := by simp; omega
          go_wp2
          go_quiet (fail)
          go_wp2
          go_ret
          refine ⟨?_, by simp only [World.drewN_drewN]; exact ⟨_, rfl⟩⟩
          rw [hres.out, ← hsl.out, hc.out]; rfl
        · have hc : Hid (cmpAt A C (j + 1) = cmpAt A C j) := by simp [cmpAt, h, Hid]
          have t1 : decide (nth A j < nth C j) = false := by simp; omega
          have t2 : decide (nth C j < nth A j) = false := by simp; omega
          have hs := hsl.out.symm.trans hc.out
          have HH := Lib.hid hs
          clear hs hsl hc h
          go_wp2
          go_quiet (fail)
          go_wp2
          go_quiet (fail)
          go_wp2
          go_roundw
          case rel => exact ⟨j, _, by omega, HH.out.symm, rfl, rfl⟩
          case measure => simp [intOf]
        · have hc : Hid (cmpAt A C (j + 1) = 1) := by simp [cmpAt, h, Hid]; omega
          have t1 : decide (nth A j < nth C j) = false := by simp; omega
          have t2 : decide (nth C j < nth A j) = true := by simp; omega
          go_wp2
          go_quiet (fail)
          go_wp2
          go_quiet (fail)
          go_wp2
          go_ret
          refine ⟨?_, by simp only [World.drewN_drewN]; exact ⟨_, rfl⟩⟩
          rw [hres.out, ← hsl.out, hc.out]; rfl
  · have h1 : ((n : Int) != (m : Int)) = true := by simp; omega
    have hres : Hid (cmpL A C = 1) := by unfold cmpL; rw [lA.out, lC.out, if_neg (by omega), if_pos hgt]; rfl
    go_enter Try.func18, Try.ntmps18
    go_wp2
    go_ret
    exact ⟨by rw [hres.out]; rfl, 0, rfl⟩
theorem rcmp_sl (va vc : Value) (A C : List Nat) (w : World) (hA : SL w va A) (hC : SL w vc C) : Calls Try.prog 19 #[va, vc] w (Reads (.int .i64 (cmpL A C)) w) := by
  obtain ⟨ao, n, cap, rfl, hA⟩ := hA
  obtain ⟨co, m, cap', rfl, hC⟩ := hC
  have hn := hA.small
  have hm := hC.small
  have HA := Lib.hid hA
  have HC := Lib.hid hC
  have lA := Lib.hid hA.len
  have lC := Lib.hid hC.len
  clear hA hC
  rcases Nat.lt_trichotomy n m with hlt | heq | hgt
  · have h1 : ((n : Int) != (m : Int)) = true := by simp; omega
    have hres : Hid (cmpL A C = -1) := by unfold cmpL; rw [lA.out, lC.out, if_pos hlt]; rfl
    go_enter Try.func19, Try.ntmps19
    go_wp2
    go_ret
    exact ⟨by rw [hres.out]; rfl, 0, rfl⟩
  · subst heq
    have hres : Hid (cmpL A C = cmpAt A C n) := by unfold cmpL; rw [lA.out, lC.out, if_neg (by omega), if_neg (by omega)]; rfl
    go_enter Try.func19, Try.ntmps19
    go_wp2
    go_loopw [5] (fun i wr => ∃ k q : Nat, k ≤ n ∧ Hid (cmpAt A C k = cmpAt A C n) ∧ i = .int .i64 ((k : Int) - 1) ∧ wr = w.drewN q) (fun i _ => (intOf i + 1).toNat)
    case atStart => exact ⟨n, 0, Nat.le_refl _, rfl, rfl, rfl⟩
    case round =>
      obtain ⟨k, q, hk, hsl, hi, rfl⟩ := hrel
      cases k with
      | zero =>
        obtain rfl := hi
        go_wp2
        go_ret
        refine ⟨?_, q, rfl⟩
        rw [hres.out, ← hsl.out]; rfl
      | succ j =>
        have hi' := hi.trans (show _ = Value.int .i64 (j : Int) by congr 1; omega)
        clear hi
        obtain rfl := hi'
        have ia := HA.out.ix (show j < n by omega)
        have ic := HC.out.ix (show j < n by omega)
        have ca := HA.out.cell j (by omega)
        have cc := HC.out.cell j (by omega)
        have na := nth_lt HA.out.lim j
        have nc := nth_lt HC.out.lim j
        rcases Nat.lt_trichotomy (nth A j) (nth C j) with h | h | h
        · have hc : Hid (cmpAt A C (j + 1) = -1) := by simp [cmpAt, h, Hid]
          have t1 : decide (nth A j < nth C j) = true := by simp; omega
          go_wp2
          go_quiet (fail)
          go_wp2
          go_ret
          refine ⟨?_, by simp only [World.drewN_drewN]; exact ⟨_, rfl⟩⟩
          rw [hres.out, ← hsl.out, hc.out]; rfl
        · have hc : Hid (cmpAt A C (j + 1) = cmpAt A C j) := by simp [cmpAt, h, Hid]
          have t1 : decide (nth A j < nth C j) = false := by simp; omega
          have t2 : decide (nth C j < nth A j) = false := by simp; omega
          have hs := hsl.out.symm.trans hc.out
          have HH := Lib.hid hs
          clear hs hsl hc h
          go_wp2
          go_quiet (fail)
          go_wp2
          go_quiet (fail)
          go_wp2
          go_roundw
          case rel => exact ⟨j, _, by omega, HH.out.symm, rfl, rfl⟩
          case measure => simp [intOf]
        · have hc : Hid (cmpAt A C (j + 1) = 1) := by simp [cmpAt, h, Hid]; omega
          have t1 : decide (nth A j < nth C j) = false := by simp; omega
          have t2 : decide (nth C j < nth A j) = true := by simp; omega
          go_wp2
          go_quiet (fail)
          go_wp2
          go_quiet (fail)
          go_wp2
          go_ret
          refine ⟨?_, by simp only [World.drewN_drewN]; exact ⟨_, rfl⟩⟩
          rw [hres.out, ← hsl.out, hc.out]; rfl
  · have h1 : ((n : Int) != (m : Int)) = true := by simp; omega
    have hres : Hid (cmpL A C = 1) := by unfold cmpL; rw [lA.out, lC.out, if_neg (by omega), if_pos hgt]; rfl
    go_enter Try.func19, Try.ntmps19
    go_wp2
    go_ret
    exact ⟨by rw [hres.out]; rfl, 0, rfl⟩

theorem below_drewN (b : Nat) (w : World) (n : Nat) : Below b w (w.drewN n) := ⟨rfl, rfl, rfl, Nat.le_refl _, fun _ _ => rfl⟩
theorem SL.drewN {w : World} {v : Value} {L : List Nat} (h : SL w v L) (n : Nat) : SL (w.drewN n) v L := h.mono (below_drewN w.heap.size w n) (Nat.le_refl _)
theorem RN.drewN {w : World} {v : Value} {a : Nat} (h : RN w v a) (n : Nat) : RN (w.drewN n) v a := h.mono (below_drewN w.heap.size w n) (Nat.le_refl _)
theorem Reads.mono {v u : Value} {w : World} {e : Ending} {w' : World} (h : Reads v w e w') (hv : v = u) : Reads u w e w' := hv ▸ h

theorem cmp_rn (va vc : Value) (a c : Nat) (w : World) (hA : RN w va a) (hC : RN w vc c) : Calls Try.prog 18 #[va, vc] w (Reads (.int .i64 (cmpN a c)) w) := by
  obtain ⟨A, hA, tA, rfl⟩ := hA
  obtain ⟨C, hC, tC, rfl⟩ := hC
  have h := cmp_sl va vc A C w hA hC
  obtain ⟨_, _, _, _, hA⟩ := hA
  obtain ⟨_, _, _, _, hC⟩ := hC
  rwa [cmpL_spec hA.lim tA hC.lim tC] at h
theorem rcmp_rn (va vc : Value) (a c : Nat) (w : World) (hA : RN w va a) (hC : RN w vc c) : Calls Try.prog 19 #[va, vc] w (Reads (.int .i64 (cmpN a c)) w) := by
  obtain ⟨A, hA, tA, rfl⟩ := hA
  obtain ⟨C, hC, tC, rfl⟩ := hC
  have h := rcmp_sl va vc A C w hA hC
  obtain ⟨_, _, _, _, hA⟩ := hA
  obtain ⟨_, _, _, _, hC⟩ := hC
  rwa [cmpL_spec hA.lim tA hC.lim tC] at h

theorem ret_bool {a b : Bool} (h : a = b) : Ending.returned (.bool a) = .returned (.bool b) := by rw [h]

theorem right_sl (v : Value) (L : List Nat) (w : World) (h : SL w v L) : Calls Try.prog 36 #[v] w (fun e w' => e = .returned (.bool (topB L)) ∧ w = w') := by
  obtain ⟨ao, n, cap, rfl, h⟩ := h
  have hn := h.small
  have HS := Lib.hid h
  have hl := Lib.hid h.len
  clear h
  cases n with
  | zero =>
    have hres : Hid (topB L = true) := by unfold topB; rw [hl.out]; rfl
    go_enter Try.func36, Try.ntmps36
    go_wp2
    go_ret
    exact ⟨by rw [hres.out]; rfl, rfl⟩
  | succ j =>
    have hix := HS.out.ix (show j < j + 1 by omega)
    have hcell := HS.out.cell j (by omega)
    have hnl := nth_lt HS.out.lim j
    have hres : Hid (topB L = (nth L j != 0)) := by unfold topB; rw [hl.out]; simp [Hid]
    have h0 : (((j : Int) + 1) == 0) = false := by simp; omega
    by_cases hz : nth L j = 0
    · have hz1 : ((nth L j : Int) != 0) = false := by simp [hz]
      have hz' := Lib.hid hz
      clear hz
      go_enter Try.func36, Try.ntmps36
      go_wp2
      go_ret
      exact ⟨by rw [hres.out, hz'.out]; rfl, rfl⟩
    · have hz1 : ((nth L j : Int) != 0) = true := by simp [hz]
      have hz' := Lib.hid hz
      clear hz
      go_enter Try.func36, Try.ntmps36
      go_wp2
      go_ret
      refine ⟨ret_bool ?_, rfl⟩
      rw [hres.out]; have := hz'.out; simp [this]
theorem rright_sl (v : Value) (L : List Nat) (w : World) (h : SL w v L) : Calls Try.prog 30 #[v] w (fun e w' => e = .returned (.bool (topB L)) ∧ w = w') := by
  obtain ⟨ao, n, cap, rfl, h⟩ := h
  have hn := h.small
  have HS := Lib.hid h
  have hl := Lib.hid h.len
  clear h
  cases n with
  | zero =>
    have hres : Hid (topB L = true) := by unfold topB; rw [hl.out]; rfl
    go_enter Try.func30, Try.ntmps30
    go_wp2
    go_ret
    exact ⟨by rw [hres.out]; rfl, rfl⟩
  | succ j =>
    have hix := HS.out.ix (show j < j + 1 by omega)
    have hcell := HS.out.cell j (by omega)
    have hnl := nth_lt HS.out.lim j
    have hres : Hid (topB L = (nth L j != 0)) := by unfold topB; rw [hl.out]; simp [Hid]
    have h0 : (((j : Int) + 1) == 0) = false := by simp; omega
    by_cases hz : nth L j = 0
    · have hz1 : ((nth L j : Int) != 0) = false := by simp [hz]
      have hz' := Lib.hid hz
      clear hz
      go_enter Try.func30, Try.ntmps30
      go_wp2
      go_ret
      exact ⟨by rw [hres.out, hz'.out]; rfl, rfl⟩
    · have hz1 : ((nth L j : Int) != 0) = true := by simp [hz]
      have hz' := Lib.hid hz
      clear hz
      go_enter Try.func30, Try.ntmps30
      go_wp2
      go_ret
      refine ⟨ret_bool ?_, rfl⟩
      rw [hres.out]; have := hz'.out; simp [this]
theorem RN.top_iff {w : World} {v : Value} {L : List Nat} (h : SL w v L) (t : topB L = true) : RN w v (val L) := ⟨L, h, (topB_iff L).1 t, rfl⟩

/-- one limb, 0 behind all -/
theorem at_sl (v : Value) (L : List Nat) (k : Nat) (w : World) (h : SL w v L) (_hk : k ≤ 35184372088832) : Calls Try.prog 40 #[v, .int .i64 k] w (fun e w' => e = .returned (.int .u64 (nth L k : Nat)) ∧ w = w') := by
  obtain ⟨ao, n, cap, rfl, h⟩ := h
  have hn := h.small
  have HS := Lib.hid h
  have hl := Lib.hid h.len
  have hnl := nth_lt h.lim k
  clear h
  by_cases hkn : k < n
  · have hix := HS.out.ix hkn
    have hcell := HS.out.cell k hkn
    go_enter Try.func40, Try.ntmps40
    go_wp2
    go_ret
    exact ⟨rfl, rfl⟩
  · have hz : Hid (nth L k = 0) := nth_ge (by rw [hl.out]; omega)
    go_enter Try.func40, Try.ntmps40
    go_wp2
    go_ret
    exact ⟨by rw [hz.out]; rfl, rfl⟩

theorem may_int (n : Int) (w : World) : Calls Try.prog 49 #[.int .i64 n] w (fun e w' => e = .returned (.bool (decide (0 ≤ n ∧ n ≤ 100000))) ∧ w = w') := by
  by_cases h0 : 0 ≤ n
  · by_cases h1 : n ≤ 100000
    · go_enter Try.func49, Try.ntmps49
      go_wp2
      go_ret
      exact ⟨ret_bool (by simp <;> omega), rfl⟩
    · have h2 : decide (n ≤ 100000) = false := by simp; omega
      go_enter Try.func49, Try.ntmps49
      go_wp2
      go_ret
      exact ⟨ret_bool (by simp <;> omega), rfl⟩
  · have h2 : decide (0 ≤ n) = false := by simp; omega
    go_enter Try.func49, Try.ntmps49
    go_wp2
    go_ret
    exact ⟨ret_bool (by simp <;> omega), rfl⟩

/-- are two numbers the same? -/
theorem cmpN_eq_zero (a c : Nat) : (cmpN a c == 0) = decide (a = c) := by
  unfold cmpN
  rcases Nat.lt_trichotomy a c with h | h | h
  · simp [h]; omega
  · simp [h]
  · rw [if_neg (by omega), if_pos h]; simp; omega
theorem Same_rn (va vc : Value) (a c : Nat) (w : World) (hA : RN w va a) (hC : RN w vc c) : Calls Try.prog 42 #[va, vc] w (Reads (.bool (decide (a = c))) w) := by
  have hr := Lib.hid (cmpN_eq_zero a c)
  go_enter Try.func42, Try.ntmps42
  go_wp2_with (go_at_call 19; refine (rcmp_rn _ _ a c _ hA hC).mono ?_; rintro e w' ⟨rfl, q, rfl⟩)
  go_ret
  exact ⟨ret_bool hr.out, q, rfl⟩
theorem same_rn (va vc : Value) (a c : Nat) (w : World) (hA : RN w va a) (hC : RN w vc c) : Calls Try.prog 15 #[va, vc] w (Reads (.bool (decide (a = c))) w) := by
  generalize hb : decide (a = c) = b
  have hb' := Lib.hid hb
  clear hb
  go_enter Try.func15, Try.ntmps15
  go_wp2_with (go_at_call 42; refine (Same_rn _ _ a c _ hA hC).mono ?_; rw [hb'.out]; rintro e w' ⟨rfl, q, rfl⟩)
  go_ret
  exact ⟨rfl, q, rfl⟩
#print axioms same_rn
end Go.Proofs.Ytdmolcopnehkbaa
