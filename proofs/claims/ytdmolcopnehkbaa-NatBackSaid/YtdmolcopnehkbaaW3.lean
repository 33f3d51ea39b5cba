/-
  Walks: Trim of the reference, Of (both), Clone.
-/
import Derived.Test.YtdmolcopnehkbaaW2
import Derived.WalkSpells
set_option autoImplicit false
namespace Go.Proofs.Ytdmolcopnehkbaa
open Go.RowKit

/-- what a call that makes memory hands back: limbs; a number -/
def SLmade (L : List Nat) (w : World) (e : Ending) (w' : World) : Prop := ∃ u, e = .returned u ∧ SL w' u L ∧ Below w.heap.size w w'
def RNmade (n : Nat) (w : World) (e : Ending) (w' : World) : Prop := ∃ u, e = .returned u ∧ RN w' u n ∧ Below w.heap.size w w'

theorem Grows.made (w : World) : Grows (w.alloc (.cells #[] 41)) w.heap.size (.slice (some ⟨w.heap.size, 0, none⟩) 0 0) 0 [] :=
  (Own.new w []).grows (Nat.le_refl _) rfl (by omega)

theorem Trim_any (v : Value) (L : List Nat) (w : World) (h : SL w v L) : Calls Try.prog 41 #[v] w (SLmade (strip L) w) := by
  obtain ⟨ao, n, cap, rfl, h⟩ := h
  have hle := h.le
  have hmax := h.max
  have hsm := h.small
  have HS := Lib.hid h
  have hmz := addr_map_zero ao
  have hlen := h.len
  clear h
  go_enter Try.func41, Try.ntmps41
  go_wp2
  go_loop [3] (fun i => ∃ k : Nat, k ≤ n ∧ Hid (slen L k = slen L n) ∧ i = .int .i64 k) (fun i => (intOf i).toNat)
  case atStart => exact ⟨n, Nat.le_refl _, rfl, rfl⟩
  case round =>
    obtain ⟨k, hk, hsl, rfl⟩ := hrel
    have fin : Hid (slen L k = k) → Hid (strip L = L.take k) := fun e => by
      show L.take _ = _
      rw [hlen, ← hsl.out, e.out]
    cases k with
    | zero =>
      have HT := Lib.hid (HS.out.take (Nat.zero_le n) (Nat.zero_le cap) (Nat.le_refl _))
      go_wp2_with (at_builtin; refine wpList_app rfl _ _ rfl w.heap.size _ 0 [] rfl (Grows.made w) _ _ _ (L.take 0) rfl (HT.out.mono (Below.alloc (Below.refl w.heap.size w) (Nat.le_refl _) _) (Nat.le_refl _)) (by omega) (by simp) ?_; intro v' w' hg hb)
      go_ret
      have e : [] ++ L.take 0 = strip L := by rw [(fin rfl).out]; rfl
      rw [e] at hg
      exact ⟨_, rfl, hg.sl (strip_lim HS.out.lim) (by omega), (Below.alloc (Below.refl w.heap.size w) (Nat.le_refl _) _).trans hb⟩
    | succ j =>
      have hix := HS.out.ix (show j < n by omega)
      have hcell := HS.out.cell j (by omega)
      have hnl := nth_lt HS.out.lim j
      have HT := Lib.hid (HS.out.take hk (show j + 1 ≤ cap by omega) (Nat.le_refl _))
      go_wp2_with (at_builtin; refine wpList_app rfl _ _ rfl w.heap.size _ 0 [] rfl (Grows.made w) _ _ _ (L.take (j + 1)) rfl (HT.out.mono (Below.alloc (Below.refl w.heap.size w) (Nat.le_refl _) _) (Nat.le_refl _)) (by omega) (by simp) ?_; intro v' w' hg hb)
      · have h0 := beq_cast_true (by assumption)
        refine ⟨⟨j, by omega, ?_, rfl⟩, by simp [intOf]⟩
        have h1 := hsl.out
        simp only [slen, h0, if_true] at h1
        exact h1
      · have h0 := beq_cast_false (by assumption)
        go_ret
        have e : [] ++ L.take (j + 1) = strip L := by rw [(fin (by show slen L (j + 1) = j + 1; simp [slen, h0])).out]; rfl
        rw [e] at hg
        exact ⟨_, rfl, hg.sl (strip_lim HS.out.lim) (by omega), (Below.alloc (Below.refl w.heap.size w) (Nat.le_refl _) _).trans hb⟩

theorem RN.of_sl {w : World} {u : Value} {L : List Nat} (h : SL w u (strip L)) : RN w u (val L) := ⟨_, h, strip_top L, strip_val L⟩

theorem two_val (n : Nat) : val [n % 4294967296, n / 4294967296] = n := by simp [val]; omega
theorem two_lim (n : Nat) (h : n < 18446744073709551616) : Lim [n % 4294967296, n / 4294967296] := by
  intro x hx
  simp at hx
  rcases hx with rfl | rfl <;> omega
theorem two_arr (n : Nat) (a b : Int) (ha : a = (n : Int) % 4294967296) (hb : b = (n : Int) / 4294967296) : #[Value.int .u32 a, Value.int .u32 b] = limbsArr [n % 4294967296, n / 4294967296] := by
  subst ha; subst hb
  simp [limbsArr]

theorem Of_any (n : Nat) (w : World) (h : n < 18446744073709551616) : Calls Try.prog 34 #[.int .u64 n] w (RNmade n w) := by
  have h1 : (n : Int) / 4294967296 < 4294967296 := by omega
  go_enter Try.func34, Try.ntmps34
  go_wp2_with (go_at_call 39; refine (trim_any _ _ _ (SL_new w _ [n % 4294967296, n / 4294967296] _ rfl (two_arr n _ _ (by omega) (by omega)) (two_lim n h) (by simp))).mono ?_; rintro e w' ⟨u, rfl, hu, _, rfl⟩)
  go_ret
  have hr := RN.of_sl hu
  rw [two_val] at hr
  exact ⟨_, rfl, hr, Below.alloc (Below.refl w.heap.size w) (Nat.le_refl _) _⟩
theorem rOf_any (n : Nat) (w : World) (h : n < 18446744073709551616) : Calls Try.prog 35 #[.int .u64 n] w (RNmade n w) := by
  have h1 : (n : Int) / 4294967296 < 4294967296 := by omega
  go_enter Try.func35, Try.ntmps35
  go_wp2_with (go_at_call 41; refine (Trim_any _ _ _ (SL_new w _ [n % 4294967296, n / 4294967296] _ rfl (two_arr n _ _ (by omega) (by omega)) (two_lim n h) (by simp))).mono ?_; rintro e w' ⟨u, rfl, hu, hb⟩)
  go_ret
  have hr := RN.of_sl hu
  rw [two_val] at hr
  exact ⟨_, rfl, hr, (Below.alloc (Below.refl w.heap.size w) (Nat.le_refl _) _).trans (hb.mono (by simp))⟩

theorem Clone_any (v : Value) (L : List Nat) (w : World) (h : SL w v L) : Calls Try.prog 44 #[v] w (SLmade L w) := by
  obtain ⟨ao, n, cap, rfl, h⟩ := h
  have hsm := h.small
  have HS := Lib.hid h
  cases ao with
  | none =>
    have hc := h.nil rfl
    have hn := h.nil' rfl
    subst hc
    subst hn
    clear h
    have hnil := fun w => Lib.run_eql_slice_nil (P := Try.prog) w
    go_enter Try.func44, Try.ntmps44
    go_wp2
    go_ret
    exact ⟨_, rfl, ⟨_, _, _, rfl, HS.out⟩, Below.refl _ _⟩
  | some ad =>
    clear h
    have hnil := fun w => Lib.run_eql_slice_nil (P := Try.prog) w
    go_enter Try.func44, Try.ntmps44
    go_wp2_with (at_builtin; refine wpList_app rfl _ _ rfl w.heap.size _ 0 [] rfl (Grows.made w) _ _ _ L rfl (HS.out.mono (Below.alloc (Below.refl w.heap.size w) (Nat.le_refl _) _) (Nat.le_refl _)) (by omega) (by simp) ?_; intro v' w' hg hb)
    go_ret
    exact ⟨_, rfl, hg.sl HS.out.lim (by omega), (Below.alloc (Below.refl w.heap.size w) (Nat.le_refl _) _).trans hb⟩
#print axioms rOf_any
end Go.Proofs.Ytdmolcopnehkbaa
