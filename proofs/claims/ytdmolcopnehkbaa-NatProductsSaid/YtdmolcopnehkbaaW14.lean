/-
  Walks: may, and the fixed fact that every law asks.
-/
import Derived.Test.YtdmolcopnehkbaaW13
set_option autoImplicit false
namespace Go.Proofs.Ytdmolcopnehkbaa
open Go.RowKit

theorem bfresh {W W' : World} {o : Obj} (h : Below (W.alloc o).heap.size (W.alloc o) W') : Below W.heap.size W W' := (Below.alloc (Below.refl W.heap.size W) (Nat.le_refl _) o).trans (h.mono (by simp))
theorem RN.mk' {w : World} {v : Value} {L : List Nat} {n : Nat} (h : SL w v L) (t : topB L = true) (e : val L = n) : RN w v n := ⟨L, h, (topB_iff L).1 t, e⟩
theorem SL.lim {w : World} {v : Value} {L : List Nat} (h : SL w v L) : Lim L := by obtain ⟨_, _, _, _, h⟩ := h; exact h.lim

theorem same_b (va vc : Value) (a : Nat) (w : World) (hA : RN w va a) (hC : RN w vc a) : Calls Try.prog 15 #[va, vc] w (fun e w' => e = .returned (.bool true) ∧ Below w.heap.size w w') := by
  refine (same_rn va vc a a w hA hC).mono ?_
  rintro e w' ⟨rfl, n, rfl⟩
  exact ⟨by simp, below_drewN _ _ _⟩

/-- what the fixed fact has in hand -/
structure Aw (w0 W : World) (a q r d : Value) : Prop where
  below : Below w0.heap.size w0 W
  a : SL W a [1, 1]
  q : RN W q 429496729
  r : RN W r 7
  d : RN W d 4294967295
theorem Aw.step {w0 W W' : World} {a q r d : Value} (h : Aw w0 W a q r d) (hb : Below W.heap.size W W') : Aw w0 W' a q r d :=
  ⟨bstep h.below hb (Nat.le_refl _), h.a.step hb, h.q.step hb, h.r.step hb, h.d.step hb⟩
theorem Aw.new {w0 W : World} {a q r d : Value} (h : Aw w0 W a q r d) (o : Obj) : Aw w0 (W.alloc o) a q r d := h.step (Below.alloc (Below.refl _ _) (Nat.le_refl _) o)
theorem Aw.n {w0 W : World} {a q r d : Value} (h : Aw w0 W a q r d) : RN W a 4294967297 := RN.mk' h.a rfl rfl
theorem bnew (W : World) (o : Obj) : Below W.heap.size W (W.alloc o) := Below.alloc (Below.refl _ _) (Nat.le_refl _) o

/-- limbs, new, as a number -/
theorem RN_new (w : World) (cs : Array Value) (L : List Nat) (n v g : Nat) (hg : g = w.heap.size) (hn : n = L.length) (hc : cs = limbsArr L) (hl : (L.all fun x => decide (x < 4294967296)) = true) (hs : L.length ≤ 35184372088832) (t : topB L = true) (e : val L = v) : RN (w.alloc (.cells cs 41)) (.slice (some ⟨g, 0, none⟩) n n) v := by
  subst hg
  exact RN.mk' (SL_new w cs L n hn hc (fun x hx => by have := List.all_eq_true.1 hl x hx; simpa using this) hs) t e
theorem SL_lit (w : World) (cs : Array Value) (L : List Nat) (n g : Nat) (hg : g = w.heap.size) (hn : n = L.length) (hc : cs = limbsArr L) (hl : (L.all fun x => decide (x < 4294967296)) = true) (hs : L.length ≤ 35184372088832) : SL (w.alloc (.cells cs 41)) (.slice (some ⟨g, 0, none⟩) n n) L := by
  subst hg
  exact SL_new w cs L n hn hc (fun x hx => by have := List.all_eq_true.1 hl x hx; simpa using this) hs

theorem awake_div (va vc : Value) (w : World) (hA : RN w va 4294967297) (hC : SL w vc [10]) : Calls Try.prog 20 #[va, vc] w (fun e w' => ∃ u v, e = .returned (.tuple #[u, v, .bool true]) ∧ RN w' u 429496729 ∧ RN w' v 7 ∧ Below w.heap.size w w') :=
  (div_short va vc _ [10] w hA hC (Or.inr (by decide)) (Or.inl (by decide))).mono fun _ _ h => h
theorem awake_sub (va vc : Value) (w : World) (hA : RN w va 4294967297) (hC : RN w vc 2) : Calls Try.prog 13 #[va, vc] w (fun e w' => ∃ u, e = .returned (.tuple #[u, .bool true]) ∧ RN w' u 4294967295 ∧ Below w.heap.size w w') :=
  (sub_rn va vc _ _ w hA hC).mono fun _ _ h => h
theorem awake_sub2 (va vc : Value) (w : World) (hA : RN w va 2) (hC : RN w vc 4294967297) : Calls Try.prog 13 #[va, vc] w (fun e w' => ∃ u, e = .returned (.tuple #[u, .bool false]) ∧ Below w.heap.size w w') :=
  (sub_rn va vc _ _ w hA hC).mono fun _ _ ⟨u, h, _, hb⟩ => ⟨u, h, hb⟩
theorem awake_uint (va : Value) (w : World) (hA : RN w va 4294967297) : Calls Try.prog 33 #[va] w (fun e w' => e = .returned (.tuple #[.int .u64 4294967297, .bool true]) ∧ Below w.heap.size w w') :=
  (uint_rn va _ w hA).mono fun _ _ ⟨h, _, hw⟩ => ⟨h, hw ▸ below_drewN _ _ _⟩
theorem awake_len (va : Value) (w : World) (hA : RN w va 4294967297) : Calls Try.prog 28 #[va] w (fun e w' => e = .returned (.int .i64 33) ∧ w = w') :=
  (len_rn va _ w hA).mono fun _ _ ⟨h, hw⟩ => ⟨by rw [h, show nlen 4294967297 = 33 from nlen_eq (k := 32) (by decide) (by decide) (by decide)]; rfl, hw⟩
theorem awake_pow (va : Value) (w : World) (hA : RN w va 10) : Calls Try.prog 31 #[va, .int .i64 10] w (RNmade 10000000000 w) :=
  (pow_rn va 10 10 w hA 1 (by decide) (by decide)).mono fun _ _ h => h
theorem awake_add (va vc : Value) (w : World) (hA : RN w va 4294967297) (hC : RN w vc 4294967295) : Calls Try.prog 16 #[va, vc] w (RNmade 8589934592 w) :=
  (add_rn va vc _ _ w hA hC 2 1 (by decide) (by decide) (by decide) (by decide)).mono fun _ _ h => h
theorem awake_mul (va vc : Value) (w : World) (hA : RN w va 4294967297) (hC : RN w vc 4294967297) : Calls Try.prog 22 #[va, vc] w (RNmade 18446744082299486209 w) :=
  (mul_rn va vc _ _ w hA hC 2 2 (by decide) (by decide) (by decide) (by decide)).mono fun _ _ h => h
theorem awake_shl (va : Value) (w : World) (hA : RN w va 3) : Calls Try.prog 24 #[va, .int .i64 31] w (RNmade 6442450944 w) :=
  (shl_rn va 3 31 w hA 1 (by decide) (by decide)).mono fun _ _ ⟨u, h1, h2, _, h3⟩ => ⟨u, h1, h2, h3⟩
theorem awake_shr (va : Value) (w : World) (hA : SL w va [1, 1]) : Calls Try.prog 26 #[va, .int .i64 32] w (RNmade 1 w) :=
  (shr_sl va _ 32 w hA).mono fun _ _ ⟨u, h1, h2, _, h3⟩ => ⟨u, h1, h2, h3⟩
theorem awake_right (va : Value) (w : World) (hA : SL w va [1, 1]) : Calls Try.prog 36 #[va] w (fun e w' => e = .returned (.bool true) ∧ w = w') :=
  (right_sl va _ w hA).mono fun _ _ h => h
theorem awake_wrong (va : Value) (w : World) (hA : SL w va [1, 0]) : Calls Try.prog 36 #[va] w (fun e w' => e = .returned (.bool false) ∧ w = w') :=
  (right_sl va _ w hA).mono fun _ _ h => h
theorem awake_cmp (va vc : Value) (w : World) (hA : RN w va 4294967297) (hC : RN w vc 429496729) : Calls Try.prog 18 #[va, vc] w (fun e w' => e = .returned (.int .i64 1) ∧ Below w.heap.size w w') :=
  (cmp_rn va vc _ _ w hA hC).mono fun _ _ ⟨h, _, hw⟩ => ⟨h, hw ▸ below_drewN _ _ _⟩
set_option maxHeartbeats 800000 in
theorem awake_any (w : World) : Calls Try.prog 12 #[] w (fun e w' => e = .returned (.bool true) ∧ Below w.heap.size w w') := by
  go_enter Try.func12, Try.ntmps12
  go_wp2_with (go_at_call 20; have HA0 := Lib.hid (SL_lit w #[.int .u32 1, .int .u32 1] [1, 1] 2 w.heap.size rfl rfl rfl rfl (by decide)); refine Calls.mono (awake_div _ _ _ (by exact (RN.mk' HA0.out rfl rfl).step (bnew _ _)) (by exact SL_lit _ _ [10] _ _ (by simp) rfl rfl rfl (by decide))) ?_; rintro e w1 ⟨q, r, rfl, hq, hr, hb⟩; have HB1 := Lib.hid (bfresh hb); have HA1 := Lib.hid (HA0.out.step HB1.out); have HBW := Lib.hid (bstep (bnew w _) HB1.out (Nat.le_refl _)); have HQ1 := Lib.hid hq; have HR1 := Lib.hid hr; clear hq hr hb)
  go_wp2_with (go_at_call 13; refine Calls.mono (awake_sub _ _ _ (by exact (RN.mk' HA1.out rfl rfl).step (bnew _ _)) (by exact RN_new _ _ [2] _ 2 _ (by simp) rfl rfl rfl (by decide) rfl rfl)) ?_; rintro e w2 ⟨d, rfl, hd, hb⟩; have HB2 := Lib.hid (bfresh hb); have H2 := Lib.hid (Aw.mk (bstep HBW.out HB2.out (Nat.le_refl _)) (HA1.out.step HB2.out) (HQ1.out.step HB2.out) (HR1.out.step HB2.out) hd); clear hd hb HA0 HB1 HA1 HBW HQ1 HR1 HB2)
  go_wp2_with (go_at_call 13; refine Calls.mono (awake_sub2 _ _ _ (by exact RN_new _ _ [2] _ 2 _ (by simp) rfl rfl rfl (by decide) rfl rfl) (by exact H2.out.n.step (bnew _ _))) ?_; rintro e w3 ⟨u, rfl, hb⟩; have HB := Lib.hid (bfresh hb); have H3 := Lib.hid (H2.out.step HB.out); clear hb HB H2)
  go_wp2_with (go_at_call 33; refine Calls.mono (awake_uint _ _ (by exact H3.out.n)) ?_; rintro e w4 ⟨rfl, hb⟩; have HB := Lib.hid hb; have H4 := Lib.hid (H3.out.step HB.out); clear hb HB H3)
  go_wp2_with (go_at_call 15; refine Calls.mono (same_b _ _ 429496729 _ (by exact H4.out.q.step (bnew _ _)) (by exact RN_new _ _ [429496729] _ 429496729 _ (by simp) rfl rfl rfl (by decide) rfl rfl)) ?_; rintro e w5 ⟨rfl, hb⟩; have HB := Lib.hid (bfresh hb); have H5 := Lib.hid (H4.out.step HB.out); clear hb HB H4)
  go_wp2_with (go_at_call 15; refine Calls.mono (same_b _ _ 7 _ (by exact H5.out.r.step (bnew _ _)) (by exact RN_new _ _ [7] _ 7 _ (by simp) rfl rfl rfl (by decide) rfl rfl)) ?_; rintro e w6 ⟨rfl, hb⟩; have HB := Lib.hid (bfresh hb); have H6 := Lib.hid (H5.out.step HB.out); clear hb HB H5)
  go_wp2_with (go_at_call 15; refine Calls.mono (same_b _ _ 4294967295 _ (by exact H6.out.d.step (bnew _ _)) (by exact RN_new _ _ [4294967295] _ 4294967295 _ (by simp) rfl rfl rfl (by decide) rfl rfl)) ?_; rintro e w7 ⟨rfl, hb⟩; have HB := Lib.hid (bfresh hb); have H7 := Lib.hid (H6.out.step HB.out); clear hb HB H6)
  go_wp2_with (go_at_call 28; refine Calls.mono (awake_len _ _ (by exact H7.out.n)) ?_; rintro e w' ⟨rfl, rfl⟩)
  go_wp2_with (go_at_call 31; refine Calls.mono (awake_pow _ _ (by exact RN_new _ _ [10] _ 10 _ (by simp) rfl rfl rfl (by decide) rfl rfl)) ?_; rintro e w8 ⟨x, rfl, hx, hb⟩; have HB := Lib.hid (bfresh hb); have HX := Lib.hid hx; have H8 := Lib.hid (H7.out.step HB.out); clear hb hx HB H7)
  go_wp2_with (go_at_call 15; refine Calls.mono (same_b _ _ 10000000000 _ (by exact HX.out.step (bnew _ _)) (by exact RN_new _ _ [1410065408, 2] _ 10000000000 _ (by simp) rfl rfl rfl (by decide) rfl rfl)) ?_; rintro e w9 ⟨rfl, hb⟩; have HB := Lib.hid (bfresh hb); have H9 := Lib.hid (H8.out.step HB.out); clear hb HX HB H8)
  go_wp2_with (go_at_call 16; refine Calls.mono (awake_add _ _ _ (by exact H9.out.n) (by exact H9.out.d)) ?_; rintro e w10 ⟨x, rfl, hx, hb⟩; have HB := Lib.hid hb; have HX := Lib.hid hx; have H10 := Lib.hid (H9.out.step HB.out); clear hb hx HB H9)
  go_wp2_with (go_at_call 15; refine Calls.mono (same_b _ _ 8589934592 _ (by exact HX.out.step (bnew _ _)) (by exact RN_new _ _ [0, 2] _ 8589934592 _ (by simp) rfl rfl rfl (by decide) rfl rfl)) ?_; rintro e w11 ⟨rfl, hb⟩; have HB := Lib.hid (bfresh hb); have H11 := Lib.hid (H10.out.step HB.out); clear hb HX HB H10)
  go_wp2_with (go_at_call 22; refine Calls.mono (awake_mul _ _ _ (by exact H11.out.n) (by exact H11.out.n)) ?_; rintro e w12 ⟨x, rfl, hx, hb⟩; have HB := Lib.hid hb; have HX := Lib.hid hx; have H12 := Lib.hid (H11.out.step HB.out); clear hb hx HB H11)
  go_wp2_with (go_at_call 15; refine Calls.mono (same_b _ _ 18446744082299486209 _ (by exact HX.out.step (bnew _ _)) (by exact RN_new _ _ [1, 2, 1] _ 18446744082299486209 _ (by simp) rfl rfl rfl (by decide) rfl rfl)) ?_; rintro e w13 ⟨rfl, hb⟩; have HB := Lib.hid (bfresh hb); have H13 := Lib.hid (H12.out.step HB.out); clear hb HX HB H12)
  go_wp2_with (go_at_call 24; refine Calls.mono (awake_shl _ _ (by exact RN_new _ _ [3] _ 3 _ (by simp) rfl rfl rfl (by decide) rfl rfl)) ?_; rintro e w14 ⟨x, rfl, hx, hb⟩; have HB := Lib.hid (bfresh hb); have HX := Lib.hid hx; have H14 := Lib.hid (H13.out.step HB.out); clear hb hx HB H13)
  go_wp2_with (go_at_call 15; refine Calls.mono (same_b _ _ 6442450944 _ (by exact HX.out.step (bnew _ _)) (by exact RN_new _ _ [2147483648, 1] _ 6442450944 _ (by simp) rfl rfl rfl (by decide) rfl rfl)) ?_; rintro e w15 ⟨rfl, hb⟩; have HB := Lib.hid (bfresh hb); have H15 := Lib.hid (H14.out.step HB.out); clear hb HX HB H14)
  go_wp2_with (go_at_call 26; refine Calls.mono (awake_shr _ _ (by exact H15.out.a)) ?_; rintro e w16 ⟨x, rfl, hx, hb⟩; have HB := Lib.hid hb; have HX := Lib.hid hx; have H16 := Lib.hid (H15.out.step HB.out); clear hb hx HB H15)
  go_wp2_with (go_at_call 15; refine Calls.mono (same_b _ _ 1 _ (by exact HX.out.step (bnew _ _)) (by exact RN_new _ _ [1] _ 1 _ (by simp) rfl rfl rfl (by decide) rfl rfl)) ?_; rintro e w17 ⟨rfl, hb⟩; have HB := Lib.hid (bfresh hb); have H17 := Lib.hid (H16.out.step HB.out); clear hb HX HB H16)
  go_wp2_with (go_at_call 36; refine Calls.mono (awake_right _ _ (by exact H17.out.a)) ?_; rintro e w' ⟨rfl, rfl⟩)
  go_wp2_with (go_at_call 36; refine Calls.mono (awake_wrong _ _ (by exact SL_lit _ _ [1, 0] _ _ (by simp) rfl rfl rfl (by decide))) ?_; rintro e w' ⟨rfl, rfl⟩; have H18 := Lib.hid (H17.out.new (.cells (limbsArr [1, 0]) 41)); clear H17)
  go_wp2_with (go_at_call 18; refine Calls.mono (awake_cmp _ _ _ (by exact H18.out.n) (by exact H18.out.q)) ?_; rintro e w19 ⟨rfl, hb⟩; have HB := Lib.hid hb; have H19 := Lib.hid (H18.out.step HB.out); clear hb HB H18)
  go_wp2_with (go_at_call 34; refine Calls.mono (Of_any 4294967296 _ (by decide)) ?_; rintro e w20 ⟨x, rfl, hx, hb⟩; have HB := Lib.hid hb; have HX := Lib.hid hx; have H20 := Lib.hid (H19.out.step HB.out); clear hb hx HB H19)
  go_wp2_with (go_at_call 15; refine Calls.mono (same_b _ _ 4294967296 _ (by exact HX.out.step (bnew _ _)) (by exact RN_new _ _ [0, 1] _ 4294967296 _ (by simp) rfl rfl rfl (by decide) rfl rfl)) ?_; rintro e w21 ⟨rfl, hb⟩; have HB := Lib.hid (bfresh hb); have H21 := Lib.hid (H20.out.step HB.out); clear hb HX HB H20)
  go_ret
  exact ⟨rfl, H21.out.below⟩
#print axioms awake_any
end Go.Proofs.Ytdmolcopnehkbaa
