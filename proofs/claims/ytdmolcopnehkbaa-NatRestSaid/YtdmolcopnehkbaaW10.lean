/-
  Walks: DivMod of the reference.
-/
import Derived.Test.YtdmolcopnehkbaaW9
import Derived.Deep.LoopGhost
import Derived.Deep.RegionLaw
set_option autoImplicit false
namespace Go.Proofs.Ytdmolcopnehkbaa
open Go.RowKit

/-- append, at a step of a region that draws -/
theorem step_app {w : World} {ops : Array Oper} {o : Oper} {a : Act} {K : Act → World → Prop} {Q : Exit → Act → World → Prop} {E : Prop} (hgd : o.guard = none) (s x : Operand)
    (ho : o.op = .call { callee := .builtin .append, args := #[s, x], argTypes := #[22, 22] })
    (b : Nat) (v : Value) (n : Nat) (L : List Nat) (hs : a.eval s = v) (hown : Grows w b v n L)
    (y : Value) (C : List Nat) (hx : a.eval x = y) (hC : SL w y C) (hsz : n + C.length ≤ 35184372088832) (hbase : b ≤ w.heap.size)
    (h : ∀ v' w', Grows w' b v' (n + C.length) (L ++ C) → Below b w w' → K (a.put o.dst v') w') :
    if Region.wanted o (yielded ops a.tmps) = true then Oper.wp Try.prog o a w K Q else E := by
  have hw : Region.wanted o (yielded ops a.tmps) = true := by simp [Region.wanted, hgd]
  rw [if_pos hw]
  obtain ⟨i0, hi, hz0, hz1, hz2⟩ := info_parts info41
  obtain ⟨ao, m, c, rfl, hC⟩ := hC
  obtain rfl := hC.len
  cases ao with
  | none =>
    have hc := hC.nil rfl
    subst hc
    have hn : C = [] := List.eq_nil_of_length_eq_zero (by have := hC.le; omega)
    subst hn
    have hrun := run_append_owned_none (P := Try.prog) (w := w) b 22 o.type 41 i0 1 Try.underlying22 hi v n (lv L) hown
    unfold Oper.wp
    have hx' : a.eval x = .slice none 0 0 := hx
    simp [execOp, ho, resolve, invoke, builtin, hs, hx', hrun, Result.andThen]
    exact h v w (by simpa using hown) (Below.refl _ _)
  | some ad =>
    refine wp_append_own w s x 22 ho b 41 i0 _ 1 4 Try.underlying22 hi hz0 hz1 hz2 rfl (by decide) v n (lv L) hs hown ad C.length c (lv C) hx (by rw [lv_length]; omega)
      (fun j u hu => ?_) (lv_one C) (by simp only [maxLen]; omega) (by omega) hbase ?_
    · obtain ⟨hj, rfl⟩ := lv_get hu
      exact hC.cell j (by omega)
    · intro v' w' h2 h3 _
      refine h v' w' ?_ ?_
      · unfold Grows; rw [lv_append]; exact h2
      · exact (Below.refl b w).grown h3 hbase (fun k hk => (hown.lt k hk).1)

theorem run_mk (w : World) (n : Nat) (hn : n ≤ 35184372088832) : (Instr.makeSlice 22 (.int .i64 (n : Int)) (.int .i64 (n : Int))).run Try.prog w = .ok (.slice (some ⟨w.heap.size, 0, none⟩) n n) (w.alloc (.cells (limbsArr (List.replicate n 0)) 41)) := by
  obtain ⟨i0, hi, hz0, hz1, hz2⟩ := info_parts info41
  have hrun := run_make (P := Try.prog) w 22 41 i0 (.int .u32 0) Try.underlying22 hi hz0 .i64 .i64 (n : Int) (n : Int) (by omega) (Int.le_refl _) (by rw [hz2]; omega) (by omega)
  rw [hz1] at hrun
  have e : madeCells (Value.int IntKind.u32 0).cells ((n : Int).toNat * 1) = limbsArr (List.replicate n 0) := by
    apply Array.ext'
    rw [Int.toNat_natCast, Nat.mul_one]
    show (madeCells #[Value.int .u32 0] n).toList = _
    rw [toList_madeCells_one]
    simp [limbsArr]
  rw [e, Int.toNat_natCast] at hrun
  exact hrun

def DivPost (a c : Nat) (w : World) (e : Ending) (w' : World) : Prop :=
  ∃ u v, e = .returned (.tuple #[u, v, .bool (decide (c ≠ 0))]) ∧ RN w' u (a / c) ∧ RN w' v (if c = 0 then 0 else a % c) ∧ Below w.heap.size w w'
theorem DivPost.zero {a c : Nat} (w : World) (h : c = 0) : DivPost a c w (.returned (.tuple #[.slice none 0 0, .slice none 0 0, .bool false])) w := by
  subst h
  exact ⟨_, _, rfl, by rw [Nat.div_zero]; exact RN.nil w, RN.nil w, Below.refl _ _⟩
theorem DivPost.mk {a c q r : Nat} {u v : Value} {w w' : World} (h : c ≠ 0) (h1 : q * c + r = a) (h2 : r < c) (hu : RN w' u q) (hv : RN w' v r) (hb : Below w.heap.size w w') : DivPost a c w (.returned (.tuple #[u, v, .bool true])) w' := by
  have e1 : a / c = q := by rw [← h1, Nat.mul_comm, Nat.mul_add_div (by omega), Nat.div_eq_of_lt h2, Nat.add_zero]
  have e2 : a % c = r := by rw [← h1, Nat.mul_comm, Nat.mul_add_mod, Nat.mod_eq_of_lt h2]
  refine ⟨u, v, ?_, by rw [e1]; exact hu, by rw [if_neg h, e2]; exact hv, hb⟩
  have : decide (c ≠ 0) = true := by simpa using h
  rw [this]

/-- the round's state of a division guess by guess -/
def GDivSt (w0 wr : World) (a c qn rn : Nat) (u v : Value) : Prop := RN wr u qn ∧ RN wr v rn ∧ qn * c + rn = a ∧ Below w0.heap.size w0 wr

theorem zeros_val (k : Nat) (G : List Nat) : val (List.replicate k 0 ++ G) = G.length * 0 + B k * val G := by
  rw [val_append, val_replicate]; simp
theorem zeros_top (k : Nat) {G : List Nat} (t : Top G) (h : G ≠ []) : Top (List.replicate k 0 ++ G) := by
  right
  have hl : 0 < G.length := List.length_pos_iff.2 h
  rw [List.length_append, nth_append_right (by simp; omega)]
  have := t.resolve_left h
  simp only [List.length_replicate]
  rwa [show k + G.length - 1 - k = G.length - 1 by omega]
theorem Grows.rn {w : World} {b n g k : Nat} {v : Value} {G : List Nat} (h : Grows w b v n (List.replicate k 0 ++ G)) (hl : Lim G) (t : Top G) (hg : val G = g) (hg1 : 1 ≤ g) (hs : n ≤ 35184372088832) : RN w v (g * B k) := by
  have hne : G ≠ [] := by intro e; subst e; simp [val] at hg; omega
  exact ⟨_, h.sl ((Lim.replicate k).append hl) hs, zeros_top k t hne, by rw [zeros_val, hg]; simp [Nat.mul_comm]⟩
theorem gdiv_bounds {a c qn rn g kk k : Nat} (h : qn * c + rn = a) (hk : a < B k) (hg : g * B kk * c ≤ rn) (hg1 : 1 ≤ g) (hc : c ≠ 0) : kk < k ∧ qn < B k ∧ g * B kk < B k ∧ g * B kk * c < B k ∧ 1 ≤ g * B kk * c := by
  have h1 : qn * 1 ≤ qn * c := Nat.mul_le_mul_left _ (by omega)
  have h2 : g * B kk * 1 ≤ g * B kk * c := Nat.mul_le_mul_left _ (by omega)
  have h3 : 1 * B kk ≤ g * B kk := Nat.mul_le_mul_right _ hg1
  have h4 := B_pos kk
  refine ⟨?_, by omega, by omega, by omega, by omega⟩
  rcases Nat.lt_or_ge kk k with h5 | h5
  · exact h5
  · have := B_mono h5; omega

theorem rdiv_rn (va vc : Value) (a c : Nat) (w : World) (hA : RN w va a) (hC : RN w vc c) (k : Nat) (hk : a < B k) (hk' : k ≤ 1048576) : Calls Try.prog 21 #[va, vc] w (DivPost a c w) := by
  have RC := Lib.hid hC
  obtain ⟨A, hA, tA, rfl⟩ := hA
  obtain ⟨C, hC, tC, rfl⟩ := hC
  have SC := Lib.hid hC
  have TC := Lib.hid tC
  have HK := Lib.hid hk
  have SA := Lib.hid hA
  clear hk hA
  obtain ⟨co, m, cap', rfl, hC⟩ := hC
  by_cases h0 : m = 0
  · subst h0
    have hz := Lib.hid (val_zero hC.len)
    clear hC tC
    go_enter Try.func21, Try.ntmps21
    go_wp2
    go_ret3
    exact DivPost.zero _ hz.out
  · have hc0 : val C ≠ 0 := fun e => by have := (val_eq_zero_iff tC).1 e; exact h0 (by rw [← hC.len, this]; rfl)
    have HC0 := Lib.hid hc0
    have hm0 : ((m : Int) == 0) = false := by simp; omega
    clear hC tC hc0 h0
    go_enter Try.func21, Try.ntmps21
    go_wp2_with (go_at_call 41; refine (Trim_any _ A _ SA.out).mono ?_; rintro e w1 ⟨u, rfl, hu, hb⟩)
    have Hst : Hid (GDivSt w w1 (val A) (val C) 0 (val A) (.slice none 0 0) u) := ⟨RN.nil _, RN.of_sl hu, by omega, hb⟩
    clear hu hb
    go_loopg [7, 8] (val A) (fun gk q r wr => ∃ qn : Nat, Hid (GDivSt w wr (val A) (val C) qn gk q r))
    case atStart => exact ⟨0, Hst⟩
    case round =>
      obtain ⟨qn, hst⟩ := hrel
      clear Hst
      by_cases hge : val C ≤ gk
      · have hcmp := cmpN_ge hge
        have HGE := Lib.hid hge
        clear hge
        have RCr := Lib.hid (RC.out.mono hst.out.2.2.2 (Nat.le_refl _))
        obtain ⟨R, hR, tR, hRv⟩ := hst.out.2.1
        have SR := Lib.hid hR
        have TR := Lib.hid tR
        have VR := Lib.hid hRv
        clear hR tR hRv
        have SCr := Lib.hid (SC.out.mono hst.out.2.2.2 (Nat.le_refl _))
        go_wp2_with (first | (go_at_call 19; refine (rcmp_rn _ _ _ _ _ hst.out.2.1 RCr.out).mono ?_; rintro e w2 ⟨rfl, q1, rfl⟩) | (go_at_call 48; refine (guess_sl _ _ R C _ (SR.out.drewN _) (SCr.out.drewN _) TR.out TC.out (by intro e; exact HC0.out (by rw [e]; rfl)) (by rw [VR.out]; exact HGE.out)).mono ?_; rw [VR.out]; rintro e w2 ⟨g, kk, rfl, hg1, hg2, hg3, q2, rfl⟩; have HG3 := Lib.hid hg3; clear hg3))
        obtain ⟨b1, b2, b3, b4, b5⟩ := gdiv_bounds hst.out.2.2.1 HK.out HG3.out hg1 HC0.out
        have B2 := Lib.hid b2
        have B3 := Lib.hid b3
        have B4 := Lib.hid b4
        have B5 := Lib.hid b5
        have hmk := fun w => run_mk w kk (by omega)
        clear b2 b3 b4 b5
        go_region_law (first
          | (refine step_app rfl _ _ rfl wr.heap.size _ kk (List.replicate kk 0) rfl (by first | exact Own.grows (Own.below (Own.new _ _) hbx (by simp)) (by simp) (by simp) (by omega) | exact Own.grows (Own.new _ _) (by have := hbx.size; simpa using this) (by simp) (by omega)) _ G rfl (by first | exact SG.out | exact SG.out.mono (Below.alloc (Below.refl _ _) (Nat.le_refl _) _) (Nat.le_refl _)) (by omega) (by have := hbx.size; simp at this ⊢; omega) ?_; intro x2 w4 hgx hbx2)
          | (go_simp; go_at_call 35; refine (rOf_any g _ (by omega)).mono ?_; rintro e w3 ⟨x, rfl, hx, hbx⟩; obtain ⟨G, hG, tG, vG⟩ := hx; have SG := Lib.hid hG; have TG := Lib.hid tG; have VG := Lib.hid vG; have hGl : G.length ≤ 2 := RN.len_le tG (by rw [vG, show B 2 = 18446744073709551616 from (by decide)]; omega); clear hG tG vG))
        all_goals
          have hb4 : Below wr.heap.size wr w4 := by
            first
            | exact ((Below.alloc (below_drewN wr.heap.size wr _) (by simp) _).trans (hbx.mono (by simp))).trans hbx2
            | exact (Below.alloc ((below_drewN wr.heap.size wr _).trans (hbx.mono (by simp))) (by have := hbx.size; simpa using this) _).trans hbx2
          have HX := Lib.hid (hgx.rn (by obtain ⟨_, _, _, _, h⟩ := SG.out; exact h.lim) TG.out VG.out hg1 (by omega))
          have HB4 := Lib.hid hb4
          clear hb4 hgx hbx2 hbx hmk
          go_wp2_with (go_at_call 17; refine (radd_rn _ _ _ _ _ (hst.out.1.mono HB4.out (Nat.le_refl _)) HX.out k k B2.out B3.out (by omega) (by omega)).mono ?_; rintro e w5 ⟨q', rfl, hq, hb5⟩; have HQ := Lib.hid hq; have HB5 := Lib.hid (HB4.out.trans (hb5.mono HB4.out.size)); have HX5 := Lib.hid (HX.out.mono hb5 (Nat.le_refl _)); clear hq hb5)
          go_wp2_with (go_at_call 23; refine (rmul_rn _ _ _ _ _ HX5.out (RC.out.mono (hst.out.2.2.2.trans (HB5.out.mono hst.out.2.2.2.size)) (Nat.le_refl _)) k k B3.out (Nat.lt_of_le_of_lt HGE.out (Nat.lt_of_le_of_lt (by have := hst.out.2.2.1; omega) HK.out)) (by omega) (by omega)).mono ?_; rintro e w6 ⟨t', rfl, ht, hb6⟩; have HT := Lib.hid ht; have HB6 := Lib.hid (HB5.out.trans (hb6.mono HB5.out.size)); have HQ6 := Lib.hid (HQ.out.mono hb6 (Nat.le_refl _)); clear ht hb6)
          go_wp2_with (go_at_call 14; refine (rsub_rn _ _ _ _ _ (hst.out.2.1.mono HB6.out (Nat.le_refl _)) HT.out).mono ?_; rintro e w7 ⟨r', rfl, hr, hb7⟩; have HR := Lib.hid hr; have HB7 := Lib.hid (HB6.out.trans (hb7.mono HB6.out.size)); have HQ7 := Lib.hid (HQ6.out.mono hb7 (Nat.le_refl _)); clear hr hb7)
          go_roundg (gk - g * B kk * val C)
          case measure => have := B5.out; have := HG3.out; omega
          case rel =>
            refine ⟨qn + g * B kk, HQ7.out, HR.out, ?_, hst.out.2.2.2.trans (HB7.out.mono hst.out.2.2.2.size)⟩
            rw [Nat.add_mul]
            have := hst.out.2.2.1
            have := HG3.out
            omega
      · have hlt : gk < val C := by omega
        have hcmp := Lib.hid (cmpN_lt hlt)
        have HLT := Lib.hid hlt
        clear hge hlt
        have RCr := Lib.hid (RC.out.mono hst.out.2.2.2 (Nat.le_refl _))
        go_wp2_with (go_at_call 19; refine (rcmp_rn _ _ _ _ _ hst.out.2.1 RCr.out).mono ?_; rw [hcmp.out]; rintro e w2 ⟨rfl, q1, rfl⟩)
        go_ret3
        exact DivPost.mk HC0.out hst.out.2.2.1 HLT.out (hst.out.1.drewN _) (hst.out.2.1.drewN _) (hst.out.2.2.2.trans (below_drewN _ _ _))
#print axioms rdiv_rn
end Go.Proofs.Ytdmolcopnehkbaa
