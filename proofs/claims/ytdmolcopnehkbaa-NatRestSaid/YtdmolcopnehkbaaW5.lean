/-
  Walks: Add of the reference; Sub, both.
-/
import Derived.Test.YtdmolcopnehkbaaW4
set_option autoImplicit false
namespace Go.Proofs.Ytdmolcopnehkbaa
open Go.RowKit

theorem AddSt.fin2 {w0 wr : World} {g n cy : Nat} {A C : List Nat} (h : AddSt w0 g n A C (n + 1) cy wr) (hA : A.length ≤ n) (hC : C.length ≤ n) (lA : Lim A) (lC : Lim C) (hn : n + 1 ≤ 35184372088832) :
    ∃ S, SL wr (.slice (some ⟨g, 0, none⟩) (n + 1) (n + 1)) S ∧ val S = val A + val C ∧ Below g w0 wr := by
  obtain ⟨S, h1, h2, h3, h4, h5, h6⟩ := h
  refine ⟨S, ⟨_, _, _, rfl, h1.sl h3 h2.symm (Nat.le_refl _) (by omega) (by omega)⟩, ?_, h6⟩
  rw [val_take_all (by omega), val_take_all (by omega), val_take_all (by omega)] at h5
  have a := val_lt lA
  have c := val_lt lC
  have b1 := B_mono hA
  have b2 := B_mono hC
  rw [B_succ] at h5
  cases cy with
  | zero => omega
  | succ q =>
    have : 4294967296 * B n ≤ (q + 1) * (4294967296 * B n) := Nat.le_mul_of_pos_left _ (by omega)
    have := B_pos n
    omega

theorem radd_sl (va vc : Value) (A C : List Nat) (w : World) (hA : SL w va A) (hC : SL w vc C) (sA : A.length ≤ 17592186044416) (sC : C.length ≤ 17592186044416) :
    Calls Try.prog 17 #[va, vc] w (RNmade (val A + val C) w) := by
  obtain ⟨ao, n, cap, rfl, hA⟩ := hA
  obtain ⟨co, m, cap', rfl, hC⟩ := hC
  have hn : n ≤ 17592186044416 := hA.len ▸ sA
  have hm : m ≤ 17592186044416 := hC.len ▸ sC
  have HA := Lib.hid hA
  have HC := Lib.hid hC
  clear hA hC sA sC
  generalize hg : w.heap.size = g
  have Hg := Lib.hid hg
  clear hg
  rcases Nat.lt_or_ge n m with hlt | hge
  · go_enter Try.func17, Try.ntmps17
    go_wp2_with (at_make; refine wpList_mk rfl _ _ rfl _ _ (m + 1) rfl rfl (by omega) (by omega) (by omega) ?_; rw [Hg.out]; intro w1 hown hb hs)
    have hst := AddSt.start (A := A) (C := C) hown hb
    clear hown
    have Hst := Lib.hid hst
    clear hst hb
    go_loopw [6, 7] (fun c i wr => ∃ k cy : Nat, k ≤ m + 1 ∧ i = .int .i64 k ∧ c = .int .u64 cy ∧ Hid (AddSt w g m A C k cy wr)) (fun _ i _ => m + 1 - (intOf i).toNat)
    case atStart => exact ⟨0, 0, Nat.zero_le _, rfl, rfl, Hst⟩
    case round =>
      obtain ⟨k, cy, hk, rfl, rfl, hst⟩ := hrel
      clear Hst
      by_cases hkn : k < m + 1
      · obtain ⟨⟨x0, hc0⟩, hf0, hb, hcy⟩ := hst.out.cell (show k ≤ m by omega)
        have SA := Lib.hid (show SL wr (.slice ao n cap) A from ⟨_, _, _, rfl, HA.out.mono hb (by rw [Hg.out]; exact Nat.le_refl _)⟩)
        have SC := Lib.hid (show SL wr (.slice co m cap') C from ⟨_, _, _, rfl, HC.out.mono hb (by rw [Hg.out]; exact Nat.le_refl _)⟩)
        clear hb
        have na := nth_lt HA.out.lim k
        have nc := nth_lt HC.out.lim k
        go_wp2_with (go_at_call 40; refine (at_sl _ _ k _ (by first | exact SA.out | exact SC.out) (by omega)).mono ?_; rintro e w' ⟨rfl, rfl⟩)
        go_roundw
        case rel => exact ⟨k + 1, (nth A k + nth C k + cy) / 4294967296, by omega, by go_num, by go_num, hst.out.step (by omega) HA.out.lim HC.out.lim (by omega)⟩
        case measure => simp [intOf]; omega
      · have e : k = m + 1 := by omega
        subst e
        obtain ⟨S, hS, hv, hbe⟩ := hst.out.fin2 (by rw [HA.out.len]; omega) (by rw [HC.out.len]; omega) HA.out.lim HC.out.lim (by omega)
        have HV := Lib.hid hv
        clear hv
        go_wp2_with (go_at_call 41; refine (Trim_any _ S _ hS).mono ?_; rintro e w' ⟨u, rfl, hu, hb2⟩)
        go_ret
        have hr := RN.of_sl hu
        rw [HV.out] at hr
        have hgl : g ≤ wr.heap.size := by have := hbe.size; rw [Hg.out] at this; exact this
        exact ⟨_, rfl, hr, by rw [Hg.out]; exact hbe.trans (hb2.mono hgl)⟩
  · go_enter Try.func17, Try.ntmps17
    go_wp2_with (at_make; refine wpList_mk rfl _ _ rfl _ _ (n + 1) rfl rfl (by omega) (by omega) (by omega) ?_; rw [Hg.out]; intro w1 hown hb hs)
    have hst := AddSt.start (A := A) (C := C) hown hb
    clear hown
    have Hst := Lib.hid hst
    clear hst hb
    go_loopw [6, 7] (fun c i wr => ∃ k cy : Nat, k ≤ n + 1 ∧ i = .int .i64 k ∧ c = .int .u64 cy ∧ Hid (AddSt w g n A C k cy wr)) (fun _ i _ => n + 1 - (intOf i).toNat)
    case atStart => exact ⟨0, 0, Nat.zero_le _, rfl, rfl, Hst⟩
    case round =>
      obtain ⟨k, cy, hk, rfl, rfl, hst⟩ := hrel
      clear Hst
      by_cases hkn : k < n + 1
      · obtain ⟨⟨x0, hc0⟩, hf0, hb, hcy⟩ := hst.out.cell (show k ≤ n by omega)
        have SA := Lib.hid (show SL wr (.slice ao n cap) A from ⟨_, _, _, rfl, HA.out.mono hb (by rw [Hg.out]; exact Nat.le_refl _)⟩)
        have SC := Lib.hid (show SL wr (.slice co m cap') C from ⟨_, _, _, rfl, HC.out.mono hb (by rw [Hg.out]; exact Nat.le_refl _)⟩)
        clear hb
        have na := nth_lt HA.out.lim k
        have nc := nth_lt HC.out.lim k
        go_wp2_with (go_at_call 40; refine (at_sl _ _ k _ (by first | exact SA.out | exact SC.out) (by omega)).mono ?_; rintro e w' ⟨rfl, rfl⟩)
        go_roundw
        case rel => exact ⟨k + 1, (nth A k + nth C k + cy) / 4294967296, by omega, by go_num, by go_num, hst.out.step (by omega) HA.out.lim HC.out.lim (by omega)⟩
        case measure => simp [intOf]; omega
      · have e : k = n + 1 := by omega
        subst e
        obtain ⟨S, hS, hv, hbe⟩ := hst.out.fin2 (by rw [HA.out.len]; omega) (by rw [HC.out.len]; omega) HA.out.lim HC.out.lim (by omega)
        have HV := Lib.hid hv
        clear hv
        go_wp2_with (go_at_call 41; refine (Trim_any _ S _ hS).mono ?_; rintro e w' ⟨u, rfl, hu, hb2⟩)
        go_ret
        have hr := RN.of_sl hu
        rw [HV.out] at hr
        have hgl : g ≤ wr.heap.size := by have := hbe.size; rw [Hg.out] at this; exact this
        exact ⟨_, rfl, hr, by rw [Hg.out]; exact hbe.trans (hb2.mono hgl)⟩
#print axioms radd_sl

/-- what a difference hands back: it, and whether there is one -/
def Subbed (a c : Nat) (w : World) (e : Ending) (w' : World) : Prop := ∃ u, e = .returned (.tuple #[u, .bool (decide (c ≤ a))]) ∧ RN w' u (a - c) ∧ Below w.heap.size w w'

/-- the round's state of a difference -/
def SubSt (w0 : World) (g n : Nat) (A C : List Nat) (k : Nat) (bw : Nat) (wr : World) : Prop :=
  ∃ S, Own wr g S ∧ S.length = n ∧ Lim S ∧ bw ≤ 1 ∧ val (S.take k) + val (C.take k) = val (A.take k) + bw * B k ∧ Below g w0 wr
theorem SubSt.start {w0 w1 : World} {g n : Nat} {A C : List Nat} (h : Own w1 g (List.replicate n 0)) (hb : Below g w0 w1) : SubSt w0 g n A C 0 0 w1 :=
  ⟨_, h, by simp, Lim.replicate _, by omega, by simp [val], hb⟩
theorem SubSt.step {w0 wr : World} {g n k bw : Nat} {A C : List Nat} (h : SubSt w0 g n A C k bw wr) (hk : k < n) (hA : Lim A) (hC : Lim C) {z : Int} (hz : z = ((dif (nth A k) (nth C k) bw : Nat) : Int)) :
    SubSt w0 g n A C (k + 1) (brw (nth A k) (nth C k) bw) (wr.setCell ⟨g, k, none⟩ (.int .u32 z)) := by
  obtain ⟨S, h1, h2, h3, h4, h5, h6⟩ := h
  subst hz
  exact ⟨S.set k (dif (nth A k) (nth C k) bw), h1.set _, by simpa using h2, h3.set _ _ (dif_lt _ _ _), brw_le _ _ _, sub_step (by omega) h5 (dif_eq _ _ _ (nth_lt hA k) (nth_lt hC k) h4), h6.setCell (Nat.le_refl _) _⟩
theorem SubSt.fin {w0 wr : World} {g n bw : Nat} {A C : List Nat} (h : SubSt w0 g n A C n bw wr) (hA : A.length ≤ n) (hC : C.length ≤ n) (hle : val C ≤ val A) (hn : n ≤ 35184372088832) :
    ∃ S, SL wr (.slice (some ⟨g, 0, none⟩) n n) S ∧ val S = val A - val C ∧ Below g w0 wr := by
  obtain ⟨S, h1, h2, h3, h4, h5, h6⟩ := h
  exact ⟨S, ⟨_, _, _, rfl, h1.sl h3 h2.symm (Nat.le_refl _) (by omega) (by omega)⟩, sub_end h2 h5 h3 hA hC hle, h6⟩
theorem SubSt.cell {w0 wr : World} {g n bw k : Nat} {A C : List Nat} {q : Nat} (h : SubSt w0 g n A C q bw wr) (hk : k < n) : (∃ x : Nat, wr.cell? ⟨g, k, none⟩ = some (.int .u32 (x : Int))) ∧ wr.frozen? ⟨g, k, none⟩ = false ∧ Below g w0 wr ∧ bw ≤ 1 := by
  obtain ⟨S, h1, h2, h3, h4, h5, h6⟩ := h
  exact ⟨⟨_, h1.cell (by omega)⟩, h1.frozen _, h6, h4⟩

theorem RN.nil (w : World) : RN w (.slice none 0 0) 0 := ⟨[], ⟨none, 0, 0, rfl, ⟨rfl, Nat.le_refl _, by omega, by omega, Lim.nil, fun _ => rfl, fun i hi => by omega⟩⟩, Top.nil, rfl⟩
theorem cmpN_lt {a c : Nat} (h : a < c) : cmpN a c = -1 := by simp [cmpN, h]
theorem cmpN_ge {a c : Nat} (h : c ≤ a) : 0 ≤ cmpN a c := by unfold cmpN; split <;> (try split) <;> omega
theorem len_le_of_val_le {A C : List Nat} (hA : Lim A) (tC : Top C) (h : val C ≤ val A) : C.length ≤ A.length := by
  rcases Nat.lt_or_ge A.length C.length with h1 | h1
  · have := lt_of_length_lt hA tC h1; omega
  · exact h1

theorem sub_rn (va vc : Value) (a c : Nat) (w : World) (hA : RN w va a) (hC : RN w vc c) : Calls Try.prog 13 #[va, vc] w (Subbed a c w) := by
  have RA := Lib.hid hA
  have RC := Lib.hid hC
  obtain ⟨A, ⟨ao, n, cap, rfl, hA⟩, tA, rfl⟩ := hA
  obtain ⟨C, ⟨co, m, cap', rfl, hC⟩, tC, rfl⟩ := hC
  have hn := hA.small
  have HA := Lib.hid hA
  have HC := Lib.hid hC
  have TC := Lib.hid tC
  clear hA hC tA tC
  generalize hg : w.heap.size = g
  have Hg := Lib.hid hg
  clear hg
  rcases Nat.lt_or_ge (val A) (val C) with hlt | hge
  · have hc := Lib.hid (cmpN_lt hlt)
    have Hlt := Lib.hid hlt
    clear hlt
    go_enter Try.func13, Try.ntmps13
    go_wp2_with (go_at_call 18; refine (cmp_rn _ _ _ _ _ RA.out RC.out).mono ?_; rw [hc.out]; rintro e w' ⟨rfl, q, rfl⟩)
    go_ret2
    have e1 : decide (val C ≤ val A) = false := by have := Hlt.out; simp; omega
    have e2 : val A - val C = 0 := by have := Hlt.out; omega
    refine ⟨.slice none 0 0, by rw [e1]; rfl, by rw [e2]; exact RN.nil _, below_drewN _ _ _⟩
  · have hc := cmpN_ge hge
    have Hge := Lib.hid hge
    have hml : m ≤ n := by have := len_le_of_val_le HA.out.lim TC.out hge; rw [HA.out.len, HC.out.len] at this; exact this
    clear hge
    go_enter Try.func13, Try.ntmps13
    go_wp2_with (first | (go_at_call 18; refine (cmp_rn _ _ _ _ _ RA.out RC.out).mono ?_; rintro e w' ⟨rfl, q, rfl⟩) | (at_make; refine wpList_mk rfl _ _ rfl _ _ n rfl rfl (by omega) (by omega) (by omega) ?_; rw [World.heap_drewN, Hg.out]; intro w1 hown hb hs))
    have hst := SubSt.start (A := A) (C := C) hown ((below_drewN g w q).trans hb)
    clear hown
    have Hst := Lib.hid hst
    clear hst hb
    go_loopw [7, 19] (fun c i wr => ∃ k bw : Nat, k ≤ n ∧ i = .int .i64 k ∧ c = .int .u32 bw ∧ Hid (SubSt w g n A C k bw wr)) (fun _ i _ => n - (intOf i).toNat)
    case atStart => exact ⟨0, 0, Nat.zero_le _, rfl, rfl, Hst⟩
    case round =>
      obtain ⟨k, bw, hk, rfl, rfl, hst⟩ := hrel
      clear Hst
      by_cases hkn : k < n
      · obtain ⟨⟨x0, hc0⟩, hf0, hb, hbw⟩ := hst.out.cell hkn
        have SA := Lib.hid (HA.out.mono hb (by rw [Hg.out]; exact Nat.le_refl _))
        have SC := Lib.hid (HC.out.mono hb (by rw [Hg.out]; exact Nat.le_refl _))
        clear hb
        have ia := SA.out.ix hkn
        have ca := SA.out.cell k hkn
        have na := nth_lt HA.out.lim k
        have nc := nth_lt HC.out.lim k
        by_cases hkm : k < m
        · have ic := SC.out.ix hkm
          have cc := SC.out.cell k hkm
          go_wp2_with (go_at_call 38; refine (sub32_any (nth A k) (nth C k) bw _ na nc hbw).mono ?_; rintro e w' ⟨rfl, rfl⟩)
          go_roundw
          case rel => exact ⟨k + 1, brw (nth A k) (nth C k) bw, by omega, by go_num, by go_num, hst.out.step hkn HA.out.lim HC.out.lim rfl⟩
          case measure => simp [intOf]; omega
        · have hz := Lib.hid (nth_ge (L := C) (i := k) (by have := HC.out.len; omega))
          have hd : decide (k < m) = false := by simp; omega
          go_wp2_with (go_at_call 38; refine (sub32_any (nth A k) 0 bw _ na (by omega) hbw).mono ?_; rintro e w' ⟨rfl, rfl⟩)
          go_roundw
          case rel => exact ⟨k + 1, brw (nth A k) (nth C k) bw, by omega, by go_num, by rw [hz.out], hst.out.step hkn HA.out.lim HC.out.lim (by rw [hz.out])⟩
          case measure => simp [intOf]; omega
      · have e : k = n := by omega
        subst e
        obtain ⟨S, hS, hv, hbe⟩ := hst.out.fin (by rw [HA.out.len]; exact Nat.le_refl _) (by rw [HC.out.len]; omega) Hge.out (by omega)
        have HV := Lib.hid hv
        clear hv
        go_wp2_with (go_at_call 39; refine (trim_any _ S _ hS).mono ?_; rintro e w' ⟨u, rfl, hu, _, rfl⟩)
        go_ret2
        have hr := RN.of_sl hu
        rw [HV.out] at hr
        have e1 : decide (val C ≤ val A) = true := by have := Hge.out; simp; omega
        exact ⟨u, by rw [e1]; rfl, hr, by rw [Hg.out]; exact hbe⟩
#print axioms sub_rn

theorem rsub_rn (va vc : Value) (a c : Nat) (w : World) (hA : RN w va a) (hC : RN w vc c) : Calls Try.prog 14 #[va, vc] w (Subbed a c w) := by
  have RA := Lib.hid hA
  have RC := Lib.hid hC
  obtain ⟨A, ⟨ao, n, cap, rfl, hA⟩, tA, rfl⟩ := hA
  obtain ⟨C, ⟨co, m, cap', rfl, hC⟩, tC, rfl⟩ := hC
  have hn := hA.small
  have HA := Lib.hid hA
  have HC := Lib.hid hC
  have TC := Lib.hid tC
  clear hA hC tA tC
  generalize hg : w.heap.size = g
  have Hg := Lib.hid hg
  clear hg
  rcases Nat.lt_or_ge (val A) (val C) with hlt | hge
  · have hc := Lib.hid (cmpN_lt hlt)
    have Hlt := Lib.hid hlt
    clear hlt
    go_enter Try.func14, Try.ntmps14
    go_wp2_with (go_at_call 19; refine (rcmp_rn _ _ _ _ _ RA.out RC.out).mono ?_; rw [hc.out]; rintro e w' ⟨rfl, q, rfl⟩)
    go_ret2
    have e1 : decide (val C ≤ val A) = false := by have := Hlt.out; simp; omega
    have e2 : val A - val C = 0 := by have := Hlt.out; omega
    refine ⟨.slice none 0 0, by rw [e1]; rfl, by rw [e2]; exact RN.nil _, below_drewN _ _ _⟩
  · have hc := cmpN_ge hge
    have Hge := Lib.hid hge
    have hml : m ≤ n := by have := len_le_of_val_le HA.out.lim TC.out hge; rw [HA.out.len, HC.out.len] at this; exact this
    clear hge
    go_enter Try.func14, Try.ntmps14
    go_wp2_with (first | (go_at_call 19; refine (rcmp_rn _ _ _ _ _ RA.out RC.out).mono ?_; rintro e w' ⟨rfl, q, rfl⟩) | (at_make; refine wpList_mk rfl _ _ rfl _ _ n rfl rfl (by omega) (by omega) (by omega) ?_; rw [World.heap_drewN, Hg.out]; intro w1 hown hb hs))
    have hst := SubSt.start (A := A) (C := C) hown ((below_drewN g w q).trans hb)
    clear hown
    have Hst := Lib.hid hst
    clear hst hb
    go_loopw [7, 8] (fun c i wr => ∃ k bw : Nat, k ≤ n ∧ i = .int .i64 k ∧ c = .int .u64 bw ∧ Hid (SubSt w g n A C k bw wr)) (fun _ i _ => n - (intOf i).toNat)
    case atStart => exact ⟨0, 0, Nat.zero_le _, rfl, rfl, Hst⟩
    case round =>
      obtain ⟨k, bw, hk, rfl, rfl, hst⟩ := hrel
      clear Hst
      by_cases hkn : k < n
      · obtain ⟨⟨x0, hc0⟩, hf0, hb, hbw⟩ := hst.out.cell hkn
        have SA := Lib.hid (show SL wr (.slice ao n cap) A from ⟨_, _, _, rfl, HA.out.mono hb (by rw [Hg.out]; exact Nat.le_refl _)⟩)
        have SC := Lib.hid (show SL wr (.slice co m cap') C from ⟨_, _, _, rfl, HC.out.mono hb (by rw [Hg.out]; exact Nat.le_refl _)⟩)
        clear hb
        have na := nth_lt HA.out.lim k
        have nc := nth_lt HC.out.lim k
        have hs1 : (nth C k : Int) ≤ 4294967296 + (nth A k : Int) := by omega
        have hs2 : (bw : Int) ≤ 4294967296 + (nth A k : Int) - (nth C k : Int) := by omega
        go_wp2_with (go_at_call 40; refine (at_sl _ _ k _ (by first | exact SA.out | exact SC.out) (by omega)).mono ?_; rintro e w' ⟨rfl, rfl⟩)
        go_roundw
        case rel => exact ⟨k + 1, brw (nth A k) (nth C k) bw, by omega, by go_num, by unfold brw; congr 1; split <;> omega, hst.out.step hkn HA.out.lim HC.out.lim (by unfold dif; omega)⟩
        case measure => simp [intOf]; omega
      · have e : k = n := by omega
        subst e
        obtain ⟨S, hS, hv, hbe⟩ := hst.out.fin (by rw [HA.out.len]; exact Nat.le_refl _) (by rw [HC.out.len]; omega) Hge.out (by omega)
        have HV := Lib.hid hv
        clear hv
        go_wp2_with (go_at_call 41; refine (Trim_any _ S _ hS).mono ?_; rintro e w' ⟨u, rfl, hu, hb2⟩)
        go_ret2
        have hr := RN.of_sl hu
        rw [HV.out] at hr
        have e1 : decide (val C ≤ val A) = true := by have := Hge.out; simp; omega
        have hgl : g ≤ wr.heap.size := by have := hbe.size; rw [Hg.out] at this; exact this
        exact ⟨u, by rw [e1]; rfl, hr, by rw [Hg.out]; exact hbe.trans (hb2.mono hgl)⟩
#print axioms rsub_rn
end Go.Proofs.Ytdmolcopnehkbaa
