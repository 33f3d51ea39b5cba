/-
  Walks: Add of the program.
-/
import Derived.Test.YtdmolcopnehkbaaW3
set_option autoImplicit false
namespace Go.Proofs.Ytdmolcopnehkbaa
open Go.RowKit

/-- the round's state of an addition -/
def AddSt (w0 : World) (g n : Nat) (A C : List Nat) (k : Nat) (cy : Nat) (wr : World) : Prop :=
  ∃ S, Own wr g S ∧ S.length = n + 1 ∧ Lim S ∧ cy ≤ 1 ∧ val (S.take k) + cy * B k = val (A.take k) + val (C.take k) ∧ Below g w0 wr
theorem AddSt.start {w0 w1 : World} {g n : Nat} {A C : List Nat} (h : Own w1 g (List.replicate (n + 1) 0)) (hb : Below g w0 w1) : AddSt w0 g n A C 0 0 w1 :=
  ⟨_, h, by simp, Lim.replicate _, by omega, by simp [val], hb⟩
theorem AddSt.step {w0 wr : World} {g n k cy : Nat} {A C : List Nat} (h : AddSt w0 g n A C k cy wr) (hk : k ≤ n) (hA : Lim A) (hC : Lim C) {z : Int} (hz : z = (((nth A k + nth C k + cy) % 4294967296 : Nat) : Int)) :
    AddSt w0 g n A C (k + 1) ((nth A k + nth C k + cy) / 4294967296) (wr.setCell ⟨g, k, none⟩ (.int .u32 z)) := by
  obtain ⟨S, h1, h2, h3, h4, h5, h6⟩ := h
  subst hz
  have a := nth_lt hA k
  have c := nth_lt hC k
  refine ⟨S.set k ((nth A k + nth C k + cy) % 4294967296), h1.set _, by simpa using h2, h3.set _ _ (by omega), by omega, add_step (by omega) h5 (by omega), h6.setCell (Nat.le_refl _) _⟩
theorem AddSt.fin {w0 wr : World} {g n cy : Nat} {A C : List Nat} (h : AddSt w0 g n A C n cy wr) (hA : A.length ≤ n) (hC : C.length ≤ n) (hn : n + 1 ≤ 35184372088832) :
    ∃ S, SL (wr.setCell ⟨g, n, none⟩ (.int .u32 (cy : Int))) (.slice (some ⟨g, 0, none⟩) (n + 1) (n + 1)) S ∧ val S = val A + val C ∧ Below g w0 (wr.setCell ⟨g, n, none⟩ (.int .u32 (cy : Int))) := by
  obtain ⟨S, h1, h2, h3, h4, h5, h6⟩ := h
  exact ⟨S.set n cy, ⟨_, _, _, rfl, (h1.set cy).sl (h3.set _ _ (by omega)) (by simpa using h2.symm) (Nat.le_refl _) (by omega) (by simp; omega)⟩, add_end h2 h5 hA hC, h6.setCell (Nat.le_refl _) _⟩
theorem AddSt.cell {w0 wr : World} {g n cy k : Nat} {A C : List Nat} {q : Nat} (h : AddSt w0 g n A C q cy wr) (hk : k ≤ n) : (∃ x : Nat, wr.cell? ⟨g, k, none⟩ = some (.int .u32 (x : Int))) ∧ wr.frozen? ⟨g, k, none⟩ = false ∧ Below g w0 wr ∧ cy ≤ 1 := by
  obtain ⟨S, h1, h2, h3, h4, h5, h6⟩ := h
  exact ⟨⟨_, h1.cell (by omega)⟩, h1.frozen _, h6, h4⟩

theorem add_sl (va vc : Value) (A C : List Nat) (w : World) (hA : SL w va A) (hC : SL w vc C) (sA : A.length ≤ 17592186044416) (sC : C.length ≤ 17592186044416) :
    Calls Try.prog 16 #[va, vc] w (RNmade (val A + val C) w) := by
  obtain ⟨ao, n, cap, rfl, hA⟩ := hA
  obtain ⟨co, m, cap', rfl, hC⟩ := hC
  have hn : n ≤ 17592186044416 := hA.len ▸ sA
  have hm : m ≤ 17592186044416 := hC.len ▸ sC
  have HA := Lib.hid hA
  have HC := Lib.hid hC
  clear hA hC sA sC
  generalize hg : w.heap.size = g
  have Hg := Lib.hid hg
  rcases Nat.lt_or_ge n m with hlt | hge
  · clear hg
    go_enter Try.func16, Try.ntmps16
    go_wp2_with (at_make; refine wpList_mk rfl _ _ rfl _ _ (m + 1) rfl rfl (by omega) (by omega) (by omega) ?_; rw [Hg.out]; intro w1 hown hb hs)
    have hst := AddSt.start (A := C) (C := A) hown hb
    clear hown
    have Hst := Lib.hid hst
    clear hst hb
    go_loopw [6, 22] (fun c i wr => ∃ k cy : Nat, k ≤ m ∧ i = .int .i64 k ∧ c = .int .u32 cy ∧ Hid (AddSt w g m C A k cy wr)) (fun _ i _ => m - (intOf i).toNat)
    case atStart => exact ⟨0, 0, Nat.zero_le _, rfl, rfl, Hst⟩
    case round =>
      obtain ⟨k, cy, hk, rfl, rfl, hst⟩ := hrel
      clear Hst
      by_cases hkn : k < m
      · obtain ⟨⟨x0, hc0⟩, hf0, hb, hcy⟩ := hst.out.cell hk
        have SA := Lib.hid (HC.out.mono hb (by rw [Hg.out]; exact Nat.le_refl _))
        have SC := Lib.hid (HA.out.mono hb (by rw [Hg.out]; exact Nat.le_refl _))
        clear hb
        have ia := SA.out.ix hkn
        have ca := SA.out.cell k hkn
        have na := nth_lt HC.out.lim k
        have nc := nth_lt HA.out.lim k
        by_cases hkm : k < n
        · have ic := SC.out.ix hkm
          have cc := SC.out.cell k hkm
          go_wp2_with (go_at_call 43; refine (add32_any (nth C k) (nth A k) cy _ na nc hcy).mono ?_; rintro e w' ⟨rfl, rfl⟩)
          go_roundw
          case rel => exact ⟨k + 1, (nth C k + nth A k + cy) / 4294967296, by omega, by go_num, by go_num, hst.out.step hk HC.out.lim HA.out.lim (by omega)⟩
          case measure => simp [intOf]; omega
        · have hz := Lib.hid (nth_ge (L := A) (i := k) (by have := HA.out.len; omega))
          have hd : decide (k < n) = false := by simp; omega
          go_wp2_with (go_at_call 43; refine (add32_any (nth C k) 0 cy _ na (by omega) hcy).mono ?_; rintro e w' ⟨rfl, rfl⟩)
          go_roundw
          case rel => exact ⟨k + 1, (nth C k + nth A k + cy) / 4294967296, by omega, by go_num, by rw [hz.out]; go_num, hst.out.step hk HC.out.lim HA.out.lim (by rw [hz.out]; omega)⟩
          case measure => simp [intOf]; omega
      · have e : k = m := by omega
        subst e
        obtain ⟨⟨x0, hc0⟩, hf0, hb, hcy⟩ := hst.out.cell hk
        obtain ⟨S, hS, hv, hbe⟩ := hst.out.fin (by rw [HC.out.len]; exact Nat.le_refl _) (by rw [HA.out.len]; omega) (by omega)
        have HV := Lib.hid hv
        clear hv
        go_wp2_with (go_at_call 39; refine (trim_any _ S _ hS).mono ?_; rintro e w' ⟨u, rfl, hu, _, rfl⟩)
        go_ret
        have hr := RN.of_sl hu
        rw [HV.out] at hr
        exact ⟨_, rfl, Nat.add_comm (val C) (val A) ▸ hr, by rw [Hg.out]; exact hbe⟩
  · clear hg
    go_enter Try.func16, Try.ntmps16
    go_wp2_with (at_make; refine wpList_mk rfl _ _ rfl _ _ (n + 1) rfl rfl (by omega) (by omega) (by omega) ?_; rw [Hg.out]; intro w1 hown hb hs)
    have hst := AddSt.start (A := A) (C := C) hown hb
    clear hown
    have Hst := Lib.hid hst
    clear hst hb
    go_loopw [6, 22] (fun c i wr => ∃ k cy : Nat, k ≤ n ∧ i = .int .i64 k ∧ c = .int .u32 cy ∧ Hid (AddSt w g n A C k cy wr)) (fun _ i _ => n - (intOf i).toNat)
    case atStart => exact ⟨0, 0, Nat.zero_le _, rfl, rfl, Hst⟩
    case round =>
      obtain ⟨k, cy, hk, rfl, rfl, hst⟩ := hrel
      clear Hst
      by_cases hkn : k < n
      · obtain ⟨⟨x0, hc0⟩, hf0, hb, hcy⟩ := hst.out.cell hk
        have SA := Lib.hid (HA.out.mono hb (by rw [Hg.out]; exact Nat.le_refl _))
        have SC := Lib.hid (HC.out.mono hb (by rw [Hg.out]; exact Nat.le_refl _))
        clear hb
        have ia := SA.out.ix hkn
        have ca := SA.out.cell k hkn
        have na := nth_lt HA.out.lim k
        have nc := nth_lt HC.out.lim k
        by_cases hkm : k < m
        · have ic := SC.out.ix hkm
          have cc := SC.out.cell k hkm
          go_wp2_with (go_at_call 43; refine (add32_any (nth A k) (nth C k) cy _ na nc hcy).mono ?_; rintro e w' ⟨rfl, rfl⟩)
          go_roundw
          case rel => exact ⟨k + 1, (nth A k + nth C k + cy) / 4294967296, by omega, by go_num, by go_num, hst.out.step hk HA.out.lim HC.out.lim (by omega)⟩
          case measure => simp [intOf]; omega
        · have hz := Lib.hid (nth_ge (L := C) (i := k) (by have := HC.out.len; omega))
          have hd : decide (k < m) = false := by simp; omega
          go_wp2_with (go_at_call 43; refine (add32_any (nth A k) 0 cy _ na (by omega) hcy).mono ?_; rintro e w' ⟨rfl, rfl⟩)
          go_roundw
          case rel => exact ⟨k + 1, (nth A k + nth C k + cy) / 4294967296, by omega, by go_num, by rw [hz.out]; go_num, hst.out.step hk HA.out.lim HC.out.lim (by rw [hz.out]; omega)⟩
          case measure => simp [intOf]; omega
      · have e : k = n := by omega
        subst e
        obtain ⟨⟨x0, hc0⟩, hf0, hb, hcy⟩ := hst.out.cell hk
        obtain ⟨S, hS, hv, hbe⟩ := hst.out.fin (by rw [HA.out.len]; exact Nat.le_refl _) (by rw [HC.out.len]; omega) (by omega)
        have HV := Lib.hid hv
        clear hv
        go_wp2_with (go_at_call 39; refine (trim_any _ S _ hS).mono ?_; rintro e w' ⟨u, rfl, hu, _, rfl⟩)
        go_ret
        have hr := RN.of_sl hu
        rw [HV.out] at hr
        exact ⟨_, rfl, hr, by rw [Hg.out]; exact hbe⟩
#print axioms add_sl
end Go.Proofs.Ytdmolcopnehkbaa
