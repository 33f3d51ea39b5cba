/-
  Walks: Mul, both.
-/
import Derived.Test.YtdmolcopnehkbaaW5
set_option autoImplicit false
namespace Go.Proofs.Ytdmolcopnehkbaa
open Go.RowKit

def MulSt (w0 : World) (g n m : Nat) (A C : List Nat) (i : Nat) (wr : World) : Prop :=
  ∃ S, Own wr g S ∧ S.length = n + m ∧ Lim S ∧ val (S.take (i + m)) = val (A.take i) * val C ∧ Below g w0 wr
def MulIn (w0 : World) (g n m : Nat) (A C : List Nat) (i k cy : Nat) (wr : World) : Prop :=
  ∃ S, Own wr g S ∧ S.length = n + m ∧ Lim S ∧ cy < 4294967296 ∧ val (S.take (i + m)) + cy * B (i + k) = val (A.take i) * val C + nth A i * B i * val (C.take k) ∧ Below g w0 wr
theorem MulSt.start {w0 w1 : World} {g n m : Nat} {A C : List Nat} (h : Own w1 g (List.replicate (n + m) 0)) (hb : Below g w0 w1) : MulSt w0 g n m A C 0 w1 :=
  ⟨_, h, by simp, Lim.replicate _, by simp [val, List.take_replicate, val_replicate], hb⟩
theorem MulSt.inn {w0 wr : World} {g n m i : Nat} {A C : List Nat} (h : MulSt w0 g n m A C i wr) : MulIn w0 g n m A C i 0 0 wr := by
  obtain ⟨S, h1, h2, h3, h4, h5⟩ := h
  exact ⟨S, h1, h2, h3, by omega, by simp [val, h4], h5⟩
/-- the limb that an inner round reads, and what it leaves -/
theorem MulIn.next {w0 wr : World} {g n m i k cy : Nat} {A C : List Nat} (h : MulIn w0 g n m A C i k cy wr) (hi : i < n) (hk : k < m) (hA : Lim A) (hC : Lim C) :
    ∃ s : Nat, wr.cell? ⟨g, i + k, none⟩ = some (.int .u32 (s : Int)) ∧ wr.frozen? ⟨g, i + k, none⟩ = false ∧ s < 4294967296 ∧ cy < 4294967296 ∧
      ∀ (z : Int) (q : Nat), z = (((nth A i * nth C k + s + cy) % 4294967296 : Nat) : Int) → MulIn w0 g n m A C i (k + 1) ((nth A i * nth C k + s + cy) / 4294967296) ((wr.drewN q).setCell ⟨g, i + k, none⟩ (.int .u32 z)) := by
  obtain ⟨S, h1, h2, h3, h4, h5, h6⟩ := h
  have hs := nth_lt h3 (i + k)
  have hb := mul_le _ _ _ _ (nth_lt hA i) (nth_lt hC k) hs h4
  refine ⟨nth S (i + k), h1.cell (by omega), h1.frozen _, hs, h4, ?_⟩
  rintro z q rfl
  exact ⟨S.set (i + k) ((nth A i * nth C k + nth S (i + k) + cy) % 4294967296), Own.set (w := wr.drewN q) h1 _, by simpa using h2, h3.set _ _ (by omega), hb.2.2, mul_step hk (by omega) h5 rfl, (h6.trans (below_drewN g wr q)).setCell (Nat.le_refl _) _⟩
theorem MulIn.below {w0 wr : World} {g n m i k cy : Nat} {A C : List Nat} (h : MulIn w0 g n m A C i k cy wr) : Below g w0 wr := by
  obtain ⟨S, h1, h2, h3, h4, h5, h6⟩ := h; exact h6
theorem MulSt.below {w0 wr : World} {g n m i : Nat} {A C : List Nat} (h : MulSt w0 g n m A C i wr) : Below g w0 wr := by
  obtain ⟨S, h1, h2, h3, h4, h5⟩ := h; exact h5
theorem MulIn.fin {w0 wr : World} {g n m i cy : Nat} {A C : List Nat} (h : MulIn w0 g n m A C i m cy wr) (hi : i < n) (hC : C.length = m) :
    (∃ s : Nat, wr.cell? ⟨g, i + m, none⟩ = some (.int .u32 (s : Int))) ∧ wr.frozen? ⟨g, i + m, none⟩ = false ∧ cy < 4294967296 ∧ MulSt w0 g n m A C (i + 1) (wr.setCell ⟨g, i + m, none⟩ (.int .u32 (cy : Int))) := by
  obtain ⟨S, h1, h2, h3, h4, h5, h6⟩ := h
  exact ⟨⟨_, h1.cell (by omega)⟩, h1.frozen _, h4, S.set (i + m) cy, h1.set _, by simpa using h2, h3.set _ _ h4, mul_round (by omega) hC h5, h6.setCell (Nat.le_refl _) _⟩
theorem MulSt.fin {w0 wr : World} {g n m : Nat} {A C : List Nat} (h : MulSt w0 g n m A C n wr) (hA : A.length = n) (hn : n + m ≤ 35184372088832) :
    ∃ S, SL wr (.slice (some ⟨g, 0, none⟩) (n + m) (n + m)) S ∧ val S = val A * val C ∧ Below g w0 wr := by
  obtain ⟨S, h1, h2, h3, h4, h5⟩ := h
  refine ⟨S, ⟨_, _, _, rfl, h1.sl h3 h2.symm (Nat.le_refl _) (by omega) (by omega)⟩, ?_, h5⟩
  rw [val_take_all (by omega), val_take_all (by omega)] at h4
  exact h4

theorem cast_mod (x y s c : Nat) : ((x : Int) * y + s + c) % 4294967296 = (((x * y + s + c) % 4294967296 : Nat) : Int) := by rw [Int.natCast_emod, Int.natCast_add, Int.natCast_add, Int.natCast_mul]; rfl
theorem cast_div (x y s c : Nat) : ((x : Int) * y + s + c) / 4294967296 = (((x * y + s + c) / 4294967296 : Nat) : Int) := by rw [Int.natCast_ediv, Int.natCast_add, Int.natCast_add, Int.natCast_mul]; rfl

theorem mul_sl (va vc : Value) (A C : List Nat) (w : World) (hA : SL w va A) (hC : SL w vc C) (sA : A.length ≤ 8796093022208) (sC : C.length ≤ 8796093022208) :
    Calls Try.prog 22 #[va, vc] w (RNmade (val A * val C) w) := by
  obtain ⟨ao, n, cap, rfl, hA⟩ := hA
  obtain ⟨co, m, cap', rfl, hC⟩ := hC
  have hn : n ≤ 8796093022208 := hA.len ▸ sA
  have hm : m ≤ 8796093022208 := hC.len ▸ sC
  have HA := Lib.hid hA
  have HC := Lib.hid hC
  clear hA hC sA sC
  generalize hg : w.heap.size = g
  have Hg := Lib.hid hg
  clear hg
  go_enter Try.func22, Try.ntmps22
  go_wp2_with (at_make; refine wpList_mk rfl _ _ rfl _ _ (n + m) rfl rfl (by omega) (by omega) (by omega) ?_; rw [Hg.out]; intro w1 hown hb hs)
  have Hst := Lib.hid (MulSt.start (A := A) (C := C) hown hb)
  clear hown hb
  go_loopw [20] (fun i wr => ∃ k : Nat, k ≤ n ∧ i = .int .i64 k ∧ Hid (MulSt w g n m A C k wr)) (fun i _ => n - (intOf i).toNat)
  case atStart => exact ⟨0, Nat.zero_le _, rfl, Hst⟩
  case round =>
    obtain ⟨i, hi, rfl, hst⟩ := hrel
    clear Hst
    obtain ⟨wo, rfl⟩ : ∃ wo : World, wo = wr := ⟨_, rfl⟩
    by_cases hin : i < n
    · have SA := Lib.hid (HA.out.mono hst.out.below (by rw [Hg.out]; exact Nat.le_refl _))
      have ia := SA.out.ix hin
      have ca := SA.out.cell i hin
      have na := nth_lt HA.out.lim i
      go_wp2
      have Hin := Lib.hid hst.out.inn
      clear ia ca
      go_loopw [8, 27] (fun c k wr => ∃ j cy : Nat, j ≤ m ∧ k = .int .i64 j ∧ c = .int .u64 cy ∧ Hid (MulIn w g n m A C i j cy wr)) (fun _ k _ => m - (intOf k).toNat)
      case atStart => exact ⟨0, 0, Nat.zero_le _, rfl, rfl, Hin⟩
      case round =>
        obtain ⟨j, cy, hj, rfl, rfl, hin'⟩ := hrel
        clear Hin SA hst
        by_cases hjm : j < m
        · have SC := Lib.hid (HC.out.mono hin'.out.below (by rw [Hg.out]; exact Nat.le_refl _))
          have ic := SC.out.ix hjm
          have cc := SC.out.cell j hjm
          have nc := nth_lt HC.out.lim j
          obtain ⟨s, hs1, hs2, hs3, hcy, hnext⟩ := hin'.out.next hin hjm HA.out.lim HC.out.lim
          have HN := Lib.hid hnext
          clear hnext
          obtain ⟨p1, p2, p3⟩ := mul_le (nth A i) (nth C j) s cy na nc hs3 hcy
          go_wp2
          go_roundw
          case rel => exact ⟨j + 1, (nth A i * nth C j + s + cy) / 4294967296, by omega, by go_num, by rw [cast_div], HN.out _ 0 (cast_mod _ _ _ _)⟩
          case measure => simp [intOf]; omega
        · have e : j = m := by omega
          subst e
          obtain ⟨⟨s, hs1⟩, hs2, hcy, hfin⟩ := hin'.out.fin hin HC.out.len
          have HF := Lib.hid hfin
          clear hfin
          go_wp2
          go_roundw
          case rel => exact ⟨i + 1, by omega, by go_num, HF.out⟩
          case measure => simp [intOf]; omega
    · have e : i = n := by omega
      subst e
      obtain ⟨S, hS, hv, hbe⟩ := hst.out.fin HA.out.len (by omega)
      have HV := Lib.hid hv
      clear hv
      go_wp2_with (go_at_call 39; refine (trim_any _ S _ hS).mono ?_; rintro e w' ⟨u, rfl, hu, _, rfl⟩)
      go_ret
      have hr := RN.of_sl hu
      rw [HV.out] at hr
      exact ⟨_, rfl, hr, by rw [Hg.out]; exact hbe⟩
theorem rmul_sl (va vc : Value) (A C : List Nat) (w : World) (hA : SL w va A) (hC : SL w vc C) (sA : A.length ≤ 8796093022208) (sC : C.length ≤ 8796093022208) :
    Calls Try.prog 23 #[va, vc] w (RNmade (val A * val C) w) := by
  obtain ⟨ao, n, cap, rfl, hA⟩ := hA
  obtain ⟨co, m, cap', rfl, hC⟩ := hC
  have hn : n ≤ 8796093022208 := hA.len ▸ sA
  have hm : m ≤ 8796093022208 := hC.len ▸ sC
  have HA := Lib.hid hA
  have HC := Lib.hid hC
  clear hA hC sA sC
  generalize hg : w.heap.size = g
  have Hg := Lib.hid hg
  clear hg
  go_enter Try.func23, Try.ntmps23
  go_wp2_with (at_make; refine wpList_mk rfl _ _ rfl _ _ (n + m) rfl rfl (by omega) (by omega) (by omega) ?_; rw [Hg.out]; intro w1 hown hb hs)
  have Hst := Lib.hid (MulSt.start (A := A) (C := C) hown hb)
  clear hown hb
  go_loopw [6] (fun i wr => ∃ k : Nat, k ≤ n ∧ i = .int .i64 k ∧ Hid (MulSt w g n m A C k wr)) (fun i _ => n - (intOf i).toNat)
  case atStart => exact ⟨0, Nat.zero_le _, rfl, Hst⟩
  case round =>
    obtain ⟨i, hi, rfl, hst⟩ := hrel
    clear Hst
    obtain ⟨wo, rfl⟩ : ∃ wo : World, wo = wr := ⟨_, rfl⟩
    by_cases hin : i < n
    · have SA := Lib.hid (HA.out.mono hst.out.below (by rw [Hg.out]; exact Nat.le_refl _))
      have na := nth_lt HA.out.lim i
      go_wp2
      have Hin := Lib.hid hst.out.inn
      go_loopw [7, 8] (fun c k wr => ∃ j cy : Nat, j ≤ m ∧ k = .int .i64 j ∧ c = .int .u64 cy ∧ Hid (MulIn w g n m A C i j cy wr)) (fun _ k _ => m - (intOf k).toNat)
      case atStart => exact ⟨0, 0, Nat.zero_le _, rfl, rfl, Hin⟩
      case round =>
        obtain ⟨j, cy, hj, rfl, rfl, hin'⟩ := hrel
        clear Hin SA hst
        by_cases hjm : j < m
        · have SC := Lib.hid (HC.out.mono hin'.out.below (by rw [Hg.out]; exact Nat.le_refl _))
          have SA := Lib.hid (HA.out.mono hin'.out.below (by rw [Hg.out]; exact Nat.le_refl _))
          have ia := SA.out.ix hin
          have ca := SA.out.cell i hin
          have ic := SC.out.ix hjm
          have cc := SC.out.cell j hjm
          have nc := nth_lt HC.out.lim j
          obtain ⟨s, hs1, hs2, hs3, hcy, hnext⟩ := hin'.out.next hin hjm HA.out.lim HC.out.lim
          have HN := Lib.hid hnext
          clear hnext
          obtain ⟨p1, p2, p3⟩ := mul_le (nth A i) (nth C j) s cy na nc hs3 hcy
          have hij : (0 : Int) ≤ (i : Int) + (j : Int) := by omega
          have hij2 : (i : Int) + (j : Int) < (n : Int) + (m : Int) := by omega
          have hij3 : IntKind.i64.wrap ((i : Int) + (j : Int)) = (i : Int) + (j : Int) := IntWalk.i64_in _ (by omega)
          have hij4 : ((i : Int) + (j : Int)).toNat = i + j := by omega
          go_wp2
          go_quiet (fail)
          go_wp2
          go_roundw
          case rel => exact ⟨j + 1, (nth A i * nth C j + s + cy) / 4294967296, by omega, by go_num, by rw [cast_div], HN.out _ _ (cast_mod _ _ _ _)⟩
          case measure => simp [intOf]; omega
        · have e : j = m := by omega
          subst e
          obtain ⟨⟨s, hs1⟩, hs2, hcy, hfin⟩ := hin'.out.fin hin HC.out.len
          have HF := Lib.hid hfin
          clear hfin
          go_wp2
          go_roundw
          case rel => exact ⟨i + 1, by omega, by go_num, HF.out⟩
          case measure => simp [intOf]; omega
    · have e : i = n := by omega
      subst e
      obtain ⟨S, hS, hv, hbe⟩ := hst.out.fin HA.out.len (by omega)
      have HV := Lib.hid hv
      clear hv
      go_wp2_with (go_at_call 41; refine (Trim_any _ S _ hS).mono ?_; rintro e w' ⟨u, rfl, hu, hb2⟩)
      go_ret
      have hr := RN.of_sl hu
      rw [HV.out] at hr
      have hgl : g ≤ wo.heap.size := by have := hbe.size; rw [Hg.out] at this; exact this
      exact ⟨_, rfl, hr, by rw [Hg.out]; exact hbe.trans (hb2.mono hgl)⟩
#print axioms mul_sl
#print axioms rmul_sl
end Go.Proofs.Ytdmolcopnehkbaa
