/-
  The state of a quotient that is made digit by digit; an append that must move.
-/
import Derived.Test.YtdmolcopnehkbaaW17
import Derived.Test.YtdmolcopnehkbaaLong
import Derived.ArgAppend
set_option autoImplicit false
namespace Go.Proofs.Ytdmolcopnehkbaa
open Go.RowKit

theorem Grows.has {w : World} {b n : Nat} {v : Value} {L : List Nat} (h : Grows w b v n L) (hn : 0 < n) : ∃ g cap, v = .slice (some ⟨g, 0, none⟩) n cap ∧ b ≤ g ∧ Has w g L ∧ n ≤ cap ∧ cap ≤ 9223372036854775807 := by
  have hlen := h.len
  rcases h.2 with ⟨rfl, rfl⟩ | ⟨g, cap, cur, rfl, hb, hg, hnc, hcm, hcs, htake⟩
  · omega
  · exact ⟨g, cap, rfl, hb, ⟨cur, hg, by rw [hlen]; simpa using htake⟩, hnc, by simpa [maxLen] using hcm⟩
theorem Has.sl {w : World} {g : Nat} {L : List Nat} (h : Has w g L) (hl : Lim L) {n cap : Nat} (hn : n = L.length) (hc : n ≤ cap) (hm : cap ≤ 9223372036854775807) (hs : L.length ≤ 35184372088832) : SlOk w (some ⟨g, 0, none⟩) n cap L :=
  ⟨hn.symm, hc, hm, by omega, hl, by simp, fun i hi => by rw [adr_some, Addr.add_lit, Nat.zero_add]; exact h.cell (by omega)⟩

/-- append onto a slice that has no room: it moves to a new block -/
theorem wpList_grow {w : World} {ops : Array Oper} {rest : List Oper} {o : Oper} {a : Act} {Q : Exit → Act → World → Prop} (hgd : o.guard = none) (s x : Operand)
    (ho : o.op = .call { callee := .builtin .append, args := #[s, x], argTypes := #[22, 22] })
    (ao : Option Addr) (n : Nat) (L : List Nat) (hs : a.eval s = .slice ao n n) (hL : SlOk w ao n n L)
    (ad : Addr) (m c : Nat) (C : List Nat) (hx : a.eval x = .slice (some ad) m c) (hC : SlOk w (some ad) m c C) (hm : 0 < m) (hsz : n + m ≤ 35184372088832)
    (h : ∀ v' w', Grows w' w.heap.size v' (n + m) (L ++ C) → Below w.heap.size w w' → wpList Try.prog ops Q rest (a.put o.dst v') w') : wpList Try.prog ops Q (o :: rest) a w := by
  obtain ⟨i0, hi, hz0, hz1, hz2⟩ := info_parts info41
  refine wpList_append_grows w hgd s x 22 ho 41 i0 _ 1 4 Try.underlying22 hi hz0 hz1 hz2 rfl (by decide) ao n n (lv L) hs (fun e => by have := hL.nil e; omega)
    (by rw [lv_length, hL.len]; omega) (fun b hb j u hu => ?_) ad m c (lv C) hx (by rw [lv_length, hC.len]; omega) (fun j u hu => ?_) (lv_one C) (by omega) (by simp only [maxLen]; omega) (by omega) ?_
  · obtain ⟨hj, rfl⟩ := lv_get hu
    subst hb
    exact hL.cell j (by have := hL.len; omega)
  · obtain ⟨hj, rfl⟩ := lv_get hu
    exact hC.cell j (by have := hC.len; omega)
  · intro v' w' h2 h3
    refine h v' w' ?_ ?_
    · unfold Grows; rw [lv_append]; exact h2
    · exact (Below.refl w.heap.size w).grown h3 (Nat.le_refl _) (fun k hk => by cases hk)

/-- j digits are still to come: Q holds those that came, M what is left -/
def QSt (w0 : World) (gu gq K m U0 : Nat) (vco : Option Addr) (vcap : Nat) (V : List Nat) (j : Nat) (wr : World) : Prop :=
  ∃ M Q, Has wr gu M ∧ Lim M ∧ M.length = K + m ∧ Own wr gq Q ∧ Lim Q ∧ Q.length = K ∧ SlOk wr vco m vcap V ∧ val (Q.drop j) * B j * val V + val M = U0 ∧ val M < B j * val V ∧ Below w0.heap.size w0 wr

theorem QSt.next {w0 wr : World} {gu gq K m U0 vcap j : Nat} {vco : Option Addr} {V : List Nat} (h : QSt w0 gu gq K m U0 vco vcap V (j + 1) wr) (hj : j < K) (hm : 2 ≤ m) (htop : 2147483648 ≤ nth V (m - 1))
    (hne : gq ≠ gu) (hvu : (adr vco).block ≠ gu) (hvq : (adr vco).block ≠ gq) (bu : w0.heap.size ≤ gu) (bq : w0.heap.size ≤ gq) :
    ∃ M, Has wr gu M ∧ Lim M ∧ j + m + 1 ≤ M.length ∧ SlOk wr vco m vcap V ∧ Digit ((M.drop j).take (m + 1)) V m ∧
      ∀ e w', DigitPost gu j m M ((M.drop j).take (m + 1)) V wr e w' → ∃ d : Nat, e = .returned (.int .u32 (d : Int)) ∧ (∃ c : Nat, w'.cell? ⟨gq, j, none⟩ = some (.int .u32 (c : Int))) ∧ w'.frozen? ⟨gq, j, none⟩ = false ∧
        QSt w0 gu gq K m U0 vco vcap V j (w'.setCell ⟨gq, j, none⟩ (.int .u32 (d : Int))) := by
  obtain ⟨M, Q, h1, h2, h3, h4, h5, h6, h7, h8, h9, h10⟩ := h
  obtain ⟨k1, k2, k3⟩ := window h3 h7.lim h7.len hj h9
  have hd : Digit ((M.drop j).take (m + 1)) V m := ⟨hm, by simp; omega, h7.len, (h2.drop j).take _, h7.lim, htop, k1⟩
  refine ⟨M, h1, h2, by omega, h7, hd, ?_⟩
  rintro e w' ⟨M', S, he, p1, p2, p3, p4, p5⟩
  have hq := p5.own h4 hne
  refine ⟨_, he, ⟨_, hq.cell (by omega)⟩, hq.frozen _, M', Q.set j _, p1.other (by simpa using hne) _, p2, by rw [p3.len, h3], hq.set _, h5.set _ _ hd.q_lt, by simpa using h6, ?_, ?_, ?_, ?_⟩
  · exact ((Touch.refl gq w').set _ _).sl (p5.sl h7 hvu) hvq
  · rw [val_drop_set _ (by omega), p3.after k2]
    rw [B_succ, k3] at h8
    exact digit_sum h8 (by rw [p4, Nat.mul_comm]; exact (Nat.div_add_mod _ _).symm)
  · rw [p3.after k2, p4]
    exact digit_lt (val_take_lt h2 j) (Nat.mod_lt _ hd.pos)
  · exact ((Touch.refl gq w').set _ _).below (p5.below h10 bu) bq
theorem QSt.below {w0 wr : World} {gu gq K m U0 vcap j : Nat} {vco : Option Addr} {V : List Nat} (h : QSt w0 gu gq K m U0 vco vcap V j wr) : Below w0.heap.size w0 wr := by
  obtain ⟨M, Q, h1, h2, h3, h4, h5, h6, h7, h8, h9, h10⟩ := h; exact h10
theorem QSt.start {w0 wr : World} {gu gq K k i U0 vcap : Nat} {vco : Option Addr} {U V : List Nat} (hU : Has wr gu (U ++ [0])) (lU : Lim U) (hk : U.length = k) (hK : K + (i + 2) = k + 1) (hQ : Own wr gq (List.replicate K 0)) (hV : SlOk wr vco (i + 2) vcap V)
    (htop : 2147483648 ≤ nth V (i + 1)) (hu : val U = U0) (hb : Below w0.heap.size w0 wr) : QSt w0 gu gq K (i + 2) U0 vco vcap V K wr := by
  have lz : Lim [0] := fun x hx => by simp at hx; omega
  have e : val (U ++ [0]) = val U := by rw [val_append]; simp [val]
  refine ⟨U ++ [0], _, hU, lU.append lz, by simp; omega, hQ, Lim.replicate K, by simp, hV, ?_, ?_, hb⟩
  · rw [List.drop_of_length_le (by simp), e]; simp [val, hu]
  · rw [e]
    have h1 := val_lt lU
    rw [hk] at h1
    have h2 := val_lo (A := V) (j := i + 1) hV.len
    have h3 : 1 * B (i + 1) ≤ nth V (i + 1) * B (i + 1) := Nat.mul_le_mul_right _ (by omega)
    have h4 : B K * B (i + 1) ≤ B K * val V := Nat.mul_le_mul_left _ (by omega)
    have h5 : B K * B (i + 1) = B k := by rw [← B_add]; congr 1; omega
    omega
theorem QSt.fin {w0 wr : World} {gu gq K m U0 vcap : Nat} {vco : Option Addr} {V : List Nat} (h : QSt w0 gu gq K m U0 vco vcap V 0 wr) {cap : Nat} (hc : K + m ≤ cap) (hm : cap ≤ 9223372036854775807) (hs : K + m ≤ 35184372088832) :
    ∃ M Q, SL wr (.slice (some ⟨gu, 0, none⟩) (K + m) cap) M ∧ SL wr (.slice (some ⟨gq, 0, none⟩) K K) Q ∧ val Q * val V + val M = U0 ∧ val M < val V ∧ Below w0.heap.size w0 wr := by
  obtain ⟨M, Q, h1, h2, h3, h4, h5, h6, h7, h8, h9, h10⟩ := h
  refine ⟨M, Q, ⟨_, _, _, rfl, h1.sl h2 h3.symm hc hm (by omega)⟩, ⟨_, _, _, rfl, h4.sl h5 h6.symm (Nat.le_refl _) (by omega) (by omega)⟩, ?_, ?_, h10⟩
  · simpa [B_zero] using h8
  · simpa [B_zero] using h9
theorem SlOk.blt {w : World} {a : Addr} {n cap : Nat} {L : List Nat} (h : SlOk w (some a) n cap L) (hn : 0 < n) : a.block < w.heap.size := by
  have hc := h.cell 0 hn
  rw [adr_some, addr_zero] at hc
  apply Nat.lt_of_not_le
  intro hle
  have : w.heap[a.block]? = none := Array.getElem?_eq_none hle
  simp [World.cell?, this] at hc
/-- how many limbs a shifted number has -/
theorem shl_len {A U : List Nat} {l s : Nat} (lA : Lim A) (tA : Top A) (hA : A.length = l + 1) (lU : Lim U) (tU : Top U) (hu : val U = val A * 2 ^ s) (hs : s ≤ 31) : l + 1 ≤ U.length ∧ U.length ≤ l + 2 := by
  have h1 := val_lt lA
  have h2 := le_val_of_top tA (by intro e; rw [e] at hA; simp at hA)
  rw [hA] at h1 h2
  simp only [Nat.add_sub_cancel] at h2
  have h3 : 0 < 2 ^ s := Nat.pow_pos (by decide)
  have h4 : 2 ^ s ≤ 2 ^ 31 := Nat.pow_le_pow_right (by decide) hs
  have h5 : val A * 1 ≤ val A * 2 ^ s := Nat.mul_le_mul_left _ h3
  have h6 : val A * 2 ^ s ≤ val A * 4294967296 := Nat.mul_le_mul_left _ (Nat.le_trans h4 (by decide))
  have h7 : B (l + 2) = 4294967296 * B (l + 1) := B_succ (l + 1)
  have h10 : val U < B (l + 2) := by rw [hu, h7]; omega
  refine ⟨?_, RN.len_le tU h10⟩
  apply Nat.lt_of_not_le
  intro h
  have h8 := val_lt lU
  have h9 := B_mono h
  omega
#print axioms QSt.next
end Go.Proofs.Ytdmolcopnehkbaa
