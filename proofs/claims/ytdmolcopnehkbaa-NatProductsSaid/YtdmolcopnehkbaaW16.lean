/-
  Walk: a digit of a quotient.
-/
import Derived.Test.YtdmolcopnehkbaaW12
set_option autoImplicit false
namespace Go.Proofs.Ytdmolcopnehkbaa
open Go.RowKit

theorem Win.trans {K M L : List Nat} {off n : Nat} {S T : List Nat} (h : Win M L off n S) (k : Win K M off n T) : Win K L off n T :=
  ⟨k.len.trans h.len, h.fits, k.lo.trans h.lo, k.hi.trans h.hi, k.win⟩
theorem Has.drewN {w : World} {g : Nat} {L : List Nat} (h : Has w g L) (q : Nat) : Has (w.drewN q) g L := h

theorem dec_cast {g : Nat} (h : 1 ≤ g) (h2 : g < 4294967296) : IntKind.u64.wrap ((g : Int) - 1) % 4294967296 = ((g - 1 : Nat) : Int) := by
  have e : IntKind.u64.wrap ((g : Int) - 1) = (g : Int) - 1 := IntWalk.u64_in _ (by omega)
  rw [e]
  omega
theorem ret_u32 {a b : Int} (h : a = b) : Ending.returned (.int .u32 a) = .returned (.int .u32 b) := by rw [h]

/-- what a digit leaves: the quotient is given, the window holds the rest -/
def DigitPost (g off n : Nat) (L U V : List Nat) (w : World) (e : Ending) (w' : World) : Prop :=
  ∃ M S, e = .returned (.int .u32 ((val U / val V : Nat) : Int)) ∧ Has w' g M ∧ Lim M ∧ Win M L off n S ∧ val S = val U % val V ∧ Touch g w w'

set_option maxHeartbeats 800000 in
theorem digit_own (g off j cap : Nat) (L : List Nat) (vc : Value) (co : Option Addr) (cap' : Nat) (V : List Nat) (w : World) (hL : Has w g L) (lL : Lim L) (hf : off + (j + 2) + 1 ≤ L.length) (hn : j + 2 ≤ 35184372088832)
    (hvc : vc = .slice co (j + 2) cap') (hC : SlOk w co (j + 2) cap' V) (hne : (adr co).block ≠ g) (hd : Digit ((L.drop off).take (j + 2 + 1)) V (j + 2)) :
    Calls Try.prog 47 #[.slice (some ⟨g, off, none⟩) (j + 2 + 1) cap, vc] w (DigitPost g off (j + 2) L ((L.drop off).take (j + 2 + 1)) V w) := by
  subst hvc
  have HL := Lib.hid hL
  have HLL := Lib.hid lL
  have HF := Lib.hid hf
  have HC := Lib.hid hC
  have HNE := Lib.hid hne
  have HD := Lib.hid hd
  have nU : ∀ i, i < j + 3 → nth ((L.drop off).take (j + 2 + 1)) i = nth L (off + i) := fun i hi => by rw [nth_take (by omega), nth_drop]
  have cu : ∀ i, i < j + 3 → w.cell? ⟨g, off + i, none⟩ = some (.int .u32 ((nth ((L.drop off).take (j + 2 + 1)) i : Nat) : Int)) := fun i hi => by rw [nU i hi]; exact hL.cell (by omega)
  generalize hU : (L.drop off).take (j + 2 + 1) = U at *
  have HU := Lib.hid hU
  clear hU
  have c2 := cu (j + 2) (by omega)
  have c1 := cu (j + 1) (by omega)
  have c0 := cu j (by omega)
  have n2 := nth_lt hd.limU (j + 2)
  have n1 := nth_lt hd.limU (j + 1)
  have n0 := nth_lt hd.limU j
  have ix1 := hC.ix (show j + 1 < j + 2 by omega)
  have ix0 := hC.ix (show j < j + 2 by omega)
  have d1 := hC.cell (j + 1) (by omega)
  have d0 := hC.cell j (by omega)
  rw [addr_succ] at d1
  have m1 := nth_lt hC.lim (j + 1)
  have m0 := nth_lt hC.lim j
  have htop : 2147483648 ≤ nth V (j + 1) := hd.top
  have hor := or_lo (nth U (j + 2)) (nth U (j + 1)) n2 n1
  have hv0 : ((nth V (j + 1) : Int) == 0) = false := by simp; omega
  rw [show ((j + 1 : Nat) : Int) = (j : Int) + 2 - 1 from by omega] at ix1
  have ix0' := ix0
  rw [show ((j : Nat) : Int) = (j : Int) + 2 - 2 from by omega] at ix0
  have hst := hd.start
  rw [show j + 2 - 1 = j + 1 from rfl] at hst
  have hdv : ((nth U (j + 2) : Int) * 4294967296 + (nth U (j + 1) : Int)) / (nth V (j + 1) : Int) = (((nth U (j + 2) * 4294967296 + nth U (j + 1)) / nth V (j + 1) : Nat) : Int) := by
    rw [Int.natCast_ediv, Int.natCast_add, Int.natCast_mul]; rfl
  have hmd : ((nth U (j + 2) : Int) * 4294967296 + (nth U (j + 1) : Int)) % (nth V (j + 1) : Int) = (((nth U (j + 2) * 4294967296 + nth U (j + 1)) % nth V (j + 1) : Nat) : Int) := by
    rw [Int.natCast_emod, Int.natCast_add, Int.natCast_mul]; rfl
  obtain ⟨q0, hq0⟩ : ∃ q0, q0 = (nth U (j + 2) * 4294967296 + nth U (j + 1)) / nth V (j + 1) := ⟨_, rfl⟩
  obtain ⟨r0, hr0⟩ : ∃ r0, r0 = (nth U (j + 2) * 4294967296 + nth U (j + 1)) % nth V (j + 1) := ⟨_, rfl⟩
  have hq0l : q0 < 18446744073709551616 := by rw [hq0]; exact Nat.lt_of_le_of_lt (Nat.div_le_self _ _) (by omega)
  have hr0l : r0 < 4294967296 := by rw [hr0]; exact Nat.lt_trans (Nat.mod_lt _ (by omega)) m1
  rw [← hq0] at hdv hst
  rw [← hr0] at hmd hst
  have HST := Lib.hid hst
  clear hq0 hr0 hst
  clear hL lL hf hC hne hd cu nU
  go_enter Try.func47, Try.ntmps47
  go_wp2
  go_quiet (fail)
  go_wp2
  go_quiet (fail)
  go_wp2
  go_loopw [7, 8] (fun gv rv wr => ∃ gk rk q : Nat, gk < 18446744073709551616 ∧ rk < 4294967296 ∧ gv = .int .u64 gk ∧ rv = .int .u64 rk ∧ Hid (Guess U V (j + 2) gk rk) ∧ wr = w.drewN q) (fun gv _ _ => (intOf gv).toNat)
  case atStart => exact ⟨q0, r0, _, hq0l, hr0l, by rw [hdv], by rw [hmd], HST, World.drewN_drewN _ _ _⟩
  case round =>
    obtain ⟨gk, rk, q, hgl, hrl, rfl, rfl, hst, rfl⟩ := hrel
    clear HST hdv hmd hq0l hr0l c2 c1
    have hor2 := or_lo rk (nth U j) hrl n0
    by_cases hA : 4294967296 ≤ gk
    · have hgd : ((gk : Int) / 4294967296 != 0) = true := by simp; omega
      obtain ⟨hg1, hdown⟩ := hst.out.down HD.out (Or.inl hA)
      have HDN := Lib.hid hdown
      clear hdown
      obtain ⟨gg, hgg⟩ : ∃ gg, gg = gk - 1 := ⟨_, rfl⟩
      obtain ⟨rr, hrr⟩ : ∃ rr, rr = rk + nth V (j + 1) := ⟨_, rfl⟩
      have hgi : (gk : Int) - 1 = (gg : Int) := by omega
      have hri : (rk : Int) + (nth V (j + 1) : Int) = (rr : Int) := by omega
      rw [show j + 2 - 1 = j + 1 from rfl, ← hgg, ← hrr] at HDN
      have hgl2 : gg < gk := by omega
      clear hgg hrr
      by_cases hbr : 4294967296 ≤ rr
      · have HN := Lib.hid (HDN.out.near_break HD.out hbr)
        go_wp2
        go_quiet (fail)
        go_wp2_with (first
          | (go_at_call 53; refine Calls.mono (takes_own g off (j + 2) cap gg L _ co cap' V _ (by exact HL.out.drewN _) (by exact HLL.out) (by exact HF.out) hn rfl (by exact HC.out.mono (below_drewN w.heap.size w _) (Nat.le_refl _)) (by exact HNE.out) (by exact HN.out.lt)) ?_; rw [HU.out]; rintro e w2 ⟨M, S, bw, rfl, hbw, hM, lM, hwin, hval, htouch⟩; have HM := Lib.hid hM; have HLM := Lib.hid lM; have HWIN := Lib.hid hwin; have HVAL := Lib.hid hval; have HT := Lib.hid htouch; clear hM lM hwin hval htouch)
          | (go_at_call 54; refine Calls.mono (back_own g off (j + 2) cap M _ co cap' V _ (by exact HM.out) (by exact HLM.out) (by have := HWIN.out.len; have := HF.out; omega) hn rfl (by exact HT.out.sl (HC.out.mono (below_drewN w.heap.size w _) (Nat.le_refl _)) HNE.out) (by exact HNE.out)) ?_; rintro e w3 ⟨M3, S3, c3, rfl, hM3, lM3, hwin3, hval3, htouch3⟩; rw [← HWIN.out.win] at hval3))
        all_goals go_ret
        · have e : bw = 1 := by omega
          subst e
          have hx := (HN.out.exact HD.out (HWIN.out.lim HLM.out) HWIN.out.slen (Nat.le_refl 1) HVAL.out).2 rfl
          have hr := hx.2.2 S3 c3 (hwin3.lim lM3) hwin3.slen hval3
          exact ⟨M3, S3, by rw [← hx.2.1]; first | exact ret_u32 (dec_cast hx.1 HN.out.lt) | exact ret_u32 (by have := HN.out.lt; have := hx.1; omega), hM3, lM3, HWIN.out.trans hwin3, hr, ((Touch.refl g w).drewN _).trans (HT.out.trans htouch3)⟩
        · have e : bw = 0 := by omega
          subst e
          have hx := (HN.out.exact HD.out (HWIN.out.lim HLM.out) HWIN.out.slen (Nat.zero_le 1) HVAL.out).1 rfl
          exact ⟨M, S, by rw [← hx.1]; exact ret_u32 (by have := HN.out.lt; omega), HM.out, HLM.out, HWIN.out, hx.2, ((Touch.refl g w).drewN _).trans HT.out⟩
      · go_wp2
        go_quiet (fail)
        go_wp2
        go_roundw
        case rel => exact ⟨gg, rr, _, by omega, by omega, rfl, rfl, HDN, rfl⟩
        case measure => simp [intOf]; omega
    · have hgk : gk < 4294967296 := by omega
      have hgd : ((gk : Int) / 4294967296 != 0) = false := by simp; omega
      have hmul : gk * nth V j < 18446744073709551616 := by
        have h : gk * nth V j ≤ 4294967295 * 4294967295 := Nat.mul_le_mul (by omega) (by omega)
        omega
      by_cases hB : rk * 4294967296 + nth U j < gk * nth V j
      · obtain ⟨hg1, hdown⟩ := hst.out.down HD.out (Or.inr hB)
        have HDN := Lib.hid hdown
        clear hdown
        obtain ⟨gg, hgg⟩ : ∃ gg, gg = gk - 1 := ⟨_, rfl⟩
        obtain ⟨rr, hrr⟩ : ∃ rr, rr = rk + nth V (j + 1) := ⟨_, rfl⟩
        have hgi : (gk : Int) - 1 = (gg : Int) := by omega
        have hri : (rk : Int) + (nth V (j + 1) : Int) = (rr : Int) := by omega
        rw [show j + 2 - 1 = j + 1 from rfl, ← hgg, ← hrr] at HDN
        have hgl2 : gg < gk := by omega
        clear hgg hrr
        by_cases hbr : 4294967296 ≤ rr
        · have HN := Lib.hid (HDN.out.near_break HD.out hbr)
          go_wp2
          go_quiet (fail)
          go_wp2_with (first
            | (go_at_call 53; refine Calls.mono (takes_own g off (j + 2) cap gg L _ co cap' V _ (by exact HL.out.drewN _) (by exact HLL.out) (by exact HF.out) hn rfl (by exact HC.out.mono (below_drewN w.heap.size w _) (Nat.le_refl _)) (by exact HNE.out) (by exact HN.out.lt)) ?_; rw [HU.out]; rintro e w2 ⟨M, S, bw, rfl, hbw, hM, lM, hwin, hval, htouch⟩; have HM := Lib.hid hM; have HLM := Lib.hid lM; have HWIN := Lib.hid hwin; have HVAL := Lib.hid hval; have HT := Lib.hid htouch; clear hM lM hwin hval htouch)
            | (go_at_call 54; refine Calls.mono (back_own g off (j + 2) cap M _ co cap' V _ (by exact HM.out) (by exact HLM.out) (by have := HWIN.out.len; have := HF.out; omega) hn rfl (by exact HT.out.sl (HC.out.mono (below_drewN w.heap.size w _) (Nat.le_refl _)) HNE.out) (by exact HNE.out)) ?_; rintro e w3 ⟨M3, S3, c3, rfl, hM3, lM3, hwin3, hval3, htouch3⟩; rw [← HWIN.out.win] at hval3))
          all_goals go_ret
          · have e : bw = 1 := by omega
            subst e
            have hx := (HN.out.exact HD.out (HWIN.out.lim HLM.out) HWIN.out.slen (Nat.le_refl 1) HVAL.out).2 rfl
            have hr := hx.2.2 S3 c3 (hwin3.lim lM3) hwin3.slen hval3
            exact ⟨M3, S3, by rw [← hx.2.1]; first | exact ret_u32 (dec_cast hx.1 HN.out.lt) | exact ret_u32 (by have := HN.out.lt; have := hx.1; omega), hM3, lM3, HWIN.out.trans hwin3, hr, ((Touch.refl g w).drewN _).trans (HT.out.trans htouch3)⟩
          · have e : bw = 0 := by omega
            subst e
            have hx := (HN.out.exact HD.out (HWIN.out.lim HLM.out) HWIN.out.slen (Nat.zero_le 1) HVAL.out).1 rfl
            exact ⟨M, S, by rw [← hx.1]; exact ret_u32 (by have := HN.out.lt; omega), HM.out, HLM.out, HWIN.out, hx.2, ((Touch.refl g w).drewN _).trans HT.out⟩
        · go_wp2
          go_quiet (fail)
          go_wp2
          go_roundw
          case rel => exact ⟨gg, rr, _, by omega, by omega, rfl, rfl, HDN, rfl⟩
          case measure => simp [intOf]; omega
      · have HN := Lib.hid (hst.out.near HD.out hgk (by show gk * nth V j ≤ rk * 4294967296 + nth U j; omega))
        go_wp2
        go_quiet (fail)
        go_wp2_with (first
          | (go_at_call 53; refine Calls.mono (takes_own g off (j + 2) cap gk L _ co cap' V _ (by exact HL.out.drewN _) (by exact HLL.out) (by exact HF.out) hn rfl (by exact HC.out.mono (below_drewN w.heap.size w _) (Nat.le_refl _)) (by exact HNE.out) (by exact HN.out.lt)) ?_; rw [HU.out]; rintro e w2 ⟨M, S, bw, rfl, hbw, hM, lM, hwin, hval, htouch⟩; have HM := Lib.hid hM; have HLM := Lib.hid lM; have HWIN := Lib.hid hwin; have HVAL := Lib.hid hval; have HT := Lib.hid htouch; clear hM lM hwin hval htouch)
          | (go_at_call 54; refine Calls.mono (back_own g off (j + 2) cap M _ co cap' V _ (by exact HM.out) (by exact HLM.out) (by have := HWIN.out.len; have := HF.out; omega) hn rfl (by exact HT.out.sl (HC.out.mono (below_drewN w.heap.size w _) (Nat.le_refl _)) HNE.out) (by exact HNE.out)) ?_; rintro e w3 ⟨M3, S3, c3, rfl, hM3, lM3, hwin3, hval3, htouch3⟩; rw [← HWIN.out.win] at hval3))
        all_goals go_ret
        · have e : bw = 1 := by omega
          subst e
          have hx := (HN.out.exact HD.out (HWIN.out.lim HLM.out) HWIN.out.slen (Nat.le_refl 1) HVAL.out).2 rfl
          have hr := hx.2.2 S3 c3 (hwin3.lim lM3) hwin3.slen hval3
          exact ⟨M3, S3, by rw [← hx.2.1]; first | exact ret_u32 (dec_cast hx.1 HN.out.lt) | exact ret_u32 (by have := HN.out.lt; have := hx.1; omega), hM3, lM3, HWIN.out.trans hwin3, hr, ((Touch.refl g w).drewN _).trans (HT.out.trans htouch3)⟩
        · have e : bw = 0 := by omega
          subst e
          have hx := (HN.out.exact HD.out (HWIN.out.lim HLM.out) HWIN.out.slen (Nat.zero_le 1) HVAL.out).1 rfl
          exact ⟨M, S, by rw [← hx.1]; exact ret_u32 (by have := HN.out.lt; omega), HM.out, HLM.out, HWIN.out, hx.2, ((Touch.refl g w).drewN _).trans HT.out⟩
#print axioms digit_own
end Go.Proofs.Ytdmolcopnehkbaa
