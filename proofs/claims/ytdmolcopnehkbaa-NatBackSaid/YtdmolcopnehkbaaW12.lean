/-
  Walks: takes, back.
-/
import Derived.Test.YtdmolcopnehkbaaW11
import Derived.Test.YtdmolcopnehkbaaKnuth
set_option autoImplicit false
namespace Go.Proofs.Ytdmolcopnehkbaa
open Go.RowKit

/-- block g holds limbs L first; what lies behind them is not said -/
def Has (w : World) (g : Nat) (L : List Nat) : Prop := ∃ cur, w.heap[g]? = some (.cells cur 41 (0, 0)) ∧ cur.toList.take L.length = lv L
theorem Own.has {w : World} {g : Nat} {L : List Nat} (h : Own w g L) : Has w g L := ⟨_, h, by
  have e : (limbsArr L).toList = lv L := by simp [limbsArr, lv]
  rw [e, List.take_of_length_le (by rw [lv_length]; exact Nat.le_refl _)]⟩
theorem Has.size {cur : Array Value} {L : List Nat} (h : cur.toList.take L.length = lv L) : L.length ≤ cur.size := by
  have h1 := congrArg List.length h
  rw [lv_length, List.length_take] at h1
  have : cur.toList.length = cur.size := Array.length_toList
  omega
theorem Has.cell {w : World} {g : Nat} {L : List Nat} (h : Has w g L) {i : Nat} (hi : i < L.length) : w.cell? ⟨g, i, none⟩ = some (.int .u32 ((nth L i : Nat) : Int)) := by
  obtain ⟨cur, h1, h2⟩ := h
  have h3 := lv_of hi
  rw [← h2, List.getElem?_take_of_lt hi] at h3
  have h4 : cur[i]? = some (.int .u32 ((nth L i : Nat) : Int)) := by simpa using h3
  simp [World.cell?, h1, h4]
theorem Has.frozen {w : World} {g : Nat} {L : List Nat} (h : Has w g L) (i : Nat) : w.frozen? ⟨g, i, none⟩ = false := by
  obtain ⟨cur, h1, h2⟩ := h
  simp [World.frozen?, h1]
theorem Has.lt {w : World} {g : Nat} {L : List Nat} (h : Has w g L) : g < w.heap.size := by
  obtain ⟨cur, h1, h2⟩ := h
  exact (Array.getElem?_eq_some_iff.1 h1).1
theorem Has.set {w : World} {g : Nat} {L : List Nat} (h : Has w g L) {i : Nat} (x : Nat) : Has (w.setCell ⟨g, i, none⟩ (.int .u32 (x : Int))) g (L.set i x) := by
  obtain ⟨cur, h1, h2⟩ := h
  refine ⟨cur.setIfInBounds i (.int .u32 (x : Int)), ?_, ?_⟩
  · simp [World.setCell, Array.getElem?_modify, h1]
  · rw [Array.toList_setIfInBounds, List.length_set, List.take_set, h2]
    simp [lv, List.map_set]
theorem Has.below {w w' : World} {g b : Nat} {L : List Nat} (h : Has w g L) (hb : Below b w w') (hs : g < b) : Has w' g L := by
  unfold Has at *
  rw [hb.block g hs]; exact h
theorem Has.other {w : World} {g : Nat} {L : List Nat} (h : Has w g L) {p : Addr} (hp : p.block ≠ g) (v : Value) : Has (w.setCell p v) g L := by
  unfold Has at *
  rw [Below.heap_setCell _ _ _ _ (Ne.symm hp)]; exact h
theorem Has.alloc {w : World} {g : Nat} {L : List Nat} (h : Has w g L) (o : Obj) : Has (w.alloc o) g L := by
  have := h.lt
  unfold Has at *
  rw [Below.heap_alloc _ _ _ this]; exact h

/-- block g alone may have changed; nothing has been made -/
structure Touch (g : Nat) (w w' : World) : Prop where
  os : w'.os = w.os
  tape : w'.tape = w.tape
  output : w'.output = w.output
  size : w'.heap.size = w.heap.size
  block : ∀ k, k ≠ g → w'.heap[k]? = w.heap[k]?
theorem Touch.refl (g : Nat) (w : World) : Touch g w w := ⟨rfl, rfl, rfl, rfl, fun _ _ => rfl⟩
theorem Touch.trans {g : Nat} {a b c : World} (h : Touch g a b) (k : Touch g b c) : Touch g a c :=
  ⟨k.os.trans h.os, k.tape.trans h.tape, k.output.trans h.output, k.size.trans h.size, fun i hi => (k.block i hi).trans (h.block i hi)⟩
theorem Touch.set {g : Nat} {a w : World} (h : Touch g a w) (i : Nat) (v : Value) : Touch g a (w.setCell ⟨g, i, none⟩ v) :=
  h.trans ⟨rfl, rfl, rfl, by simp [World.setCell], fun k hk => Below.heap_setCell _ _ _ _ hk⟩
theorem Touch.drewN {g : Nat} {a w : World} (h : Touch g a w) (n : Nat) : Touch g a (w.drewN n) := h.trans ⟨rfl, rfl, rfl, rfl, fun _ _ => rfl⟩
theorem Touch.sl {g : Nat} {w w' : World} (h : Touch g w w') {co : Option Addr} {n cap : Nat} {L : List Nat} (hs : SlOk w co n cap L) (hne : (adr co).block ≠ g) : SlOk w' co n cap L :=
  ⟨hs.len, hs.le, hs.max, hs.small, hs.lim, hs.nil, fun i hi => by
    rw [World.cell?_of_block (w := w) (h.block _ (by rw [Addr.add_block]; exact hne))]; exact hs.cell i hi⟩
theorem Touch.below {g b : Nat} {w0 w w' : World} (h : Touch g w w') (hb : Below b w0 w) (hg : b ≤ g) : Below b w0 w' :=
  hb.trans ⟨h.os, h.tape, h.output, Nat.le_of_eq h.size.symm, fun k hk => h.block k (by omega)⟩
theorem Touch.own {g d : Nat} {w w' : World} (h : Touch g w w') {L : List Nat} (ho : Own w d L) (hd : d ≠ g) : Own w' d L := by
  unfold Own at *; rw [h.block d hd]; exact ho

/-- M is L but for the window of n + 1 limbs from off on, which holds S -/
structure Win (M L : List Nat) (off n : Nat) (S : List Nat) : Prop where
  len : M.length = L.length
  fits : off + n + 1 ≤ L.length
  lo : M.take off = L.take off
  hi : M.drop (off + n + 1) = L.drop (off + n + 1)
  win : S = (M.drop off).take (n + 1)
theorem Win.slen {M L : List Nat} {off n : Nat} {S : List Nat} (h : Win M L off n S) : S.length = n + 1 := by
  rw [h.win]; have := h.fits; have := h.len; simp; omega
theorem Win.nth {M L : List Nat} {off n : Nat} {S : List Nat} (h : Win M L off n S) {i : Nat} (hi : i < n + 1) : nth S i = nth M (off + i) := by
  rw [h.win, nth_take hi, nth_drop]
theorem Win.set {M L : List Nat} {off n : Nat} {S : List Nat} (h : Win M L off n S) {i : Nat} (x : Nat) (hi : i < n + 1) : Win (M.set (off + i) x) L off n (S.set i x) :=
  ⟨by simpa using h.len, h.fits, by rw [List.take_set_of_le (by omega)]; exact h.lo, by rw [List.drop_set_of_lt (by omega)]; exact h.hi, by
    rw [h.win, List.drop_set, if_neg (by omega), show off + i - off = i by omega, List.take_set]⟩
theorem Win.start {L : List Nat} {off n : Nat} (h : off + n + 1 ≤ L.length) : Win L L off n ((L.drop off).take (n + 1)) := ⟨rfl, h, rfl, rfl, rfl⟩

def TakeSt (w0 : World) (g off n t : Nat) (L U V : List Nat) (i cy bw : Nat) (wr : World) : Prop :=
  ∃ M S, Has wr g M ∧ Lim M ∧ Win M L off n S ∧ cy < 4294967296 ∧ bw ≤ 1 ∧ (∀ k, i ≤ k → k < n + 1 → nth S k = nth U k) ∧ val (S.take i) + t * val (V.take i) = val (U.take i) + (cy + bw) * B i ∧ Touch g w0 wr
theorem TakeSt.start {w0 : World} {g off n t : Nat} {L V : List Nat} (h : Has w0 g L) (hl : Lim L) (hf : off + n + 1 ≤ L.length) : TakeSt w0 g off n t L ((L.drop off).take (n + 1)) V 0 0 0 w0 :=
  ⟨L, _, h, hl, Win.start hf, by omega, by omega, fun _ _ _ => rfl, by simp [val], Touch.refl _ _⟩
theorem TakeSt.touch {w0 wr : World} {g off n t i cy bw : Nat} {L U V : List Nat} (h : TakeSt w0 g off n t L U V i cy bw wr) : Touch g w0 wr := by
  obtain ⟨M, S, h1, h2, h3, h4, h5, h6, h7, h8⟩ := h; exact h8
theorem Win.lim {M L : List Nat} {off n : Nat} {S : List Nat} (h : Win M L off n S) (hM : Lim M) : Lim S := by rw [h.win]; exact (hM.drop off).take _
theorem TakeSt.next {w0 wr : World} {g off n t i cy bw : Nat} {L U V : List Nat} (h : TakeSt w0 g off n t L U V i cy bw wr) (hi : i < n) (ht : t < 4294967296) (hV : Lim V) :
    ∃ x : Nat, wr.cell? ⟨g, off + i, none⟩ = some (.int .u32 (x : Int)) ∧ wr.frozen? ⟨g, off + i, none⟩ = false ∧ x < 4294967296 ∧ bw ≤ 1 ∧ cy + t * nth V i < 18446744073709551616 ∧
      TakeSt w0 g off n t L U V (i + 1) ((cy + t * nth V i) / 4294967296) (brw x ((cy + t * nth V i) % 4294967296) bw) (wr.setCell ⟨g, off + i, none⟩ (.int .u32 ((dif x ((cy + t * nth V i) % 4294967296) bw : Nat) : Int))) := by
  obtain ⟨M, S, h1, h2, h3, h4, h5, h6, h7, h8⟩ := h
  have hx := nth_lt h2 (off + i)
  have hm := mul_le t (nth V i) 0 cy ht (nth_lt hV i) (by omega) h4
  have hb : cy + t * nth V i < 18446744073709551616 := by omega
  have hlen := h3.slen
  have hxU : nth U i = nth M (off + i) := by rw [← h6 i (Nat.le_refl _) (by omega), h3.nth (by omega)]
  refine ⟨nth M (off + i), h1.cell (by have := h3.fits; have := h3.len; omega), h1.frozen _, hx, h5, hb, ?_⟩
  have hd := dif_eq (nth M (off + i)) ((cy + t * nth V i) % 4294967296) bw hx (Nat.mod_lt _ (by decide)) h5
  refine ⟨M.set (off + i) _, S.set i _, h1.set _, h2.set _ _ (dif_lt _ _ _), h3.set _ (by omega), by omega, brw_le _ _ _, fun k hk hk' => ?_, ?_, h8.set _ _⟩
  · rw [nth_set_ne _ (by omega)]; exact h6 k (by omega) hk'
  · exact takes_step (lo := (cy + t * nth V i) % 4294967296) (by omega) h7 (by omega) (by rw [hxU]; omega)
theorem TakeSt.last {w0 wr : World} {g off n t cy bw : Nat} {L U V : List Nat} (h : TakeSt w0 g off n t L U V n cy bw wr) (hU : U.length = n + 1) (hV : V.length = n) :
    ∃ x : Nat, wr.cell? ⟨g, off + n, none⟩ = some (.int .u32 (x : Int)) ∧ wr.frozen? ⟨g, off + n, none⟩ = false ∧ x < 4294967296 ∧ bw ≤ 1 ∧ cy < 4294967296 ∧
      ∃ M S, Has (wr.setCell ⟨g, off + n, none⟩ (.int .u32 ((dif x cy bw : Nat) : Int))) g M ∧ Lim M ∧ Win M L off n S ∧ val S + t * val V = val U + brw x cy bw * B (n + 1) ∧ Touch g w0 (wr.setCell ⟨g, off + n, none⟩ (.int .u32 ((dif x cy bw : Nat) : Int))) := by
  obtain ⟨M, S, h1, h2, h3, h4, h5, h6, h7, h8⟩ := h
  have hx := nth_lt h2 (off + n)
  have hlen := h3.slen
  have hxU : nth U n = nth M (off + n) := by rw [← h6 n (Nat.le_refl _) (by omega), h3.nth (by omega)]
  refine ⟨nth M (off + n), h1.cell (by have := h3.fits; have := h3.len; omega), h1.frozen _, hx, h5, h4, ?_⟩
  have hd := dif_eq (nth M (off + n)) cy bw hx h4 h5
  exact ⟨M.set (off + n) _, S.set n _, h1.set _, h2.set _ _ (dif_lt _ _ _), h3.set _ (by omega), takes_end hlen hU hV h7 (by rw [hxU]; omega), h8.set _ _⟩

/-- what takes leaves -/
def TakePost (g off n t : Nat) (L U V : List Nat) (w : World) (e : Ending) (w' : World) : Prop :=
  ∃ M S bw, e = .returned (.bool (decide (0 < bw))) ∧ bw ≤ 1 ∧ Has w' g M ∧ Lim M ∧ Win M L off n S ∧ val S + t * val V = val U + bw * B (n + 1) ∧ Touch g w w'

theorem takes_own (g off n cap t : Nat) (L : List Nat) (vc : Value) (co : Option Addr) (cap' : Nat) (V : List Nat) (w : World) (hL : Has w g L) (lL : Lim L) (hf : off + n + 1 ≤ L.length) (hn : n ≤ 35184372088832)
    (hvc : vc = .slice co n cap') (hC : SlOk w co n cap' V) (hne : (adr co).block ≠ g) (ht : t < 4294967296) :
    Calls Try.prog 53 #[.slice (some ⟨g, off, none⟩) (n + 1) cap, vc, .int .u64 t] w (TakePost g off n t L ((L.drop off).take (n + 1)) V w) := by
  subst hvc
  have HC := Lib.hid hC
  have HNE := Lib.hid hne
  have Hst := Lib.hid (TakeSt.start (t := t) (V := V) hL lL hf)
  have hUl : Hid (((L.drop off).take (n + 1)).length = n + 1) := by show _ = _; simp; omega
  clear hC hne hL lL hf
  generalize hU : (L.drop off).take (n + 1) = U at *
  clear hU
  go_enter Try.func53, Try.ntmps53
  go_wp2
  go_loopw [7, 8, 13] (fun c b i wr => ∃ k cy bw : Nat, k ≤ n ∧ i = .int .i64 k ∧ c = .int .u64 cy ∧ b = .int .u32 bw ∧ Hid (TakeSt w g off n t L U V k cy bw wr)) (fun _ _ i _ => n - (intOf i).toNat)
  case atStart => exact ⟨0, 0, 0, Nat.zero_le _, rfl, rfl, rfl, Hst⟩
  case round =>
    obtain ⟨k, cy, bw, hk, rfl, rfl, rfl, hst⟩ := hrel
    clear Hst
    by_cases hkn : k < n
    · have SC := Lib.hid (hst.out.touch.sl HC.out HNE.out)
      have ic := SC.out.ix hkn
      have cc := SC.out.cell k hkn
      have nc := nth_lt HC.out.lim k
      obtain ⟨x, hx1, hx2, hx3, hbw, hov, hnext⟩ := hst.out.next hkn ht HC.out.lim
      have HN := Lib.hid hnext
      clear hnext
      have hcast : ((cy : Int) + (t : Int) * (nth V k : Int)) % 4294967296 = (((cy + t * nth V k) % 4294967296 : Nat) : Int) := by rw [Int.natCast_emod, Int.natCast_add, Int.natCast_mul]; rfl
      have hcast2 : Hid (((cy : Int) + (t : Int) * (nth V k : Int)) / 4294967296 = (((cy + t * nth V k) / 4294967296 : Nat) : Int)) := by show _ = _; rw [Int.natCast_ediv, Int.natCast_add, Int.natCast_mul]; rfl
      obtain ⟨lo, hlo⟩ : ∃ lo, lo = (cy + t * nth V k) % 4294967296 := ⟨_, rfl⟩
      have hlol : lo < 4294967296 := by rw [hlo]; exact Nat.mod_lt _ (by decide)
      rw [← hlo] at hcast HN
      have hml : t * nth V k < 18446744073709551616 := by omega
      clear hlo
      go_wp2_with (go_at_call 38; refine (sub32_any x lo bw _ hx3 hlol hbw).mono ?_; rintro e w' ⟨rfl, rfl⟩)
      go_roundw
      case rel => exact ⟨k + 1, (cy + t * nth V k) / 4294967296, brw x lo bw, by omega, by go_num, by rw [hcast2.out], rfl, HN.out⟩
      case measure => simp [intOf]; omega
    · have e : k = n := by omega
      subst e
      obtain ⟨x, hx1, hx2, hx3, hbw, hcy, M, S, m1, m2, m3, m4, m5⟩ := hst.out.last hUl.out HC.out.len
      have HM : Hid (TakePost g off k t L U V w (.returned (.bool (decide (0 < brw x cy bw)))) (wr.setCell ⟨g, off + k, none⟩ (.int .u32 ((dif x cy bw : Nat) : Int)))) := ⟨M, S, _, rfl, brw_le _ _ _, m1, m2, m3, m4, m5⟩
      have hbr := brw_le x cy bw
      clear m1 m2 m3 m4 m5
      go_wp2_with (go_at_call 38; refine (sub32_any x cy bw _ hx3 hcy hbw).mono ?_; rintro e w' ⟨rfl, rfl⟩)
      go_ret
      exact HM.out
#print axioms takes_own

def BackSt (w0 : World) (g off n : Nat) (L U V : List Nat) (i cy : Nat) (wr : World) : Prop :=
  ∃ M S, Has wr g M ∧ Lim M ∧ Win M L off n S ∧ cy ≤ 1 ∧ (∀ k, i ≤ k → k < n + 1 → nth S k = nth U k) ∧ val (S.take i) + cy * B i = val (U.take i) + val (V.take i) ∧ Touch g w0 wr
theorem BackSt.start {w0 : World} {g off n : Nat} {L V : List Nat} (h : Has w0 g L) (hl : Lim L) (hf : off + n + 1 ≤ L.length) : BackSt w0 g off n L ((L.drop off).take (n + 1)) V 0 0 w0 :=
  ⟨L, _, h, hl, Win.start hf, by omega, fun _ _ _ => rfl, by simp [val], Touch.refl _ _⟩
theorem BackSt.touch {w0 wr : World} {g off n i cy : Nat} {L U V : List Nat} (h : BackSt w0 g off n L U V i cy wr) : Touch g w0 wr := by
  obtain ⟨M, S, h1, h2, h3, h4, h5, h6, h7⟩ := h; exact h7
theorem BackSt.next {w0 wr : World} {g off n i cy : Nat} {L U V : List Nat} (h : BackSt w0 g off n L U V i cy wr) (hi : i < n) (hV : Lim V) :
    ∃ x : Nat, wr.cell? ⟨g, off + i, none⟩ = some (.int .u32 (x : Int)) ∧ wr.frozen? ⟨g, off + i, none⟩ = false ∧ x < 4294967296 ∧ cy ≤ 1 ∧
      ∀ z : Int, z = (((x + nth V i + cy) % 4294967296 : Nat) : Int) → BackSt w0 g off n L U V (i + 1) ((x + nth V i + cy) / 4294967296) (wr.setCell ⟨g, off + i, none⟩ (.int .u32 z)) := by
  obtain ⟨M, S, h1, h2, h3, h4, h5, h6, h7⟩ := h
  have hx := nth_lt h2 (off + i)
  have hy := nth_lt hV i
  have hlen := h3.slen
  have hxU : nth U i = nth M (off + i) := by rw [← h5 i (Nat.le_refl _) (by omega), h3.nth (by omega)]
  refine ⟨nth M (off + i), h1.cell (by have := h3.fits; have := h3.len; omega), h1.frozen _, hx, h4, ?_⟩
  rintro z rfl
  refine ⟨M.set (off + i) _, S.set i _, h1.set _, h2.set _ _ (Nat.mod_lt _ (by decide)), h3.set _ (by omega), by omega, fun k hk hk' => ?_, ?_, h7.set _ _⟩
  · rw [nth_set_ne _ (by omega)]; exact h5 k (by omega) hk'
  · exact add_step (by omega) h6 (by rw [hxU]; omega)
theorem BackSt.last {w0 wr : World} {g off n cy : Nat} {L U V : List Nat} (h : BackSt w0 g off n L U V n cy wr) (hU : U.length = n + 1) (hV : V.length = n) :
    ∃ x : Nat, wr.cell? ⟨g, off + n, none⟩ = some (.int .u32 (x : Int)) ∧ wr.frozen? ⟨g, off + n, none⟩ = false ∧ x < 4294967296 ∧ cy ≤ 1 ∧
      ∀ z : Int, z = (((x + cy) % 4294967296 : Nat) : Int) → ∃ M S c, Has (wr.setCell ⟨g, off + n, none⟩ (.int .u32 z)) g M ∧ Lim M ∧ Win M L off n S ∧ val S + c * B (n + 1) = val U + val V ∧ Touch g w0 (wr.setCell ⟨g, off + n, none⟩ (.int .u32 z)) := by
  obtain ⟨M, S, h1, h2, h3, h4, h5, h6, h7⟩ := h
  have hx := nth_lt h2 (off + n)
  have hlen := h3.slen
  have hxU : nth U n = nth M (off + n) := by rw [← h5 n (Nat.le_refl _) (by omega), h3.nth (by omega)]
  refine ⟨nth M (off + n), h1.cell (by have := h3.fits; have := h3.len; omega), h1.frozen _, hx, h4, ?_⟩
  rintro z rfl
  exact ⟨M.set (off + n) _, S.set n _, _, h1.set _, h2.set _ _ (Nat.mod_lt _ (by decide)), h3.set _ (by omega), back_end hU hlen hV h6 (s := (nth M (off + n) + cy) % 4294967296) (c' := (nth M (off + n) + cy) / 4294967296) (by rw [hxU]; omega), h7.set _ _⟩

def BackPost (g off n : Nat) (L U V : List Nat) (w : World) (e : Ending) (w' : World) : Prop :=
  ∃ M S c, e = .returned (.tuple #[]) ∧ Has w' g M ∧ Lim M ∧ Win M L off n S ∧ val S + c * B (n + 1) = val U + val V ∧ Touch g w w'

theorem back_own (g off n cap : Nat) (L : List Nat) (vc : Value) (co : Option Addr) (cap' : Nat) (V : List Nat) (w : World) (hL : Has w g L) (lL : Lim L) (hf : off + n + 1 ≤ L.length) (hn : n ≤ 35184372088832)
    (hvc : vc = .slice co n cap') (hC : SlOk w co n cap' V) (hne : (adr co).block ≠ g) :
    Calls Try.prog 54 #[.slice (some ⟨g, off, none⟩) (n + 1) cap, vc] w (BackPost g off n L ((L.drop off).take (n + 1)) V w) := by
  subst hvc
  have HC := Lib.hid hC
  have HNE := Lib.hid hne
  have Hst := Lib.hid (BackSt.start (V := V) hL lL hf)
  have hUl : Hid (((L.drop off).take (n + 1)).length = n + 1) := by show _ = _; simp; omega
  clear hC hne hL lL hf
  generalize hU : (L.drop off).take (n + 1) = U at *
  clear hU
  go_enter Try.func54, Try.ntmps54
  go_wp2
  go_loopw [4, 9] (fun c i wr => ∃ k cy : Nat, k ≤ n ∧ i = .int .i64 k ∧ c = .int .u32 cy ∧ Hid (BackSt w g off n L U V k cy wr)) (fun _ i _ => n - (intOf i).toNat)
  case atStart => exact ⟨0, 0, Nat.zero_le _, rfl, rfl, Hst⟩
  case round =>
    obtain ⟨k, cy, hk, rfl, rfl, hst⟩ := hrel
    clear Hst
    by_cases hkn : k < n
    · have SC := Lib.hid (hst.out.touch.sl HC.out HNE.out)
      have ic := SC.out.ix hkn
      have cc := SC.out.cell k hkn
      have nc := nth_lt HC.out.lim k
      obtain ⟨x, hx1, hx2, hx3, hcy, hnext⟩ := hst.out.next hkn HC.out.lim
      have HN := Lib.hid hnext
      clear hnext
      go_wp2_with (go_at_call 43; refine (add32_any x (nth V k) cy _ hx3 nc hcy).mono ?_; rintro e w' ⟨rfl, rfl⟩)
      go_roundw
      case rel => exact ⟨k + 1, (x + nth V k + cy) / 4294967296, by omega, by go_num, by go_num, HN.out _ (by omega)⟩
      case measure => simp [intOf]; omega
    · have e : k = n := by omega
      subst e
      obtain ⟨x, hx1, hx2, hx3, hcy, hlast⟩ := hst.out.last hUl.out HC.out.len
      have HL := Lib.hid hlast
      clear hlast
      go_wp2
      go_end0
      obtain ⟨M, S, c, m1, m2, m3, m4, m5⟩ := HL.out _ (show (((x : Int) + (cy : Int)) % 4294967296 : Int) = _ by omega)
      exact ⟨M, S, c, rfl, m1, m2, m3, m4, m5⟩
#print axioms back_own
end Go.Proofs.Ytdmolcopnehkbaa
