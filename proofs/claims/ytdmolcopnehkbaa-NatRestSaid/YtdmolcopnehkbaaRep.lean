/-
  How a []uint32 reads as limbs, and as a number. What a call that makes memory leaves: Below.
-/
import Derived.Test.YtdmolcopnehkbaaProg
import Derived.Test.YtdmolcopnehkbaaLimbs
import Derived.WalkKit
import Derived.KernelRfl
import Derived.Lib.Hide
import Derived.Laws.AppendOwnNone
set_option autoImplicit false
namespace Go.Proofs.Ytdmolcopnehkbaa
open Go.RowKit

def adr (ao : Option Addr) : Addr := ao.getD ⟨0, 0, none⟩
theorem adr_some (a : Addr) : adr (some a) = a := rfl

theorem info41 : (Try.prog.info? 41).map (fun i => (i.zero, i.size, i.bytes)) = some (some (.int .u32 0), 1, 4) := by kernel_rfl

/-- the address of an element -/
theorem run_ix (w : World) {ao : Option Addr} {n cap k : Nat} (hk : k < n) (hnil : ao = none → n = 0) :
    (Instr.indexAt 22 (.slice ao n cap) (.int .i64 (k : Int))).run Try.prog w = .ok (.pointer (some ((adr ao).add k))) w := by
  cases ao with
  | none => have := hnil rfl; omega
  | some a =>
    obtain ⟨i0, hi, hz0, hz1, hz2⟩ := info_parts info41
    simp [Instr.indexAt, run_underlying Try.underlying22, asIntOf, sizeOf, typeInfo, hi, hz1, adr, hk]

/-- a slice's value, its limbs, and where they lie -/
structure SlOk (w : World) (ao : Option Addr) (n cap : Nat) (L : List Nat) : Prop where
  len : L.length = n
  le : n ≤ cap
  max : cap ≤ 9223372036854775807
  small : n ≤ 35184372088832
  lim : Lim L
  nil : ao = none → cap = 0
  cell : ∀ i, i < n → w.cell? ((adr ao).add i) = some (.int .u32 ((nth L i : Nat) : Int))

def SL (w : World) (v : Value) (L : List Nat) : Prop := ∃ ao n cap, v = .slice ao n cap ∧ SlOk w ao n cap L
/-- the same, and no limb 0 at the top: the number n -/
def RN (w : World) (v : Value) (n : Nat) : Prop := ∃ L, SL w v L ∧ Top L ∧ val L = n

theorem SlOk.nil' {w : World} {ao : Option Addr} {n cap : Nat} {L : List Nat} (h : SlOk w ao n cap L) (e : ao = none) : n = 0 := by have := h.nil e; have := h.le; omega
theorem Addr.add_block (a : Addr) (i : Nat) : (a.add i).block = a.block := by unfold Addr.add; split <;> rfl

theorem SlOk.mono {w w' : World} {ao : Option Addr} {n cap : Nat} {L : List Nat} {b : Nat} (h : SlOk w ao n cap L) (hb : Below b w w') (hs : w.heap.size ≤ b) : SlOk w' ao n cap L :=
  ⟨h.len, h.le, h.max, h.small, h.lim, h.nil, fun i hi => by
    have hc := h.cell i hi
    have hlt := World.block_lt_of_cell? w _ hc
    rw [hb.cell (Nat.lt_of_lt_of_le hlt hs)]; exact hc⟩
theorem SL.mono {w w' : World} {v : Value} {L : List Nat} {b : Nat} (h : SL w v L) (hb : Below b w w') (hs : w.heap.size ≤ b) : SL w' v L := by
  obtain ⟨ao, n, cap, rfl, h⟩ := h
  exact ⟨ao, n, cap, rfl, h.mono hb hs⟩
theorem RN.mono {w w' : World} {v : Value} {n : Nat} {b : Nat} (h : RN w v n) (hb : Below b w w') (hs : w.heap.size ≤ b) : RN w' v n := by
  obtain ⟨L, h, t, e⟩ := h
  exact ⟨L, h.mono hb hs, t, e⟩

/-- a block of one's own that holds limbs -/
def limbsArr (L : List Nat) : Array Value := (L.map fun x : Nat => Value.int .u32 (x : Int)).toArray
def Own (w : World) (g : Nat) (L : List Nat) : Prop := w.heap[g]? = some (.cells (limbsArr L) 41 (0, 0))

theorem Own.cell {w : World} {g : Nat} {L : List Nat} (h : Own w g L) {i : Nat} (hi : i < L.length) : w.cell? ⟨g, i, none⟩ = some (.int .u32 ((nth L i : Nat) : Int)) := by
  unfold Own limbsArr at h
  simp [World.cell?, h, nth, List.getD_eq_getElem?_getD, hi]
theorem Own.frozen {w : World} {g : Nat} {L : List Nat} (h : Own w g L) (i : Nat) : w.frozen? ⟨g, i, none⟩ = false := by
  unfold Own at h
  simp [World.frozen?, h]
theorem Own.lt {w : World} {g : Nat} {L : List Nat} (h : Own w g L) : g < w.heap.size := (Array.getElem?_eq_some_iff.1 h).1
theorem Own.set {w : World} {g : Nat} {L : List Nat} (h : Own w g L) {i : Nat} (x : Nat) : Own (w.setCell ⟨g, i, none⟩ (.int .u32 (x : Int))) g (L.set i x) := by
  unfold Own limbsArr at *
  simp [World.setCell, Array.getElem?_modify, h]
theorem Own.other {w : World} {g : Nat} {L : List Nat} (h : Own w g L) {p : Addr} (hp : p.block ≠ g) (v : Value) : Own (w.setCell p v) g L := by
  unfold Own at *
  rw [Below.heap_setCell _ _ _ _ (Ne.symm hp)]; exact h
theorem Own.alloc {w : World} {g : Nat} {L : List Nat} (h : Own w g L) (o : Obj) : Own (w.alloc o) g L := by
  have := h.lt
  unfold Own at *
  rw [Below.heap_alloc _ _ _ this]; exact h
theorem Own.below {w w' : World} {g b : Nat} {L : List Nat} (h : Own w g L) (hb : Below b w w') (hs : g < b) : Own w' g L := by
  unfold Own at *
  rw [hb.block g hs]; exact h
theorem Own.sl {w : World} {g : Nat} {L : List Nat} (h : Own w g L) (hl : Lim L) {n cap : Nat} (hn : n = L.length) (hc : n ≤ cap) (hm : cap ≤ 9223372036854775807) (hs : L.length ≤ 35184372088832) : SlOk w (some ⟨g, 0, none⟩) n cap L :=
  ⟨hn.symm, hc, hm, by omega, hl, by simp, fun i hi => by rw [adr_some, Addr.add_lit, Nat.zero_add]; exact h.cell (by omega)⟩


theorem Own.new (w : World) (L : List Nat) : Own (w.alloc (.cells (limbsArr L) 41)) w.heap.size L := heap_alloc_new w _
theorem limbsArr_size (L : List Nat) : (limbsArr L).size = L.length := by simp [limbsArr]
/-- limbs that the call has just laid in a new block -/
theorem SL_new (w : World) (cs : Array Value) (L : List Nat) (n : Nat) (hn : n = L.length) (hc : cs = limbsArr L) (hl : Lim L) (hs : L.length ≤ 35184372088832) : SL (w.alloc (.cells cs 41)) (.slice (some ⟨w.heap.size, 0, none⟩) n n) L := by
  subst hc
  exact ⟨_, _, _, rfl, (Own.new w L).sl hl hn (Nat.le_refl _) (by omega) hs⟩

/-- the slice may be appended to without a look at its spare room: it has none -/
def Tight (v : Value) : Prop := ∃ ao k, v = .slice ao k k

/-- the values of limbs -/
def lv (L : List Nat) : List Value := L.map fun x : Nat => Value.int .u32 (x : Int)
theorem lv_append (L M : List Nat) : lv (L ++ M) = lv L ++ lv M := by simp [lv]
theorem lv_length (L : List Nat) : (lv L).length = L.length := by simp [lv]
theorem lv_get {L : List Nat} {j : Nat} {u : Value} (h : (lv L)[j]? = some u) : j < L.length ∧ u = .int .u32 ((nth L j : Nat) : Int) := by
  unfold lv at h
  rw [List.getElem?_map] at h
  obtain ⟨x, hx, rfl⟩ := Option.map_eq_some_iff.1 h
  obtain ⟨hj, e⟩ := List.getElem?_eq_some_iff.1 hx
  exact ⟨hj, by rw [nth_eq_getElem hj, e]⟩
theorem lv_of {L : List Nat} {j : Nat} (h : j < L.length) : (lv L)[j]? = some (.int .u32 ((nth L j : Nat) : Int)) := by
  unfold lv; rw [List.getElem?_map, List.getElem?_eq_getElem h, nth_eq_getElem h]; rfl
theorem lv_one (L : List Nat) : ∀ u ∈ lv L, u.oneCell' = true := by
  intro u hu
  obtain ⟨_, _, rfl⟩ := List.mem_map.1 hu
  rfl

/-- what the call itself appends to: limbs L, n of them, in a block from b on, or nil -/
def Grows (w : World) (b : Nat) (v : Value) (n : Nat) (L : List Nat) : Prop := w.ownsRow b 41 1 v n (lv L)
theorem Grows.len {w : World} {b : Nat} {v : Value} {n : Nat} {L : List Nat} (h : Grows w b v n L) : L.length = n := by have := h.1; rw [lv_length] at this; omega
theorem Grows.sl {w : World} {b : Nat} {v : Value} {n : Nat} {L : List Nat} (h : Grows w b v n L) (hl : Lim L) (hs : n ≤ 35184372088832) : SL w v L := by
  have hlen := h.len
  rcases h.2 with ⟨rfl, rfl⟩ | ⟨g, cap, cur, rfl, _, hg, hnc, hcm, hcs, htake⟩
  · have : L = [] := List.eq_nil_of_length_eq_zero hlen
    subst this
    exact ⟨none, 0, 0, rfl, ⟨rfl, Nat.le_refl _, by omega, by omega, Lim.nil, fun _ => rfl, fun i hi => by omega⟩⟩
  · refine ⟨_, _, _, rfl, ⟨hlen, hnc, by simpa [maxLen] using hcm, hs, hl, by simp, fun i hi => ?_⟩⟩
    rw [adr_some]
    exact h.cells (g := g) rfl i _ (lv_of (by omega))
theorem Grows.below {w w' : World} {b c : Nat} {v : Value} {n : Nat} {L : List Nat} (h : Grows w b v n L) (hb : Below c w w') (hc : w.heap.size ≤ c) : Grows w' b v n L := by
  refine ⟨h.1, ?_⟩
  rcases h.2 with hn | ⟨g, cap, cur, rfl, h1, hg, rest⟩
  · exact .inl hn
  · exact .inr ⟨g, cap, cur, rfl, h1, by rw [hb.block g (Nat.lt_of_lt_of_le (Array.getElem?_eq_some_iff.1 hg).1 hc)]; exact hg, rest⟩
theorem Own.grows {w : World} {g : Nat} {L : List Nat} (h : Own w g L) {b n : Nat} (hb : b ≤ g) (hn : n = L.length) (hm : n ≤ 35184372088832) : Grows w b (.slice (some ⟨g, 0, none⟩) n n) n L :=
  ⟨by rw [lv_length]; omega, .inr ⟨g, n, limbsArr L, rfl, hb, h, Nat.le_refl _, by simp only [maxLen]; omega, by rw [limbsArr_size]; omega, by
    have e : (limbsArr L).toList = lv L := by simp [limbsArr, lv]
    rw [e, List.take_of_length_le (by rw [lv_length]; omega)]⟩⟩
theorem Grows.lt {w : World} {b : Nat} {v : Value} {n : Nat} {L : List Nat} (h : Grows w b v n L) : ∀ k, v.ownBlock = some k → b ≤ k ∧ k < w.heap.size := World.ownsRow.lt h

/-- append onto a slice of the call's own, of whatever limbs -/
theorem wpList_app {w : World} {ops : Array Oper} {rest : List Oper} {o : Oper} {a : Act} {Q : Exit → Act → World → Prop} (hgd : o.guard = none) (s x : Operand)
    (ho : o.op = .call { callee := .builtin .append, args := #[s, x], argTypes := #[22, 22] })
    (b : Nat) (v : Value) (n : Nat) (L : List Nat) (hs : a.eval s = v) (hown : Grows w b v n L)
    (ao : Option Addr) (m c : Nat) (C : List Nat) (hx : a.eval x = .slice ao m c) (hC : SlOk w ao m c C) (hsz : n + m ≤ 35184372088832) (hbase : b ≤ w.heap.size)
    (h : ∀ v' w', Grows w' b v' (n + m) (L ++ C) → Below b w w' → wpList Try.prog ops Q rest (a.put o.dst v') w') : wpList Try.prog ops Q (o :: rest) a w := by
  obtain ⟨i0, hi, hz0, hz1, hz2⟩ := info_parts info41
  cases ao with
  | none =>
    have hc := hC.nil rfl
    subst hc
    have hm : m = 0 := by have := hC.le; omega
    subst hm
    have hn : C = [] := List.eq_nil_of_length_eq_zero hC.len
    subst hn
    refine wpList_append_own_none hgd s x 22 ho b 41 i0 1 Try.underlying22 hi v n (lv L) hs hown hx ?_
    exact h v w (by simpa using hown) (Below.refl _ _)
  | some ad =>
    refine wpList_append_own w hgd s x 22 ho b 41 i0 _ 1 4 Try.underlying22 hi hz0 hz1 hz2 rfl (by decide) v n (lv L) hs hown ad m c (lv C) hx (by rw [lv_length, hC.len]; omega)
      (fun j u hu => ?_) (lv_one C) (by simp only [maxLen]; omega) (by omega) hbase ?_
    · obtain ⟨hj, rfl⟩ := lv_get hu
      exact hC.cell j (by have := hC.len; omega)
    · intro v' w' h2 h3 _
      refine h v' w' ?_ ?_
      · unfold Grows; rw [lv_append]; exact h2
      · exact (Below.refl b w).grown h3 hbase (fun k hk => (hown.lt k hk).1)

/-- 'make([]uint32, n)' -/
theorem wpList_mk {w : World} {ops : Array Oper} {rest : List Oper} {o : Oper} {a : Act} {Q : Exit → Act → World → Prop} (hgd : o.guard = none) (l c : Operand)
    (ho : o.op = .makeSlice 22 l c) (z z' : Int) (n : Nat) (hl : a.eval l = .int .i64 z) (hc : a.eval c = .int .i64 z') (hz : z = (n : Int)) (hz' : z' = (n : Int)) (hn : n ≤ 35184372088832)
    (h : ∀ w', Own w' w.heap.size (List.replicate n 0) → Below w.heap.size w w' → w'.heap.size = w.heap.size + 1 → wpList Try.prog ops Q rest (a.put o.dst (.slice (some ⟨w.heap.size, 0, none⟩) n n)) w') : wpList Try.prog ops Q (o :: rest) a w := by
  obtain ⟨i0, hi, hz0, hz1, hz2⟩ := info_parts info41
  refine wpList_plain hgd fun K hK' => ?_
  have hrun := run_make (P := Try.prog) w 22 41 i0 (.int .u32 0) Try.underlying22 hi hz0 .i64 .i64 (n : Int) (n : Int) (by omega) (Int.le_refl _) (by rw [hz2]; omega) (by omega)
  subst hz
  subst hz'
  rw [hz1] at hrun
  have e : madeCells (Value.int IntKind.u32 0).cells ((n : Int).toNat * 1) = limbsArr (List.replicate n 0) := by
    apply Array.ext'
    rw [Int.toNat_natCast, Nat.mul_one]
    show (madeCells #[Value.int .u32 0] n).toList = _
    rw [toList_madeCells_one]
    simp [limbsArr]
  rw [e, Int.toNat_natCast] at hrun
  unfold Oper.wp
  simp [execOp, ho, hl, hc, hrun, Result.andThen]
  exact hK' _ _ (h _ (Own.new w _) (Below.alloc (Below.refl w.heap.size w) (Nat.le_refl _) _) (by simp))
#print axioms wpList_mk
end Go.Proofs.Ytdmolcopnehkbaa
