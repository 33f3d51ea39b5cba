/-
  Plain arithmetic of limbs: a list of numbers below 2^32, the lowest first, and the number that it stands for. No program in sight.
-/

namespace Go.Proofs.Ytdmolcopnehkbaa

/-- the number that limbs stand for -/
def val : List Nat → Nat
  | [] => 0
  | x :: l => x + 4294967296 * val l

/-- a power of the base -/
def B (n : Nat) : Nat := 4294967296 ^ n
theorem B_zero : B 0 = 1 := rfl
theorem B_succ (n : Nat) : B (n + 1) = 4294967296 * B n := by simp [B, Nat.pow_succ, Nat.mul_comm]
theorem B_one : B 1 = 4294967296 := rfl
theorem B_pos (n : Nat) : 0 < B n := Nat.pow_pos (by decide)
theorem B_add (m n : Nat) : B (m + n) = B m * B n := by simp [B, Nat.pow_add]
theorem B_mono {m n : Nat} (h : m ≤ n) : B m ≤ B n := Nat.pow_le_pow_right (by decide) h
theorem B_lt {m n : Nat} (h : m < n) : B m < B n := Nat.pow_lt_pow_right (by decide) h

/-- all limbs are below the base -/
def Lim (L : List Nat) : Prop := ∀ x ∈ L, x < 4294967296
theorem Lim.nil : Lim [] := fun _ h => by cases h
theorem Lim.cons {x : Nat} {L : List Nat} (hx : x < 4294967296) (h : Lim L) : Lim (x :: L) := by
  intro y hy; rcases List.mem_cons.1 hy with rfl | hy
  · exact hx
  · exact h y hy
theorem Lim.take {L : List Nat} (h : Lim L) (k : Nat) : Lim (L.take k) := fun x hx => h x (List.mem_of_mem_take hx)
theorem Lim.drop {L : List Nat} (h : Lim L) (k : Nat) : Lim (L.drop k) := fun x hx => h x (List.mem_of_mem_drop hx)
theorem Lim.append {L M : List Nat} (h : Lim L) (h' : Lim M) : Lim (L ++ M) := fun x hx => (List.mem_append.1 hx).elim (h x) (h' x)
theorem Lim.set {L : List Nat} (h : Lim L) (k x : Nat) (hx : x < 4294967296) : Lim (L.set k x) := fun y hy => by
  rcases List.mem_or_eq_of_mem_set hy with hy | rfl
  · exact h y hy
  · exact hx
theorem Lim.replicate (n : Nat) : Lim (List.replicate n 0) := fun x hx => by
  rw [List.eq_of_mem_replicate hx]; decide

/-- one limb, 0 behind all -/
def nth (L : List Nat) (i : Nat) : Nat := L.getD i 0
theorem nth_lt {L : List Nat} (h : Lim L) (i : Nat) : nth L i < 4294967296 := by
  unfold nth
  by_cases hi : i < L.length
  · simp only [List.getD_eq_getElem?_getD, List.getElem?_eq_getElem hi, Option.getD_some]; exact h _ (List.getElem_mem hi)
  · simp only [List.getD_eq_getElem?_getD, List.getElem?_eq_none (Nat.le_of_not_lt hi), Option.getD_none]; decide
theorem nth_cons_zero (x : Nat) (L : List Nat) : nth (x :: L) 0 = x := rfl
theorem nth_cons_succ (x : Nat) (L : List Nat) (i : Nat) : nth (x :: L) (i + 1) = nth L i := rfl
theorem nth_ge {L : List Nat} {i : Nat} (h : L.length ≤ i) : nth L i = 0 := by
  unfold nth; simp only [List.getD_eq_getElem?_getD, List.getElem?_eq_none h, Option.getD_none]
theorem nth_take {L : List Nat} {i k : Nat} (h : i < k) : nth (L.take k) i = nth L i := by
  unfold nth; simp [List.getD_eq_getElem?_getD, h]
theorem nth_drop (L : List Nat) (i k : Nat) : nth (L.drop k) i = nth L (k + i) := by
  unfold nth; simp [List.getD_eq_getElem?_getD, List.getElem?_drop]
theorem nth_set_eq {L : List Nat} {k : Nat} (x : Nat) (h : k < L.length) : nth (L.set k x) k = x := by
  unfold nth; simp [List.getD_eq_getElem?_getD, h]
theorem nth_set_ne {L : List Nat} {k i : Nat} (x : Nat) (h : k ≠ i) : nth (L.set k x) i = nth L i := by
  unfold nth; simp [List.getD_eq_getElem?_getD, h]
theorem nth_append_left {L M : List Nat} {i : Nat} (h : i < L.length) : nth (L ++ M) i = nth L i := by
  unfold nth; simp [List.getD_eq_getElem?_getD, List.getElem?_append_left h]
theorem nth_append_right {L M : List Nat} {i : Nat} (h : L.length ≤ i) : nth (L ++ M) i = nth M (i - L.length) := by
  unfold nth; simp [List.getD_eq_getElem?_getD, List.getElem?_append_right h]
theorem nth_replicate (n i : Nat) : nth (List.replicate n 0) i = 0 := by
  unfold nth; simp only [List.getD_eq_getElem?_getD, List.getElem?_replicate]; split <;> rfl
theorem nth_eq_getElem {L : List Nat} {i : Nat} (h : i < L.length) : nth L i = L[i] := by
  unfold nth; simp only [List.getD_eq_getElem?_getD, List.getElem?_eq_getElem h, Option.getD_some]

theorem val_nil : val [] = 0 := rfl
theorem val_cons (x : Nat) (l : List Nat) : val (x :: l) = x + 4294967296 * val l := rfl
theorem val_append (A C : List Nat) : val (A ++ C) = val A + B A.length * val C := by
  induction A with
  | nil => simp [val, B_zero]
  | cons x A ih => simp only [List.cons_append, val, ih, List.length_cons, B_succ]; grind
theorem val_lt {L : List Nat} (h : Lim L) : val L < B L.length := by
  induction L with
  | nil => simp [val, B_zero]
  | cons x L ih =>
    have h1 := h x (by simp)
    have h2 := ih (fun y hy => h y (by simp [hy]))
    simp only [val, List.length_cons, B_succ]; omega
theorem val_replicate (n : Nat) : val (List.replicate n 0) = 0 := by
  induction n with
  | zero => rfl
  | succ n ih => simp [List.replicate_succ, val, ih]
theorem take_succ_nth {L : List Nat} {k : Nat} (h : k < L.length) : L.take (k + 1) = L.take k ++ [nth L k] := by
  rw [List.take_succ_eq_append_getElem h, nth_eq_getElem h]
theorem val_take_succ {L : List Nat} {k : Nat} (h : k < L.length) : val (L.take (k + 1)) = val (L.take k) + B k * nth L k := by
  rw [take_succ_nth h, val_append]
  have : (L.take k).length = k := by simp; omega
  rw [this]; simp [val]
/-- true of every k: behind the end the limbs are 0 -/
theorem val_take_succ' (L : List Nat) (k : Nat) : val (L.take (k + 1)) = val (L.take k) + B k * nth L k := by
  by_cases h : k < L.length
  · exact val_take_succ h
  · rw [nth_ge (by omega), List.take_of_length_le (by omega), List.take_of_length_le (by omega)]; simp
theorem val_take_all {L : List Nat} {k : Nat} (h : L.length ≤ k) : val (L.take k) = val L := by rw [List.take_of_length_le h]
theorem val_take_lt {L : List Nat} (h : Lim L) (k : Nat) : val (L.take k) < B k :=
  Nat.lt_of_lt_of_le (val_lt (h.take k)) (B_mono (by simp; omega))
theorem val_split (L : List Nat) (k : Nat) (h : k ≤ L.length) : val L = val (L.take k) + B k * val (L.drop k) := by
  have h2 := val_append (L.take k) (L.drop k)
  rw [List.take_append_drop] at h2
  have h3 : (L.take k).length = k := by simp; omega
  rw [h3] at h2; exact h2
theorem val_drop_eq {L : List Nat} {k : Nat} (h : k < L.length) : val (L.drop k) = nth L k + 4294967296 * val (L.drop (k + 1)) := by
  rw [List.drop_eq_getElem_cons h, val_cons, nth_eq_getElem h]
theorem take_set_ge {L : List Nat} {k j : Nat} (x : Nat) (h : j ≤ k) : (L.set k x).take j = L.take j := by
  rw [List.take_set_of_le h]

/-- no limb 0 at the top -/
def Top (L : List Nat) : Prop := L = [] ∨ nth L (L.length - 1) ≠ 0
def topB (L : List Nat) : Bool := L.length == 0 || nth L (L.length - 1) != 0
theorem topB_iff (L : List Nat) : topB L = true ↔ Top L := by
  unfold topB Top
  cases L <;> simp
theorem Top.nil : Top [] := .inl rfl

theorem le_val_of_top {L : List Nat} (h : Top L) (hne : L ≠ []) : B (L.length - 1) ≤ val L := by
  have hl : 0 < L.length := List.length_pos_iff.2 hne
  have h1 : nth L (L.length - 1) ≠ 0 := h.resolve_left hne
  have h2 := val_take_succ (L := L) (k := L.length - 1) (by omega)
  have h3 : L.length - 1 + 1 = L.length := by omega
  rw [h3, List.take_of_length_le (Nat.le_refl _)] at h2
  rw [h2]
  have : B (L.length - 1) * 1 ≤ B (L.length - 1) * nth L (L.length - 1) := Nat.mul_le_mul_left _ (by omega)
  omega
theorem val_eq_zero_iff {L : List Nat} (h : Top L) : val L = 0 ↔ L = [] := by
  constructor
  · intro h0
    by_cases hne : L = []
    · exact hne
    · have := le_val_of_top h hne; have := B_pos (L.length - 1); omega
  · rintro rfl; rfl
/-- more limbs, a greater number -/
theorem lt_of_length_lt {A C : List Nat} (hA : Lim A) (hC : Top C) (h : A.length < C.length) : val A < val C := by
  have h1 := val_lt hA
  have hne : C ≠ [] := by intro e; subst e; simp at h
  have h2 := le_val_of_top hC hne
  have h3 := B_mono (show A.length ≤ C.length - 1 by omega)
  omega
/-- same length: the topmost limb that differs decides -/
theorem lt_of_nth_lt {A C : List Nat} (hA : Lim A) {i n : Nat} (hn : A.length = n) (hn' : C.length = n) (hi : i < n) (hlt : nth A i < nth C i) (heq : ∀ j, i < j → nth A j = nth C j) : val A < val C := by
  subst hn
  rw [val_split A (i + 1) (by omega), val_split C (i + 1) (by omega)]
  have hd : A.drop (i + 1) = C.drop (i + 1) := by
    apply List.ext_getElem
    · simp; omega
    · intro k h1 h2
      have := heq (i + 1 + k) (by omega)
      simp at h1 h2
      rw [nth_eq_getElem (by omega), nth_eq_getElem (by omega)] at this
      simpa using this
  rw [hd, val_take_succ (by omega), val_take_succ (by omega)]
  have h1 := val_take_lt hA i
  have h2 : B i * (nth A i + 1) ≤ B i * nth C i := Nat.mul_le_mul_left _ hlt
  rw [Nat.mul_add] at h2
  omega
theorem eq_of_nth_eq {A C : List Nat} (hl : A.length = C.length) (h : ∀ j, nth A j = nth C j) : A = C := by
  apply List.ext_getElem hl
  intro k h1 h2
  have := h k
  rwa [nth_eq_getElem h1, nth_eq_getElem h2] at this
theorem unique {A C : List Nat} (hA : Lim A) (tA : Top A) (hC : Lim C) (tC : Top C) (h : val A = val C) : A = C := by
  have hl : A.length = C.length := by
    rcases Nat.lt_trichotomy A.length C.length with h1 | h1 | h1
    · have := lt_of_length_lt hA tC h1; omega
    · exact h1
    · have := lt_of_length_lt hC tA h1; omega
  clear tA tC
  induction A generalizing C with
  | nil => cases C with
    | nil => rfl
    | cons _ _ => simp at hl
  | cons x A ih => cases C with
    | nil => simp at hl
    | cons y C =>
      simp only [val] at h
      have hx := hA x (by simp)
      have hy := hC y (by simp)
      have h1 : x = y := by omega
      have h2 : val A = val C := by omega
      rw [h1, ih (fun z hz => hA z (by simp [hz])) (fun z hz => hC z (by simp [hz])) h2 (by simpa using hl)]

/-- without the limbs 0 at the top: how many are left -/
def slen (L : List Nat) : Nat → Nat
  | 0 => 0
  | k + 1 => if nth L k = 0 then slen L k else k + 1
def strip (L : List Nat) : List Nat := L.take (slen L L.length)
theorem slen_le (L : List Nat) (k : Nat) : slen L k ≤ k := by
  induction k with
  | zero => simp [slen]
  | succ k ih => simp only [slen]; split <;> omega
theorem slen_top (L : List Nat) (k : Nat) : slen L k = 0 ∨ nth L (slen L k - 1) ≠ 0 := by
  induction k with
  | zero => simp [slen]
  | succ k ih =>
    simp only [slen]; split
    · exact ih
    · right; simpa
theorem slen_val (L : List Nat) (k : Nat) (h : k ≤ L.length) : val (L.take (slen L k)) = val (L.take k) := by
  induction k with
  | zero => simp [slen]
  | succ k ih =>
    simp only [slen]; split
    · rename_i h0
      rw [ih (by omega), val_take_succ (by omega), h0]; simp
    · rfl
theorem strip_length (L : List Nat) : (strip L).length = slen L L.length := by
  have := slen_le L L.length
  simp [strip]; omega
theorem strip_val (L : List Nat) : val (strip L) = val L := by
  unfold strip; rw [slen_val L _ (Nat.le_refl _)]; simp
theorem strip_lim {L : List Nat} (h : Lim L) : Lim (strip L) := h.take _
theorem strip_top (L : List Nat) : Top (strip L) := by
  rcases slen_top L L.length with h | h
  · left; unfold strip; rw [h]; rfl
  · by_cases h0 : slen L L.length = 0
    · left; unfold strip; rw [h0]; rfl
    · right
      rw [strip_length]
      unfold strip
      rw [nth_take (by omega)]; exact h
theorem strip_length_le (L : List Nat) : (strip L).length ≤ L.length := by rw [strip_length]; exact slen_le _ _


/-- one limb more of a sum -/
theorem add_step {A C S : List Nat} {k cy s cy' : Nat} (hS : k < S.length) (h : val (S.take k) + cy * B k = val (A.take k) + val (C.take k)) (hs : s + 4294967296 * cy' = nth A k + nth C k + cy) :
    val ((S.set k s).take (k + 1)) + cy' * B (k + 1) = val (A.take (k + 1)) + val (C.take (k + 1)) := by
  rw [val_take_succ (by simpa using hS), take_set_ge s (Nat.le_refl k), nth_set_eq s hS, val_take_succ' A, val_take_succ' C, B_succ]
  have e : B k * (s + 4294967296 * cy') = B k * (nth A k + nth C k + cy) := by rw [hs]
  grind
theorem add_end {A C S : List Nat} {n cy : Nat} (hS : S.length = n + 1) (h : val (S.take n) + cy * B n = val (A.take n) + val (C.take n)) (hA : A.length ≤ n) (hC : C.length ≤ n) : val (S.set n cy) = val A + val C := by
  have h1 : (S.set n cy) = (S.set n cy).take (n + 1) := by rw [List.take_of_length_le (by simp; omega)]
  rw [h1, val_take_succ (by simp; omega), take_set_ge cy (Nat.le_refl n), nth_set_eq cy (by omega)]
  rw [val_take_all hA, val_take_all hC] at h
  rw [← h]; grind
/-- one limb more of a difference -/
theorem sub_step {A C S : List Nat} {k bw s bw' : Nat} (hS : k < S.length) (h : val (S.take k) + val (C.take k) = val (A.take k) + bw * B k) (hs : nth A k + 4294967296 * bw' = s + nth C k + bw) :
    val ((S.set k s).take (k + 1)) + val (C.take (k + 1)) = val (A.take (k + 1)) + bw' * B (k + 1) := by
  rw [val_take_succ (by simpa using hS), take_set_ge s (Nat.le_refl k), nth_set_eq s hS, val_take_succ' A, val_take_succ' C, B_succ]
  have e : B k * (nth A k + 4294967296 * bw') = B k * (s + nth C k + bw) := by rw [hs]
  grind
theorem sub_end {A C S : List Nat} {n bw : Nat} (hS : S.length = n) (h : val (S.take n) + val (C.take n) = val (A.take n) + bw * B n) (hl : Lim S) (hA : A.length ≤ n) (hC : C.length ≤ n) (hle : val C ≤ val A) : val S = val A - val C := by
  rw [val_take_all hA, val_take_all hC, val_take_all (by omega)] at h
  have h1 := val_lt hl
  rw [hS] at h1
  cases bw with
  | zero => omega
  | succ b =>
    have : B n ≤ (b + 1) * B n := Nat.le_mul_of_pos_left _ (by omega)
    omega

/-- a product's inner round: one limb of the second number more -/
theorem val_set_take {S : List Nat} {p q : Nat} (s : Nat) (hp : p < q) (hq : q ≤ S.length) : val ((S.set p s).take q) + B p * nth S p = val (S.take q) + B p * s := by
  have h1 := val_split (S.take q) (p + 1) (by simp; omega)
  have h2 := val_split ((S.set p s).take q) (p + 1) (by simp; omega)
  rw [List.take_take, Nat.min_eq_left (show p + 1 ≤ q by omega)] at h1 h2
  have h3 : ((S.set p s).take q).drop (p + 1) = (S.take q).drop (p + 1) := by
    rw [List.take_set, List.drop_set_of_lt (by omega)]
  rw [h3] at h2
  rw [val_take_succ (by omega)] at h1
  rw [val_take_succ (by simp; omega), take_set_ge s (Nat.le_refl p), nth_set_eq s (by omega)] at h2
  omega
theorem mul_arith (v v' r d cy x y s ai ci bi bk : Nat) (h1 : v' + bi * bk * s = v + bi * bk * r) (h2 : v + cy * (bi * bk) = ai + x * bi * ci) (h3 : r + 4294967296 * d = x * y + s + cy) :
    v' + d * (4294967296 * (bi * bk)) = ai + x * bi * (ci + bk * y) := by
  have h4 : bi * bk * (r + 4294967296 * d) = bi * bk * (x * y + s + cy) := by rw [h3]
  clear h3
  have e1 : x * bi * (ci + bk * y) = x * bi * ci + bi * bk * (x * y) := by grind
  rw [e1]
  generalize bi * bk = P at *
  simp only [Nat.mul_add] at h4
  have e2 : P * (4294967296 * d) = d * (4294967296 * P) := by grind
  rw [e2] at h4
  have e3 : P * cy = cy * P := Nat.mul_comm _ _
  omega
theorem mul_step {A C S : List Nat} {i k m cy t : Nat} (hk : k < m) (hS : i + m ≤ S.length) (h : val (S.take (i + m)) + cy * B (i + k) = val (A.take i) * val C + nth A i * B i * val (C.take k))
    (ht : t = nth A i * nth C k + nth S (i + k) + cy) : val ((S.set (i + k) (t % 4294967296)).take (i + m)) + t / 4294967296 * B (i + (k + 1)) = val (A.take i) * val C + nth A i * B i * val (C.take (k + 1)) := by
  have h1 := val_set_take (S := S) (p := i + k) (q := i + m) (t % 4294967296) (by omega) hS
  rw [val_take_succ' C, show i + (k + 1) = (i + k) + 1 by omega, B_succ, B_add]
  rw [B_add] at h h1
  exact mul_arith _ _ _ _ _ _ _ _ _ _ _ _ h1 h (by omega)
theorem mul_round {A C S : List Nat} {i m cy : Nat} (hS : i + m < S.length) (hC : C.length = m) (h : val (S.take (i + m)) + cy * B (i + m) = val (A.take i) * val C + nth A i * B i * val (C.take m)) :
    val ((S.set (i + m) cy).take (i + 1 + m)) = val (A.take (i + 1)) * val C := by
  rw [show i + 1 + m = i + m + 1 by omega, val_take_succ (by simpa using hS), take_set_ge cy (Nat.le_refl _), nth_set_eq cy hS, val_take_succ' A]
  rw [val_take_all (L := C) (by omega)] at h
  rw [Nat.add_mul, Nat.mul_comm (B (i + m)) cy, h, Nat.mul_comm (B i) (nth A i)]
theorem mul_le (x y s c : Nat) (hx : x < 4294967296) (hy : y < 4294967296) (hs : s < 4294967296) (hc : c < 4294967296) : x * y ≤ 18446744065119617025 ∧ x * y + s + c < 18446744073709551616 ∧ (x * y + s + c) / 4294967296 < 4294967296 := by
  have h : x * y ≤ 4294967295 * 4294967295 := Nat.mul_le_mul (by omega) (by omega)
  omega
theorem val_lo {A : List Nat} {j : Nat} (h : A.length = j + 1) : nth A j * B j ≤ val A := by
  have := val_take_succ (L := A) (k := j) (by omega)
  rw [← h, List.take_length, Nat.mul_comm] at this
  omega
theorem val_hi {A : List Nat} {j : Nat} (hA : Lim A) (h : A.length = j + 1) : val A < (nth A j + 1) * B j := by
  have h1 := val_take_succ (L := A) (k := j) (by omega)
  have h2 := val_take_lt hA j
  rw [← h, List.take_length, Nat.mul_comm] at h1
  rw [Nat.add_mul]; omega
#print axioms mul_round
end Go.Proofs.Ytdmolcopnehkbaa
