/- The plain law of custumalref01.Right: products by parts of 16 bits, greedy roots, the primes. No program in sight. -/
import Derived.Test.YtmcjjionfmdioaaDoorShaSpec
namespace Go.Proofs.YtmcjjionfmdioaaDoor
namespace Roots
/-- The i-th part of 16 bits. -/
def lb (x i : Nat) : Nat := x / 65536 ^ i % 65536
theorem lb_lt (x i : Nat) : lb x i < 65536 := Nat.mod_lt _ (by decide)
/-- A number in 28 parts. -/
def limbs (x : Nat) : List Nat := (List.range 28).map (lb x)
theorem limbs_length (x : Nat) : (limbs x).length = 28 := by simp [limbs]
theorem limbs_get (x j : Nat) (h : j < 28) : (limbs x)[j]? = some (lb x j) := by simp [limbs, h]
theorem pow_pos16 (i : Nat) : 0 < 65536 ^ i := Nat.pow_pos (by decide)
theorem div_succ (x i : Nat) : x / 65536 ^ (i + 1) = x / 65536 ^ i / 65536 := by rw [Nat.pow_succ, Nat.div_div_eq_div_mul]
/-- A multiple of what lies higher changes no lower part. -/
theorem lb_add_mul (x y i j : Nat) (h : i < j) : lb (x + y * 65536 ^ j) i = lb x i := by
  unfold lb
  obtain ⟨d, rfl⟩ : ∃ d, j = i + 1 + d := ⟨j - i - 1, by omega⟩
  have e : y * 65536 ^ (i + 1 + d) = 65536 ^ i * (65536 * (y * 65536 ^ d)) := by
    rw [Nat.pow_add, Nat.pow_succ]
    simp only [Nat.mul_assoc, Nat.mul_comm, Nat.mul_left_comm]
  rw [e, Nat.add_mul_div_left _ _ (pow_pos16 i), Nat.add_mul_mod_self_left]
/-- The state of the inner loop of Times. -/
def tk (C a i B k : Nat) : Nat := C + a * (B % 65536 ^ k) * 65536 ^ i
def ov (C a i B k : Nat) : Nat := tk C a i B k / 65536 ^ (i + k) - C / 65536 ^ (i + k)
def cl (C a i B k : Nat) : List Nat := (List.range 28).map fun j => if j < i + k then lb (tk C a i B k) j else lb C j
theorem cl_length (C a i B k : Nat) : (cl C a i B k).length = 28 := by simp [cl]
theorem cl_get (C a i B k j : Nat) (h : j < 28) : (cl C a i B k)[j]? = some (if j < i + k then lb (tk C a i B k) j else lb C j) := by simp [cl, h]
theorem mod_succ (B k : Nat) : B % 65536 ^ (k + 1) = B % 65536 ^ k + lb B k * 65536 ^ k := by
  unfold lb
  rw [Nat.pow_succ, Nat.mod_mul, Nat.mul_comm (65536 ^ k)]
theorem tk_succ (C a i B k : Nat) : tk C a i B (k + 1) = tk C a i B k + a * lb B k * 65536 ^ (i + k) := by
  unfold tk
  rw [mod_succ, Nat.pow_add, Nat.mul_add, Nat.add_mul]
  simp only [Nat.mul_assoc, Nat.mul_comm, Nat.mul_left_comm, Nat.add_assoc]
theorem tk_ge (C a i B k : Nat) : C ≤ tk C a i B k := Nat.le_add_right _ _
theorem tk_div (C a i B k : Nat) : tk C a i B k / 65536 ^ (i + k) = C / 65536 ^ (i + k) + ov C a i B k := by
  have := Nat.div_le_div_right (c := 65536 ^ (i + k)) (tk_ge C a i B k)
  unfold ov
  omega
theorem tk_succ_div (C a i B k : Nat) : tk C a i B (k + 1) / 65536 ^ (i + k) = C / 65536 ^ (i + k) + ov C a i B k + a * lb B k := by
  rw [tk_succ, Nat.add_mul_div_right _ _ (pow_pos16 _), tk_div]
/-- The inner loop's sum. -/
def su (C a i B k : Nat) : Nat := lb C (i + k) + a * lb B k + ov C a i B k
theorem lb_step (C a i B k : Nat) : lb (tk C a i B (k + 1)) (i + k) = su C a i B k % 65536 := by
  unfold su
  show tk C a i B (k + 1) / 65536 ^ (i + k) % 65536 = _
  rw [tk_succ_div]
  unfold lb
  omega
theorem ov_step (C a i B k : Nat) : ov C a i B (k + 1) = su C a i B k / 65536 := by
  have h : ov C a i B (k + 1) = tk C a i B (k + 1) / 65536 ^ (i + k) / 65536 - C / 65536 ^ (i + k) / 65536 := by
    unfold ov
    rw [show i + (k + 1) = i + k + 1 from rfl, div_succ, div_succ]
  rw [h, tk_succ_div]
  unfold su lb
  omega
theorem ov_zero (C a i B : Nat) : ov C a i B 0 = 0 := by simp [ov, tk, Nat.mod_one]
theorem su_lt (C a i B k : Nat) (ha : a < 65536) (ho : ov C a i B k < 65536) : su C a i B k < 4294967296 := by
  have h1 := lb_lt C (i + k)
  have h2 := Nat.mul_le_mul (Nat.le_of_lt_succ ha) (Nat.le_of_lt_succ (lb_lt B k))
  unfold su
  omega
theorem ov_lt (C a i B k : Nat) (ha : a < 65536) : ov C a i B k < 65536 := by
  induction k with
  | zero => rw [ov_zero]; decide
  | succ k ih =>
    rw [ov_step]
    have := su_lt C a i B k ha ih
    omega
theorem cl_zero (C a i B : Nat) : cl C a i B 0 = limbs C := by
  unfold cl limbs
  refine List.map_congr_left fun j _ => ?_
  have : tk C a i B 0 = C := by simp [tk, Nat.mod_one]
  rw [this, ite_self]
theorem cl_succ (C a i B k : Nat) (h : i + k < 28) : (cl C a i B k).set (i + k) (su C a i B k % 65536) = cl C a i B (k + 1) := by
  refine List.ext_getElem? fun j => ?_
  rw [List.getElem?_set, cl_length]
  by_cases hj : j < 28
  · rw [cl_get _ _ _ _ _ _ hj, cl_get _ _ _ _ _ _ hj]
    by_cases hij : i + k = j
    · subst hij
      rw [if_pos rfl, if_pos h, if_pos (by omega), lb_step]
    · rw [if_neg hij]
      by_cases hl : j < i + k
      · rw [if_pos hl, if_pos (by omega), tk_succ, lb_add_mul _ _ _ _ hl]
      · rw [if_neg hl, if_neg (by omega)]
  · rw [if_neg (by omega), List.getElem?_eq_none (by rw [cl_length]; omega), List.getElem?_eq_none (by rw [cl_length]; omega)]
/-- Behind the inner loop. -/
theorem cl_last (A B i : Nat) (hi : i < 28) : cl (A % 65536 ^ i * B) (lb A i) i B (28 - i) = limbs (A % 65536 ^ (i + 1) * B) := by
  unfold cl limbs
  refine List.map_congr_left fun j hj => ?_
  have hj' : j < 28 := List.mem_range.1 hj
  rw [if_pos (by omega)]
  have e : A % 65536 ^ (i + 1) * B = tk (A % 65536 ^ i * B) (lb A i) i B (28 - i) + lb A i * (B / 65536 ^ (28 - i)) * 65536 ^ 28 := by
    have hB := Nat.div_add_mod B (65536 ^ (28 - i))
    have hP : 65536 ^ 28 = 65536 ^ (28 - i) * 65536 ^ i := by rw [← Nat.pow_add]; congr 1; omega
    rw [mod_succ, hP, Nat.add_mul]
    unfold tk
    rw [Nat.add_assoc]
    congr 1
    generalize 65536 ^ (28 - i) = P at hB
    generalize 65536 ^ i = Q
    generalize lb A i = a
    generalize B / P = q at hB
    generalize B % P = r at hB
    subst hB
    simp only [Nat.mul_add, Nat.mul_comm, Nat.mul_left_comm, Nat.add_comm]
  rw [e, lb_add_mul _ _ _ _ hj']
theorem times_first (A B : Nat) : limbs (A % 65536 ^ 0 * B) = List.replicate 28 0 := by
  rw [show A % 65536 ^ 0 * B = 0 by simp [Nat.mod_one]]
  decide
theorem lb_mod (x j n : Nat) (h : j < n) : lb (x % 65536 ^ n) j = lb x j := by
  have e := Nat.div_add_mod x (65536 ^ n)
  have := lb_add_mul (x % 65536 ^ n) (x / 65536 ^ n) j n h
  rw [← this]
  congr 1
  rw [Nat.mul_comm]
  omega
theorem times_last (A B : Nat) (hA : A < 65536 ^ 28) : limbs (A % 65536 ^ 28 * B) = limbs (A * B) := by rw [Nat.mod_eq_of_lt hA]
/-! Less -/
theorem div_eq_of (A B i : Nat) (h : A / 65536 ^ (i + 1) = B / 65536 ^ (i + 1)) (hl : lb A i = lb B i) : A / 65536 ^ i = B / 65536 ^ i := by
  rw [div_succ, div_succ] at h
  unfold lb at hl
  omega
theorem lt_of_lb (A B i : Nat) (h : A / 65536 ^ (i + 1) = B / 65536 ^ (i + 1)) (hl : lb A i ≠ lb B i) : (A < B) = (lb A i < lb B i) := by
  rw [div_succ, div_succ] at h
  unfold lb at hl ⊢
  refine propext ⟨fun hab => ?_, fun hab => ?_⟩
  · have := Nat.div_le_div_right (c := 65536 ^ i) (Nat.le_of_lt hab)
    omega
  · refine Nat.lt_of_not_le fun hba => ?_
    have := Nat.div_le_div_right (c := 65536 ^ i) hba
    omega
/-! Roots -/
def stp (c : Bool) (p x i : Nat) : Nat := if (bif c then decide ((x + 2 ^ i) * (x + 2 ^ i) * (x + 2 ^ i) ≤ p * 65536 ^ 6) else decide ((x + 2 ^ i) * (x + 2 ^ i) ≤ p * 65536 ^ 4)) = true then x + 2 ^ i else x
def rts (c : Bool) (p : Nat) : Nat → Nat
  | 0 => 0
  | m + 1 => stp c p (rts c p m) (37 - m)
theorem rts_mul (c : Bool) (p m : Nat) (h : m ≤ 38) : rts c p m % 2 ^ (38 - m) = 0 ∧ rts c p m + 2 ^ (38 - m) ≤ 2 ^ 38 := by
  induction m with
  | zero => exact ⟨by simp [rts], by simp [rts]⟩
  | succ m ih =>
    obtain ⟨h1, h2⟩ := ih (by omega)
    have e : 2 ^ (38 - m) = 2 * 2 ^ (38 - (m + 1)) := by rw [show 38 - m = (38 - (m + 1)) + 1 by omega, Nat.pow_succ, Nat.mul_comm]
    have e2 : 37 - m = 38 - (m + 1) := by omega
    rw [e] at h1 h2
    have hd : rts c p m % 2 ^ (38 - (m + 1)) = 0 := by
      have := Nat.mod_mul_left_mod (rts c p m) 2 (2 ^ (38 - (m + 1)))
      rw [h1] at this
      rw [← this, Nat.zero_mod]
    show stp c p (rts c p m) (37 - m) % _ = 0 ∧ stp c p (rts c p m) (37 - m) + _ ≤ _
    unfold stp
    rw [e2]
    split
    · exact ⟨by rw [Nat.add_mod_right]; exact hd, by omega⟩
    · exact ⟨hd, by omega⟩
def val : List Nat → Nat
  | [] => 0
  | x :: l => x + 65536 * val l
theorem lb_succ (x i : Nat) : lb x (i + 1) = lb (x / 65536) i := by
  unfold lb
  rw [Nat.pow_succ, Nat.mul_comm, ← Nat.div_div_eq_div_mul]
theorem val_lb (l : List Nat) (hl : ∀ x ∈ l, x < 65536) (i : Nat) : lb (val l) i = l.getD i 0 := by
  induction l generalizing i with
  | nil => simp [val, lb]
  | cons x l ih =>
    have hx := hl x (List.mem_cons_self)
    cases i with
    | zero => simp [val, lb]; omega
    | succ i =>
      rw [lb_succ, show val (x :: l) / 65536 = val l by simp only [val]; omega, ih fun y hy => hl y (List.mem_cons_of_mem _ hy)]
      simp
theorem val_set (l : List Nat) (i d : Nat) (h : i < l.length) : val (l.set i (l.getD i 0 + d)) = val l + d * 65536 ^ i := by
  induction l generalizing i with
  | nil => simp at h
  | cons x l ih =>
    cases i with
    | zero => simp [val]; omega
    | succ i =>
      have := ih i (by simpa using h)
      simp only [List.set_cons_succ, val, List.getD_cons_succ, this, Nat.pow_succ]
      rw [Nat.mul_add, ← Nat.add_assoc]
      congr 1
      simp only [Nat.mul_comm, Nat.mul_left_comm]
theorem limbs_getD (x j : Nat) (h : j < 28) : (limbs x).getD j 0 = lb x j := by rw [List.getD_eq_getElem?_getD, limbs_get x j h]; rfl
theorem val_range (x n : Nat) : val ((List.range n).map (lb x)) = x % 65536 ^ n := by
  induction n generalizing x with
  | zero => simp [val, Nat.mod_one]
  | succ n ih =>
    rw [List.range_succ_eq_map, List.map_cons, List.map_map]
    have e : (lb x ∘ Nat.succ) = lb (x / 65536) := funext fun i => lb_succ x i
    rw [e]
    show lb x 0 + 65536 * val _ = _
    rw [ih, Nat.pow_succ, Nat.mul_comm (65536 ^ n), Nat.mod_mul]
    simp [lb]
theorem val_limbs (x : Nat) (h : x < 65536 ^ 28) : val (limbs x) = x := by
  unfold limbs
  rw [val_range, Nat.mod_eq_of_lt h]
theorem limbs_val (l : List Nat) (hn : l.length = 28) (hl : ∀ x ∈ l, x < 65536) : limbs (val l) = l := by
  refine List.ext_getElem? fun j => ?_
  by_cases hj : j < 28
  · rw [limbs_get _ _ hj, val_lb l hl, List.getD_eq_getElem?_getD, List.getElem?_eq_getElem (by omega)]; rfl
  · rw [List.getElem?_eq_none (by rw [limbs_length]; omega), List.getElem?_eq_none (by omega)]
/-- A bit more, below all that is there. -/
theorem limbs_bit (x i : Nat) (hi : i < 448) (hx : x < 65536 ^ 28) (h : x % 2 ^ (i + 1) = 0) :
    (limbs x).set (i / 16) (lb x (i / 16) + 2 ^ (i % 16)) = limbs (x + 2 ^ i) ∧ lb x (i / 16) + 2 ^ (i % 16) < 65536 := by
  have hlt : lb x (i / 16) + 2 ^ (i % 16) < 65536 := by
    obtain ⟨q, hq⟩ : ∃ q, x = 2 ^ (i + 1) * q := ⟨x / 2 ^ (i + 1), by have := Nat.div_add_mod x (2 ^ (i + 1)); omega⟩
    have e1 : 2 ^ (i + 1) = 65536 ^ (i / 16) * 2 ^ (i % 16 + 1) := by
      rw [show (65536 : Nat) = 2 ^ 16 from rfl, ← Nat.pow_mul, ← Nat.pow_add]; congr 1; omega
    have e2 : x / 65536 ^ (i / 16) = 2 ^ (i % 16 + 1) * q := by
      rw [hq, e1, Nat.mul_assoc, Nat.mul_div_cancel_left _ (pow_pos16 _)]
    have e3 : (65536 : Nat) = 2 ^ (i % 16 + 1) * 2 ^ (15 - i % 16) := by
      rw [← Nat.pow_add, show i % 16 + 1 + (15 - i % 16) = 16 by omega]
    have e4 : lb x (i / 16) = 2 ^ (i % 16 + 1) * (q % 2 ^ (15 - i % 16)) := by
      unfold lb
      rw [e2]
      conv => lhs; rhs; rw [e3]
      rw [Nat.mul_mod_mul_left]
    have h5 : q % 2 ^ (15 - i % 16) + 1 ≤ 2 ^ (15 - i % 16) := Nat.mod_lt _ (Nat.two_pow_pos _)
    have h6 := Nat.mul_le_mul_left (2 ^ (i % 16 + 1)) h5
    rw [← e3, Nat.mul_add, ← e4] at h6
    have h7 : 2 ^ (i % 16 + 1) = 2 * 2 ^ (i % 16) := by rw [Nat.pow_succ, Nat.mul_comm]
    have h8 := Nat.two_pow_pos (i % 16)
    omega
  refine ⟨?_, hlt⟩
  have hi28 : i / 16 < 28 := by omega
  have e0 : 2 ^ i = 2 ^ (i % 16) * 65536 ^ (i / 16) := by
    rw [show (65536 : Nat) = 2 ^ 16 from rfl, ← Nat.pow_mul, ← Nat.pow_add]; congr 1; omega
  have e := val_set (limbs x) (i / 16) (2 ^ (i % 16)) (by rw [limbs_length]; exact hi28)
  rw [val_limbs x hx, limbs_getD x _ hi28, ← e0] at e
  rw [← e, limbs_val _ (by rw [List.length_set, limbs_length])]
  intro y hy
  rcases List.mem_or_eq_of_mem_set hy with h | h
  · obtain ⟨j, _, rfl⟩ := List.mem_map.1 h
    exact lb_lt _ _
  · rw [h]; exact hlt
theorem limbs_v (p d : Nat) (hp : p < 65536) (hd : d < 28) : limbs (p * 65536 ^ d) = (List.replicate 28 0).set d p := by
  have e := val_set (List.replicate 28 0) d p (by simpa using hd)
  have z : val (List.replicate 28 0) = 0 := by decide
  have g : (List.replicate 28 0).getD d 0 = 0 := by rw [List.getD_eq_getElem?_getD, List.getElem?_replicate, if_pos hd]; rfl
  rw [z, g, Nat.zero_add, Nat.zero_add] at e
  rw [← e, limbs_val _ (by simp)]
  intro y hy
  rcases List.mem_or_eq_of_mem_set hy with h | h
  · rw [(List.mem_replicate.1 h).2]; decide
  · rw [h]; exact hp
/-! Primes -/
def wh (n k : Nat) : Bool := (List.range k).all fun j => decide (j < 2) || decide (n % j ≠ 0)
theorem wh_two (n : Nat) : wh n 2 = true := by rfl
theorem wh_succ (n k : Nat) (h : 2 ≤ k) : wh n (k + 1) = (wh n k && decide (n % k ≠ 0)) := by
  unfold wh
  rw [List.range_succ, List.all_append]
  simp [show ¬ k < 2 by omega]
def isP (n : Nat) : Bool := (List.range 18).all fun j => decide (j < 2) || decide (n < j * j) || decide (n % j ≠ 0)
theorem wh_isP (n k : Nat) (hn : n ≤ 311) (h : k = 2 ∨ (k - 1) * (k - 1) ≤ n) (hk : n < k * k) (h2 : 2 ≤ k) : wh n k = isP n := by
  have h18 : k ≤ 18 := by
    refine Nat.le_of_not_lt fun h19 => ?_
    rcases h with h | h
    · omega
    · have := Nat.mul_le_mul (show 18 ≤ k - 1 by omega) (show 18 ≤ k - 1 by omega)
      omega
  unfold wh isP
  rw [Bool.eq_iff_iff, List.all_eq_true, List.all_eq_true]
  constructor
  · intro hw j hj
    by_cases hjk : j < k
    · have := hw j (List.mem_range.2 hjk)
      simp only [Bool.or_eq_true, decide_eq_true_eq] at this ⊢
      omega
    · have := Nat.mul_le_mul (show k ≤ j by omega) (show k ≤ j by omega)
      simp only [Bool.or_eq_true, decide_eq_true_eq]
      omega
  · intro hw j hj
    have hjk := List.mem_range.1 hj
    have := hw j (List.mem_range.2 (by omega))
    simp only [Bool.or_eq_true, decide_eq_true_eq] at this ⊢
    by_cases hj2 : j < 2
    · exact .inl hj2
    · refine .inr ?_
      rcases this with (h' | h') | h'
      · omega
      · rcases h with h | h
        · omega
        · have := Nat.mul_le_mul (show j ≤ k - 1 by omega) (show j ≤ k - 1 by omega)
          omega
      · exact h'
def cnt : Nat → Nat
  | 0 => 0
  | n + 1 => cnt n + if 2 ≤ n + 1 ∧ isP (n + 1) = true then 1 else 0
theorem cnt_le (n m : Nat) (h : n ≤ m) : cnt n ≤ cnt m := by
  induction m with
  | zero => rw [show n = 0 by omega]; exact Nat.le_refl _
  | succ m ih =>
    by_cases e : n = m + 1
    · rw [e]; exact Nat.le_refl _
    · exact Nat.le_trans (ih (by omega)) (Nat.le_add_right _ _)
theorem cnt_311 : cnt 311 = 64 := by decide +kernel
theorem cnt_lt (n : Nat) (h : cnt n < 64) : n < 311 := by
  refine Nat.lt_of_not_le fun h' => ?_
  have := cnt_le 311 n h'
  rw [cnt_311] at this
  omega
theorem keys_right : ∀ n, n < 312 → 2 ≤ n → isP n = true → (Sha.KKn.getD (cnt n - 1) 0) = rts true n 38 % 4294967296 := by decide +kernel
theorem heads_right : ∀ n, n < 312 → 2 ≤ n → isP n = true → cnt n ≤ 8 → (Sha.HHn.getD (cnt n - 1) 0) = rts false n 38 % 4294967296 := by decide +kernel
theorem two_limbs (x : Nat) : lb x 0 + lb x 1 * 65536 = x % 4294967296 := by
  unfold lb
  omega
end Roots
end Go.Proofs.YtmcjjionfmdioaaDoor
