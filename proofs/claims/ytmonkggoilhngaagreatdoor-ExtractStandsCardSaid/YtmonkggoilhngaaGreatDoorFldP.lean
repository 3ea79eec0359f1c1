/- Numbers in words of 64 bits (plain). -/
import Derived.Test.YtmonkggoilhngaaGreatDoorBits
namespace Go.Proofs.YtmonkggoilhngaaGreatDoor
namespace Fld
/-- A number's k lowest words. -/
def words (n : Nat) : Nat → List Nat
  | 0 => []
  | k + 1 => n % 18446744073709551616 :: words (n / 18446744073709551616) k
theorem words_length (k : Nat) : ∀ n, (words n k).length = k := by
  induction k with
  | zero => intro n; rfl
  | succ k ih => intro n; simp [words, ih]
theorem words_lt (k : Nat) : ∀ n, ∀ x ∈ words n k, x < 18446744073709551616 := by
  induction k with
  | zero => intro n x hx; simp [words] at hx
  | succ k ih =>
    intro n x hx
    simp only [words, List.mem_cons] at hx
    rcases hx with rfl | hx
    · exact Nat.mod_lt _ (by decide)
    · exact ih _ x hx
def val : List Nat → Nat
  | [] => 0
  | x :: l => x + 18446744073709551616 * val l
theorem words_val : ∀ l : List Nat, (∀ x ∈ l, x < 18446744073709551616) → words (val l) l.length = l
  | [], _ => rfl
  | x :: l, h => by
    have hx := h x (List.mem_cons_self ..)
    have ih := words_val l (fun y hy => h y (List.mem_cons_of_mem _ hy))
    have h1 : (x + 18446744073709551616 * val l) % 18446744073709551616 = x := by omega
    have h2 : (x + 18446744073709551616 * val l) / 18446744073709551616 = val l := by omega
    simp only [List.length_cons, words, val, h1, h2, ih]
theorem val_lt : ∀ l : List Nat, (∀ x ∈ l, x < 18446744073709551616) → val l < 18446744073709551616 ^ l.length
  | [], _ => by simp [val]
  | x :: l, h => by
    have hx := h x (List.mem_cons_self ..)
    have ih := val_lt l (fun y hy => h y (List.mem_cons_of_mem _ hy))
    rw [List.length_cons, Nat.pow_succ]
    unfold val
    generalize 18446744073709551616 ^ l.length = Q at ih ⊢
    omega
theorem val_words (k : Nat) : ∀ n, n < 18446744073709551616 ^ k → val (words n k) = n := by
  induction k with
  | zero => intro n hn; simp at hn; subst hn; rfl
  | succ k ih =>
    intro n hn
    rw [Nat.pow_succ] at hn
    simp only [words, val]
    rw [ih (n / 18446744073709551616) (by
      generalize 18446744073709551616 ^ k = Q at hn ⊢
      omega)]
    omega
/-- A difference, word by word. -/
def subC : List Nat → List Nat → Nat → List Nat × Nat
  | x :: a, y :: b, u => let r := subC a b (if x < y + u then 1 else 0); ((x + 18446744073709551616 - y - u) % 18446744073709551616 :: r.1, r.2)
  | _, _, u => ([], u)
theorem subC_words (k : Nat) : ∀ m n u, m < 18446744073709551616 ^ k → n < 18446744073709551616 ^ k → u ≤ 1 → subC (words m k) (words n k) u = (words (m + 18446744073709551616 ^ k - n - u) k, if m < n + u then 1 else 0) := by
  induction k with
  | zero =>
    intro m n u hm hn hu
    simp at hm hn
    subst hm hn
    simp only [words, subC]
    have : u = 0 ∨ u = 1 := by omega
    rcases this with rfl | rfl <;> rfl
  | succ k ih =>
    intro m n u hm hn hu
    rw [Nat.pow_succ] at hm hn ⊢
    have hQ : 18446744073709551616 ^ k > 0 := Nat.pow_pos (by decide)
    have h1 : m / 18446744073709551616 < 18446744073709551616 ^ k := by generalize 18446744073709551616 ^ k = Q at hm hn ⊢; omega
    have h2 : n / 18446744073709551616 < 18446744073709551616 ^ k := by generalize 18446744073709551616 ^ k = Q at hm hn ⊢; omega
    simp only [words, subC]
    by_cases hc : m % 18446744073709551616 < n % 18446744073709551616 + u
    · rw [if_pos hc, ih _ _ 1 h1 h2 (by decide)]
      generalize 18446744073709551616 ^ k = Q at hm hn hQ h1 h2 ⊢
      have e1 : (m % 18446744073709551616 + 18446744073709551616 - n % 18446744073709551616 - u) % 18446744073709551616 = (m + Q * 18446744073709551616 - n - u) % 18446744073709551616 := by omega
      have e2 : (m + Q * 18446744073709551616 - n - u) / 18446744073709551616 = m / 18446744073709551616 + Q - n / 18446744073709551616 - 1 := by omega
      have e3 : (if m / 18446744073709551616 < n / 18446744073709551616 + 1 then 1 else 0) = (if m < n + u then 1 else 0) := by
        by_cases h : m < n + u
        · rw [if_pos h, if_pos (by omega)]
        · rw [if_neg h, if_neg (by omega)]
      simp only [e1, e2, e3]
    · rw [if_neg hc, ih _ _ 0 h1 h2 (by decide)]
      generalize 18446744073709551616 ^ k = Q at hm hn hQ h1 h2 ⊢
      have e1 : (m % 18446744073709551616 + 18446744073709551616 - n % 18446744073709551616 - u) % 18446744073709551616 = (m + Q * 18446744073709551616 - n - u) % 18446744073709551616 := by omega
      have e2 : (m + Q * 18446744073709551616 - n - u) / 18446744073709551616 = m / 18446744073709551616 + Q - n / 18446744073709551616 - 0 := by omega
      have e3 : (if m / 18446744073709551616 < n / 18446744073709551616 + 0 then 1 else 0) = (if m < n + u then 1 else 0) := by
        by_cases h : m < n + u
        · rw [if_pos h, if_pos (by omega)]
        · rw [if_neg h, if_neg (by omega)]
      simp only [e1, e2, e3]
/-- A sum, word by word. -/
def addC : List Nat → List Nat → Nat → List Nat × Nat
  | x :: a, y :: b, o => let r := addC a b ((x + y + o) / 18446744073709551616); ((x + y + o) % 18446744073709551616 :: r.1, r.2)
  | _, _, o => ([], o)
theorem addC_words (k : Nat) : ∀ m n o, m < 18446744073709551616 ^ k → n < 18446744073709551616 ^ k → o ≤ 1 → addC (words m k) (words n k) o = (words (m + n + o) k, (m + n + o) / 18446744073709551616 ^ k) := by
  induction k with
  | zero =>
    intro m n o hm hn ho
    simp at hm hn
    subst hm hn
    simp [words, addC]
  | succ k ih =>
    intro m n o hm hn ho
    have h1 : m / 18446744073709551616 < 18446744073709551616 ^ k := by rw [Nat.pow_succ] at hm; generalize 18446744073709551616 ^ k = Q at hm ⊢; omega
    have h2 : n / 18446744073709551616 < 18446744073709551616 ^ k := by rw [Nat.pow_succ] at hn; generalize 18446744073709551616 ^ k = Q at hn ⊢; omega
    simp only [words, addC]
    rw [ih _ _ _ h1 h2 (by omega)]
    have e1 : (m % 18446744073709551616 + n % 18446744073709551616 + o) % 18446744073709551616 = (m + n + o) % 18446744073709551616 := by omega
    have e2 : m / 18446744073709551616 + n / 18446744073709551616 + (m % 18446744073709551616 + n % 18446744073709551616 + o) / 18446744073709551616 = (m + n + o) / 18446744073709551616 := by omega
    rw [e1, e2, Nat.div_div_eq_div_mul, Nat.pow_succ, Nat.mul_comm 18446744073709551616]
/-- A row of a product: x times b, upon what is there. -/
def rowC (x : Nat) : List Nat → List Nat → Nat → List Nat × Nat
  | y :: b, z :: out, c => let r := rowC x b out ((x * y + z + c) / 18446744073709551616); ((x * y + z + c) % 18446744073709551616 :: r.1, r.2)
  | _, _, c => ([], c)
theorem rowC_words (x : Nat) (k : Nat) : ∀ n z c, n < 18446744073709551616 ^ k → z < 18446744073709551616 ^ k → rowC x (words n k) (words z k) c = (words (x * n + z + c) k, (x * n + z + c) / 18446744073709551616 ^ k) := by
  induction k with
  | zero =>
    intro n z c hn hz
    simp at hn hz
    subst hn hz
    simp [words, rowC]
  | succ k ih =>
    intro n z c hn hz
    have h1 : n / 18446744073709551616 < 18446744073709551616 ^ k := by rw [Nat.pow_succ] at hn; generalize 18446744073709551616 ^ k = Q at hn ⊢; omega
    have h2 : z / 18446744073709551616 < 18446744073709551616 ^ k := by rw [Nat.pow_succ] at hz; generalize 18446744073709551616 ^ k = Q at hz ⊢; omega
    simp only [words, rowC]
    rw [ih _ _ _ h1 h2]
    have hx : x * n = 18446744073709551616 * (x * (n / 18446744073709551616)) + x * (n % 18446744073709551616) := by
      have := congrArg (x * ·) (Nat.div_add_mod n 18446744073709551616)
      simp only [Nat.mul_add] at this
      rw [← this]
      rw [Nat.mul_left_comm]
    rw [hx]
    generalize x * (n / 18446744073709551616) = p
    generalize x * (n % 18446744073709551616) = q
    have e1 : (q + z % 18446744073709551616 + c) % 18446744073709551616 = (18446744073709551616 * p + q + z + c) % 18446744073709551616 := by omega
    have e2 : p + z / 18446744073709551616 + (q + z % 18446744073709551616 + c) / 18446744073709551616 = (18446744073709551616 * p + q + z + c) / 18446744073709551616 := by omega
    rw [e1, e2, Nat.div_div_eq_div_mul, Nat.pow_succ, Nat.mul_comm (18446744073709551616 ^ k)]
/-- The field's modulus, and 2^256. -/
def P : Nat := 57896044618658097711785492504343953926634992332820282019728792003956564819949
def W4 : Nat := 115792089237316195423570985008687907853269984665640564039457584007913129639936
theorem W4_P (x : Nat) : W4 * x = 38 * x + P * (2 * x) := by unfold W4 P; omega
theorem mod_W4 (a x : Nat) : (a + W4 * x) % P = (a + 38 * x) % P := by rw [W4_P, ← Nat.add_assoc, Nat.add_mul_mod_self_left]
/-- What comes back for what is over. -/
theorem more_mod (a n : Nat) : ((if W4 ≤ a + n then a + n - W4 + 38 else a + n)) % P = (a + n) % P := by
  by_cases h : W4 ≤ a + n
  · rw [if_pos h]
    have := mod_W4 (a + n - W4) 1
    rw [Nat.mul_one, Nat.mul_one, Nat.sub_add_cancel h] at this
    exact this.symm
  · rw [if_neg h]
theorem fold_mod (w : Nat) : (w % W4 + 38 * (w / W4)) % P = w % P := by
  have := mod_W4 (w % W4) (w / W4)
  rw [Nat.mod_add_div] at this
  exact this.symm
end Fld
end Go.Proofs.YtmonkggoilhngaaGreatDoor
