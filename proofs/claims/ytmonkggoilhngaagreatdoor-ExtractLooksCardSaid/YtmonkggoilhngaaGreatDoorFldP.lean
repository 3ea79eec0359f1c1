/- Numbers in words of 64 bits (plain). -/
import Derived.Test.YtmonkggoilhngaaGreatDoorGRegion
namespace Go.Proofs.YtmonkggoilhngaaGreatDoor
namespace Fld
def words (n : Nat) : Nat → List Nat
  | 0 => []
  | k + 1 => n % 18446744073709551616 :: words (n / 18446744073709551616) k
theorem words_length (k : Nat) : ∀ n, (words n k).length = k := by
  induction k with
  | zero => intro n; rfl
  | succ k ih => intro n; simp [words, ih]
theorem words_lt (k : Nat) : ∀ n, ∀ x ∈ words n k, x < 18446744073709551616 := by
  induction k with
  | zero => intro n x hx; simp [words] at hx
  | succ k ih =>
    intro n x hx
    simp only [words, List.mem_cons] at hx
    rcases hx with rfl | hx
    · exact Nat.mod_lt _ (by decide)
    · exact ih _ x hx
def val : List Nat → Nat
  | [] => 0
  | x :: l => x + 18446744073709551616 * val l
theorem words_val : ∀ l : List Nat, (∀ x ∈ l, x < 18446744073709551616) → words (val l) l.length = l
  | [], _ => rfl
  | x :: l, h => by
    have hx := h x (List.mem_cons_self ..)
    have ih := words_val l (fun y hy => h y (List.mem_cons_of_mem _ hy))
    have h1 : (x + 18446744073709551616 * val l) % 18446744073709551616 = x := by omega
    have h2 : (x + 18446744073709551616 * val l) / 18446744073709551616 = val l := by omega
    simp only [List.length_cons, words, val, h1, h2, ih]
theorem val_lt : ∀ l : List Nat, (∀ x ∈ l, x < 18446744073709551616) → val l < 18446744073709551616 ^ l.length
  | [], _ => by simp [val]
  | x :: l, h => by
    have hx := h x (List.mem_cons_self ..)
    have ih := val_lt l (fun y hy => h y (List.mem_cons_of_mem _ hy))
    rw [List.length_cons, Nat.pow_succ]
    unfold val
    generalize 18446744073709551616 ^ l.length = Q at ih ⊢
    omega
theorem val_words (k : Nat) : ∀ n, n < 18446744073709551616 ^ k → val (words n k) = n := by
  induction k with
  | zero => intro n hn; simp at hn; subst hn; rfl
  | succ k ih =>
    intro n hn
    rw [Nat.pow_succ] at hn
    simp only [words, val]
    rw [ih (n / 18446744073709551616) (by
      generalize 18446744073709551616 ^ k = Q at hn ⊢
      omega)]
    omega
def subC : List Nat → List Nat → Nat → List Nat × Nat
  | x :: a, y :: b, u => let r := subC a b (if x < y + u then 1 else 0); ((x + 18446744073709551616 - y - u) % 18446744073709551616 :: r.1, r.2)
  | _, _, u => ([], u)
theorem subC_words (k : Nat) : ∀ m n u, m < 18446744073709551616 ^ k → n < 18446744073709551616 ^ k → u ≤ 1 → subC (words m k) (words n k) u = (words (m + 18446744073709551616 ^ k - n - u) k, if m < n + u then 1 else 0) := by
  induction k with
  | zero =>
    intro m n u hm hn hu
    simp at hm hn
    subst hm hn
    simp only [words, subC]
    have : u = 0 ∨ u = 1 := by omega
    rcases this with rfl | rfl <;> rfl
  | succ k ih =>
    intro m n u hm hn hu
    rw [Nat.pow_succ] at hm hn ⊢
    have hQ : 18446744073709551616 ^ k > 0 := Nat.pow_pos (by decide)
    have h1 : m / 18446744073709551616 < 18446744073709551616 ^ k := by generalize 18446744073709551616 ^ k = Q at hm hn ⊢; omega
    have h2 : n / 18446744073709551616 < 18446744073709551616 ^ k := by generalize 18446744073709551616 ^ k = Q at hm hn ⊢; omega
    simp only [words, subC]
    by_cases hc : m % 18446744073709551616 < n % 18446744073709551616 + u
    · rw [if_pos hc, ih _ _ 1 h1 h2 (by decide)]
      generalize 18446744073709551616 ^ k = Q at hm hn hQ h1 h2 ⊢
      have e1 : (m % 18446744073709551616 + 18446744073709551616 - n % 18446744073709551616 - u) % 18446744073709551616 = (m + Q * 18446744073709551616 - n - u) % 18446744073709551616 := by omega
      have e2 : (m + Q * 18446744073709551616 - n - u) / 18446744073709551616 = m / 18446744073709551616 + Q - n / 18446744073709551616 - 1 := by omega
      have e3 : (if m / 18446744073709551616 < n / 18446744073709551616 + 1 then 1 else 0) = (if m < n + u then 1 else 0) := by
        by_cases h : m < n + u
        · rw [if_pos h, if_pos (by omega)]
        · rw [if_neg h, if_neg (by omega)]
      simp only [e1, e2, e3]
    · rw [if_neg hc, ih _ _ 0 h1 h2 (by decide)]
      generalize 18446744073709551616 ^ k = Q at hm hn hQ h1 h2 ⊢
      have e1 : (m % 18446744073709551616 + 18446744073709551616 - n % 18446744073709551616 - u) % 18446744073709551616 = (m + Q * 18446744073709551616 - n - u) % 18446744073709551616 := by omega
      have e2 : (m + Q * 18446744073709551616 - n - u) / 18446744073709551616 = m / 18446744073709551616 + Q - n / 18446744073709551616 - 0 := by omega
      have e3 : (if m / 18446744073709551616 < n / 18446744073709551616 + 0 then 1 else 0) = (if m < n + u then 1 else 0) := by
        by_cases h : m < n + u
        · rw [if_pos h, if_pos (by omega)]
        · rw [if_neg h, if_neg (by omega)]
      simp only [e1, e2, e3]
def P : Nat := 57896044618658097711785492504343953926634992332820282019728792003956564819949
end Fld
end Go.Proofs.YtmonkggoilhngaaGreatDoor
