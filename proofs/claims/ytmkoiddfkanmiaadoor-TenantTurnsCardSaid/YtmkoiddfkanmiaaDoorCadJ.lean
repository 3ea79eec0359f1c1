/- The order of ids is a total order. -/
import Derived.Test.YtmkoiddfkanmiaaDoorCadI
namespace Go.Proofs.YtmkoiddfkanmiaaDoor
open Go.RowKit Bits Mem Sha
namespace Cad
theorem u8lt (a b : UInt8) : a < b ↔ a.toNat < b.toNat := UInt8.lt_iff_toNat_lt
theorem u8eq {a b : UInt8} (h1 : ¬ a < b) (h2 : ¬ b < a) : a = b := by
  rw [u8lt] at h1 h2
  exact UInt8.toNat_inj.1 (by omega)
theorem cmpB_self (a : List UInt8) : cmpB a a = 0 := by
  unfold cmpB
  induction a with
  | nil => rfl
  | cons x l ih =>
    have : ¬ x < x := by rw [u8lt]; omega
    simp only [Lib.compareBytes, this, if_false]
    exact ih
theorem cmpB_zero : ∀ (a b : List UInt8), cmpB a b = 0 → a = b
  | [], [], _ => rfl
  | [], _ :: _, h => by simp [cmpB, Lib.compareBytes] at h
  | _ :: _, [], h => by simp [cmpB, Lib.compareBytes] at h
  | x :: a, y :: b, h => by
    unfold cmpB Lib.compareBytes at h
    split at h
    · cases h
    · split at h
      · cases h
      · rename_i h1 h2
        rw [u8eq h1 h2, cmpB_zero a b h]
theorem cmpB_swap : ∀ (a b : List UInt8), cmpB b a = - cmpB a b
  | [], [] => rfl
  | [], _ :: _ => rfl
  | _ :: _, [] => rfl
  | x :: a, y :: b => by
    have ih := cmpB_swap a b
    unfold cmpB at ih ⊢
    unfold Lib.compareBytes
    by_cases h1 : x < y
    · have h2 : ¬ y < x := by rw [u8lt] at *; omega
      rw [if_neg h2, if_pos h1, if_pos h1]; rfl
    · by_cases h2 : y < x
      · rw [if_pos h2, if_neg h1, if_pos h2]
      · rw [if_neg h2, if_neg h1, if_neg h1, if_neg h2]; exact ih
theorem cmpB_trans : ∀ (a b c : List UInt8), cmpB a b < 0 → cmpB b c < 0 → cmpB a c < 0
  | [], [], _, h, _ => by simp [cmpB, Lib.compareBytes] at h
  | _, _ :: _, [], _, h => by simp [cmpB, Lib.compareBytes] at h
  | [], _ :: _, _ :: _, _, _ => by simp [cmpB, Lib.compareBytes]
  | _ :: _, [], _, h, _ => by simp [cmpB, Lib.compareBytes] at h
  | x :: a, y :: b, z :: c, h, g => by
    have ih := cmpB_trans a b c
    unfold cmpB at ih h g ⊢
    unfold Lib.compareBytes at h g ⊢
    by_cases h1 : x < y
    · have h2 : x < z ∨ ¬ (y < z) := by by_cases e : y < z <;> simp only [u8lt] at * <;> omega
      by_cases h3 : y < z
      · have : x < z := by rw [u8lt] at *; omega
        rw [if_pos this]; decide
      · rw [if_neg h3] at g
        by_cases h4 : z < y
        · rw [if_pos h4] at g; omega
        · have : x < z := by rw [u8lt] at *; omega
          rw [if_pos this]; decide
    · rw [if_neg h1] at h
      by_cases h2 : y < x
      · rw [if_pos h2] at h; omega
      · rw [if_neg h2] at h
        have e := u8eq h1 h2
        subst e
        by_cases h3 : x < z
        · rw [if_pos h3]; decide
        · rw [if_neg h3] at g ⊢
          by_cases h4 : z < x
          · rw [if_pos h4] at g; omega
          · rw [if_neg h4] at g ⊢
            exact ih h g
/-- Each id comes ahead of those behind it. -/
def Srt (L : List One) : Prop := ∀ (i j : Nat) (x y : One), i < j → L[i]? = some x → L[j]? = some y → cmpB x.id y.id < 0
theorem Srt.mono {L : List One} (h : Srt L) (id : List UInt8) : Mono L id := by
  intro i j x y hij hx hy hc
  rcases Nat.lt_or_eq_of_le hij with hlt | rfl
  · exact cmpB_trans _ _ _ (h i j x y hlt hx hy) hc
  · rw [hx] at hy
    cases hy
    exact hc
theorem Srt.insert {L : List One} {z : One} {n : Nat} (h : Srt L) (hs : Stands L z.id n) (hf : foundAt L z.id n = false) : Srt (L.take n ++ z :: L.drop n) := by
  have hn := hs.le
  have hlow : ∀ k x, k < n → L[k]? = some x → cmpB x.id z.id < 0 := hs.low
  have hhigh : ∀ k x, n ≤ k → L[k]? = some x → cmpB z.id x.id < 0 := by
    intro k x hk hx
    have h0 : ∀ y, L[n]? = some y → cmpB z.id y.id < 0 := fun y hy => by
      have h1 := hs.high n y (Nat.le_refl _) hy
      have h2 : ¬ cmpB y.id z.id = 0 := by
        intro e
        unfold foundAt at hf
        rw [hy] at hf
        simp [e] at hf
      rw [cmpB_swap y.id z.id]
      omega
    rcases Nat.lt_or_eq_of_le hk with hlt | rfl
    · have hkl := (List.getElem?_eq_some_iff.1 hx).1
      obtain ⟨y, hy⟩ : ∃ y, L[n]? = some y := ⟨_, List.getElem?_eq_getElem (by omega)⟩
      exact cmpB_trans _ _ _ (h0 y hy) (h n k y x hlt hy hx)
    · exact h0 x hx
  have hat : ∀ k, (L.take n ++ z :: L.drop n)[k]? = if k < n then L[k]? else if k = n then some z else L[k - 1]? := by
    intro k
    by_cases h1 : k < n
    · rw [if_pos h1, List.getElem?_append_left (by simp; omega), List.getElem?_take, if_pos h1]
    · rw [if_neg h1, List.getElem?_append_right (by simp; omega), List.length_take, Nat.min_eq_left hn]
      by_cases h2 : k = n
      · subst h2; simp
      · obtain ⟨m, hm⟩ : ∃ m, k - n = m + 1 := ⟨k - n - 1, by omega⟩
        rw [if_neg h2, hm, List.getElem?_cons_succ, List.getElem?_drop]
        congr 1
        omega
  intro i j x y hij hx hy
  rw [hat] at hx hy
  by_cases i1 : i < n
  · rw [if_pos i1] at hx
    by_cases j1 : j < n
    · rw [if_pos j1] at hy; exact h i j x y hij hx hy
    · rw [if_neg j1] at hy
      by_cases j2 : j = n
      · rw [if_pos j2] at hy; cases hy; exact hlow i x i1 hx
      · rw [if_neg j2] at hy; exact h i (j - 1) x y (by omega) hx hy
  · rw [if_neg i1] at hx
    rw [if_neg (show ¬ j < n by omega), if_neg (show ¬ j = n by omega)] at hy
    by_cases i2 : i = n
    · rw [if_pos i2] at hx; cases hx; exact hhigh (j - 1) y (by omega) hy
    · rw [if_neg i2] at hx; exact h (i - 1) (j - 1) x y (by omega) hx hy
theorem Srt.erase {L : List One} {n : Nat} (h : Srt L) : Srt (L.take n ++ L.drop (n + 1)) := by
  by_cases hn : n ≤ L.length
  · have hat : ∀ k, (L.take n ++ L.drop (n + 1))[k]? = if k < n then L[k]? else L[k + 1]? := by
      intro k
      by_cases h1 : k < n
      · rw [if_pos h1, List.getElem?_append_left (by simp; omega), List.getElem?_take, if_pos h1]
      · rw [if_neg h1, List.getElem?_append_right (by simp; omega), List.length_take, Nat.min_eq_left hn, List.getElem?_drop]
        congr 1
        omega
    intro i j x y hij hx hy
    rw [hat] at hx hy
    by_cases i1 : i < n
    · rw [if_pos i1] at hx
      by_cases j1 : j < n
      · rw [if_pos j1] at hy; exact h i j x y hij hx hy
      · rw [if_neg j1] at hy; exact h i (j + 1) x y (by omega) hx hy
    · rw [if_neg i1] at hx
      rw [if_neg (show ¬ j < n by omega)] at hy
      exact h (i + 1) (j + 1) x y (by omega) hx hy
  · rw [List.take_of_length_le (by omega), List.drop_eq_nil_of_le (by omega), List.append_nil]
    exact h
theorem Srt.ticked {L : List One} (h : Srt L) : Srt (L.map tick1) := by
  intro i j x y hij hx hy
  rw [List.getElem?_map] at hx hy
  obtain ⟨a, ha, rfl⟩ := Option.map_eq_some_iff.1 hx
  obtain ⟨b, hb, rfl⟩ := Option.map_eq_some_iff.1 hy
  exact h i j a b hij ha hb
end Cad
end Go.Proofs.YtmkoiddfkanmiaaDoor
