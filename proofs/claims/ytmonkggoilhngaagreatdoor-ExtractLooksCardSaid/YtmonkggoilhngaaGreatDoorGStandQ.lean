/- Two ways up one tree that end in one sum: alike, or two unlike texts of one sum (plain). -/
import Derived.Test.YtmonkggoilhngaaGreatDoorGShaD
import Derived.Test.YtmonkggoilhngaaGreatDoorGFindA
import Derived.Test.YtmonkggoilhngaaGreatDoorGShaA
namespace Go.Proofs.YtmonkggoilhngaaGreatDoor
open Go.RowKit Bits Mem Sha
namespace Up
def nodeT (d : Nat) (right : Bool) (s b : List UInt8) : List UInt8 := 1 :: UInt8.ofNat (d / 256) :: UInt8.ofNat d :: (if right then b ++ s else s ++ b)
def climb (bit : Nat → Bool) (S : Nat → List UInt8) : Nat → List UInt8 → List (List UInt8)
  | 0, T => [T]
  | d + 1, T => T :: climb bit S d (nodeT d (bit d) (sha T) (S d))
def top (bit : Nat → Bool) (S : Nat → List UInt8) : Nat → List UInt8 → List UInt8
  | 0, T => T
  | d + 1, T => top bit S d (nodeT d (bit d) (sha T) (S d))
theorem mem_climb (bit : Nat → Bool) (S : Nat → List UInt8) : ∀ d T, T ∈ climb bit S d T
  | 0, _ => List.mem_singleton.2 rfl
  | _ + 1, _ => List.mem_cons_self ..
theorem climb_sub (bit : Nat → Bool) (S : Nat → List UInt8) (d : Nat) (T x : List UInt8) (h : x ∈ climb bit S d (nodeT d (bit d) (sha T) (S d))) : x ∈ climb bit S (d + 1) T := List.mem_cons_of_mem _ h
def Pair (A B : List (List UInt8)) : Prop := ∃ x ∈ A, ∃ y ∈ B, x ≠ y ∧ sha x = sha y
theorem append_inj32 {a b c d : List UInt8} (h : a ++ b = c ++ d) (hl : a.length = c.length) : a = c ∧ b = d := List.append_inj h hl
theorem node_inj {d : Nat} {r : Bool} {s s' b b' : List UInt8} (h : nodeT d r s b = nodeT d r s' b') (hs : s.length = 32) (hs' : s'.length = 32) (hb : b.length = 32) (hb' : b'.length = 32) : s = s' := by
  unfold nodeT at h
  injection h with _ h
  injection h with _ h
  injection h with _ h
  cases r
  · simp only [Bool.false_eq_true, if_false] at h
    exact (append_inj32 h (hs.trans hs'.symm)).1
  · simp only [if_true] at h
    exact (append_inj32 h (hb.trans hb'.symm)).2
theorem down (bit : Nat → Bool) (S S' : Nat → List UInt8) (hS : ∀ d, (S d).length = 32) (hS' : ∀ d, (S' d).length = 32) :
    ∀ d T T', sha (top bit S d T) = sha (top bit S' d T') → Pair (climb bit S d T) (climb bit S' d T') ∨ sha T = sha T'
  | 0, _, _, h => .inr h
  | d + 1, T, T', h => by
    rcases down bit S S' hS hS' d (nodeT d (bit d) (sha T) (S d)) (nodeT d (bit d) (sha T') (S' d)) h with ⟨x, hx, y, hy, hne, he⟩ | he
    · exact .inl ⟨x, climb_sub bit S d T x hx, y, climb_sub bit S' d T' y hy, hne, he⟩
    · by_cases hn : nodeT d (bit d) (sha T) (S d) = nodeT d (bit d) (sha T') (S' d)
      · exact .inr (node_inj hn (sha_length _) (sha_length _) (hS d) (hS' d))
      · exact .inl ⟨_, climb_sub bit S d T _ (mem_climb bit S d _), _, climb_sub bit S' d T' _ (mem_climb bit S' d _), hn, he⟩
def textAt (bit : Nat → Bool) (S : Nat → List UInt8) (e : Nat) : Nat → List UInt8 → List UInt8
  | 0, T => T
  | d + 1, T => if d + 1 ≤ e then T else textAt bit S e d (nodeT d (bit d) (sha T) (S d))
theorem top_at (bit : Nat → Bool) (S : Nat → List UInt8) (e : Nat) : ∀ d T, e ≤ d → top bit S d T = top bit S e (textAt bit S e d T)
  | 0, T, h => by
    have : e = 0 := by omega
    subst this
    rfl
  | d + 1, T, h => by
    unfold textAt
    by_cases hd : d + 1 ≤ e
    · have : e = d + 1 := by omega
      subst this
      rw [if_pos (Nat.le_refl _)]
    · rw [if_neg hd]
      show top bit S d _ = _
      exact top_at bit S e d _ (by omega)
theorem at_climb (bit : Nat → Bool) (S : Nat → List UInt8) (e : Nat) : ∀ d T, e ≤ d → ∀ x ∈ climb bit S e (textAt bit S e d T), x ∈ climb bit S d T
  | 0, T, h => by
    have : e = 0 := by omega
    subst this
    exact fun x hx => hx
  | d + 1, T, h => by
    unfold textAt
    by_cases hd : d + 1 ≤ e
    · have : e = d + 1 := by omega
      subst this
      rw [if_pos (Nat.le_refl _)]
      exact fun x hx => hx
    · rw [if_neg hd]
      exact fun x hx => climb_sub bit S d T x (at_climb bit S e d _ (by omega) x hx)
theorem at_node (bit : Nat → Bool) (S : Nat → List UInt8) (e : Nat) : ∀ d T, e < d → ∃ r, textAt bit S e d T = 1 :: r
  | d + 1, T, h => by
    unfold textAt
    rw [if_neg (by omega)]
    by_cases hd : e < d
    · exact at_node bit S e d _ hd
    · have : e = d := by omega
      subst this
      cases e with
      | zero => exact ⟨_, rfl⟩
      | succ e =>
        unfold textAt
        rw [if_pos (Nat.le_refl _)]
        exact ⟨_, rfl⟩
theorem law (bit : Nat → Bool) (S S' : Nat → List UInt8) (hS : ∀ d, (S d).length = 32) (hS' : ∀ d, (S' d).length = 32) (d d' : Nat) (l l' : List UInt8) (hne : l ≠ l') (h : sha (top bit S d (0 :: l)) = sha (top bit S' d' (0 :: l'))) :
    Pair (climb bit S d (0 :: l)) (climb bit S' d' (0 :: l')) := by
  have key : ∀ (e : Nat) (T T' : List UInt8), T ≠ T' → sha (top bit S e T) = sha (top bit S' e T') → Pair (climb bit S e T) (climb bit S' e T') := by
    intro e T T' hT hs
    rcases down bit S S' hS hS' e T T' hs with hp | he
    · exact hp
    · exact ⟨T, mem_climb bit S e T, T', mem_climb bit S' e T', hT, he⟩
  rcases Nat.lt_trichotomy d d' with hd | hd | hd
  · rw [top_at bit S' d d' _ (by omega)] at h
    obtain ⟨r, hr⟩ := at_node bit S' d d' (0 :: l') hd
    obtain ⟨x, hx, y, hy, hxy, he⟩ := key d _ _ (by rw [hr]; intro e; injection e with e; exact absurd e (by decide)) h
    exact ⟨x, hx, y, at_climb bit S' d d' _ (by omega) y hy, hxy, he⟩
  · subst hd
    exact key d _ _ (by intro e; injection e with _ e; exact hne e) h
  · rw [top_at bit S d' d _ (by omega)] at h
    obtain ⟨r, hr⟩ := at_node bit S d' d (0 :: l) hd
    obtain ⟨x, hx, y, hy, hxy, he⟩ := key d' _ _ (by rw [hr]; intro e; injection e with e; exact absurd e (by decide)) h
    exact ⟨x, at_climb bit S d' d _ (by omega) x hx, y, hy, hxy, he⟩
end Up
end Go.Proofs.YtmonkggoilhngaaGreatDoor
/- Find tells a pair where there is one (plain). -/
namespace Go.Proofs.YtmonkggoilhngaaGreatDoor
open Go.RowKit Bits Mem Sha
namespace Fnd
theorem pick_good {V : List (List UInt8)} {t : List UInt8} {k : Nat} (h : pick V t = some k) : k < V.length ∧ V.getD k [] ≠ t ∧ sha (V.getD k []) = sha t := by
  rw [pick_eq, List.find?_eq_some_iff_getElem] at h
  obtain ⟨h1, i, hi, rfl, _⟩ := h
  rw [List.getElem_range] at h1 ⊢
  rw [Bool.and_eq_true] at h1
  refine ⟨by rwa [List.length_range] at hi, fun e => ?_, beq_iff_eq.1 h1.1⟩
  rw [e] at h1
  exact absurd h1.2 (by simp)
theorem pick_found {V : List (List UInt8)} {t y : List UInt8} (hy : y ∈ V) (hne : t ≠ y) (hs : sha t = sha y) : ∃ k, pick V t = some k := by
  cases h : pick V t with
  | some k => exact ⟨k, rfl⟩
  | none =>
    rw [pick_eq, List.find?_eq_none] at h
    obtain ⟨j, hj, rfl⟩ := List.mem_iff_getElem.1 hy
    have := h j (List.mem_range.2 hj)
    have e : V.getD j [] = V[j] := by rw [List.getD_eq_getElem?_getD, List.getElem?_eq_getElem hj]; rfl
    rw [e] at this
    exact absurd (by rw [Bool.and_eq_true]; exact ⟨beq_iff_eq.2 hs.symm, by rw [bne_iff_ne]; exact fun e => hne e.symm⟩) this
theorem findP_pair {V : List (List UInt8)} : ∀ {U : List (List UInt8)}, Up.Pair U V → ∃ x y, findP V U = (x, y, true) ∧ x ≠ y ∧ sha x = sha y
  | [], ⟨x, hx, _⟩ => by simp at hx
  | t :: U, ⟨x, hx, y, hy, hne, hs⟩ => by
    cases h : pick V t with
    | some k =>
      obtain ⟨_, h2, h3⟩ := pick_good h
      refine ⟨t, V.getD k [], ?_, fun e => h2 e.symm, h3.symm⟩
      show (match pick V t with | some k => (t, V.getD k [], true) | none => findP V U) = _
      rw [h]
    | none =>
      have hf : findP V (t :: U) = findP V U := by
        show (match pick V t with | some k => (t, V.getD k [], true) | none => findP V U) = _
        rw [h]
      rw [hf]
      rcases List.mem_cons.1 hx with rfl | hx
      · obtain ⟨k, hk⟩ := pick_found hy hne hs
        rw [hk] at h
        cases h
      · exact findP_pair ⟨x, hx, y, hy, hne, hs⟩
end Fnd
end Go.Proofs.YtmonkggoilhngaaGreatDoor
/- A number's eight bytes (plain). -/
namespace Go.Proofs.YtmonkggoilhngaaGreatDoor
open Sha
namespace Num8
def u64 (n : Int) : Nat := (n % 18446744073709551616).toNat
def eight (n : Int) : List UInt8 := be (u64 n) 8
theorem eight_length (n : Int) : (eight n).length = 8 := be_length _ _
theorem ofNat_mod {a b : Nat} (h : UInt8.ofNat a = UInt8.ofNat b) : a % 256 = b % 256 := by
  have := congrArg UInt8.toNat h
  rw [UInt8.toNat_ofNat', UInt8.toNat_ofNat'] at this
  exact this
theorem be_inj {u v : Nat} (hu : u < 18446744073709551616) (hv : v < 18446744073709551616) (h : be u 8 = be v 8) : u = v := by
  have each : ∀ i, i < 8 → u / 2 ^ (8 * (7 - i)) % 256 = v / 2 ^ (8 * (7 - i)) % 256 := fun i hi => by
    have h1 : (be u 8)[i]? = (be v 8)[i]? := by rw [h]
    simp only [be, List.getElem?_map, List.getElem?_range hi, Option.map_some, Option.some.injEq] at h1
    exact ofNat_mod h1
  have h0 := each 0 (by omega)
  have h1 := each 1 (by omega)
  have h2 := each 2 (by omega)
  have h3 := each 3 (by omega)
  have h4 := each 4 (by omega)
  have h5 := each 5 (by omega)
  have h6 := each 6 (by omega)
  have h7 := each 7 (by omega)
  clear each h
  simp only [Nat.reducePow, Nat.reduceMul, Nat.reduceSub, Nat.sub_zero, Nat.sub_self, Nat.mul_zero, Nat.pow_zero, Nat.div_one] at h0 h1 h2 h3 h4 h5 h6 h7
  have e1 : u / 72057594037927936 = v / 72057594037927936 := by omega
  have e2 : u / 281474976710656 = v / 281474976710656 := by omega
  have e3 : u / 1099511627776 = v / 1099511627776 := by omega
  have e4 : u / 4294967296 = v / 4294967296 := by omega
  have e5 : u / 16777216 = v / 16777216 := by omega
  have e6 : u / 65536 = v / 65536 := by omega
  have e7 : u / 256 = v / 256 := by omega
  omega
theorem u64_lt (n : Int) : u64 n < 18446744073709551616 := by unfold u64; omega
theorem eight_inj {n m : Int} (hn0 : -9223372036854775808 ≤ n) (hn1 : n ≤ 9223372036854775807) (hm0 : -9223372036854775808 ≤ m) (hm1 : m ≤ 9223372036854775807) (h : eight n = eight m) : n = m := by
  have := be_inj (u64_lt n) (u64_lt m) h
  unfold u64 at this
  omega
end Num8
end Go.Proofs.YtmonkggoilhngaaGreatDoor
/- Two standings under one root that are unlike have two unlike texts of one sum (plain). -/
namespace Go.Proofs.YtmonkggoilhngaaGreatDoor
open Go.RowKit Bits Mem Sha
namespace Stn
def endT (there : Bool) (k v : List UInt8) : List UInt8 := if there then 0 :: (k ++ v) else [2]
def valT (gone : Bool) (n : Int) (l : List UInt8) : List UInt8 := if gone then [7] else 6 :: (Num8.eight n ++ l)
def sumAt (S : List (List UInt8)) (d : Nat) : List UInt8 := S.getD d (List.replicate 32 0)
theorem sumAt_length {S : List (List UInt8)} (h : ∀ s ∈ S, s.length = 32) (d : Nat) : (sumAt S d).length = 32 := by
  unfold sumAt
  rw [List.getD_eq_getElem?_getD]
  cases hd : S[d]? with
  | none => rfl
  | some s => exact h s (List.mem_of_getElem? hd)
def wayT (bit : Nat → Bool) (S : List (List UInt8)) (E : List UInt8) : List (List UInt8) := Up.climb bit (sumAt S) S.length E
def topT (bit : Nat → Bool) (S : List (List UInt8)) (E : List UInt8) : List UInt8 := Up.top bit (sumAt S) S.length E
def standT (gone : Bool) (n : Int) (l : List UInt8) (bit : Nat → Bool) (S : List (List UInt8)) (E : List UInt8) : List (List UInt8) := valT gone n l :: wayT bit S E
theorem pair_tail {x y : List UInt8} {A B : List (List UInt8)} (h : Up.Pair A B) : Up.Pair (x :: A) (y :: B) := by
  obtain ⟨a, ha, b, hb, h1, h2⟩ := h
  exact ⟨a, List.mem_cons_of_mem _ ha, b, List.mem_cons_of_mem _ hb, h1, h2⟩
theorem valT_inj {g g' : Bool} {n n' : Int} {l l' : List UInt8} (hn0 : -9223372036854775808 ≤ n) (hn1 : n ≤ 9223372036854775807) (hm0 : -9223372036854775808 ≤ n') (hm1 : n' ≤ 9223372036854775807)
    (h : valT g n l = valT g' n' l') : g = g' ∧ (g = true ∨ (n = n' ∧ l = l')) := by
  unfold valT at h
  cases g <;> cases g'
  · simp only [Bool.false_eq_true, if_false] at h
    injection h with _ h
    have := List.append_inj h (by rw [Num8.eight_length, Num8.eight_length])
    exact ⟨rfl, .inr ⟨Num8.eight_inj hn0 hn1 hm0 hm1 this.1, this.2⟩⟩
  · simp only [Bool.false_eq_true, if_false, if_true] at h
    injection h with h _
    exact absurd h (by decide)
  · simp only [Bool.false_eq_true, if_false, if_true] at h
    injection h with h _
    exact absurd h (by decide)
  · exact ⟨rfl, .inl rfl⟩
theorem stands_pair (bit : Nat → Bool) (k : List UInt8) {g g' : Bool} {n n' : Int} {l l' : List UInt8} {S S' : List (List UInt8)} (hS : ∀ s ∈ S, s.length = 32) (hS' : ∀ s ∈ S', s.length = 32)
    (hn0 : -9223372036854775808 ≤ n) (hn1 : n ≤ 9223372036854775807) (hm0 : -9223372036854775808 ≤ n') (hm1 : n' ≤ 9223372036854775807)
    (h : sha (topT bit S (endT true k (sha (valT g n l)))) = sha (topT bit S' (endT true k (sha (valT g' n' l')))))
    (hne : ¬ (g = g' ∧ (g = true ∨ (n = n' ∧ l = l')))) :
    Up.Pair (standT g n l bit S (endT true k (sha (valT g n l)))) (standT g' n' l' bit S' (endT true k (sha (valT g' n' l')))) := by
  by_cases hv : sha (valT g n l) = sha (valT g' n' l')
  · exact ⟨_, List.mem_cons_self .., _, List.mem_cons_self .., fun e => hne (valT_inj hn0 hn1 hm0 hm1 e), hv⟩
  · refine pair_tail ?_
    exact Up.law bit (sumAt S) (sumAt S') (sumAt_length hS) (sumAt_length hS') S.length S'.length _ _ (fun e => hv (List.append_cancel_left e)) h
theorem standT_length (g : Bool) (n : Int) (l : List UInt8) (bit : Nat → Bool) (S : List (List UInt8)) (E : List UInt8) : (standT g n l bit S E).length = S.length + 2 := by
  have : ∀ d T, (Up.climb bit (sumAt S) d T).length = d + 1 := by
    intro d
    induction d with
    | zero => intro T; rfl
    | succ d ih => intro T; show (_ :: _ : List (List UInt8)).length = _; rw [List.length_cons, ih]
  unfold standT wayT
  rw [List.length_cons, this]
end Stn
end Go.Proofs.YtmonkggoilhngaaGreatDoor
