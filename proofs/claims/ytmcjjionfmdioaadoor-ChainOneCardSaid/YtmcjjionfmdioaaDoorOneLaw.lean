/- Two pasts that end in one link, and aren't alike, have two unlike texts of one sum: plain. -/
import Derived.Test.YtmcjjionfmdioaaDoorTexts18
namespace Go.Proofs.YtmcjjionfmdioaaDoor
open Go.RowKit Bits Mem Sha
namespace Ref
theorem ofNat_mod {a b : Nat} (h : UInt8.ofNat a = UInt8.ofNat b) : a % 256 = b % 256 := by
  have := congrArg UInt8.toNat h
  rw [UInt8.toNat_ofNat', UInt8.toNat_ofNat'] at this
  exact this
theorem be_inj {u v : Nat} (hu : u < 18446744073709551616) (hv : v < 18446744073709551616) (h : be u 8 = be v 8) : u = v := by
  have each : ∀ i, i < 8 → u / 2 ^ (8 * (7 - i)) % 256 = v / 2 ^ (8 * (7 - i)) % 256 := fun i hi => by
    have h1 : (be u 8)[i]? = (be v 8)[i]? := by rw [h]
    simp only [be, List.getElem?_map, List.getElem?_range hi, Option.map_some, Option.some.injEq] at h1
    exact ofNat_mod h1
  have h0 := each 0 (by omega)
  have h1 := each 1 (by omega)
  have h2 := each 2 (by omega)
  have h3 := each 3 (by omega)
  have h4 := each 4 (by omega)
  have h5 := each 5 (by omega)
  have h6 := each 6 (by omega)
  have h7 := each 7 (by omega)
  clear each h
  simp only [Nat.reducePow, Nat.reduceMul, Nat.reduceSub, Nat.sub_zero, Nat.sub_self, Nat.mul_zero, Nat.pow_zero, Nat.div_one] at h0 h1 h2 h3 h4 h5 h6 h7
  have e1 : u / 72057594037927936 = v / 72057594037927936 := by omega
  have e2 : u / 281474976710656 = v / 281474976710656 := by omega
  have e3 : u / 1099511627776 = v / 1099511627776 := by omega
  have e4 : u / 4294967296 = v / 4294967296 := by omega
  have e5 : u / 16777216 = v / 16777216 := by omega
  have e6 : u / 65536 = v / 65536 := by omega
  have e7 : u / 256 = v / 256 := by omega
  omega
theorem u64_lt (n : Int) : u64 n < 18446744073709551616 := by unfold u64; omega
theorem eight_inj {n m : Int} (hn0 : -9223372036854775808 ≤ n) (hn1 : n ≤ 9223372036854775807) (hm0 : -9223372036854775808 ≤ m) (hm1 : m ≤ 9223372036854775807) (h : eight n = eight m) : n = m := by
  have := be_inj (u64_lt n) (u64_lt m) h
  unfold u64 at this
  omega
theorem linkText_inj {id : List UInt8} {n m : Int} {r a s b : List UInt8} (hn0 : -9223372036854775808 ≤ n) (hn1 : n ≤ 9223372036854775807) (hm0 : -9223372036854775808 ≤ m) (hm1 : m ≤ 9223372036854775807)
    (hr : r.length = 32) (hs : s.length = 32) (h : linkText id n r a = linkText id m s b) : n = m ∧ r = s ∧ a = b := by
  unfold linkText at h
  injection h with _ h
  rw [List.append_assoc, List.append_assoc, List.append_assoc, List.append_assoc, List.append_assoc, List.append_assoc] at h
  have h := List.append_cancel_left h
  have h := List.append_cancel_left h
  obtain ⟨h1, h2⟩ := List.append_inj h (by rw [eight_length, eight_length])
  obtain ⟨h3, h4⟩ := List.append_inj h2 (by rw [hr, hs])
  exact ⟨eight_inj hn0 hn1 hm0 hm1 h1, h3, h4⟩
theorem ep_range (f : Int) (k : Nat) : -9223372036854775808 ≤ ep f k ∧ ep f k ≤ 9223372036854775807 := by
  unfold ep wrap64
  omega
theorem ep_zero {f : Int} (h0 : -9223372036854775808 ≤ f) (h1 : f ≤ 9223372036854775807) : ep f 0 = f := by
  unfold ep wrap64
  simp only [IntKind.wrap_u64]
  omega
theorem prv_lks (id : List UInt8) (f : Int) (a : List UInt8) (R : List (List UInt8)) (n : Nat) : ∀ {k : Nat}, k ≤ n → prv a (lks id f a R n) k = lk id f a R k
  | 0, _ => rfl
  | k + 1, h => lks_getD _ _ (by omega)
theorem one_law {id : List UInt8} {f g : Int} {a b : List UInt8} {R S : List (List UInt8)} {n : Nat} (hR : R.length = n) (hS : S.length = n) (hn : 0 < n) (hR32 : All32 R) (hS32 : All32 S)
    (hf0 : -9223372036854775808 ≤ f) (hf1 : f ≤ 9223372036854775807) (hg0 : -9223372036854775808 ≤ g) (hg1 : g ≤ 9223372036854775807)
    (he : lk id f a R n = lk id g b S n) (hne : ¬ (f = g ∧ a = b ∧ R = S)) : clash (tx id f a R (lks id f a R n) n) (tx id g b S (lks id g b S n) n) = true := by
  cases hc : clash (tx id f a R (lks id f a R n) n) (tx id g b S (lks id g b S n) n) with
  | true => rfl
  | false =>
    exfalso
    apply hne
    have no : ∀ x ∈ tx id f a R (lks id f a R n) n, ∀ y ∈ tx id g b S (lks id g b S n) n, sha x = sha y → x = y := fun x hx y hy hs => by
      by_cases hxy : x = y
      · exact hxy
      · have := clash_iff.2 ⟨x, hx, y, hy, hxy, hs⟩
        rw [hc] at this; cases this
    have memx : ∀ (f : Int) (a : List UInt8) (R : List (List UInt8)) j, j < n → linkText id (ep f j) (R.getD j []) (lk id f a R j) ∈ tx id f a R (lks id f a R n) n := fun f a R j hj => by
      unfold tx
      refine List.mem_map.2 ⟨j, List.mem_range.2 hj, ?_⟩
      rw [prv_lks id f a R n (by omega)]
    have down : ∀ d j, j + d = n → lk id f a R j = lk id g b S j ∧ ∀ i, j ≤ i → i < n → ep f i = ep g i ∧ R.getD i [] = S.getD i [] := by
      intro d
      induction d with
      | zero =>
        intro j hj
        obtain rfl : j = n := by omega
        exact ⟨he, fun i h1 h2 => by omega⟩
      | succ d ih =>
        intro j hj
        obtain ⟨h1, h2⟩ := ih (j + 1) (by omega)
        have ht := no _ (memx f a R j (by omega)) _ (memx g b S j (by omega)) h1
        obtain ⟨e1, e2, e3⟩ := linkText_inj (ep_range f j).1 (ep_range f j).2 (ep_range g j).1 (ep_range g j).2 (hR32.getD (by omega)) (hS32.getD (by omega)) ht
        refine ⟨e3, fun i h3 h4 => ?_⟩
        by_cases hij : i = j
        · rw [hij]; exact ⟨e1, e2⟩
        · exact h2 i (by omega) h4
    obtain ⟨h1, h2⟩ := down n 0 (by omega)
    have h0 := (h2 0 (Nat.le_refl _) hn).1
    rw [ep_zero hf0 hf1, ep_zero hg0 hg1] at h0
    exact ⟨h0, h1, getD_ext (by omega) (fun i hi => (h2 i (Nat.zero_le _) (by omega)).2)⟩
end Ref
end Go.Proofs.YtmcjjionfmdioaaDoor
