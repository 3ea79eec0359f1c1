/- A part of the proof. Plain; no condition. -/
import Derived.Test.YtjkbpdobeljmjaaGreatDoorP0
/- The plain law of the log: tree sums, peaks, paths and climbers. No program in sight. -/
namespace Go.Proofs.YtjkbpdobeljmjaaGreatDoor
namespace Rfc
def hf (n : Nat) : Nat := 2 ^ Nat.log2 (n - 1)
theorem hf_pos (n : Nat) : 0 < hf n := Nat.two_pow_pos _
theorem hf_lt (n : Nat) (h : 2 ≤ n) : hf n < n := by
  have := Nat.log2_self_le (show n - 1 ≠ 0 by omega)
  unfold hf
  omega
theorem hf_ge (n : Nat) : n ≤ 2 * hf n := by
  have := @Nat.lt_log2_self (n - 1)
  unfold hf
  rw [Nat.pow_succ] at this
  omega
theorem two_pow_step (a b : Nat) (h : 2 ^ a < 2 ^ b) : 2 * 2 ^ a ≤ 2 ^ b := by
  have hab : a < b := (Nat.pow_lt_pow_iff_right (by decide)).1 h
  have := Nat.pow_le_pow_right (show 0 < 2 by decide) (show a + 1 ≤ b from hab)
  rw [Nat.pow_succ] at this
  omega
theorem hf_unique (n j : Nat) (h : 2 ≤ n) (h1 : 2 ^ j < n) (h2 : n ≤ 2 * 2 ^ j) : hf n = 2 ^ j := by
  have h3 := hf_lt n h
  have h4 := hf_ge n
  rcases Nat.lt_trichotomy (hf n) (2 ^ j) with h5 | h5 | h5
  · have := two_pow_step _ _ h5
    unfold hf at h4
    omega
  · exact h5
  · have := two_pow_step _ _ h5
    unfold hf at h3
    omega
theorem hf_step (n : Nat) (h : 3 ≤ n) : hf n = 2 * hf ((n + 1) / 2) := by
  have h1 := hf_lt ((n + 1) / 2) (by omega)
  have h2 := hf_ge ((n + 1) / 2)
  have e : 2 * hf ((n + 1) / 2) = 2 ^ (Nat.log2 ((n + 1) / 2 - 1) + 1) := by unfold hf; rw [Nat.pow_succ, Nat.mul_comm]
  rw [e]
  refine hf_unique n _ (by omega) ?_ ?_
  · rw [← e]; omega
  · rw [← e]; omega
theorem hf_two : hf 2 = 1 := rfl
theorem snoc {α : Type} (p : List α) : p = [] ∨ ∃ q x, p = q ++ [x] := by
  rcases List.eq_nil_or_concat p with h | ⟨q, x, h⟩
  · exact .inl h
  · exact .inr ⟨q, x, by rw [h]; simp⟩
section
variable {α : Type} (nd : α → α → α) (e0 : α)
def mth (l : List α) : α :=
  if _h : 2 ≤ l.length then nd (mth (l.take (hf l.length))) (mth (l.drop (hf l.length))) else l.headD e0
termination_by l.length
decreasing_by
  · have := hf_lt _ _h; simp; omega
  · have := hf_pos l.length; simp; omega
theorem mth_nil : mth nd e0 [] = e0 := by rw [mth]; rfl
theorem mth_one (x : α) : mth nd e0 [x] = x := by rw [mth]; rfl
theorem mth_split (a b : List α) (j : Nat) (ha : a.length = 2 ^ j) (h1 : 1 ≤ b.length) (h2 : b.length ≤ 2 ^ j) : mth nd e0 (a ++ b) = nd (mth nd e0 a) (mth nd e0 b) := by
  have hp := Nat.two_pow_pos j
  have hl : (a ++ b).length = 2 ^ j + b.length := by rw [List.length_append, ha]
  have hh : hf (a ++ b).length = 2 ^ j := hf_unique _ j (by omega) (by omega) (by omega)
  rw [mth, dif_pos (by omega), hh, ← ha, List.take_left, List.drop_left]
theorem mth_big (l : List α) (h : 2 ≤ l.length) : mth nd e0 l = nd (mth nd e0 (l.take (hf l.length))) (mth nd e0 (l.drop (hf l.length))) := by
  rw [mth, dif_pos h]
def merge (s : α) (z : Nat) : List (α × Nat) → List (α × Nat)
  | [] => [(s, z)]
  | x :: xs => if x.2 = z then merge (nd x.1 s) (2 * z) xs else (s, z) :: x :: xs
def peaks (l : List α) : List (α × Nat) := l.foldl (fun ps s => merge nd s 1 ps) []
theorem peaks_succ (l : List α) (i : Nat) (x : α) (h : l[i]? = some x) : peaks nd (l.take (i + 1)) = merge nd x 1 (peaks nd (l.take i)) := by
  unfold peaks
  rw [List.take_add_one, h, List.foldl_append]
  rfl
def tops (o : α) (ps : List (α × Nat)) : α := ps.foldl (fun o x => nd x.1 o) o
def top : List (α × Nat) → α
  | [] => e0
  | x :: xs => tops nd x.1 xs
inductive Good : List (α × Nat) → List α → Prop
  | nil : Good [] []
  | cons (b l : List α) (ps : List (α × Nat)) (j : Nat) : Good ps l → b.length = 2 ^ j → (∀ x, ps.head? = some x → 2 ^ j < x.2) → Good ((mth nd e0 b, 2 ^ j) :: ps) (l ++ b)
theorem good_merge (ps : List (α × Nat)) (l : List α) (h : Good nd e0 ps l) : ∀ (b : List α) (j : Nat), b.length = 2 ^ j → (∀ x, ps.head? = some x → 2 ^ j ≤ x.2) → Good nd e0 (merge nd (mth nd e0 b) (2 ^ j) ps) (l ++ b) := by
  induction h with
  | nil =>
    intro b j hb _
    exact .cons b [] [] j .nil hb (fun x hx => by cases hx)
  | cons b' l ps j' hg hb' hd ih =>
    intro b j hb hx
    have hle := hx _ rfl
    rw [merge]
    by_cases hjj : 2 ^ j' = 2 ^ j
    · rw [if_pos hjj, List.append_assoc]
      have hp := Nat.two_pow_pos j
      have e : nd (mth nd e0 b') (mth nd e0 b) = mth nd e0 (b' ++ b) := (mth_split nd e0 b' b j (by omega) (by omega) (by omega)).symm
      have e2 : 2 * 2 ^ j = 2 ^ (j + 1) := by rw [Nat.pow_succ, Nat.mul_comm]
      rw [e, e2]
      refine ih (b' ++ b) (j + 1) (by rw [List.length_append, Nat.pow_succ]; omega) fun x hx' => ?_
      have h1 := hd x hx'
      rw [← e2]
      cases ps with
      | nil => cases hx'
      | cons y ys =>
        cases hx'
        cases hg with
        | cons b3 l3 ps3 j3 _ _ _ => exact (by have := two_pow_step j' j3 h1; show 2 * 2 ^ j ≤ 2 ^ j3; omega)
    · rw [if_neg hjj]
      refine .cons b (l ++ b') _ j (.cons b' l ps j' hg hb' hd) hb fun x hx' => ?_
      cases hx'
      show 2 ^ j < 2 ^ j'
      exact Nat.lt_of_le_of_ne hle (fun e => hjj e.symm)
theorem good_push (l : List α) : Good nd e0 (peaks nd l) l := by
  have h : ∀ n, n ≤ l.length → Good nd e0 (peaks nd (l.take n)) (l.take n) := by
    intro n
    induction n with
    | zero => intro _; exact .nil
    | succ n ih =>
      intro hn
      obtain ⟨x, hx⟩ : ∃ x, l[n]? = some x := ⟨_, List.getElem?_eq_getElem (by omega)⟩
      rw [peaks_succ nd l n x hx, List.take_add_one, hx]
      have := good_merge nd e0 _ _ (ih (by omega)) [x] 0 rfl (fun y hy => by
        cases hq : peaks nd (l.take n) with
        | nil => rw [hq] at hy; cases hy
        | cons z zs =>
          have hg := ih (by omega)
          rw [hq] at hy hg
          cases hy
          generalize l.take n = t at hg
          cases hg with
          | cons b3 l3 ps3 j3 _ _ _ => exact Nat.two_pow_pos j3)
      rw [mth_one] at this
      exact this
  have := h l.length (Nat.le_refl _)
  rwa [List.take_length] at this
theorem tops_good (ps : List (α × Nat)) (l : List α) (h : Good nd e0 ps l) : ∀ c : List α, 1 ≤ c.length → (∀ x, ps.head? = some x → c.length ≤ x.2) → tops nd (mth nd e0 c) ps = mth nd e0 (l ++ c) := by
  induction h with
  | nil => intro c _ _; rfl
  | cons b l ps j hg hb hd ih =>
    intro c h1 h2
    have hc : c.length ≤ 2 ^ j := h2 _ rfl
    show tops nd (nd (mth nd e0 b) (mth nd e0 c)) ps = _
    rw [← mth_split nd e0 b c j hb h1 hc, List.append_assoc]
    refine ih (b ++ c) (by rw [List.length_append]; omega) fun x hx => ?_
    have h3 := hd x hx
    cases ps with
    | nil => cases hx
    | cons y ys =>
      cases hx
      cases hg with
      | cons b3 l3 ps3 j3 _ _ _ => exact (by have := two_pow_step j j3 h3; rw [List.length_append]; show b.length + c.length ≤ 2 ^ j3; omega)
theorem top_peaks (l : List α) : top nd e0 (peaks nd l) = mth nd e0 l := by
  have h := good_push nd e0 l
  generalize peaks nd l = ps at h
  cases h with
  | nil => exact (mth_nil nd e0).symm
  | cons b l ps j hg hb hd =>
    refine tops_good nd e0 ps l hg b (by have := Nat.two_pow_pos j; omega) fun x hx => ?_
    have := hd x hx
    omega
def dirs (i n : Nat) : List Bool :=
  if _h : 2 ≤ n then (if i < hf n then false :: dirs i (hf n) else true :: dirs (i - hf n) (n - hf n)) else []
termination_by n
decreasing_by
  · exact hf_lt n _h
  · have := hf_pos n; omega
theorem dirs_one (i n : Nat) (h : ¬ 2 ≤ n) : dirs i n = [] := by rw [dirs, dif_neg h]
theorem dirs_left (i n : Nat) (h : 2 ≤ n) (hi : i < hf n) : dirs i n = false :: dirs i (hf n) := by rw [dirs, dif_pos h, if_pos hi]
theorem dirs_right (i n : Nat) (h : 2 ≤ n) (hi : ¬ i < hf n) : dirs i n = true :: dirs (i - hf n) (n - hf n) := by rw [dirs, dif_pos h, if_neg hi]
theorem dirs_low (n : Nat) : ∀ i, i < n → 2 ≤ n → dirs i n = dirs (i / 2) ((n + 1) / 2) ++ (if i % 2 = 0 ∧ i + 1 = n then [] else [decide (i % 2 = 1)]) := by
  induction n using Nat.strongRecOn with
  | _ n ih =>
    intro i hi hn
    by_cases h2 : n = 2
    · subst h2
      have : i = 0 ∨ i = 1 := by omega
      rcases this with rfl | rfl
      · rw [dirs_left 0 2 (by decide) (by decide), dirs_one 0 (hf 2) (by decide), dirs_one _ _ (by decide)]; rfl
      · rw [dirs_right 1 2 (by decide) (by decide), dirs_one _ _ (by decide), dirs_one _ _ (by decide)]; rfl
    · have hs := hf_step n (by omega)
      have hlt := hf_lt n hn
      have hge := hf_ge n
      have hp := hf_pos ((n + 1) / 2)
      generalize hK : hf ((n + 1) / 2) = K at *
      by_cases hik : i < hf n
      · rw [dirs_left i n hn hik, dirs_left (i / 2) ((n + 1) / 2) (by omega) (by rw [hK]; omega), ih (hf n) hlt i hik (by omega), hK]
        rw [if_neg (by omega), if_neg (by omega), show (hf n + 1) / 2 = K by omega]
        rfl
      · rw [dirs_right i n hn hik, dirs_right (i / 2) ((n + 1) / 2) (by omega) (by rw [hK]; omega), hK]
        by_cases h1 : n - hf n = 1
        · rw [h1, dirs_one _ 1 (by decide), dirs_one _ _ (by omega), if_pos (by omega)]
          rfl
        · rw [ih (n - hf n) (by omega) (i - hf n) (by omega) (by omega)]
          rw [show (i - hf n) / 2 = i / 2 - K by omega, show (n - hf n + 1) / 2 = (n + 1) / 2 - K by omega, show (i - hf n) % 2 = i % 2 by omega]
          by_cases hc : i % 2 = 0 ∧ i + 1 = n
          · rw [if_pos hc, if_pos (by omega)]; rfl
          · rw [if_neg hc, if_neg (by omega)]; rfl
def strip : Nat → Nat → Nat → Nat × Nat
  | 0, a, b => (a, b)
  | f + 1, a, b => if a ≠ 0 ∧ a % 2 = 0 then strip f (a / 2) (b / 2) else (a, b)
def next (a b : Nat) : Nat × Nat := if a % 2 = 0 ∧ a = b then ((strip a a b).1 / 2, (strip a a b).2 / 2) else (a / 2, b / 2)
def right (a b : Nat) : Bool := decide (a % 2 = 1) || decide (a = b)
theorem strip_eq (f a b : Nat) (h : a = b) : (strip f a b).1 = (strip f a b).2 ∧ (strip f a b).1 ≤ a ∧ (strip f a b).2 ≤ b := by
  induction f generalizing a b with
  | zero => exact ⟨h, Nat.le_refl _, Nat.le_refl _⟩
  | succ f ih =>
    rw [strip]
    split
    · obtain ⟨h1, h2, h3⟩ := ih (a / 2) (b / 2) (by rw [h])
      exact ⟨h1, by omega, by omega⟩
    · exact ⟨h, Nat.le_refl _, Nat.le_refl _⟩
theorem strip_dirs (f a : Nat) (hf : a ≤ f) (h0 : a ≠ 0) : (strip f a a).1 % 2 = 1 ∧ (strip f a a).1 = (strip f a a).2 ∧ dirs a (a + 1) = dirs (strip f a a).1 ((strip f a a).1 + 1) := by
  induction f generalizing a with
  | zero => omega
  | succ f ih =>
    rw [strip]
    by_cases h : a % 2 = 0
    · rw [if_pos ⟨h0, h⟩]
      obtain ⟨h1, h2, h3⟩ := ih (a / 2) (by omega) (by omega)
      refine ⟨h1, h2, ?_⟩
      rw [dirs_low (a + 1) a (by omega) (by omega), if_pos ⟨h, rfl⟩, List.append_nil, show (a + 1 + 1) / 2 = a / 2 + 1 by omega, h3]
    · rw [if_neg (by omega)]
      exact ⟨by omega, rfl, rfl⟩
theorem next_lt (a b : Nat) (hb : b ≠ 0) : (next a b).2 < b := by
  unfold next
  split
  · rename_i h
    obtain ⟨h1, h2, h3⟩ := strip_eq a a b h.2
    show (strip a a b).2 / 2 < b
    omega
  · show b / 2 < b
    omega
theorem next_le (a b : Nat) (h : a ≤ b) : (next a b).1 ≤ (next a b).2 := by
  unfold next
  split
  · rename_i hc
    obtain ⟨h1, h2, h3⟩ := strip_eq a a b hc.2
    show (strip a a b).1 / 2 ≤ (strip a a b).2 / 2
    omega
  · show a / 2 ≤ b / 2
    omega
def climb (a b : Nat) : List Bool :=
  if _h : b = 0 then [] else right a b :: climb (next a b).1 (next a b).2
termination_by b
decreasing_by exact next_lt a b _h
theorem climb_zero (a : Nat) : climb a 0 = [] := by rw [climb, dif_pos rfl]
theorem climb_next (a b : Nat) (h : b ≠ 0) : climb a b = right a b :: climb (next a b).1 (next a b).2 := by rw [climb, dif_neg h]
theorem climb_dirs (b : Nat) : ∀ a, a ≤ b → climb a b = (dirs a (b + 1)).reverse := by
  induction b using Nat.strongRecOn with
  | _ b ih =>
    intro a hab
    by_cases hb : b = 0
    · subst hb
      rw [climb_zero, dirs_one _ _ (by decide)]; rfl
    · rw [climb_next a b hb, ih _ (next_lt a b hb) _ (next_le a b hab)]
      by_cases hc : a % 2 = 0 ∧ a = b
      · obtain ⟨hc1, rfl⟩ := hc
        obtain ⟨h1, h2, h3⟩ := strip_dirs a a (Nat.le_refl _) hb
        rw [h3]
        unfold next right
        rw [if_pos ⟨hc1, rfl⟩]
        generalize hs : strip a a a = s at *
        obtain ⟨s1, s2⟩ := s
        simp only at h1 h2 ⊢
        subst h2
        rw [dirs_low (s1 + 1) s1 (by omega) (by omega), if_neg (by omega), show (s1 + 1 + 1) / 2 = s1 / 2 + 1 by omega, List.reverse_append]
        simp [h1]
      · unfold next right
        rw [if_neg hc, dirs_low (b + 1) a (by omega) (by omega), if_neg (by omega), show (b + 1 + 1) / 2 = b / 2 + 1 by omega, List.reverse_append]
        by_cases h1 : a % 2 = 1
        · simp [h1]
        · have h2 : a ≠ b := fun e => hc ⟨by omega, e⟩
          simp [h1, h2]
def up (s : α) (i n : Nat) (p : List α) (bad : α) : α × Bool :=
  if _h : 2 ≤ n then
    match p.getLast? with
    | none => (bad, false)
    | some x => if i < hf n then (nd (up s i (hf n) p.dropLast bad).1 x, (up s i (hf n) p.dropLast bad).2) else (nd x (up s (i - hf n) (n - hf n) p.dropLast bad).1, (up s (i - hf n) (n - hf n) p.dropLast bad).2)
  else (s, decide (p = []))
termination_by n
decreasing_by
  all_goals (first | exact hf_lt n _h | (have := hf_pos n; omega))
def cdr (m n : Nat) : List Bool :=
  if _h : m < n ∧ 1 ≤ m then (if m ≤ hf n then false :: cdr m (hf n) else true :: cdr (m - hf n) (n - hf n)) else []
termination_by n
decreasing_by
  · exact hf_lt n (by omega)
  · have := hf_pos n; omega
theorem cdr_all (m n : Nat) (h : ¬ (m < n ∧ 1 ≤ m)) : cdr m n = [] := by rw [cdr, dif_neg h]
theorem cdr_left (m n : Nat) (h : m < n) (h1 : 1 ≤ m) (hi : m ≤ hf n) : cdr m n = false :: cdr m (hf n) := by rw [cdr, dif_pos ⟨h, h1⟩, if_pos hi]
theorem cdr_right (m n : Nat) (h : m < n) (h1 : 1 ≤ m) (hi : ¬ m ≤ hf n) : cdr m n = true :: cdr (m - hf n) (n - hf n) := by rw [cdr, dif_pos ⟨h, h1⟩, if_neg hi]
theorem cdr_odd (n : Nat) : ∀ m, m < n → m % 2 = 1 → cdr m n = dirs (m - 1) n := by
  induction n using Nat.strongRecOn with
  | _ n ih =>
    intro m hm ho
    have h1 := hf_lt n (by omega)
    have h2 := hf_ge n
    by_cases hk : m ≤ hf n
    · rw [cdr_left m n hm (by omega) hk, dirs_left _ n (by omega) (by omega)]
      by_cases he : m = hf n
      · have h3 : n = 2 := by
          by_cases h3 : 3 ≤ n
          · have := hf_step n h3; omega
          · omega
        subst h3
        obtain rfl : m = 1 := by omega
        rw [cdr_all _ _ (by rw [hf_two]; omega), dirs_one _ _ (by rw [hf_two]; omega)]
      · rw [ih (hf n) h1 m (by omega) ho]
    · have hs := hf_step n (by omega)
      rw [cdr_right m n hm (by omega) hk, dirs_right _ n (by omega) (by omega), ih (n - hf n) (by have := hf_pos n; omega) (m - hf n) (by omega) (by omega), show m - hf n - 1 = m - 1 - hf n by omega]
theorem cdr_even (n : Nat) : ∀ m, m < n → 1 ≤ m → m % 2 = 0 → cdr m n = cdr (m / 2) ((n + 1) / 2) := by
  induction n using Nat.strongRecOn with
  | _ n ih =>
    intro m hm h0 he
    have h1 := hf_lt n (by omega)
    have h2 := hf_ge n
    have hs := hf_step n (by omega)
    have hp := hf_pos ((n + 1) / 2)
    generalize hK : hf ((n + 1) / 2) = K at *
    by_cases hk : m ≤ hf n
    · rw [cdr_left m n hm h0 hk, cdr_left (m / 2) _ (by omega) (by omega) (by rw [hK]; omega), hK]
      by_cases hek : m = hf n
      · rw [cdr_all _ _ (by omega), cdr_all _ _ (by omega)]
      · rw [ih (hf n) h1 m (by omega) h0 he, show (hf n + 1) / 2 = K by omega]
    · rw [cdr_right m n hm h0 hk, cdr_right (m / 2) _ (by omega) (by omega) (by rw [hK]; omega), hK, ih (n - hf n) (by omega) (m - hf n) (by omega) (by omega) (by omega)]
      rw [show (m - hf n) / 2 = m / 2 - K by omega, show (n - hf n + 1) / 2 = (n + 1) / 2 - K by omega]
def ones : Nat → Nat → Nat → Nat × Nat
  | 0, a, b => (a, b)
  | f + 1, a, b => if a % 2 = 1 then ones f (a / 2) (b / 2) else (a, b)
theorem ones_cdr (f m n : Nat) (hf : m ≤ f + 1) (h1 : 1 ≤ m) (hm : m < n) : (cdr m n).reverse = climb (ones f (m - 1) (n - 1)).1 (ones f (m - 1) (n - 1)).2 := by
  induction f generalizing m n with
  | zero =>
    obtain rfl : m = 1 := by omega
    show _ = climb 0 (n - 1)
    rw [climb_dirs _ _ (by omega), cdr_odd n 1 hm rfl, show n - 1 + 1 = n by omega]
  | succ f ih =>
    rw [ones]
    by_cases ho : m % 2 = 1
    · rw [if_neg (by omega)]
      show _ = climb (m - 1) (n - 1)
      rw [climb_dirs _ _ (by omega), cdr_odd n m hm ho, show n - 1 + 1 = n by omega]
    · rw [if_pos (by omega), cdr_even n m hm h1 (by omega), ih (m / 2) ((n + 1) / 2) (by omega) (by omega) (by omega), show (m - 1) / 2 = m / 2 - 1 by omega, show (n - 1) / 2 = (n + 1) / 2 - 1 by omega]
def pow2 (m : Nat) : Bool := decide (m &&& (m - 1) = 0)
theorem dirs_false (n : Nat) : ∀ i, i < n → ((dirs i n).all (!·) = decide (i = 0)) := by
  induction n using Nat.strongRecOn with
  | _ n ih =>
    intro i hi
    by_cases hn : 2 ≤ n
    · have h1 := hf_lt n hn
      by_cases hik : i < hf n
      · rw [dirs_left i n hn hik, List.all_cons, ih _ h1 i hik]; rfl
      · have := hf_pos n
        rw [dirs_right i n hn hik]
        simp
        omega
    · obtain rfl : i = 0 := by omega
      rw [dirs_one _ _ hn]; rfl
theorem and_pred_even (m : Nat) (h1 : 1 ≤ m) : (2 * m) &&& (2 * m - 1) = 2 * (m &&& (m - 1)) := by
  refine Nat.eq_of_testBit_eq fun i => ?_
  cases i with
  | zero => simp [Nat.testBit_zero]
  | succ i =>
    have e : ∀ x, Nat.testBit (2 * x) (i + 1) = Nat.testBit x i := fun x => by rw [Nat.testBit_succ]; congr 1; omega
    have e2 : Nat.testBit (2 * m - 1) (i + 1) = Nat.testBit (m - 1) i := by rw [Nat.testBit_succ]; congr 1; omega
    rw [Nat.testBit_and, e, e2, e, Nat.testBit_and]
theorem and_pred_odd (m : Nat) (h : m % 2 = 1) : m &&& (m - 1) = m - 1 := by
  refine Nat.eq_of_testBit_eq fun i => ?_
  cases i with
  | zero =>
    rw [Nat.testBit_and]
    have : (m - 1) % 2 = 0 := by omega
    simp [Nat.testBit_zero, this]
  | succ i =>
    rw [Nat.testBit_and, Nat.testBit_succ, Nat.testBit_succ, show (m - 1) / 2 = m / 2 by omega, Bool.and_self]
theorem cdr_false (m : Nat) : ∀ n, m < n → 1 ≤ m → (cdr m n).all (!·) = pow2 m := by
  induction m using Nat.strongRecOn with
  | _ m ih =>
    intro n hm h1
    unfold pow2
    by_cases ho : m % 2 = 1
    · rw [cdr_odd n m hm ho, dirs_false n _ (by omega), and_pred_odd m ho]
    · rw [cdr_even n m hm h1 (by omega), ih (m / 2) (by omega) _ (by omega) (by omega)]
      have := and_pred_even (m / 2) (by omega)
      rw [show 2 * (m / 2) = m by omega] at this
      unfold pow2
      rw [this, decide_eq_decide]
      omega
def rises : List Bool → List α → α × α → α × α
  | d :: ds, x :: xs, s => rises ds xs (if d then (nd x s.1, nd x s.2) else (s.1, nd s.2 x))
  | _, _, s => s
theorem rises_snoc (ds : List Bool) (xs : List α) (d : Bool) (x : α) (s : α × α) (h : ds.length = xs.length) : rises nd (ds ++ [d]) (xs ++ [x]) s = if d then (nd x (rises nd ds xs s).1, nd x (rises nd ds xs s).2) else ((rises nd ds xs s).1, nd (rises nd ds xs s).2 x) := by
  induction ds generalizing xs s with
  | nil => cases xs with
    | nil => rfl
    | cons y ys => simp at h
  | cons e ds ih => cases xs with
    | nil => simp at h
    | cons y ys => simp only [List.cons_append, rises]; exact ih ys _ (by simpa using h)
def both (m n : Nat) (p : List α) (first : Bool) (old bad : α) : α × α × Bool :=
  if _h : m < n ∧ 1 ≤ m then
    match p.getLast? with
    | none => (bad, bad, false)
    | some x =>
      if m ≤ hf n then
        let t := both m (hf n) p.dropLast first old bad
        (t.1, nd t.2.1 x, t.2.2)
      else
        let t := both (m - hf n) (n - hf n) p.dropLast false old bad
        (nd x t.1, nd x t.2.1, t.2.2)
  else bif first then (old, old, decide (p = [])) else if p.length = 1 then (p.headD bad, p.headD bad, true) else (bad, bad, false)
termination_by n
decreasing_by
  · exact hf_lt n (by omega)
  · have := hf_pos n; omega
def start (f : Bool) (old : α) (p : List α) : List α := bif f then old :: p else p
theorem both_ok (n : Nat) : ∀ (m : Nat) (p : List α) (first : Bool) (old bad : α),
    (both nd m n p first old bad).2.2 = decide ((start (first && (cdr m n).all (!·)) old p).length = (cdr m n).length + 1) ∧
    (∀ x q, start (first && (cdr m n).all (!·)) old p = x :: q → q.length = (cdr m n).length → ((both nd m n p first old bad).1, (both nd m n p first old bad).2.1) = rises nd (cdr m n).reverse q (x, x)) := by
  induction n using Nat.strongRecOn with
  | _ n ih =>
    intro m p first old bad
    by_cases hn : m < n ∧ 1 ≤ m
    · rw [both, dif_pos hn]
      by_cases hi : m ≤ hf n
      · rw [cdr_left m n hn.1 hn.2 hi]
        rcases snoc p with rfl | ⟨q, x, rfl⟩
        · simp only [List.getLast?_nil, List.all_cons, Bool.not_false, Bool.true_and]
          generalize (first && (cdr m (hf n)).all fun x => !x) = f
          cases f
          · exact ⟨by simp [start], fun x q h => by simp [start] at h⟩
          · refine ⟨by simp [start], fun x q h hq => ?_⟩
            simp only [start, cond_true, List.cons.injEq] at h
            rw [← h.2] at hq
            simp at hq
        · simp only [List.getLast?_append, List.getLast?_singleton, List.dropLast_concat, Option.some_or, if_pos hi, List.all_cons, Bool.not_false, Bool.true_and]
          obtain ⟨h1, h2⟩ := ih (hf n) (hf_lt n (by omega)) m q first old bad
          have hst : start (first && (cdr m (hf n)).all fun x => !x) old (q ++ [x]) = start (first && (cdr m (hf n)).all fun x => !x) old q ++ [x] := by
            unfold start
            cases (first && (cdr m (hf n)).all fun x => !x) <;> rfl
          refine ⟨by rw [h1, hst]; simp, fun y r h hr => ?_⟩
          rw [hst] at h
          rcases snoc r with rfl | ⟨r', z, rfl⟩
          · simp at hr
          · have hl : r'.length = (cdr m (hf n)).length := by simpa using hr
            rw [show y :: (r' ++ [z]) = (y :: r') ++ [z] from rfl] at h
            obtain ⟨ha, hb⟩ := List.append_inj' h rfl
            cases hb
            have h3 := h2 y r' ha hl
            rw [List.reverse_cons, rises_snoc _ _ _ _ _ _ (by simpa using hl.symm), ← h3]
            rfl
      · rw [cdr_right m n hn.1 hn.2 hi]
        rcases snoc p with rfl | ⟨q, x, rfl⟩
        · simp only [List.getLast?_nil, List.all_cons, Bool.not_true, Bool.false_and, Bool.and_false]
          exact ⟨by simp [start], fun x q h => by simp [start] at h⟩
        · simp only [List.getLast?_append, List.getLast?_singleton, List.dropLast_concat, Option.some_or, if_neg hi, List.all_cons, Bool.not_true, Bool.false_and, Bool.and_false]
          obtain ⟨h1, h2⟩ := ih (n - hf n) (by have := hf_pos n; omega) (m - hf n) q false old bad
          simp only [Bool.false_and] at h1 h2
          refine ⟨by rw [h1, decide_eq_decide]; simp only [start, cond_false, List.length_append, List.length_cons, List.length_nil]; omega, fun y r h hr => ?_⟩
          simp only [start, cond_false] at h h2
          rcases snoc r with rfl | ⟨r', z, rfl⟩
          · simp at hr
          · have hl : r'.length = (cdr (m - hf n) (n - hf n)).length := by simpa using hr
            rw [show y :: (r' ++ [z]) = (y :: r') ++ [z] from rfl] at h
            obtain ⟨ha, hb⟩ := List.append_inj' h rfl
            cases hb
            have h3 := h2 y r' ha hl
            rw [List.reverse_cons, rises_snoc _ _ _ _ _ _ (by simpa using hl.symm), ← h3]
            rfl
    · rw [both, dif_neg hn, cdr_all m n hn]
      cases first
      · refine ⟨?_, fun x q h hq => ?_⟩
        · match p with
          | [] => rfl
          | [x] => rfl
          | _ :: _ :: _ => simp [start]
        · simp only [start, Bool.false_and, cond_false] at h
          subst h
          obtain rfl : q = [] := by cases q with
            | nil => rfl
            | cons _ _ => simp at hq
          rfl
      · refine ⟨?_, fun x q h hq => ?_⟩
        · cases p <;> simp [start]
        · simp only [start, List.all_nil, Bool.and_self, cond_true, List.cons.injEq] at h
          obtain ⟨rfl, rfl⟩ := h
          rfl
def sub (l : List α) (m : Nat) (first : Bool) : List α :=
  if _h : m < l.length ∧ 1 ≤ m then (if m ≤ hf l.length then sub (l.take (hf l.length)) m first ++ [mth nd e0 (l.drop (hf l.length))] else sub (l.drop (hf l.length)) (m - hf l.length) false ++ [mth nd e0 (l.take (hf l.length))])
  else bif first then [] else [mth nd e0 l]
termination_by l.length
decreasing_by
  · have := hf_lt l.length (by omega); simp; omega
  · have := hf_pos l.length; simp; omega
theorem both_sub (n : Nat) : ∀ (l : List α) (m : Nat) (first : Bool) (old bad : α), l.length = n → 1 ≤ m → m ≤ n → (first = true → old = mth nd e0 (l.take m)) →
    both nd m n (sub nd e0 l m first) first old bad = (mth nd e0 (l.take m), mth nd e0 l, true) := by
  induction n using Nat.strongRecOn with
  | _ n ih =>
    intro l m first old bad hl h1 hm hold
    by_cases hn : m < n
    · have h2 := hf_lt n (by omega)
      have h3 := hf_ge n
      have h4 := hf_pos n
      rw [both, dif_pos ⟨hn, h1⟩, sub, dif_pos ⟨by omega, h1⟩, hl]
      by_cases hi : m ≤ hf n
      · rw [if_pos hi]
        simp only [List.getLast?_append, List.getLast?_singleton, List.dropLast_concat, Option.some_or, if_pos hi]
        have hx := ih (hf n) h2 (l.take (hf n)) m first old bad (by simp; omega) h1 hi (by rw [List.take_take, Nat.min_eq_left hi]; exact hold)
        rw [hx, List.take_take, Nat.min_eq_left hi, mth_big nd e0 l (by omega), hl]
      · rw [if_neg hi]
        simp only [List.getLast?_append, List.getLast?_singleton, List.dropLast_concat, Option.some_or, if_neg hi]
        have hx := ih (n - hf n) (by omega) (l.drop (hf n)) (m - hf n) false old bad (by simp; omega) (by omega) (by omega) (fun h => by cases h)
        rw [hx, mth_big nd e0 l (by omega), hl]
        have e : l.take m = l.take (hf n) ++ (l.drop (hf n)).take (m - hf n) := by
          conv => lhs; rw [show m = hf n + (m - hf n) by omega]
          rw [List.take_add]
        have h5 : mth nd e0 (l.take m) = nd (mth nd e0 (l.take (hf n))) (mth nd e0 ((l.drop (hf n)).take (m - hf n))) := by
          rw [e]
          exact mth_split nd e0 _ _ (Nat.log2 (n - 1)) (by rw [List.length_take]; show min (hf n) _ = hf n; omega) (by rw [List.length_take, List.length_drop]; omega) (by rw [List.length_take, List.length_drop]; show min (m - hf n) _ ≤ hf n; omega)
        rw [h5]
    · obtain rfl : m = n := by omega
      rw [both, dif_neg (by omega), sub, dif_neg (by omega), ← hl, List.take_length]
      rw [← hl, List.take_length] at hold
      cases first
      · rfl
      · rw [cond_true, cond_true, hold rfl]; rfl
end
end Rfc
end Go.Proofs.YtjkbpdobeljmjaaGreatDoor

