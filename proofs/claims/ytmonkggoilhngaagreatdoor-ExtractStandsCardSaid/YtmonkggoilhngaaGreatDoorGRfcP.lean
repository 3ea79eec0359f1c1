/- The plain law of the log: tree sums, peaks, paths and climbers. No program in sight. -/
import Derived.Test.YtmonkggoilhngaaGreatDoorGShaA
import Derived.Test.YtmonkggoilhngaaGreatDoorGL32P
import Derived.Test.YtmonkggoilhngaaGreatDoorConQ
import Derived.Test.YtmonkggoilhngaaGreatDoorKpM
import Derived.Test.YtmonkggoilhngaaGreatDoorGConcW
import Derived.Test.YtmonkggoilhngaaGreatDoorRefA
import Derived.Test.YtmonkggoilhngaaGreatDoorGEqR
namespace Go.Proofs.YtmonkggoilhngaaGreatDoor
namespace Rfc
/-- The greatest power of two below n (n from 2 on). -/
def hf (n : Nat) : Nat := 2 ^ Nat.log2 (n - 1)
theorem hf_pos (n : Nat) : 0 < hf n := Nat.two_pow_pos _
theorem hf_lt (n : Nat) (h : 2 ≤ n) : hf n < n := by
  have := Nat.log2_self_le (show n - 1 ≠ 0 by omega)
  unfold hf
  omega
theorem hf_ge (n : Nat) : n ≤ 2 * hf n := by
  have := @Nat.lt_log2_self (n - 1)
  unfold hf
  rw [Nat.pow_succ] at this
  omega
theorem two_pow_step (a b : Nat) (h : 2 ^ a < 2 ^ b) : 2 * 2 ^ a ≤ 2 ^ b := by
  have hab : a < b := (Nat.pow_lt_pow_iff_right (by decide)).1 h
  have := Nat.pow_le_pow_right (show 0 < 2 by decide) (show a + 1 ≤ b from hab)
  rw [Nat.pow_succ] at this
  omega
theorem hf_unique (n j : Nat) (h : 2 ≤ n) (h1 : 2 ^ j < n) (h2 : n ≤ 2 * 2 ^ j) : hf n = 2 ^ j := by
  have h3 := hf_lt n h
  have h4 := hf_ge n
  rcases Nat.lt_trichotomy (hf n) (2 ^ j) with h5 | h5 | h5
  · have := two_pow_step _ _ h5
    unfold hf at h4
    omega
  · exact h5
  · have := two_pow_step _ _ h5
    unfold hf at h3
    omega
theorem hf_step (n : Nat) (h : 3 ≤ n) : hf n = 2 * hf ((n + 1) / 2) := by
  have h1 := hf_lt ((n + 1) / 2) (by omega)
  have h2 := hf_ge ((n + 1) / 2)
  have e : 2 * hf ((n + 1) / 2) = 2 ^ (Nat.log2 ((n + 1) / 2 - 1) + 1) := by unfold hf; rw [Nat.pow_succ, Nat.mul_comm]
  rw [e]
  refine hf_unique n _ (by omega) ?_ ?_
  · rw [← e]; omega
  · rw [← e]; omega
theorem hf_two : hf 2 = 1 := rfl
theorem snoc {α : Type} (p : List α) : p = [] ∨ ∃ q x, p = q ++ [x] := by
  rcases List.eq_nil_or_concat p with h | ⟨q, x, h⟩
  · exact .inl h
  · exact .inr ⟨q, x, by rw [h]; simp⟩
section
variable {α : Type} (nd : α → α → α) (e0 : α)
/-- The tree's sum. -/
def mth (l : List α) : α :=
  if _h : 2 ≤ l.length then nd (mth (l.take (hf l.length))) (mth (l.drop (hf l.length))) else l.headD e0
termination_by l.length
decreasing_by
  · have := hf_lt _ _h; simp; omega
  · have := hf_pos l.length; simp; omega
theorem mth_nil : mth nd e0 [] = e0 := by rw [mth]; rfl
theorem mth_one (x : α) : mth nd e0 [x] = x := by rw [mth]; rfl
theorem mth_split (a b : List α) (j : Nat) (ha : a.length = 2 ^ j) (h1 : 1 ≤ b.length) (h2 : b.length ≤ 2 ^ j) : mth nd e0 (a ++ b) = nd (mth nd e0 a) (mth nd e0 b) := by
  have hp := Nat.two_pow_pos j
  have hl : (a ++ b).length = 2 ^ j + b.length := by rw [List.length_append, ha]
  have hh : hf (a ++ b).length = 2 ^ j := hf_unique _ j (by omega) (by omega) (by omega)
  rw [mth, dif_pos (by omega), hh, ← ha, List.take_left, List.drop_left]
theorem mth_big (l : List α) (h : 2 ≤ l.length) : mth nd e0 l = nd (mth nd e0 (l.take (hf l.length))) (mth nd e0 (l.drop (hf l.length))) := by
  rw [mth, dif_pos h]
/-! Peaks, the last one first. -/
def merge (s : α) (z : Nat) : List (α × Nat) → List (α × Nat)
  | [] => [(s, z)]
  | x :: xs => if x.2 = z then merge (nd x.1 s) (2 * z) xs else (s, z) :: x :: xs
def peaks (l : List α) : List (α × Nat) := l.foldl (fun ps s => merge nd s 1 ps) []
theorem peaks_succ (l : List α) (i : Nat) (x : α) (h : l[i]? = some x) : peaks nd (l.take (i + 1)) = merge nd x 1 (peaks nd (l.take i)) := by
  unfold peaks
  rw [List.take_add_one, h, List.foldl_append]
  rfl
def tops (o : α) (ps : List (α × Nat)) : α := ps.foldl (fun o x => nd x.1 o) o
def top : List (α × Nat) → α
  | [] => e0
  | x :: xs => tops nd x.1 xs
inductive Good : List (α × Nat) → List α → Prop
  | nil : Good [] []
  | cons (b l : List α) (ps : List (α × Nat)) (j : Nat) : Good ps l → b.length = 2 ^ j → (∀ x, ps.head? = some x → 2 ^ j < x.2) → Good ((mth nd e0 b, 2 ^ j) :: ps) (l ++ b)
theorem good_merge (ps : List (α × Nat)) (l : List α) (h : Good nd e0 ps l) : ∀ (b : List α) (j : Nat), b.length = 2 ^ j → (∀ x, ps.head? = some x → 2 ^ j ≤ x.2) → Good nd e0 (merge nd (mth nd e0 b) (2 ^ j) ps) (l ++ b) := by
  induction h with
  | nil =>
    intro b j hb _
    exact .cons b [] [] j .nil hb (fun x hx => by cases hx)
  | cons b' l ps j' hg hb' hd ih =>
    intro b j hb hx
    have hle := hx _ rfl
    rw [merge]
    by_cases hjj : 2 ^ j' = 2 ^ j
    · rw [if_pos hjj, List.append_assoc]
      have hp := Nat.two_pow_pos j
      have e : nd (mth nd e0 b') (mth nd e0 b) = mth nd e0 (b' ++ b) := (mth_split nd e0 b' b j (by omega) (by omega) (by omega)).symm
      have e2 : 2 * 2 ^ j = 2 ^ (j + 1) := by rw [Nat.pow_succ, Nat.mul_comm]
      rw [e, e2]
      refine ih (b' ++ b) (j + 1) (by rw [List.length_append, Nat.pow_succ]; omega) fun x hx' => ?_
      have h1 := hd x hx'
      rw [← e2]
      cases ps with
      | nil => cases hx'
      | cons y ys =>
        cases hx'
        cases hg with
        | cons b3 l3 ps3 j3 _ _ _ => exact (by have := two_pow_step j' j3 h1; show 2 * 2 ^ j ≤ 2 ^ j3; omega)
    · rw [if_neg hjj]
      refine .cons b (l ++ b') _ j (.cons b' l ps j' hg hb' hd) hb fun x hx' => ?_
      cases hx'
      show 2 ^ j < 2 ^ j'
      exact Nat.lt_of_le_of_ne hle (fun e => hjj e.symm)
theorem good_push (l : List α) : Good nd e0 (peaks nd l) l := by
  have h : ∀ n, n ≤ l.length → Good nd e0 (peaks nd (l.take n)) (l.take n) := by
    intro n
    induction n with
    | zero => intro _; exact .nil
    | succ n ih =>
      intro hn
      obtain ⟨x, hx⟩ : ∃ x, l[n]? = some x := ⟨_, List.getElem?_eq_getElem (by omega)⟩
      rw [peaks_succ nd l n x hx, List.take_add_one, hx]
      have := good_merge nd e0 _ _ (ih (by omega)) [x] 0 rfl (fun y hy => by
        cases hq : peaks nd (l.take n) with
        | nil => rw [hq] at hy; cases hy
        | cons z zs =>
          have hg := ih (by omega)
          rw [hq] at hy hg
          cases hy
          generalize l.take n = t at hg
          cases hg with
          | cons b3 l3 ps3 j3 _ _ _ => exact Nat.two_pow_pos j3)
      rw [mth_one] at this
      exact this
  have := h l.length (Nat.le_refl _)
  rwa [List.take_length] at this
theorem tops_good (ps : List (α × Nat)) (l : List α) (h : Good nd e0 ps l) : ∀ c : List α, 1 ≤ c.length → (∀ x, ps.head? = some x → c.length ≤ x.2) → tops nd (mth nd e0 c) ps = mth nd e0 (l ++ c) := by
  induction h with
  | nil => intro c _ _; rfl
  | cons b l ps j hg hb hd ih =>
    intro c h1 h2
    have hc : c.length ≤ 2 ^ j := h2 _ rfl
    show tops nd (nd (mth nd e0 b) (mth nd e0 c)) ps = _
    rw [← mth_split nd e0 b c j hb h1 hc, List.append_assoc]
    refine ih (b ++ c) (by rw [List.length_append]; omega) fun x hx => ?_
    have h3 := hd x hx
    cases ps with
    | nil => cases hx
    | cons y ys =>
      cases hx
      cases hg with
      | cons b3 l3 ps3 j3 _ _ _ => exact (by have := two_pow_step j j3 h3; rw [List.length_append]; show b.length + c.length ≤ 2 ^ j3; omega)
/-- The peaks put together are the tree's sum. -/
theorem top_peaks (l : List α) : top nd e0 (peaks nd l) = mth nd e0 l := by
  have h := good_push nd e0 l
  generalize peaks nd l = ps at h
  cases h with
  | nil => exact (mth_nil nd e0).symm
  | cons b l ps j hg hb hd =>
    refine tops_good nd e0 ps l hg b (by have := Nat.two_pow_pos j; omega) fun x hx => ?_
    have := hd x hx
    omega
/-! Paths -/
/-- From the top down: does one go to the right? -/
def dirs (i n : Nat) : List Bool :=
  if _h : 2 ≤ n then (if i < hf n then false :: dirs i (hf n) else true :: dirs (i - hf n) (n - hf n)) else []
termination_by n
decreasing_by
  · exact hf_lt n _h
  · have := hf_pos n; omega
theorem dirs_one (i n : Nat) (h : ¬ 2 ≤ n) : dirs i n = [] := by rw [dirs, dif_neg h]
theorem dirs_left (i n : Nat) (h : 2 ≤ n) (hi : i < hf n) : dirs i n = false :: dirs i (hf n) := by rw [dirs, dif_pos h, if_pos hi]
theorem dirs_right (i n : Nat) (h : 2 ≤ n) (hi : ¬ i < hf n) : dirs i n = true :: dirs (i - hf n) (n - hf n) := by rw [dirs, dif_pos h, if_neg hi]
/-- The lowest level of a path. -/
theorem dirs_low (n : Nat) : ∀ i, i < n → 2 ≤ n → dirs i n = dirs (i / 2) ((n + 1) / 2) ++ (if i % 2 = 0 ∧ i + 1 = n then [] else [decide (i % 2 = 1)]) := by
  induction n using Nat.strongRecOn with
  | _ n ih =>
    intro i hi hn
    by_cases h2 : n = 2
    · subst h2
      have : i = 0 ∨ i = 1 := by omega
      rcases this with rfl | rfl
      · rw [dirs_left 0 2 (by decide) (by decide), dirs_one 0 (hf 2) (by decide), dirs_one _ _ (by decide)]; rfl
      · rw [dirs_right 1 2 (by decide) (by decide), dirs_one _ _ (by decide), dirs_one _ _ (by decide)]; rfl
    · have hs := hf_step n (by omega)
      have hlt := hf_lt n hn
      have hge := hf_ge n
      have hp := hf_pos ((n + 1) / 2)
      generalize hK : hf ((n + 1) / 2) = K at *
      by_cases hik : i < hf n
      · rw [dirs_left i n hn hik, dirs_left (i / 2) ((n + 1) / 2) (by omega) (by rw [hK]; omega), ih (hf n) hlt i hik (by omega), hK]
        rw [if_neg (by omega), if_neg (by omega), show (hf n + 1) / 2 = K by omega]
        rfl
      · rw [dirs_right i n hn hik, dirs_right (i / 2) ((n + 1) / 2) (by omega) (by rw [hK]; omega), hK]
        by_cases h1 : n - hf n = 1
        · rw [h1, dirs_one _ 1 (by decide), dirs_one _ _ (by omega), if_pos (by omega)]
          rfl
        · rw [ih (n - hf n) (by omega) (i - hf n) (by omega) (by omega)]
          rw [show (i - hf n) / 2 = i / 2 - K by omega, show (n - hf n + 1) / 2 = (n + 1) / 2 - K by omega, show (i - hf n) % 2 = i % 2 by omega]
          by_cases hc : i % 2 = 0 ∧ i + 1 = n
          · rw [if_pos hc, if_pos (by omega)]; rfl
          · rw [if_neg hc, if_neg (by omega)]; rfl
/-- The climber strips levels where it stands alone. -/
def strip : Nat → Nat → Nat → Nat × Nat
  | 0, a, b => (a, b)
  | f + 1, a, b => if a ≠ 0 ∧ a % 2 = 0 then strip f (a / 2) (b / 2) else (a, b)
/-- One level up. -/
def next (a b : Nat) : Nat × Nat := if a % 2 = 0 ∧ a = b then ((strip a a b).1 / 2, (strip a a b).2 / 2) else (a / 2, b / 2)
def right (a b : Nat) : Bool := decide (a % 2 = 1) || decide (a = b)
theorem strip_eq (f a b : Nat) (h : a = b) : (strip f a b).1 = (strip f a b).2 ∧ (strip f a b).1 ≤ a ∧ (strip f a b).2 ≤ b := by
  induction f generalizing a b with
  | zero => exact ⟨h, Nat.le_refl _, Nat.le_refl _⟩
  | succ f ih =>
    rw [strip]
    split
    · obtain ⟨h1, h2, h3⟩ := ih (a / 2) (b / 2) (by rw [h])
      exact ⟨h1, by omega, by omega⟩
    · exact ⟨h, Nat.le_refl _, Nat.le_refl _⟩
theorem strip_dirs (f a : Nat) (hf : a ≤ f) (h0 : a ≠ 0) : (strip f a a).1 % 2 = 1 ∧ (strip f a a).1 = (strip f a a).2 ∧ dirs a (a + 1) = dirs (strip f a a).1 ((strip f a a).1 + 1) := by
  induction f generalizing a with
  | zero => omega
  | succ f ih =>
    rw [strip]
    by_cases h : a % 2 = 0
    · rw [if_pos ⟨h0, h⟩]
      obtain ⟨h1, h2, h3⟩ := ih (a / 2) (by omega) (by omega)
      refine ⟨h1, h2, ?_⟩
      rw [dirs_low (a + 1) a (by omega) (by omega), if_pos ⟨h, rfl⟩, List.append_nil, show (a + 1 + 1) / 2 = a / 2 + 1 by omega, h3]
    · rw [if_neg (by omega)]
      exact ⟨by omega, rfl, rfl⟩
theorem next_lt (a b : Nat) (hb : b ≠ 0) : (next a b).2 < b := by
  unfold next
  split
  · rename_i h
    obtain ⟨h1, h2, h3⟩ := strip_eq a a b h.2
    show (strip a a b).2 / 2 < b
    omega
  · show b / 2 < b
    omega
theorem next_le (a b : Nat) (h : a ≤ b) : (next a b).1 ≤ (next a b).2 := by
  unfold next
  split
  · rename_i hc
    obtain ⟨h1, h2, h3⟩ := strip_eq a a b hc.2
    show (strip a a b).1 / 2 ≤ (strip a a b).2 / 2
    omega
  · show a / 2 ≤ b / 2
    omega
/-- What the climber takes, from the leaf on. -/
def climb (a b : Nat) : List Bool :=
  if _h : b = 0 then [] else right a b :: climb (next a b).1 (next a b).2
termination_by b
decreasing_by exact next_lt a b _h
theorem climb_zero (a : Nat) : climb a 0 = [] := by rw [climb, dif_pos rfl]
theorem climb_next (a b : Nat) (h : b ≠ 0) : climb a b = right a b :: climb (next a b).1 (next a b).2 := by rw [climb, dif_neg h]
theorem climb_dirs (b : Nat) : ∀ a, a ≤ b → climb a b = (dirs a (b + 1)).reverse := by
  induction b using Nat.strongRecOn with
  | _ b ih =>
    intro a hab
    by_cases hb : b = 0
    · subst hb
      rw [climb_zero, dirs_one _ _ (by decide)]; rfl
    · rw [climb_next a b hb, ih _ (next_lt a b hb) _ (next_le a b hab)]
      by_cases hc : a % 2 = 0 ∧ a = b
      · obtain ⟨hc1, rfl⟩ := hc
        obtain ⟨h1, h2, h3⟩ := strip_dirs a a (Nat.le_refl _) hb
        rw [h3]
        unfold next right
        rw [if_pos ⟨hc1, rfl⟩]
        generalize hs : strip a a a = s at *
        obtain ⟨s1, s2⟩ := s
        simp only at h1 h2 ⊢
        subst h2
        rw [dirs_low (s1 + 1) s1 (by omega) (by omega), if_neg (by omega), show (s1 + 1 + 1) / 2 = s1 / 2 + 1 by omega, List.reverse_append]
        simp [h1]
      · unfold next right
        rw [if_neg hc, dirs_low (b + 1) a (by omega) (by omega), if_neg (by omega), show (b + 1 + 1) / 2 = b / 2 + 1 by omega, List.reverse_append]
        by_cases h1 : a % 2 = 1
        · simp [h1]
        · have h2 : a ≠ b := fun e => hc ⟨by omega, e⟩
          simp [h1, h2]
/-- A sum taken up along its directions. -/
def rise : List Bool → List α → α → α
  | d :: ds, x :: xs, s => rise ds xs (if d then nd x s else nd s x)
  | _, _, s => s
theorem rise_snoc (ds : List Bool) (xs : List α) (d : Bool) (x s : α) (h : ds.length = xs.length) : rise nd (ds ++ [d]) (xs ++ [x]) s = if d then nd x (rise nd ds xs s) else nd (rise nd ds xs s) x := by
  induction ds generalizing xs s with
  | nil => cases xs with
    | nil => rfl
    | cons y ys => simp at h
  | cons e ds ih => cases xs with
    | nil => simp at h
    | cons y ys => simp only [List.cons_append, rise]; exact ih ys _ (by simpa using h)
/-- What the document's up answers: p lies with the top last. -/
def up (s : α) (i n : Nat) (p : List α) (bad : α) : α × Bool :=
  if _h : 2 ≤ n then
    match p.getLast? with
    | none => (bad, false)
    | some x => if i < hf n then (nd (up s i (hf n) p.dropLast bad).1 x, (up s i (hf n) p.dropLast bad).2) else (nd x (up s (i - hf n) (n - hf n) p.dropLast bad).1, (up s (i - hf n) (n - hf n) p.dropLast bad).2)
  else (s, decide (p = []))
termination_by n
decreasing_by
  all_goals (first | exact hf_lt n _h | (have := hf_pos n; omega))
theorem up_ok (n : Nat) : ∀ (s : α) (i : Nat) (p : List α) (bad : α), (up nd s i n p bad).2 = decide (p.length = (dirs i n).length) ∧ (p.length = (dirs i n).length → (up nd s i n p bad).1 = rise nd (dirs i n).reverse p s) := by
  induction n using Nat.strongRecOn with
  | _ n ih =>
    intro s i p bad
    by_cases hn : 2 ≤ n
    · rw [up, dif_pos hn]
      rcases snoc p with rfl | ⟨q, x, rfl⟩
      · by_cases hi : i < hf n
        · rw [dirs_left i n hn hi]; simp
        · rw [dirs_right i n hn hi]; simp
      · simp only [List.getLast?_append, List.getLast?_singleton, List.dropLast_concat, Option.some_or]
        by_cases hi : i < hf n
        · rw [if_pos hi, dirs_left i n hn hi]
          obtain ⟨h1, h2⟩ := ih (hf n) (hf_lt n hn) s i q bad
          refine ⟨by rw [h1]; simp, fun hl => ?_⟩
          have hl' : q.length = (dirs i (hf n)).length := by simpa using hl
          rw [List.reverse_cons, rise_snoc _ _ _ _ _ _ (by simpa using hl'.symm), h2 hl']
          rfl
        · rw [if_neg hi, dirs_right i n hn hi]
          obtain ⟨h1, h2⟩ := ih (n - hf n) (by have := hf_pos n; omega) s (i - hf n) q bad
          refine ⟨by rw [h1]; simp, fun hl => ?_⟩
          have hl' : q.length = (dirs (i - hf n) (n - hf n)).length := by simpa using hl
          rw [List.reverse_cons, rise_snoc _ _ _ _ _ _ (by simpa using hl'.symm), h2 hl']
          rfl
    · rw [up, dif_neg hn, dirs_one i n hn]
      refine ⟨by cases p <;> simp, fun hl => ?_⟩
      cases p with
      | nil => rfl
      | cons x xs => simp at hl
/-- The document's path of i in all. -/
def path (l : List α) (i : Nat) : List α :=
  if _h : 2 ≤ l.length then (if i < hf l.length then path (l.take (hf l.length)) i ++ [mth nd e0 (l.drop (hf l.length))] else path (l.drop (hf l.length)) (i - hf l.length) ++ [mth nd e0 (l.take (hf l.length))]) else []
termination_by l.length
decreasing_by
  · have := hf_lt _ _h; simp; omega
  · have := hf_pos l.length; simp; omega
theorem path_one (l : List α) (i : Nat) (h : ¬ 2 ≤ l.length) : path nd e0 l i = [] := by rw [path, dif_neg h]
theorem path_left (l : List α) (i : Nat) (h : 2 ≤ l.length) (hi : i < hf l.length) : path nd e0 l i = path nd e0 (l.take (hf l.length)) i ++ [mth nd e0 (l.drop (hf l.length))] := by rw [path, dif_pos h, if_pos hi]
theorem path_right (l : List α) (i : Nat) (h : 2 ≤ l.length) (hi : ¬ i < hf l.length) : path nd e0 l i = path nd e0 (l.drop (hf l.length)) (i - hf l.length) ++ [mth nd e0 (l.take (hf l.length))] := by rw [path, dif_pos h, if_neg hi]
/-- What an honest path gives. -/
theorem up_path (n : Nat) : ∀ (l : List α) (i : Nat) (s bad : α), l.length = n → l[i]? = some s → up nd s i n (path nd e0 l i) bad = (mth nd e0 l, true) := by
  induction n using Nat.strongRecOn with
  | _ n ih =>
    intro l i s bad hl hs
    have hil : i < l.length := (List.getElem?_eq_some_iff.1 hs).1
    by_cases hn : 2 ≤ n
    · have h1 := hf_lt n hn
      have h2 := hf_pos n
      rw [up, dif_pos hn]
      by_cases hi : i < hf n
      · rw [path_left nd e0 l i (by omega) (by rw [hl]; exact hi), hl]
        simp only [List.getLast?_append, List.getLast?_singleton, List.dropLast_concat, Option.some_or]
        rw [if_pos hi, ih (hf n) h1 (l.take (hf n)) i s bad (by simp; omega) (by rw [List.getElem?_take, if_pos hi]; exact hs), mth_big nd e0 l (by omega), hl]
      · rw [path_right nd e0 l i (by omega) (by rw [hl]; exact hi), hl]
        simp only [List.getLast?_append, List.getLast?_singleton, List.dropLast_concat, Option.some_or]
        rw [if_neg hi, ih (n - hf n) (by omega) (l.drop (hf n)) (i - hf n) s bad (by simp; omega) (by rw [List.getElem?_drop, show hf n + (i - hf n) = i by omega]; exact hs), mth_big nd e0 l (by omega), hl]
    · rw [up, dif_neg hn, path_one nd e0 l i (by omega)]
      match l, hl, hs, hil with
      | [x], _, hs, hil =>
        obtain rfl : i = 0 := by simpa using hil
        cases hs
        rw [mth_one]; rfl
      | [], _, _, hil => simp at hil
      | _ :: _ :: _, hl, _, _ => simp at hl; omega
/-! Beginnings -/
def cdr (m n : Nat) : List Bool :=
  if _h : m < n ∧ 1 ≤ m then (if m ≤ hf n then false :: cdr m (hf n) else true :: cdr (m - hf n) (n - hf n)) else []
termination_by n
decreasing_by
  · exact hf_lt n (by omega)
  · have := hf_pos n; omega
theorem cdr_all (m n : Nat) (h : ¬ (m < n ∧ 1 ≤ m)) : cdr m n = [] := by rw [cdr, dif_neg h]
theorem cdr_left (m n : Nat) (h : m < n) (h1 : 1 ≤ m) (hi : m ≤ hf n) : cdr m n = false :: cdr m (hf n) := by rw [cdr, dif_pos ⟨h, h1⟩, if_pos hi]
theorem cdr_right (m n : Nat) (h : m < n) (h1 : 1 ≤ m) (hi : ¬ m ≤ hf n) : cdr m n = true :: cdr (m - hf n) (n - hf n) := by rw [cdr, dif_pos ⟨h, h1⟩, if_neg hi]
theorem cdr_odd (n : Nat) : ∀ m, m < n → m % 2 = 1 → cdr m n = dirs (m - 1) n := by
  induction n using Nat.strongRecOn with
  | _ n ih =>
    intro m hm ho
    have h1 := hf_lt n (by omega)
    have h2 := hf_ge n
    by_cases hk : m ≤ hf n
    · rw [cdr_left m n hm (by omega) hk, dirs_left _ n (by omega) (by omega)]
      by_cases he : m = hf n
      · have h3 : n = 2 := by
          by_cases h3 : 3 ≤ n
          · have := hf_step n h3; omega
          · omega
        subst h3
        obtain rfl : m = 1 := by omega
        rw [cdr_all _ _ (by rw [hf_two]; omega), dirs_one _ _ (by rw [hf_two]; omega)]
      · rw [ih (hf n) h1 m (by omega) ho]
    · have hs := hf_step n (by omega)
      rw [cdr_right m n hm (by omega) hk, dirs_right _ n (by omega) (by omega), ih (n - hf n) (by have := hf_pos n; omega) (m - hf n) (by omega) (by omega), show m - hf n - 1 = m - 1 - hf n by omega]
theorem cdr_even (n : Nat) : ∀ m, m < n → 1 ≤ m → m % 2 = 0 → cdr m n = cdr (m / 2) ((n + 1) / 2) := by
  induction n using Nat.strongRecOn with
  | _ n ih =>
    intro m hm h0 he
    have h1 := hf_lt n (by omega)
    have h2 := hf_ge n
    have hs := hf_step n (by omega)
    have hp := hf_pos ((n + 1) / 2)
    generalize hK : hf ((n + 1) / 2) = K at *
    by_cases hk : m ≤ hf n
    · rw [cdr_left m n hm h0 hk, cdr_left (m / 2) _ (by omega) (by omega) (by rw [hK]; omega), hK]
      by_cases hek : m = hf n
      · rw [cdr_all _ _ (by omega), cdr_all _ _ (by omega)]
      · rw [ih (hf n) h1 m (by omega) h0 he, show (hf n + 1) / 2 = K by omega]
    · rw [cdr_right m n hm h0 hk, cdr_right (m / 2) _ (by omega) (by omega) (by rw [hK]; omega), hK, ih (n - hf n) (by omega) (m - hf n) (by omega) (by omega) (by omega)]
      rw [show (m - hf n) / 2 = m / 2 - K by omega, show (n - hf n + 1) / 2 = (n + 1) / 2 - K by omega]
/-- The climber's beginning: trailing ones are stripped. -/
def ones : Nat → Nat → Nat → Nat × Nat
  | 0, a, b => (a, b)
  | f + 1, a, b => if a % 2 = 1 then ones f (a / 2) (b / 2) else (a, b)
theorem ones_cdr (f m n : Nat) (hf : m ≤ f + 1) (h1 : 1 ≤ m) (hm : m < n) : (cdr m n).reverse = climb (ones f (m - 1) (n - 1)).1 (ones f (m - 1) (n - 1)).2 := by
  induction f generalizing m n with
  | zero =>
    obtain rfl : m = 1 := by omega
    show _ = climb 0 (n - 1)
    rw [climb_dirs _ _ (by omega), cdr_odd n 1 hm rfl, show n - 1 + 1 = n by omega]
  | succ f ih =>
    rw [ones]
    by_cases ho : m % 2 = 1
    · rw [if_neg (by omega)]
      show _ = climb (m - 1) (n - 1)
      rw [climb_dirs _ _ (by omega), cdr_odd n m hm ho, show n - 1 + 1 = n by omega]
    · rw [if_pos (by omega), cdr_even n m hm h1 (by omega), ih (m / 2) ((n + 1) / 2) (by omega) (by omega) (by omega), show (m - 1) / 2 = m / 2 - 1 by omega, show (n - 1) / 2 = (n + 1) / 2 - 1 by omega]
theorem ones_le (f a b : Nat) (h : a ≤ b) : (ones f a b).1 ≤ (ones f a b).2 := by
  induction f generalizing a b with
  | zero => exact h
  | succ f ih =>
    rw [ones]
    split
    · exact ih _ _ (by omega)
    · exact h
/-- A power of two. -/
def pow2 (m : Nat) : Bool := decide (m &&& (m - 1) = 0)
theorem dirs_false (n : Nat) : ∀ i, i < n → ((dirs i n).all (!·) = decide (i = 0)) := by
  induction n using Nat.strongRecOn with
  | _ n ih =>
    intro i hi
    by_cases hn : 2 ≤ n
    · have h1 := hf_lt n hn
      by_cases hik : i < hf n
      · rw [dirs_left i n hn hik, List.all_cons, ih _ h1 i hik]; rfl
      · have := hf_pos n
        rw [dirs_right i n hn hik]
        simp
        omega
    · obtain rfl : i = 0 := by omega
      rw [dirs_one _ _ hn]; rfl
theorem and_pred_even (m : Nat) (h1 : 1 ≤ m) : (2 * m) &&& (2 * m - 1) = 2 * (m &&& (m - 1)) := by
  refine Nat.eq_of_testBit_eq fun i => ?_
  cases i with
  | zero => simp [Nat.testBit_zero]
  | succ i =>
    have e : ∀ x, Nat.testBit (2 * x) (i + 1) = Nat.testBit x i := fun x => by rw [Nat.testBit_succ]; congr 1; omega
    have e2 : Nat.testBit (2 * m - 1) (i + 1) = Nat.testBit (m - 1) i := by rw [Nat.testBit_succ]; congr 1; omega
    rw [Nat.testBit_and, e, e2, e, Nat.testBit_and]
theorem and_pred_odd (m : Nat) (h : m % 2 = 1) : m &&& (m - 1) = m - 1 := by
  refine Nat.eq_of_testBit_eq fun i => ?_
  cases i with
  | zero =>
    rw [Nat.testBit_and]
    have : (m - 1) % 2 = 0 := by omega
    simp [Nat.testBit_zero, this]
  | succ i =>
    rw [Nat.testBit_and, Nat.testBit_succ, Nat.testBit_succ, show (m - 1) / 2 = m / 2 by omega, Bool.and_self]
theorem cdr_false (m : Nat) : ∀ n, m < n → 1 ≤ m → (cdr m n).all (!·) = pow2 m := by
  induction m using Nat.strongRecOn with
  | _ m ih =>
    intro n hm h1
    unfold pow2
    by_cases ho : m % 2 = 1
    · rw [cdr_odd n m hm ho, dirs_false n _ (by omega), and_pred_odd m ho]
    · rw [cdr_even n m hm h1 (by omega), ih (m / 2) (by omega) _ (by omega) (by omega)]
      have := and_pred_even (m / 2) (by omega)
      rw [show 2 * (m / 2) = m by omega] at this
      unfold pow2
      rw [this, decide_eq_decide]
      omega
/-- Two sums taken up: of the beginning, of all. -/
def rises : List Bool → List α → α × α → α × α
  | d :: ds, x :: xs, s => rises ds xs (if d then (nd x s.1, nd x s.2) else (s.1, nd s.2 x))
  | _, _, s => s
theorem rises_snoc (ds : List Bool) (xs : List α) (d : Bool) (x : α) (s : α × α) (h : ds.length = xs.length) : rises nd (ds ++ [d]) (xs ++ [x]) s = if d then (nd x (rises nd ds xs s).1, nd x (rises nd ds xs s).2) else ((rises nd ds xs s).1, nd (rises nd ds xs s).2 x) := by
  induction ds generalizing xs s with
  | nil => cases xs with
    | nil => rfl
    | cons y ys => simp at h
  | cons e ds ih => cases xs with
    | nil => simp at h
    | cons y ys => simp only [List.cons_append, rises]; exact ih ys _ (by simpa using h)
/-- The document's both. -/
def both (m n : Nat) (p : List α) (first : Bool) (old bad : α) : α × α × Bool :=
  if _h : m < n ∧ 1 ≤ m then
    match p.getLast? with
    | none => (bad, bad, false)
    | some x =>
      if m ≤ hf n then
        let t := both m (hf n) p.dropLast first old bad
        (t.1, nd t.2.1 x, t.2.2)
      else
        let t := both (m - hf n) (n - hf n) p.dropLast false old bad
        (nd x t.1, nd x t.2.1, t.2.2)
  else bif first then (old, old, decide (p = [])) else if p.length = 1 then (p.headD bad, p.headD bad, true) else (bad, bad, false)
termination_by n
decreasing_by
  · exact hf_lt n (by omega)
  · have := hf_pos n; omega
def start (f : Bool) (old : α) (p : List α) : List α := bif f then old :: p else p
theorem both_ok (n : Nat) : ∀ (m : Nat) (p : List α) (first : Bool) (old bad : α),
    (both nd m n p first old bad).2.2 = decide ((start (first && (cdr m n).all (!·)) old p).length = (cdr m n).length + 1) ∧
    (∀ x q, start (first && (cdr m n).all (!·)) old p = x :: q → q.length = (cdr m n).length → ((both nd m n p first old bad).1, (both nd m n p first old bad).2.1) = rises nd (cdr m n).reverse q (x, x)) := by
  induction n using Nat.strongRecOn with
  | _ n ih =>
    intro m p first old bad
    by_cases hn : m < n ∧ 1 ≤ m
    · rw [both, dif_pos hn]
      by_cases hi : m ≤ hf n
      · rw [cdr_left m n hn.1 hn.2 hi]
        rcases snoc p with rfl | ⟨q, x, rfl⟩
        · simp only [List.getLast?_nil, List.all_cons, Bool.not_false, Bool.true_and]
          generalize (first && (cdr m (hf n)).all fun x => !x) = f
          cases f
          · exact ⟨by simp [start], fun x q h => by simp [start] at h⟩
          · refine ⟨by simp [start], fun x q h hq => ?_⟩
            simp only [start, cond_true, List.cons.injEq] at h
            rw [← h.2] at hq
            simp at hq
        · simp only [List.getLast?_append, List.getLast?_singleton, List.dropLast_concat, Option.some_or, if_pos hi, List.all_cons, Bool.not_false, Bool.true_and]
          obtain ⟨h1, h2⟩ := ih (hf n) (hf_lt n (by omega)) m q first old bad
          have hst : start (first && (cdr m (hf n)).all fun x => !x) old (q ++ [x]) = start (first && (cdr m (hf n)).all fun x => !x) old q ++ [x] := by
            unfold start
            cases (first && (cdr m (hf n)).all fun x => !x) <;> rfl
          refine ⟨by rw [h1, hst]; simp, fun y r h hr => ?_⟩
          rw [hst] at h
          rcases snoc r with rfl | ⟨r', z, rfl⟩
          · simp at hr
          · have hl : r'.length = (cdr m (hf n)).length := by simpa using hr
            rw [show y :: (r' ++ [z]) = (y :: r') ++ [z] from rfl] at h
            obtain ⟨ha, hb⟩ := List.append_inj' h rfl
            cases hb
            have h3 := h2 y r' ha hl
            rw [List.reverse_cons, rises_snoc _ _ _ _ _ _ (by simpa using hl.symm), ← h3]
            rfl
      · rw [cdr_right m n hn.1 hn.2 hi]
        rcases snoc p with rfl | ⟨q, x, rfl⟩
        · simp only [List.getLast?_nil, List.all_cons, Bool.not_true, Bool.false_and, Bool.and_false]
          exact ⟨by simp [start], fun x q h => by simp [start] at h⟩
        · simp only [List.getLast?_append, List.getLast?_singleton, List.dropLast_concat, Option.some_or, if_neg hi, List.all_cons, Bool.not_true, Bool.false_and, Bool.and_false]
          obtain ⟨h1, h2⟩ := ih (n - hf n) (by have := hf_pos n; omega) (m - hf n) q false old bad
          simp only [Bool.false_and] at h1 h2
          refine ⟨by rw [h1, decide_eq_decide]; simp only [start, cond_false, List.length_append, List.length_cons, List.length_nil]; omega, fun y r h hr => ?_⟩
          simp only [start, cond_false] at h h2
          rcases snoc r with rfl | ⟨r', z, rfl⟩
          · simp at hr
          · have hl : r'.length = (cdr (m - hf n) (n - hf n)).length := by simpa using hr
            rw [show y :: (r' ++ [z]) = (y :: r') ++ [z] from rfl] at h
            obtain ⟨ha, hb⟩ := List.append_inj' h rfl
            cases hb
            have h3 := h2 y r' ha hl
            rw [List.reverse_cons, rises_snoc _ _ _ _ _ _ (by simpa using hl.symm), ← h3]
            rfl
    · rw [both, dif_neg hn, cdr_all m n hn]
      cases first
      · refine ⟨?_, fun x q h hq => ?_⟩
        · match p with
          | [] => rfl
          | [x] => rfl
          | _ :: _ :: _ => simp [start]
        · simp only [start, Bool.false_and, cond_false] at h
          subst h
          obtain rfl : q = [] := by cases q with
            | nil => rfl
            | cons _ _ => simp at hq
          rfl
      · refine ⟨?_, fun x q h hq => ?_⟩
        · cases p <;> simp [start]
        · simp only [start, List.all_nil, Bool.and_self, cond_true, List.cons.injEq] at h
          obtain ⟨rfl, rfl⟩ := h
          rfl
/-- The document's way of a beginning. -/
def sub (l : List α) (m : Nat) (first : Bool) : List α :=
  if _h : m < l.length ∧ 1 ≤ m then (if m ≤ hf l.length then sub (l.take (hf l.length)) m first ++ [mth nd e0 (l.drop (hf l.length))] else sub (l.drop (hf l.length)) (m - hf l.length) false ++ [mth nd e0 (l.take (hf l.length))])
  else bif first then [] else [mth nd e0 l]
termination_by l.length
decreasing_by
  · have := hf_lt l.length (by omega); simp; omega
  · have := hf_pos l.length; simp; omega
theorem both_sub (n : Nat) : ∀ (l : List α) (m : Nat) (first : Bool) (old bad : α), l.length = n → 1 ≤ m → m ≤ n → (first = true → old = mth nd e0 (l.take m)) →
    both nd m n (sub nd e0 l m first) first old bad = (mth nd e0 (l.take m), mth nd e0 l, true) := by
  induction n using Nat.strongRecOn with
  | _ n ih =>
    intro l m first old bad hl h1 hm hold
    by_cases hn : m < n
    · have h2 := hf_lt n (by omega)
      have h3 := hf_ge n
      have h4 := hf_pos n
      rw [both, dif_pos ⟨hn, h1⟩, sub, dif_pos ⟨by omega, h1⟩, hl]
      by_cases hi : m ≤ hf n
      · rw [if_pos hi]
        simp only [List.getLast?_append, List.getLast?_singleton, List.dropLast_concat, Option.some_or, if_pos hi]
        have hx := ih (hf n) h2 (l.take (hf n)) m first old bad (by simp; omega) h1 hi (by rw [List.take_take, Nat.min_eq_left hi]; exact hold)
        rw [hx, List.take_take, Nat.min_eq_left hi, mth_big nd e0 l (by omega), hl]
      · rw [if_neg hi]
        simp only [List.getLast?_append, List.getLast?_singleton, List.dropLast_concat, Option.some_or, if_neg hi]
        have hx := ih (n - hf n) (by omega) (l.drop (hf n)) (m - hf n) false old bad (by simp; omega) (by omega) (by omega) (fun h => by cases h)
        rw [hx, mth_big nd e0 l (by omega), hl]
        have e : l.take m = l.take (hf n) ++ (l.drop (hf n)).take (m - hf n) := by
          conv => lhs; rw [show m = hf n + (m - hf n) by omega]
          rw [List.take_add]
        have h5 : mth nd e0 (l.take m) = nd (mth nd e0 (l.take (hf n))) (mth nd e0 ((l.drop (hf n)).take (m - hf n))) := by
          rw [e]
          exact mth_split nd e0 _ _ (Nat.log2 (n - 1)) (by rw [List.length_take]; show min (hf n) _ = hf n; omega) (by rw [List.length_take, List.length_drop]; omega) (by rw [List.length_take, List.length_drop]; show min (m - hf n) _ ≤ hf n; omega)
        rw [h5]
    · obtain rfl : m = n := by omega
      rw [both, dif_neg (by omega), sub, dif_neg (by omega), ← hl, List.take_length]
      rw [← hl, List.take_length] at hold
      cases first
      · rfl
      · rw [cond_true, cond_true, hold rfl]; rfl
end
end Rfc
end Go.Proofs.YtmonkggoilhngaaGreatDoor
/- The walks of rfclog.EntrySum, node, half. -/
namespace Go.Proofs.YtmonkggoilhngaaGreatDoor
open Go.RowKit Bits Mem Sha
namespace Ref
theorem z32r : (#[.int .u8 0, .int .u8 0, .int .u8 0, .int .u8 0, .int .u8 0, .int .u8 0, .int .u8 0, .int .u8 0, .int .u8 0, .int .u8 0, .int .u8 0, .int .u8 0, .int .u8 0, .int .u8 0, .int .u8 0, .int .u8 0, .int .u8 0, .int .u8 0, .int .u8 0, .int .u8 0, .int .u8 0, .int .u8 0, .int .u8 0, .int .u8 0, .int .u8 0, .int .u8 0, .int .u8 0, .int .u8 0, .int .u8 0, .int .u8 0, .int .u8 0, .int .u8 0] : Array Value) = bysA zeros32 := rfl
/-- The sums of the log. -/
def nodeS (a b : List UInt8) : List UInt8 := sha (1 :: (a ++ b))
def leafS (l : List UInt8) : List UInt8 := sha (0 :: l)
theorem nodeS_length (a b : List UInt8) : (nodeS a b).length = 32 := sha_length _
theorem leafS_length (l : List UInt8) : (leafS l).length = 32 := sha_length _
def treeS (L : List (List UInt8)) : List UInt8 := Rfc.mth nodeS (sha []) L
theorem treeS_length (L : List (List UInt8)) (h : ∀ x ∈ L, x.length = 32) : (treeS L).length = 32 := by
  unfold treeS
  rw [Rfc.mth]
  split
  · exact nodeS_length _ _
  · match L, h with
    | [], _ => exact sha_length _
    | x :: _, h => exact h x (List.mem_cons_self)
theorem Rp3.row {w : World} {g n : Nat} {l : List UInt8} {t : TypeId} {f : Nat × Nat} (h : w.heap[g]? = some (.cells (bysA l) t f)) (hn : l.length = n) (hm : n ≤ maxLen) : Rd w 1 (.slice (some ⟨g, 0, none⟩) n n) n (bys l) := by
  subst hn
  refine ⟨by rw [bys_length]; omega, .inr ⟨g, 0, l.length, rfl, lt_of_heap h, Nat.le_refl _, hm, fun j u hu => ?_⟩⟩
  rw [Nat.zero_add, cell_of_row w g j _ _ _ h]
  simpa [bysA] using hu
theorem Rp3.lit2 (w : World) (a b : List UInt8) (x y : Value) (hx : ∃ q c, x = .slice q a.length c ∧ Rd w 1 (.slice q a.length c) a.length (bys a)) (hy : ∃ q c, y = .slice q b.length c ∧ Rd w 1 (.slice q b.length c) b.length (bys b)) :
    Parts (w.alloc (.cells #[x, y] 23)) (.slice (some ⟨w.heap.size, 0, none⟩) 2 2) [a, b] := by
  have hb : Below w.heap.size w (w.alloc (.cells #[x, y] 23)) := (Below.refl _ _).alloc (Nat.le_refl _) _
  refine ⟨[x, y], Rd_lit w #[x, y] 23 1 2 rfl (by decide), fun i hi => ?_⟩
  obtain ⟨q, c, rfl, hx⟩ := hx
  obtain ⟨q', c', rfl, hy⟩ := hy
  match i, hi with
  | 0, _ => exact ⟨q, c, rfl, hx.below hb⟩
  | 1, _ => exact ⟨q', c', rfl, hy.below hb⟩
theorem Rp3.of3 {w : World} {v x y z : Value} {a b c : List UInt8} (h : Rd w 1 v 3 [x, y, z]) (hx : ∃ q c, x = .slice q a.length c ∧ Rd w 1 (.slice q a.length c) a.length (bys a)) (hy : ∃ q c, y = .slice q b.length c ∧ Rd w 1 (.slice q b.length c) b.length (bys b)) (hz : ∃ q k, z = .slice q c.length k ∧ Rd w 1 (.slice q c.length k) c.length (bys c)) : Parts w v [a, b, c] := by
  refine ⟨[x, y, z], h, fun i hi => ?_⟩
  obtain ⟨q, k, rfl, hx⟩ := hx
  obtain ⟨q2, k2, rfl, hy⟩ := hy
  obtain ⟨q3, k3, rfl, hz⟩ := hz
  match i, hi with
  | 0, _ => exact ⟨_, _, rfl, hx⟩
  | 1, _ => exact ⟨_, _, rfl, hy⟩
  | 2, _ => exact ⟨_, _, rfl, hz⟩
set_option maxRecDepth 100000 in
set_option maxHeartbeats 4000000 in
theorem entrySum_any (q : Option Addr) (c : Nat) (l : List UInt8) (w : World) (hS : Sha.Tabs w) (hl : Rd w 1 (.slice q l.length c) l.length (bys l)) (h : l.length ≤ 1000000) :
    Calls Tryz.prog 92 #[.slice q l.length c] w fun e w' => e = .returned (.agg (bysA (leafS l))) ∧ Below w.heap.size w w' := by
  have HS := Lib.hid hS
  have HL := Lib.hid hl
  clear hS hl
  go_enter Tryz.func92, Tryz.ntmps92
  go_wp2_with fail
  rw [z32r]
  have hrz : (w.alloc (.cells (bysA zeros32) 22)).heap[w.heap.size]? = some (.cells (bysA zeros32) 22 (0, 0)) := Rg.heap_alloc_at w _ _ rfl
  have hw1 : Below w.heap.size w (w.alloc (.cells (bysA zeros32) 22)) := (Below.refl _ _).alloc (Nat.le_refl _) _
  obtain ⟨w1, hw1e⟩ : ∃ w1, w1 = w.alloc (.cells (bysA zeros32) 22) := ⟨_, rfl⟩
  have hs1 : w1.heap.size = w.heap.size + 1 := by rw [hw1e]; simp
  rw [← hw1e] at hrz hw1
  rw [← hw1e]
  have hx2 : Below w1.heap.size w1 (w1.alloc (.cells #[.int .u8 0] 5)) := (Below.refl _ _).alloc (Nat.le_refl _) _
  have hr4 : Rd (w1.alloc (.cells #[.int .u8 0] 5)) 1 (.slice (some ⟨w1.heap.size, 0, none⟩) 1 1) 1 (bys [0]) := Rd_lit w1 #[.int .u8 0] 5 1 1 rfl (by decide)
  obtain ⟨w2, hw2e⟩ : ∃ w2, w2 = w1.alloc (.cells #[.int .u8 0] 5) := ⟨_, rfl⟩
  have hs2 : w2.heap.size = w.heap.size + 1 + 1 := by rw [hw2e, World.size_alloc, hs1]
  rw [← hw2e] at hx2 hr4
  rw [← hw2e, ← hs2, ← hs1]
  have h2 : Below w.heap.size w w2 := hw1.trans (hx2.mono hw1.size)
  have hp := Rp3.lit2 w2 [0] l _ _ ⟨_, _, rfl, hr4⟩ ⟨_, _, rfl, HL.out.below h2⟩
  have hx3 : Below w2.heap.size w2 (w2.alloc (.cells #[.slice (some ⟨w1.heap.size, 0, none⟩) 1 1, .slice q l.length c] 23)) := (Below.refl _ _).alloc (Nat.le_refl _) _
  have hs := parts_any _ _ [[0], l] _ (HS.out.below (h2.trans (hx3.mono h2.size))) hp (by simp; omega)
  rw [show [[0], l].flatten = 0 :: l from by simp] at hs
  have HB2 := Lib.hid h2
  have HX3 := Lib.hid hx3
  have HRZ := Lib.hid (Rp.row_le hx2 hrz)
  clear hw1e hw2e hs1 hs2 hp hrz hw1 hx2 hr4 h2 hx3
  refine hs.mono ?_
  clear hs
  rintro e w3 ⟨rfl, hb3⟩
  have h23 : Below w2.heap.size w2 w3 := HX3.out.trans (hb3.mono HX3.out.size)
  have HB3 := Lib.hid (HB2.out.trans (h23.mono HB2.out.size))
  have HRZ3 := Lib.hid (Rp.row_le h23 HRZ.out)
  have HM := Lib.hid (sha_length (0 :: l))
  obtain ⟨R, hR⟩ : ∃ R, R = sha (0 :: l) := ⟨_, rfl⟩
  rw [← hR] at HM ⊢
  have HRR : Hid (R = leafS l) := Lib.hid hR
  have HIM : Hid ((Tryz.prog.info? 22).map (·.size) = some (bysA R).size) := Lib.hid (by rw [bysA_size, HM.out]; exact info32)
  clear hR hb3 h23 HX3 HRZ
  go_wp2_with (refine Rg.store_row rfl 22 _ _ rfl w.heap.size rfl 22 (bysA zeros32) (bysA R) rfl HRZ3.out HIM.out (by rw [bysA_size, bysA_size, HM.out]; rfl) (bysA_one _) ?_)
  refine bodyPost_ret (v := .agg (bysA R)) (results_cell_row (P := Tryz.prog) rfl _ _ w.heap.size 22 (bysA R) (0, 0) _ rfl (setRow_heap _ _ _ _ 22 _ HRZ3.out) Tryz.underlying22 rfl HIM.out) rfl ⟨by rw [HRR.out], ?_⟩
  exact Rg.below_setRow HB3.out (Nat.le_refl _) _
set_option maxRecDepth 100000 in
set_option maxHeartbeats 4000000 in
theorem node_any (a b : List UInt8) (w : World) (hS : Sha.Tabs w) (ha : a.length = 32) (hb : b.length = 32) :
    Calls Tryz.prog 94 #[.agg (bysA a), .agg (bysA b)] w fun e w' => e = .returned (.agg (bysA (nodeS a b))) ∧ Below w.heap.size w w' := by
  obtain ⟨wz, hwz⟩ : ∃ wz, wz = ((w.alloc (.cells (bysA a) 22)).alloc (.cells (bysA b) 22)).alloc (.cells (bysA zeros32) 22) := ⟨_, rfl⟩
  have hbz : Below w.heap.size w wz := by rw [hwz]; exact (((Below.refl _ _).alloc (Nat.le_refl _) _).alloc (by simp) _).alloc (by simp; omega) _
  have hra : wz.heap[w.heap.size]? = some (.cells (bysA a) 22 (0, 0)) := by rw [hwz]; exact (Rg.heap_alloc_past _ _ _ (by simp; omega)).trans ((Rg.heap_alloc_past _ _ _ (by simp)).trans (Rg.heap_alloc_at w _ _ rfl))
  have hrb : wz.heap[w.heap.size + 1]? = some (.cells (bysA b) 22 (0, 0)) := by rw [hwz]; exact (Rg.heap_alloc_past _ _ _ (by simp)).trans (Rg.heap_alloc_at _ _ _ (by simp))
  have hrz : wz.heap[w.heap.size + 1 + 1]? = some (.cells (bysA zeros32) 22 (0, 0)) := by rw [hwz]; exact Rg.heap_alloc_at _ _ _ (by simp)
  have HS := Lib.hid hS
  have HA := Lib.hid ha
  have HB := Lib.hid hb
  have HWZ := Lib.hid hwz
  have HBZ := Lib.hid hbz
  have HRA := Lib.hid hra
  have HRB := Lib.hid hrb
  have HRZ := Lib.hid hrz
  obtain ⟨M, hM⟩ : ∃ M, M = nodeS a b := ⟨_, rfl⟩
  have HME := Lib.hid hM
  have HML : Hid (M.length = 32) := Lib.hid (by rw [hM]; exact nodeS_length a b)
  have HIM : Hid ((Tryz.prog.info? 22).map (·.size) = some (bysA M).size) := Lib.hid (by rw [bysA_size, HML.out]; exact info32)
  clear hS ha hb hwz hbz hra hrb hrz hM
  go_enter Tryz.func94, Tryz.ntmps94
  go_wp2_with fail
  rw [z32r, ← HWZ.out]
  refine Rc.region (wz.heap.size) 5 [Rc.F 0 (fun p => .slice p.q 1 1) (fun p _ y => Rd y 1 (.slice p.q 1 1) 1 (bys [1])), ⟨3, [0], [], some (fun _ pj => .slice pj.q 3 3), fun p pj _ y => Rd y 1 (.slice pj.q 3 3) 3 [.slice (p 0).q 1 1, .slice (some ⟨w.heap.size, 0, none⟩) 32 32, .slice (some ⟨w.heap.size + 1, 0, none⟩) 32 32]⟩, Rc.G 4 [0, 3] (fun _ => .agg (bysA M)) (fun _ _ _ => True)] [] (by kernel_rfl) (Nat.le_refl _) (by kernel_rfl) ?_; intro p; simp only [List.take, List.drop]
  refine Rc.fK rfl rfl rfl rfl ?_ ?_
  · intro x Fs hx hle hg K hK
    have hlit : Rd (x.alloc (.cells #[.int .u8 1] 5)) 1 (.slice (some ⟨x.heap.size, 0, none⟩) 1 1) 1 (bys [1]) := Rd_lit x #[.int .u8 1] 5 1 1 rfl (by decide)
    go_wp2_with fail
    exact hK ⟨some ⟨x.heap.size, 0, none⟩, 1, undef⟩ _ ((Below.refl _ _).alloc (Nat.le_refl _) _) fun F y hF hy => hlit.keeps hy (fun k hk => .inr (by cases hk; exact hF _ (Nat.le_refl _) (by simp)))
  intro K hK; go_simp; refine hK _ ?_; clear hK K
  iterate 2 (refine Rc.rK rfl rfl ?_; intro K hK; apply Exists.intro; refine ⟨?_, ?_⟩; (focus (intro x hx;  go_simp; (first | (fail) | ((try go_bits); (try go_simp); (try rfl))))); go_simp; refine hK _ ?_; clear hK K)
  refine Rc.fK rfl rfl rfl rfl ?_ ?_
  · intro x Fs hx hle hg K hK
    have hlit := Rd_lit x #[.slice (p 0).q 1 1, .slice (some ⟨w.heap.size, 0, none⟩) 32 32, .slice (some ⟨w.heap.size + 1, 0, none⟩) 32 32] 23 1 3 rfl (by decide)
    go_wp2_with fail
    exact hK ⟨some ⟨x.heap.size, 0, none⟩, 3, undef⟩ _ ((Below.refl _ _).alloc (Nat.le_refl _) _) fun F y hF hy => hlit.keeps hy (fun k hk => .inr (by cases hk; exact hF _ (Nat.le_refl _) (by simp)))
  intro K hK; go_simp; refine hK _ ?_; clear hK K
  refine Rc.fK rfl rfl rfl rfl ?_ ?_
  · intro x Fs hx hle hg K hK
    have hbx := HBZ.out.trans ((Rc.undrew hx).mono HBZ.out.size)
    have h0 : Rd x 1 (.slice (p 0).q 1 1) 1 (bys [1]) := hg.1
    have h3 : Rd x 1 (.slice (p 3).q 3 3) 3 [.slice (p 0).q 1 1, .slice (some ⟨w.heap.size, 0, none⟩) 32 32, .slice (some ⟨w.heap.size + 1, 0, none⟩) 32 32] := hg.2.1
    have hra := Rp3.row (Rp.row_le (Rc.undrew hx) HRA.out) HA.out (by decide)
    have hrb := Rp3.row (Rp.row_le (Rc.undrew hx) HRB.out) HB.out (by decide)
    have hpt : Parts x (.slice (p 3).q 3 3) [[1], a, b] := Rp3.of3 h3 ⟨_, _, rfl, h0⟩ ⟨_, _, by rw [HA.out], by rw [HA.out]; exact hra⟩ ⟨_, _, by rw [HB.out], by rw [HB.out]; exact hrb⟩
    have hof := parts_any (p 3).q 3 [[1], a, b] x (HS.out.below hbx) hpt (by simp [HA.out, HB.out])
    rw [show [[1], a, b].flatten = 1 :: (a ++ b) by simp] at hof
    have HOF := Lib.hid (show Calls Tryz.prog _ _ _ (fun e w' => e = .returned (.agg (bysA M)) ∧ Below x.heap.size x w') by rw [HME.out]; exact hof)
    clear hof hg h0 h3 hra hrb hpt
    go_wp2_with fail
    refine HOF.out.mono ?_
    rintro e x' ⟨rfl, hb⟩
    go_wp2_with fail
    exact hK Rc.dflt x' hb (fun _ _ _ _ => trivial)
  intro K hK; go_simp; refine hK _ ?_; clear hK K
  refine Rc.done fun x Fs hx hle hg => ?_
  have HRZX := Lib.hid (Rp.row_le (Rc.undrew hx) HRZ.out)
  have HBX := Lib.hid (HBZ.out.trans ((Rc.undrew hx).mono HBZ.out.size))
  clear hx hle hg
  go_wp2_with (refine Rg.store_row rfl 22 _ _ rfl (w.heap.size + 1 + 1) rfl 22 (bysA zeros32) (bysA M) rfl HRZX.out HIM.out (by rw [bysA_size, bysA_size, HML.out]; rfl) (bysA_one _) ?_)
  refine NoPanic.normal ?_
  go_wp2_with fail
  refine bodyPost_ret (v := .agg (bysA M)) (results_cell_row (P := Tryz.prog) rfl _ _ (w.heap.size + 1 + 1) 22 (bysA M) (0, 0) _ rfl (setRow_heap _ _ _ _ 22 _ HRZX.out) Tryz.underlying22 rfl HIM.out) rfl ⟨by rw [HME.out], ?_⟩
  exact Rg.below_setRow HBX.out (by omega) _
end Ref
end Go.Proofs.YtmonkggoilhngaaGreatDoor
/- The walk of rfclog.total. -/
namespace Go.Proofs.YtmonkggoilhngaaGreatDoor
open Go.RowKit Bits Mem Sha
namespace Rc
section
variable {P : Program} {ops : Array Oper} {Q : Exit → Act → World → Prop} {B : Nat} {w : World} {spec : List Sp} {fin : List Nat} {tail : List Oper} {p : Nat → Par} {j : Nat} {o : Oper} {r : List Oper} {a : Act}
/-- A value put together of known ones. -/
theorem r_build (hl : look spec j = none) (hw : Region.wanted o (yielded ops a.tmps) = true) (t : TypeId) (parts : Array (Nat × Operand)) (ho : o.op = .build t parts) (cs : Array Value)
    (hb : P.built t (parts.map fun (i, x) => (i, a.eval x)).toList = some cs)
    (h : ∀ K : Act → Prop, (∀ a, wpSeq P ops Q B w spec fin tail p (j + 1) r a → K a) → K (a.put o.dst (.agg cs))) : wpSeq P ops Q B w spec fin tail p j (o :: r) a :=
  r_run _ hl hw (fun x _ => by unfold execOp; simp only [ho, Sem.run_bind, run_build x t _ cs hb, Result.andThen_ok, Sem.run_pure]) h
end
end Rc
theorem l_build {P : Program} {ops : Array Oper} {Q : Exit → Act → World → Prop} {a : Act} {w : World} {o : Oper} {rest : List Oper} (hg : o.guard = none) (t : TypeId) (parts : Array (Nat × Operand)) (ho : o.op = .build t parts) (cs : Array Value)
    (hb : P.built t (parts.map fun (i, x) => (i, a.eval x)).toList = some cs) (h : wpList P ops Q rest (a.put o.dst (.agg cs)) w) : wpList P ops Q (o :: rest) a w :=
  wpList_plain hg fun K hK => by
    unfold Oper.wp execOp
    simp only [ho, Sem.run_bind, run_build w t _ cs hb, Result.andThen_ok, Sem.run_pure]
    exact hK _ _ h
namespace Ref
/-- A peak's cells. -/
def pkA (x : List UInt8 × Nat) : Array Value := bysA x.1 ++ #[.int .i64 (x.2 : Int)]
def pkc (x : List UInt8 × Nat) : List Value := (pkA x).toList
theorem pkA_size {x : List UInt8 × Nat} (h : x.1.length = 32) : (pkA x).size = 33 := by simp [pkA, bysA_size, h]
theorem pkc_length {x : List UInt8 × Nat} (h : x.1.length = 32) : (pkc x).length = 33 := by simp [pkc, pkA_size h]
theorem pkA_one (x : List UInt8 × Nat) : (pkA x).all (·.oneCell') = true := by
  simp only [pkA, Array.all_append, bysA_one, Bool.true_and]
  simp [Value.oneCell']
def pks (L : List (List UInt8 × Nat)) : List Value := (L.map pkc).flatten
def AllP (L : List (List UInt8 × Nat)) : Prop := ∀ x ∈ L, x.1.length = 32
theorem AllP.tail {x : List UInt8 × Nat} {L : List (List UInt8 × Nat)} (h : AllP (x :: L)) : AllP L := fun y hy => h y (List.mem_cons_of_mem _ hy)
theorem AllP.head {x : List UInt8 × Nat} {L : List (List UInt8 × Nat)} (h : AllP (x :: L)) : x.1.length = 32 := h x (List.mem_cons_self)
theorem AllP.cons {x : List UInt8 × Nat} {L : List (List UInt8 × Nat)} (hx : x.1.length = 32) (h : AllP L) : AllP (x :: L) := fun y hy => by
  rcases List.mem_cons.1 hy with rfl | hy
  · exact hx
  · exact h y hy
theorem AllP.rev {L : List (List UInt8 × Nat)} (h : AllP L) : AllP L.reverse := fun y hy => h y (List.mem_reverse.1 hy)
theorem pks_length : ∀ {L : List (List UInt8 × Nat)}, AllP L → (pks L).length = L.length * 33
  | [], _ => rfl
  | x :: L, h => by
    have := pks_length h.tail
    unfold pks at this ⊢
    rw [List.map_cons, List.flatten_cons, List.length_append, pkc_length h.head, this, List.length_cons]
    omega
theorem pks_append (L M : List (List UInt8 × Nat)) : pks (L ++ M) = pks L ++ pks M := by simp [pks]
theorem pks_get : ∀ {L : List (List UInt8 × Nat)} (k : Nat) (x : List UInt8 × Nat), AllP L → L[k]? = some x → ∀ j, j < 33 → (pks L)[k * 33 + j]? = (pkc x)[j]?
  | y :: L, 0, x, h, hx, j, hj => by
    obtain rfl : y = x := by simpa using hx
    unfold pks
    rw [List.map_cons, List.flatten_cons, Nat.zero_mul, Nat.zero_add, List.getElem?_append_left (by rw [pkc_length h.head]; exact hj)]
  | y :: L, k + 1, x, h, hx, j, hj => by
    have := pks_get k x h.tail (by simpa using hx) j hj
    unfold pks at this ⊢
    rw [List.map_cons, List.flatten_cons, List.getElem?_append_right (by rw [pkc_length h.head]; omega), pkc_length h.head, show (k + 1) * 33 + j - 33 = k * 33 + j by omega, this]
theorem pkc_size {x : List UInt8 × Nat} (h : x.1.length = 32) : (pkc x)[32]? = some (.int .i64 (x.2 : Int)) := by
  unfold pkc pkA
  rw [Array.toList_append, List.getElem?_append_right (by simp [bysA_size, h])]
  simp [bysA_size, h]
theorem pkA_get32 {x : List UInt8 × Nat} (h : x.1.length = 32) : (pkA x)[32]? = some (.int .i64 (x.2 : Int)) := by
  have := pkc_size h
  unfold pkc at this
  simpa using this
theorem pkc_sum (x : List UInt8 × Nat) (j : Nat) (h : x.1.length = 32) (hj : j < 32) : (pkc x)[j]? = (bys x.1)[j]? := by
  unfold pkc pkA
  rw [Array.toList_append, List.getElem?_append_left (by simp [bysA_size, h, hj])]
  simp [bysA]
theorem z33 : (#[.int .u8 0, .int .u8 0, .int .u8 0, .int .u8 0, .int .u8 0, .int .u8 0, .int .u8 0, .int .u8 0, .int .u8 0, .int .u8 0, .int .u8 0, .int .u8 0, .int .u8 0, .int .u8 0, .int .u8 0, .int .u8 0, .int .u8 0, .int .u8 0, .int .u8 0, .int .u8 0, .int .u8 0, .int .u8 0, .int .u8 0, .int .u8 0, .int .u8 0, .int .u8 0, .int .u8 0, .int .u8 0, .int .u8 0, .int .u8 0, .int .u8 0, .int .u8 0, .int .i64 0] : Array Value) = pkA (zeros32, 0) := rfl
theorem range_list (s : List UInt8) (h : s.length = 32) : (List.range 32).map (fun i => s.getD i 0) = s := by
  refine List.ext_getElem? fun j => ?_
  by_cases hj : j < 32
  · rw [List.getElem?_map, List.getElem?_range hj]
    simp [List.getElem?_eq_getElem (show j < s.length by omega)]
  · rw [List.getElem?_eq_none (by simp; omega), List.getElem?_eq_none (by omega)]
/-- A sum at the beginning of a peak's row. -/
theorem pk_sum {w : World} {g : Nat} {x : List UInt8 × Nat} {t : TypeId} {f : Nat × Nat} (h : w.heap[g]? = some (.cells (pkA x) t f)) (hx : x.1.length = 32) : (Instr.loadAt 22 (.pointer (some ⟨g, 0, none⟩))).run Tryz.prog w = .ok (.agg (bysA x.1)) w := by
  refine run_loadAt_mid w g 0 _ (bys x.1) _ (fun j v hv => ?_) Tryz.underlying22 rfl (by rw [bys_length, hx]; exact info32)
  have hj := (List.getElem?_eq_some_iff.1 hv).1
  rw [bys_length] at hj
  rw [cell_of_row w g _ _ _ _ h, Nat.zero_add, ← hv, ← pkc_sum x j hx (by omega)]
  unfold pkc
  simp
theorem Ow_cut {w : World} {base n k : Nat} {e : TypeId} {size : Nat} {q : Option Addr} {c : Nat} {xs : List Value} (h : Ow w base e size (.slice q n c) n xs) (hk : k ≤ n) : Ow w base e size (.slice q k c) k (xs.take (k * size)) := by
  have hks : k * size ≤ n * size := Nat.mul_le_mul_right _ hk
  refine ⟨by rw [List.length_take, h.1]; omega, ?_⟩
  rcases h.2 with ⟨hv, hn⟩ | ⟨g, cap, cur, fz, hv, hb, hg, hf, hnc, hcm, hcs, ht⟩
  · injection hv with h1 h2 h3
    exact .inl ⟨by rw [h1, h3, show k = 0 by omega], by omega⟩
  · injection hv with h1 h2 h3
    subst h1 h3
    exact .inr ⟨g, c, cur, fz, rfl, hb, hg, hf, by omega, hcm, hcs, by rw [← ht, List.take_take, Nat.min_eq_left hks]⟩
theorem merge_sum (ps : List (List UInt8 × Nat)) : ∀ (s : List UInt8) (z : Nat), ((Rfc.merge nodeS s z ps).map (·.2)).sum = (ps.map (·.2)).sum + z := by
  induction ps with
  | nil => intro s z; simp [Rfc.merge]
  | cons x xs ih =>
    intro s z
    rw [Rfc.merge]
    split
    · rename_i h
      rw [ih]; simp [h]; omega
    · simp; omega
theorem merge_all (ps : List (List UInt8 × Nat)) (h : AllP ps) : ∀ (s : List UInt8) (z : Nat), s.length = 32 → AllP (Rfc.merge nodeS s z ps) := by
  induction ps with
  | nil => intro s z hs; exact AllP.cons hs (fun _ h => by cases h)
  | cons x xs ih =>
    intro s z hs
    rw [Rfc.merge]
    split
    · exact ih h.tail _ _ (nodeS_length _ _)
    · exact AllP.cons hs h
theorem merge_len (ps : List (List UInt8 × Nat)) : ∀ (s : List UInt8) (z : Nat), (Rfc.merge nodeS s z ps).length ≤ ps.length + 1 := by
  induction ps with
  | nil => intro s z; simp [Rfc.merge]
  | cons x xs ih =>
    intro s z
    rw [Rfc.merge]
    split
    · exact Nat.le_trans (ih _ _) (by simp)
    · simp
def pk (L : List (List UInt8)) (i : Nat) : List (List UInt8 × Nat) := Rfc.peaks nodeS (L.take i)
theorem pk_zero (L : List (List UInt8)) : pk L 0 = [] := rfl
theorem pk_succ (L : List (List UInt8)) (i : Nat) (x : List UInt8) (h : L[i]? = some x) : pk L (i + 1) = Rfc.merge nodeS x 1 (pk L i) := Rfc.peaks_succ nodeS L i x h
theorem pk_facts (L : List (List UInt8)) (hL : All32 L) (i : Nat) (hi : i ≤ L.length) : AllP (pk L i) ∧ ((pk L i).map (·.2)).sum = i ∧ (pk L i).length ≤ i := by
  induction i with
  | zero => exact ⟨fun _ h => (by simp [pk_zero] at h), rfl, Nat.le_refl _⟩
  | succ i ih =>
    obtain ⟨h1, h2, h3⟩ := ih (by omega)
    have hx : L[i]? = some L[i] := List.getElem?_eq_getElem (by omega)
    rw [pk_succ L i _ hx]
    exact ⟨merge_all _ h1 _ _ (hL _ (List.getElem_mem (by omega))), by rw [merge_sum, h2], Nat.le_trans (merge_len _ _ _) (by omega)⟩
/-- A variable of 32 bytes, loaded. -/
theorem load_whole {w : World} {g : Nat} {l : List UInt8} {t : TypeId} {f : Nat × Nat} (h : w.heap[g]? = some (.cells (bysA l) t f)) (hl : l.length = 32) : (Instr.loadAt 22 (.pointer (some ⟨g, 0, none⟩))).run Tryz.prog w = .ok (.agg (bysA l)) w := by
  refine run_loadAt_mid w g 0 _ (bys l) _ (fun j v hv => ?_) Tryz.underlying22 rfl (by rw [bys_length, hl]; exact info32)
  rw [cell_of_row w g _ _ _ _ h, Nat.zero_add, ← hv]
  simp [bysA]
theorem pks_cut {y : List UInt8 × Nat} {ys : List (List UInt8 × Nat)} (h : AllP (y :: ys)) : (pks (y :: ys).reverse).take (ys.length * 33) = pks ys.reverse := by
  rw [List.reverse_cons, pks_append]
  have := pks_length h.tail.rev
  rw [List.length_reverse] at this
  rw [← this, List.take_left]
end Ref
end Go.Proofs.YtmonkggoilhngaaGreatDoor
/- The walks of the log's Add, Len, Root. -/
namespace Go.Proofs.YtmonkggoilhngaaGreatDoor
open Go.RowKit Bits Mem Sha
namespace Rq
theorem own_pred {w : World} {q : Nat → Prop} {i : Nat} {spec : List Sp} (hq : ∀ k, q k → k < w.heap.size) (h : ∀ s ∈ spec, s.own = free ∨ (s.ix = i ∧ s.own = q)) : Own (fun k => k < w.heap.size ∧ ¬ q k) w spec :=
  ⟨fun k hk => hk.1, fun j s hs k hk => by
    rcases h s (look_mem hs).1 with h | ⟨_, h⟩
    · rw [h] at hk; exact hk.elim
    · rw [h] at hk; exact ⟨fun hn => hn.2 hk, hq k hk⟩, fun a b s t hs ht hab k hk hk' => by
    have hs' := look_mem hs
    have ht' := look_mem ht
    rcases h s hs'.1 with h1 | ⟨h1, _⟩
    · rw [h1] at hk; exact hk
    · rcases h t ht'.1 with h2 | ⟨h2, _⟩
      · rw [h2] at hk'; exact hk'
      · exact hab (by rw [← hs'.2, ← ht'.2, h1, h2])⟩
end Rq
theorem Sha.Tabs.rows {B : Nat} {w x : World} (h : Sha.Tabs w) (hb : Below B w x) (hT : (0 : Nat) < B ∧ (1 : Nat) < B) : Sha.Tabs x := by
  obtain ⟨t, f, h1⟩ := h.start
  obtain ⟨t', f', h2⟩ := h.rounds
  exact ⟨⟨t, f, (hb.block _ hT.1).trans h1⟩, ⟨t', f', (hb.block _ hT.2).trans h2⟩⟩
namespace Mem
theorem Rd.kp {S : Nat → Prop} {w w' : World} {n : Nat} {size : Nat} {v : Value} {xs : List Value} (h : Rd w size v n xs) (hk : Kp S w w') (hS : ∀ k, v.ownBlock = some k → ¬ S k) : Rd w' size v n xs := by
  obtain ⟨h1, h2⟩ := h
  refine ⟨h1, ?_⟩
  rcases h2 with hn | ⟨b, off, cap, rfl, hb, hnc, hcm, hc⟩
  · exact .inl hn
  · refine .inr ⟨b, off, cap, rfl, Nat.lt_of_lt_of_le hb hk.size, hnc, hcm, fun j u hj => ?_⟩
    have hbk := hk.block b hb (hS b rfl)
    have := hc j u hj
    unfold World.cell? at this ⊢
    rw [hbk]
    exact this
theorem Rd.ltB {w : World} {n : Nat} {size : Nat} {v : Value} {xs : List Value} (h : Rd w size v n xs) : ∀ k, v.ownBlock = some k → k < w.heap.size := fun k hk => by
  rcases h.2 with ⟨hn, _⟩ | ⟨b, off, cap, rfl, hb, _⟩
  · rw [hn] at hk; cases hk
  · cases hk; exact hb
theorem Rd.kpq {w w' : World} {n : Nat} {size : Nat} {v : Value} {xs : List Value} (h : Rd w size v n xs) (hk : ∀ k, v.ownBlock = some k → w'.heap[k]? = w.heap[k]?) : Rd w' size v n xs := by
  obtain ⟨h1, h2⟩ := h
  refine ⟨h1, ?_⟩
  rcases h2 with hn | ⟨b, off, cap, rfl, hb, hnc, hcm, hc⟩
  · exact .inl hn
  · have hbk := hk b rfl
    refine .inr ⟨b, off, cap, rfl, ?_, hnc, hcm, fun j u hj => ?_⟩
    · have h1 : w.heap[b]? = some w.heap[b] := Array.getElem?_eq_getElem hb
      rw [← hbk] at h1
      exact (Array.getElem?_eq_some_iff.1 h1).1
    · have := hc j u hj
      unfold World.cell? at this ⊢
      rw [hbk]
      exact this
theorem Ow.kpq {w w' : World} {base n : Nat} {e : TypeId} {size : Nat} {v : Value} {xs : List Value} (h : Ow w base e size v n xs) (hk : ∀ k, v.ownBlock = some k → w'.heap[k]? = w.heap[k]?) : Ow w' base e size v n xs := by
  refine ⟨h.1, ?_⟩
  rcases h.2 with hn | ⟨g, cap, cur, fz, rfl, hb, hg, rest⟩
  · exact .inl hn
  · exact .inr ⟨g, cap, cur, fz, rfl, hb, (hk g rfl).trans hg, rest⟩
end Mem
namespace Ref
theorem results_cell_slot {P : Program} {fn : Func} {p q : Tmp} {ty : TypeId} (h : fn.results = #[.cell p ty, .tmp q]) (tmps : Array Value) (w : World) (g : Nat) (t : TypeId) (cs : Array Value) (fr : Nat × Nat) (d : TypeDesc) (v : Value)
    (hp : tmps.getD p undef = .pointer (some ⟨g, 0, none⟩)) (hg : w.heap[g]? = some (.cells cs t fr)) (hq : tmps.getD q undef = v)
    (hu : P.underlying ty = some d) (hd : (match d with | .struct _ | .array _ _ => true | _ => false) = true) (hi : (P.info? ty).map (·.size) = some cs.size) :
    (results fn tmps).run P w = .ok (.tuple #[.agg cs, v]) w := by
  have hp' : tmps[p]?.getD undef = .pointer (some ⟨g, 0, none⟩) := by simpa using hp
  have hq' : tmps[q]?.getD undef = v := by simpa using hq
  simp [results, h, hp', hq', asAddr, run_loadVar_row w g t ty cs fr d hg hu hd hi]
theorem info_zero : (Tryz.prog.info? 22).map (·.size) = some (bysA zeros32).size := by rw [bysA_size]; exact info32
/-- What Root answers. -/
def rootAns (D : List (List UInt8)) (n : Int) : Value := if 0 ≤ n ∧ n ≤ D.length then .tuple #[.agg (bysA (treeS (D.take n.toNat))), .int .i64 0] else .tuple #[.agg (bysA zeros32), .int .i64 1]
end Ref
end Go.Proofs.YtmonkggoilhngaaGreatDoor
/- The walk of the log's Inclusion. -/
namespace Go.Proofs.YtmonkggoilhngaaGreatDoor
open Go.RowKit Bits Mem Sha
namespace Ref
theorem flat_drop (L : List (List UInt8)) (h : All32 L) (k : Nat) (hk : k ≤ L.length) : (L.drop k).flatten = L.flatten.drop (k * 32) := by
  have h1 : L.flatten = (L.take k).flatten ++ (L.drop k).flatten := by rw [← List.flatten_append, List.take_append_drop]
  have h2 := (h.take k).flat
  rw [List.length_take, Nat.min_eq_left hk] at h2
  rw [h1, ← h2, List.drop_left]
theorem All32.drop {L : List (List UInt8)} (h : All32 L) (k : Nat) : All32 (L.drop k) := fun x hx => h x (List.mem_of_mem_drop hx)
theorem RdL.drop {w : World} {b off c k : Nat} {L : List (List UInt8)} (h : RdL w (.slice (some ⟨b, off, none⟩) L.length c) L) (hk : k ≤ L.length) : RdL w (.slice (some ⟨b, off + k * 32, none⟩) (L.length - k) (c - k)) (L.drop k) := by
  have hl := (h.1.drop k).flat
  refine ⟨h.1.drop k, ?_⟩
  rw [List.length_drop] at hl ⊢
  obtain ⟨h1, h2⟩ := h.2
  refine ⟨by rw [bys_length, hl], ?_⟩
  rcases h2 with ⟨hv, _⟩ | ⟨b', off', cap, hv, hb, hnc, hcm, hc⟩
  · cases hv
  · cases hv
    refine .inr ⟨b, off + k * 32, c - k, rfl, hb, by omega, by omega, fun j u hj => ?_⟩
    rw [Nat.add_assoc]
    refine hc _ u ?_
    rw [flat_drop L h.1 k hk] at hj
    unfold bys at hj ⊢
    rw [List.map_drop, List.getElem?_drop] at hj
    exact hj
end Ref
end Go.Proofs.YtmonkggoilhngaaGreatDoor
/- The walks of the climber's right and of power. -/
namespace Go.Proofs.YtmonkggoilhngaaGreatDoor
open Go.RowKit Bits Mem Sha
namespace Ref
theorem and_one (a : Nat) (h : a < 9223372036854775808) : bits .and .i64 (a : Int) (1 : Int) = ((a % 2 : Nat) : Int) := by
  have := i64_and a 1 h (by omega)
  rw [Nat.and_one_is_mod] at this
  exact this
set_option maxRecDepth 100000 in
set_option maxHeartbeats 1000000 in
theorem right16_any (a b : Nat) (w : World) (ha : a < 9223372036854775808) (hb : b < 9223372036854775808) :
    Calls Tryz.prog 93 #[.agg #[.int .i64 a, .int .i64 b]] w fun e w' => e = .returned (.bool (Rfc.right a b)) ∧ Below w.heap.size w w' := by
  have h1 := and_one a ha
  by_cases ho : a % 2 = 1
  · have HR : Hid (Rfc.right a b = true) := Lib.hid (by unfold Rfc.right; simp [ho])
    rw [ho] at h1
    have h2 : bits .and .i64 (a : Int) (1 : Int) = 1 := h1
    clear h1 ho
    go_enter Tryz.func93, Tryz.ntmps93
    go_wp2_with fail
    go_ret
    exact ⟨by rw [HR.out]; rfl, (Below.refl _ _).alloc (Nat.le_refl _) _⟩
  · have h2 : bits .and .i64 (a : Int) (1 : Int) = 0 := by rw [h1]; omega
    by_cases he : a = b
    · subst he
      have HR : Hid (Rfc.right a a = true) := Lib.hid (by unfold Rfc.right; simp)
      clear h1 ho
      go_enter Tryz.func93, Tryz.ntmps93
      go_wp2_with fail
      go_ret
      exact ⟨by rw [HR.out]; rfl, (Below.refl _ _).alloc (Nat.le_refl _) _⟩
    · have HR : Hid (Rfc.right a b = false) := Lib.hid (by unfold Rfc.right; simp [he]; omega)
      have hne : ((a : Int) == (b : Int)) = false := by rw [beq_eq_false_iff_ne]; omega
      clear h1 ho
      go_enter Tryz.func93, Tryz.ntmps93
      go_wp2_with fail
      go_ret
      exact ⟨by rw [HR.out]; rfl, (Below.refl _ _).alloc (Nat.le_refl _) _⟩
theorem infoCl (a b : Nat) : (Tryz.prog.info? 156).map (·.size) = some (#[Value.int .i64 (a : Int), .int .i64 (b : Int)] : Array Value).size := by kernel_rfl
set_option maxRecDepth 100000 in
set_option maxHeartbeats 2000000 in
theorem up16_any (a b : Nat) (w : World) (ha : a < 9223372036854775808) (hb : b < 9223372036854775808) (hr : a % 2 = 1 ∨ a = b) (h0 : a ≠ 0) :
    Calls Tryz.prog 95 #[.agg #[.int .i64 a, .int .i64 b]] w fun e w' => e = .returned (.agg #[.int .i64 (Rfc.next a b).1, .int .i64 (Rfc.next a b).2]) ∧ Below w.heap.size w w' := by
  have h1 := and_one a ha
  by_cases ho : a % 2 = 1
  · have HN : Hid (Rfc.next a b = (a / 2, b / 2)) := Lib.hid (by unfold Rfc.next; rw [if_neg (by omega)])
    rw [ho] at h1
    have h2 : bits .and .i64 (a : Int) (1 : Int) = 1 := h1
    have h3 : (a : Int) / 2 = ((a / 2 : Nat) : Int) := by omega
    clear h1 ho hr h3
    go_enter Tryz.func95, Tryz.ntmps95
    go_wp2_with fail
    refine bodyPost_ret (v := .agg #[.int .i64 ((a : Int) / 2), .int .i64 ((b : Int) / 2)]) (results_cell_row (P := Tryz.prog) rfl _ _ (w.heap.size + 1) 156 #[.int .i64 ((a : Int) / 2), .int .i64 ((b : Int) / 2)] (0, 0) _ rfl (Rg.heap_alloc_at _ _ _ (by simp)) Tryz.underlying156 rfl (infoCl (a / 2) (b / 2))) rfl ⟨?_, ((Below.refl _ _).alloc (Nat.le_refl _) _).alloc (by simp) _⟩
    rw [HN.out]
    rfl
  · obtain rfl : a = b := by omega
    have h2 : bits .and .i64 (a : Int) (1 : Int) = 0 := by rw [h1]; omega
    clear h1
    go_enter Tryz.func95, Tryz.ntmps95
    have HN : Hid (Rfc.next a a = ((Rfc.strip a a a).1 / 2, (Rfc.strip a a a).2 / 2)) := Lib.hid (by unfold Rfc.next; rw [if_pos ⟨by omega, rfl⟩])
    clear hr ho
    go_wp2_with fail
    go_loopw [] (fun wr => ∃ x f : Nat, x ≤ f ∧ x < 9223372036854775808 ∧ Hid (Rfc.strip f x x = Rfc.strip a a a) ∧ wr = (w.alloc (.cells #[.int .i64 (x : Int), .int .i64 (x : Int)] 156)).alloc (.cells #[.int .i64 0, .int .i64 0] 156)) (fun wr => (intOf ((wr.cell? ⟨w.heap.size, 0, none⟩).getD undef)).toNat)
    case atStart => exact ⟨a, a, Nat.le_refl _, ha, Lib.hid rfl, rfl⟩
    case round =>
      obtain ⟨x, f, hxf, hxl, HS, rfl⟩ := hrel
      have hx1 := and_one x hxl
      have hcell : ∀ y : Int, ((w.alloc (.cells #[.int .i64 y, .int .i64 y] 156)).alloc (.cells #[.int .i64 0, .int .i64 0] 156)).cell? ⟨w.heap.size, 0, none⟩ = some (.int .i64 y) := fun y =>
        (cell_of_row _ _ _ _ _ _ ((Rg.heap_alloc_past (w.alloc (.cells #[.int .i64 y, .int .i64 y] 156)) _ w.heap.size (by simp)).trans (Rg.heap_alloc_at w (.cells #[.int .i64 y, .int .i64 y] 156) _ rfl))).trans rfl
      have HC := Lib.hid hcell
      clear hcell
      by_cases hx0 : x = 0
      · have hne : ((x : Int) != 0) = false := by rw [hx0]; rfl
        have HE : Hid (Rfc.next a a = (x / 2, x / 2)) := Lib.hid (by
          have h : Rfc.strip f x x = (x, x) := by
            cases f with
            | zero => rfl
            | succ f => rw [Rfc.strip, if_neg (by omega)]
          rw [HN.out, ← HS.out, h])
        clear hx1
        (try clear hxo)
        (try clear hx0)
        go_wp2_with fail
        refine bodyPost_ret (v := .agg #[.int .i64 ((x : Int) / 2), .int .i64 ((x : Int) / 2)]) (results_cell_row (P := Tryz.prog) rfl _ _ (w.heap.size + 1) 156 #[.int .i64 ((x : Int) / 2), .int .i64 ((x : Int) / 2)] (0, 0) _ rfl (Rg.heap_alloc_at _ _ _ (by simp)) Tryz.underlying156 rfl (infoCl (x / 2) (x / 2))) rfl ⟨?_, ((Below.refl _ _).alloc (Nat.le_refl _) _).alloc (by simp) _⟩
        rw [HE.out]
        rfl
      · have hne : ((x : Int) != 0) = true := by rw [bne_iff_ne]; omega
        by_cases hxo : x % 2 = 1
        · have hx2 : bits .and .i64 (x : Int) (1 : Int) = 1 := by rw [hx1, hxo]; rfl
          have HE : Hid (Rfc.next a a = (x / 2, x / 2)) := Lib.hid (by
            have h : Rfc.strip f x x = (x, x) := by
              cases f with
              | zero => rfl
              | succ f => rw [Rfc.strip, if_neg (by omega)]
            rw [HN.out, ← HS.out, h])
          clear hx1
          (try clear hxo)
          (try clear hx0)
          go_wp2_with fail
          refine bodyPost_ret (v := .agg #[.int .i64 ((x : Int) / 2), .int .i64 ((x : Int) / 2)]) (results_cell_row (P := Tryz.prog) rfl _ _ (w.heap.size + 1) 156 #[.int .i64 ((x : Int) / 2), .int .i64 ((x : Int) / 2)] (0, 0) _ rfl (Rg.heap_alloc_at _ _ _ (by simp)) Tryz.underlying156 rfl (infoCl (x / 2) (x / 2))) rfl ⟨?_, ((Below.refl _ _).alloc (Nat.le_refl _) _).alloc (by simp) _⟩
          rw [HE.out]
          rfl
        · have hx2 : bits .and .i64 (x : Int) (1 : Int) = 0 := by rw [hx1]; omega
          clear hx1
          go_wp2_with fail
          obtain ⟨f, rfl⟩ : ∃ g, f = g + 1 := ⟨f - 1, by omega⟩
          refine ⟨⟨x / 2, f, by omega, by omega, Lib.hid (by rw [← HS.out, Rfc.strip, if_pos ⟨hx0, by omega⟩]), rfl⟩, ?_⟩
          rw [HC.out, HC.out]
          show ((x : Int) / 2).toNat < (x : Int).toNat
          omega
end Ref
end Go.Proofs.YtmonkggoilhngaaGreatDoor
/- The plain law of the log, second part: what the climber's loops compute. No program in sight. -/
namespace Go.Proofs.YtmonkggoilhngaaGreatDoor
namespace Rfc
section
variable {α : Type} (nd : α → α → α)
theorem next_left (a b : Nat) (h : right a b = false) : next a b = (a / 2, b / 2) := by
  unfold right at h
  unfold next
  rw [if_neg]
  rintro ⟨_, h2⟩
  simp [h2] at h
/-- CheckInclusion's loop: none, where it tells a fault. -/
def runI : Nat → Nat → α → List α → Option α
  | _, b, s, [] => if b = 0 then some s else none
  | a, b, s, x :: ps => if b = 0 then none else bif right a b then runI (next a b).1 (next a b).2 (nd x s) ps else runI (a / 2) (b / 2) (nd s x) ps
theorem climb_len (a b : Nat) : (climb a b).length = 0 ↔ b = 0 := by
  constructor
  · intro h
    by_cases hb : b = 0
    · exact hb
    · rw [climb_next a b hb] at h; simp at h
  · rintro rfl
    rw [climb_zero]; rfl
theorem runI_eq (ps : List α) : ∀ (a b : Nat) (s : α), runI nd a b s ps = if ps.length = (climb a b).length then some (rise nd (climb a b) ps s) else none := by
  induction ps with
  | nil =>
    intro a b s
    by_cases hb : b = 0
    · subst hb
      rw [climb_zero, runI, if_pos rfl]
      exact (if_pos rfl).symm
    · rw [runI, if_neg hb, if_neg]
      intro h
      exact hb ((climb_len a b).1 h.symm)
  | cons x ps ih =>
    intro a b s
    rw [runI]
    by_cases hb : b = 0
    · subst hb
      rw [if_pos rfl, climb_zero, if_neg (by simp)]
    · rw [if_neg hb, climb_next a b hb]
      cases hr : right a b with
      | true =>
        rw [cond_true, ih]
        simp only [List.length_cons, Nat.add_right_cancel_iff]
        rfl
      | false =>
        have hn := next_left a b hr
        rw [cond_false, ih, hn]
        simp only [List.length_cons, Nat.add_right_cancel_iff]
        rfl
/-- CheckConsistency's loop. -/
def runC : Nat → Nat → α × α → List α → Option (α × α)
  | _, b, s, [] => if b = 0 then some s else none
  | a, b, s, x :: ps => if b = 0 then none else bif right a b then runC (next a b).1 (next a b).2 (nd x s.1, nd x s.2) ps else runC (a / 2) (b / 2) (s.1, nd s.2 x) ps
theorem runC_eq (ps : List α) : ∀ (a b : Nat) (s : α × α), runC nd a b s ps = if ps.length = (climb a b).length then some (rises nd (climb a b) ps s) else none := by
  induction ps with
  | nil =>
    intro a b s
    by_cases hb : b = 0
    · subst hb
      rw [climb_zero, runC, if_pos rfl]
      exact (if_pos rfl).symm
    · rw [runC, if_neg hb, if_neg]
      intro h
      exact hb ((climb_len a b).1 h.symm)
  | cons x ps ih =>
    intro a b s
    rw [runC]
    by_cases hb : b = 0
    · subst hb
      rw [if_pos rfl, climb_zero, if_neg (by simp)]
    · rw [if_neg hb, climb_next a b hb]
      cases hr : right a b with
      | true =>
        rw [cond_true, ih]
        simp only [List.length_cons, Nat.add_right_cancel_iff]
        rfl
      | false =>
        have hn := next_left a b hr
        rw [cond_false, ih, hn]
        simp only [List.length_cons, Nat.add_right_cancel_iff]
        rfl
/-- What is told of an inclusion is what the document tells. -/
theorem incl_same (i n : Nat) (hi : i < n) (s bad root : α) (p : List α) : runI nd i (n - 1) s p = some root ↔ (up nd s i n p bad).2 = true ∧ (up nd s i n p bad).1 = root := by
  obtain ⟨h1, h2⟩ := up_ok nd n s i p bad
  have hc : climb i (n - 1) = (dirs i n).reverse := by rw [climb_dirs _ _ (by omega), show n - 1 + 1 = n by omega]
  rw [runI_eq, hc, List.length_reverse, h1, decide_eq_true_eq]
  by_cases h : p.length = (dirs i n).length
  · rw [if_pos h, h2 h]
    simp [h]
  · rw [if_neg h]
    simp [h]
/-- What is told of a beginning is what the document tells. -/
theorem cons_same (f m n : Nat) (hf : m ≤ f + 1) (h1 : 1 ≤ m) (hm : m < n) (old root bad : α) (p : List α) :
    (∃ x q, start (pow2 m) old p = x :: q ∧ runC nd (ones f (m - 1) (n - 1)).1 (ones f (m - 1) (n - 1)).2 (x, x) q = some (old, root)) ↔
      (both nd m n p true old bad).2.2 = true ∧ (both nd m n p true old bad).1 = old ∧ (both nd m n p true old bad).2.1 = root := by
  obtain ⟨h2, h3⟩ := both_ok nd n m p true old bad
  have hc := ones_cdr f m n hf h1 hm
  have hp := cdr_false m n hm h1
  rw [Bool.true_and, hp] at h2 h3
  rw [h2, decide_eq_true_eq]
  constructor
  · rintro ⟨x, q, hs, hr⟩
    rw [runC_eq, ← hc, List.length_reverse] at hr
    by_cases hl : q.length = (cdr m n).length
    · rw [if_pos hl] at hr
      have h4 := h3 x q hs hl
      rw [← h4] at hr
      have h5 := Option.some.inj hr
      refine ⟨by rw [hs]; simp [hl], congrArg (·.1) h5, congrArg (·.2) h5⟩
    · rw [if_neg hl] at hr; cases hr
  · rintro ⟨hl, h5, h6⟩
    cases hs : start (pow2 m) old p with
    | nil => rw [hs] at hl; simp at hl
    | cons x q =>
      rw [hs] at hl
      have hl' : q.length = (cdr m n).length := by simpa using hl
      refine ⟨x, q, rfl, ?_⟩
      rw [runC_eq, ← hc, List.length_reverse, if_pos hl', ← h3 x q hs hl', h5, h6]
end
end Rfc
end Go.Proofs.YtmonkggoilhngaaGreatDoor
/- The walk of rfclog.CheckInclusion. -/
namespace Go.Proofs.YtmonkggoilhngaaGreatDoor
open Go.RowKit Bits Mem Sha
namespace Ref
/-- What CheckInclusion answers. -/
def chkI (l : List UInt8) (i n : Int) (P : List (List UInt8)) (root : List UInt8) : Int :=
  if n < 1 ∨ i < 0 ∨ n ≤ i then 1 else if Rfc.runI nodeS i.toNat (n.toNat - 1) (leafS l) P = some root then 0 else 17
theorem right_up {a b : Nat} (h : Rfc.right a b = true) (hb : b ≠ 0) : (a % 2 = 1 ∨ a = b) ∧ a ≠ 0 := by
  unfold Rfc.right at h
  simp at h
  omega
theorem info_of {M : List UInt8} (h : M.length = 32) : (Tryz.prog.info? 22).map (·.size) = some (bysA M).size := by rw [bysA_size, h]; exact info32
set_option maxRecDepth 100000 in
set_option maxHeartbeats 8000000 in
theorem checkI_any (q : Option Addr) (c : Nat) (l : List UInt8) (i n : Int) (qp : Option Addr) (cp : Nat) (P : List (List UInt8)) (root : List UInt8) (w : World) (hS : Sha.Tabs w) (hl : Rd w 1 (.slice q l.length c) l.length (bys l)) (h : l.length ≤ 1000000) (hp : RdL w (.slice qp P.length cp) P) (hr : root.length = 32) (hn : n ≤ 9223372036854775807) :
    Calls Tryz.prog 69 #[.slice q l.length c, .int .i64 i, .int .i64 n, .slice qp P.length cp, .agg (bysA root)] w fun e w' => e = .returned (.int .i64 (chkI l i n P root)) ∧ Below w.heap.size w w' := by
  have HS := Lib.hid hS
  have HL := Lib.hid hl
  have HP := Lib.hid hp
  have HR := Lib.hid hr
  have hcap := Rd_cap hp.2
  unfold maxLen at hcap
  have hPl : P.length ≤ 9223372036854775807 := by omega
  clear hcap
  clear hS hl hp hr
  by_cases h1 : n < 1
  ·
    as_aux_lemma =>
      have HE : Hid (chkI l i n P root = 1) := Lib.hid (by unfold chkI; rw [if_pos (by omega)])
      go_enter Tryz.func69, Tryz.ntmps69
      go_wp2_with fail
      go_ret
      exact ⟨by rw [HE.out]; rfl, (Below.refl _ _).alloc (Nat.le_refl _) _⟩
  · by_cases h2 : i < 0
    ·
      as_aux_lemma =>
        have HE : Hid (chkI l i n P root = 1) := Lib.hid (by unfold chkI; rw [if_pos (by omega)])
        go_enter Tryz.func69, Tryz.ntmps69
        go_wp2_with fail
        go_ret
        exact ⟨by rw [HE.out]; rfl, (Below.refl _ _).alloc (Nat.le_refl _) _⟩
    · by_cases h3 : n ≤ i
      ·
        as_aux_lemma =>
          have HE : Hid (chkI l i n P root = 1) := Lib.hid (by unfold chkI; rw [if_pos (by omega)])
          go_enter Tryz.func69, Tryz.ntmps69
          go_wp2_with fail
          go_ret
          exact ⟨by rw [HE.out]; rfl, (Below.refl _ _).alloc (Nat.le_refl _) _⟩
      · obtain ⟨iN, rfl⟩ : ∃ k : Nat, i = (k : Int) := ⟨i.toNat, by omega⟩
        obtain ⟨m, rfl⟩ : ∃ m : Nat, n = (m : Int) + 1 := ⟨(n - 1).toNat, by omega⟩
        have him : iN ≤ m := by omega
        have hmb : m < 9223372036854775807 := by omega
        have HE : Hid (chkI l iN ((m : Int) + 1) P root = if Rfc.runI nodeS iN m (leafS l) P = some root then 0 else 17) := Lib.hid (by
          unfold chkI
          rw [if_neg (by omega), show ((m : Int) + 1).toNat - 1 = m by omega]
          rfl)
        obtain ⟨w1, hw1⟩ : ∃ w1, w1 = (w.alloc (.cells (bysA root) 22)).alloc (.cells #[.int .i64 (iN : Int), .int .i64 (m : Int)] 156) := ⟨_, rfl⟩
        have hb1 : Below w.heap.size w w1 := by rw [hw1]; exact ((Below.refl _ _).alloc (Nat.le_refl _) _).alloc (by simp) _
        have hrr : w1.heap[w.heap.size]? = some (.cells (bysA root) 22 (0, 0)) := by rw [hw1]; exact (Rg.heap_alloc_past _ _ _ (by simp)).trans (Rg.heap_alloc_at w _ _ rfl)
        have hrc : w1.heap[w.heap.size + 1]? = some (.cells #[.int .i64 (iN : Int), .int .i64 (m : Int)] 156 (0, 0)) := by rw [hw1]; exact Rg.heap_alloc_at _ _ _ (by simp)
        have HW1 := Lib.hid hw1
        have HB1 := Lib.hid hb1
        have HRR1 := Lib.hid hrr
        have HRC1 := Lib.hid hrc
        clear hw1 hb1 hrr hrc
        go_enter Tryz.func69, Tryz.ntmps69
        go_wp2_with fail
        rw [← HW1.out]
        refine (entrySum_any q c l w1 (HS.out.below HB1.out) (HL.out.below HB1.out) h).mono ?_
        rintro e w2 ⟨rfl, hb2⟩
        obtain ⟨E, hE⟩ : ∃ E, E = leafS l := ⟨_, rfl⟩
        have HEL : Hid (E.length = 32) := Lib.hid (by rw [hE]; exact leafS_length l)
        have HIE := Lib.hid (info_of HEL.out)
        have HEE := Lib.hid hE
        rw [← hE]
        rw [← hE] at HE
        obtain ⟨w3, hw3⟩ : ∃ w3, w3 = w2.alloc (.cells (bysA E) 22) := ⟨_, rfl⟩
        have hb23 : Below w2.heap.size w2 w3 := by rw [hw3]; exact (Below.refl _ _).alloc (Nat.le_refl _) _
        have hb13 : Below w1.heap.size w1 w3 := hb2.trans (hb23.mono hb2.size)
        have hrs : w3.heap[w2.heap.size]? = some (.cells (bysA E) 22 (0, 0)) := by rw [hw3]; exact Rg.heap_alloc_at _ _ _ rfl
        have HW3 := Lib.hid hw3
        have HRS3 := Lib.hid hrs
        have HRR3 := Lib.hid (Rp.row_le hb13 HRR1.out)
        have HRC3 := Lib.hid (Rp.row_le hb13 HRC1.out)
        have HB3 : Hid (Below w.heap.size w w3) := Lib.hid (HB1.out.trans (hb13.mono HB1.out.size))
        have hsb1 : w.heap.size + 1 < w2.heap.size := Nat.lt_of_lt_of_le (lt_of_heap HRC1.out) hb2.size
        clear hE hw3 hb23 hb13 hrs hb2
        go_wp2_with (refine Rg.store_row_new rfl 22 _ _ rfl w2.heap.size rfl rfl 22 _ (bysA E) rfl HIE.out (by rw [bysA_size, HEL.out]; rfl) (bysA_one _) ?_)
        rw [← HW3.out]
        obtain ⟨sb, hsb⟩ : ∃ sb, sb = w2.heap.size := ⟨_, rfl⟩
        rw [← hsb] at HRS3 hsb1 ⊢
        clear hsb HW3
        go_loopw [34] (fun kv wr => ∃ (k a b : Nat) (s : List UInt8), k ≤ P.length ∧ kv = .int .i64 k ∧ a ≤ b ∧ b < 9223372036854775807 ∧ Hid (s.length = 32) ∧ Hid (wr.heap[w.heap.size + 1]? = some (.cells #[.int .i64 (a : Int), .int .i64 (b : Int)] 156 (0, 0))) ∧
          Hid (wr.heap[sb]? = some (.cells (bysA s) 22 (0, 0))) ∧ Hid (wr.heap[w.heap.size]? = some (.cells (bysA root) 22 (0, 0))) ∧ Hid (Below w.heap.size w wr) ∧ Hid (Rfc.runI nodeS iN m E P = Rfc.runI nodeS a b s (P.drop k))) (fun kv _ => P.length - (intOf kv).toNat)
        case atStart => exact ⟨0, iN, m, E, Nat.zero_le _, rfl, him, hmb, HEL, HRC3, HRS3, HRR3, HB3, Lib.hid (by rw [List.drop_zero])⟩
        case round =>
          obtain ⟨k, a, b, s, hk, rfl, hab, hbb, HSL, HCB, HSB, HRB, HB, HRUN⟩ := hrel
          clear hn hmb h1 h2 h3 him
          by_cases hlt : k < P.length
          ·
            have hltI : (k : Int) < P.length := by omega
            have HRL : Hid (RdL wr (.slice qp P.length cp) P) := Lib.hid (HP.out.below HB.out)
            obtain ⟨bp, op, hqe, hbp, hxl1, hxl2, hload⟩ := HRL.out.load hlt
            subst hqe
            clear hxl1 hxl2
            have hkb : k < 9223372036854775807 := by omega
            obtain ⟨X, hX⟩ : ∃ X, X = P.getD k [] := ⟨_, rfl⟩
            have HXL : Hid (X.length = 32) := Lib.hid (by rw [hX]; exact HP.out.1.getD hlt)
            have HDR : Hid (P.drop k = X :: P.drop (k + 1)) := Lib.hid (by rw [hX, List.drop_eq_getElem_cons hlt]; simp [List.getD, hlt])
            rw [← hX] at hload
            have HLD := Lib.hid (hload wr (Below.refl _ _))
            have HIX := Lib.hid (info_of HXL.out)
            have HIS := Lib.hid (info_of HSL.out)
            have HIC := Lib.hid (infoCl a b)
            obtain ⟨wa, hwa⟩ : ∃ wa, wa = wr.alloc (.cells (bysA X) 22) := ⟨_, rfl⟩
            have hba : Below wr.heap.size wr wa := by rw [hwa]; exact (Below.refl _ _).alloc (Nat.le_refl _) _
            have HXA : Hid (wa.heap[wr.heap.size]? = some (.cells (bysA X) 22 (0, 0))) := Lib.hid (by rw [hwa]; exact Rg.heap_alloc_at _ _ _ rfl)
            have HCA := Lib.hid (Rp.row_le hba HCB.out)
            have HSA := Lib.hid (Rp.row_le hba HSB.out)
            have HRA := Lib.hid (Rp.row_le hba HRB.out)
            have HBA : Hid (Below w.heap.size w wa) := Lib.hid (HB.out.trans (hba.mono HB.out.size))
            have c1 : wa.cell? ⟨w.heap.size + 1, 1, none⟩ = some (.int .i64 (b : Int)) := (cell_of_row _ _ _ _ _ _ HCA.out).trans rfl
            have HWA := Lib.hid hwa
            obtain ⟨xb, hxb⟩ : ∃ xb, xb = wr.heap.size := ⟨_, rfl⟩
            have hxs : sb < xb := by rw [hxb]; exact lt_of_heap HSB.out
            rw [← hxb] at HXA
            clear hload hX hwa hba
            by_cases hb0 : b = 0
            · have hbI : ((b : Int) == 0) = true := by rw [hb0]; rfl
              have HRN : Hid (Rfc.runI nodeS iN m E P = none) := Lib.hid (by rw [HRUN.out, HDR.out, Rfc.runI, if_pos hb0])
              go_wp2_with (first | (refine l_load rfl _ _ rfl _ HLD.out ?_) | (refine Rg.store_row_new rfl 22 _ _ rfl wr.heap.size rfl rfl 22 _ (bysA X) rfl HIX.out (by rw [bysA_size, HXL.out]; rfl) (bysA_one _) ?_; rw [← HWA.out]))
              go_ret
              exact ⟨by rw [HE.out, HRN.out, if_neg (by simp)]; rfl, HBA.out⟩
            · have hbI : ((b : Int) == 0) = false := by rw [beq_eq_false_iff_ne]; omega
              go_wp2_with (first | (refine l_load rfl _ _ rfl _ HLD.out ?_) | (refine Rg.store_row_new rfl 22 _ _ rfl wr.heap.size rfl rfl 22 _ (bysA X) rfl HIX.out (by rw [bysA_size, HXL.out]; rfl) (bysA_one _) ?_; rw [← HWA.out]) | (refine wpList_load_row rfl 156 _ rfl (w.heap.size + 1) rfl 156 #[.int .i64 (a : Int), .int .i64 (b : Int)] (0, 0) _ HCA.out Tryz.underlying156 rfl HIC.out ?_))
              rw [← hxb]
              clear hxb
              have hrt := right16_any a b wa (by omega) (by omega)
              cases hr : Rfc.right a b with
              | true =>
                rw [hr] at hrt
                obtain ⟨hup, ha0⟩ := right_up hr hb0
                have HUP := Lib.hid hup
                have HR2 := Lib.hid hr
                refine hrt.mono ?_
                rintro e w4 ⟨rfl, hb4⟩
                have HX4 := Lib.hid (Rp.row_le hb4 HXA.out)
                have HC4 := Lib.hid (Rp.row_le hb4 HCA.out)
                have HS4 := Lib.hid (Rp.row_le hb4 HSA.out)
                have HR4 := Lib.hid (Rp.row_le hb4 HRA.out)
                have HB4 : Hid (Below w.heap.size w w4) := Lib.hid (HBA.out.trans (hb4.mono HBA.out.size))
                clear hb4 hr hrt hup c1
                go_wp2_with (first | (refine wpList_load_row rfl 22 _ rfl sb rfl 22 (bysA s) (0, 0) _ HS4.out Tryz.underlying22 rfl HIS.out ?_) | (refine wpList_load_row rfl 22 _ rfl xb rfl 22 (bysA X) (0, 0) _ HX4.out Tryz.underlying22 rfl HIX.out ?_))
                refine (node_any X s w4 (HS.out.below HB4.out) HXL.out HSL.out).mono ?_
                rintro e w5 ⟨rfl, hb5⟩
                obtain ⟨N, hN⟩ : ∃ N, N = nodeS X s := ⟨_, rfl⟩
                have HNL : Hid (N.length = 32) := Lib.hid (by rw [hN]; exact nodeS_length _ _)
                have HNE := Lib.hid hN
                have HIN := Lib.hid (info_of HNL.out)
                rw [← hN]
                have HS5 := Lib.hid (Rp.row_le hb5 HS4.out)
                obtain ⟨w6, hw6⟩ : ∃ w6, w6 = w5.setRow sb (bysA N) := ⟨_, rfl⟩
                have HW6 := Lib.hid hw6
                have HSB6 : Hid (w6.heap[sb]? = some (.cells (bysA N) 22 (0, 0))) := Lib.hid (by rw [hw6]; exact setRow_heap _ _ _ _ _ _ HS5.out)
                have HCB6 : Hid (w6.heap[w.heap.size + 1]? = some (.cells #[.int .i64 (a : Int), .int .i64 (b : Int)] 156 (0, 0))) := Lib.hid (by rw [hw6, setRow_other _ _ (by omega)]; exact Rp.row_le hb5 HC4.out)
                have HRB6 : Hid (w6.heap[w.heap.size]? = some (.cells (bysA root) 22 (0, 0))) := Lib.hid (by rw [hw6, setRow_other _ _ (by omega)]; exact Rp.row_le hb5 HR4.out)
                have HB6 : Hid (Below w.heap.size w w6) := Lib.hid (by rw [hw6]; exact Rg.below_setRow (HB4.out.trans (hb5.mono HB4.out.size)) (by omega) _)
                clear hN hw6 hb5
                go_wp2_with (first | (refine Rg.store_row rfl 22 _ _ rfl sb rfl 22 (bysA s) (bysA N) rfl HS5.out HIN.out (by rw [bysA_size, bysA_size, HNL.out, HSL.out]) (bysA_one _) ?_; rw [← HW6.out]) | (refine wpList_load_row rfl 156 _ rfl (w.heap.size + 1) rfl 156 #[.int .i64 (a : Int), .int .i64 (b : Int)] (0, 0) _ HCB6.out Tryz.underlying156 rfl HIC.out ?_))
                refine (up16_any a b w6 (by omega) (by omega) HUP.out ha0).mono ?_
                rintro e w7 ⟨rfl, hb7⟩
                have HNX := Lib.hid (Rfc.next_lt a b hb0)
                have HNY := Lib.hid (Rfc.next_le a b hab)
                obtain ⟨a', ha'⟩ : ∃ a', a' = (Rfc.next a b).1 := ⟨_, rfl⟩
                obtain ⟨b', hb'⟩ : ∃ b', b' = (Rfc.next a b).2 := ⟨_, rfl⟩
                rw [← hb'] at HNX
                rw [← ha', ← hb'] at HNY ⊢
                have HRN : Hid (Rfc.runI nodeS iN m E P = Rfc.runI nodeS a' b' N (P.drop (k + 1))) := Lib.hid (by rw [HRUN.out, HDR.out, Rfc.runI, if_neg hb0, HR2.out, cond_true, ha', hb', HNE.out])
                have HSB7 := Lib.hid (Rp.row_le hb7 HSB6.out)
                have HCB7 := Lib.hid (Rp.row_le hb7 HCB6.out)
                have HRB7 := Lib.hid (Rp.row_le hb7 HRB6.out)
                have HB7 : Hid (Below w.heap.size w w7) := Lib.hid (HB6.out.trans (hb7.mono HB6.out.size))
                clear hb7
                obtain ⟨e0, e1, e2, e3⟩ := two_cells HCB7.out
                have HTC := Lib.hid (two_stored (a' := .int .i64 (a' : Int)) (b' := .int .i64 (b' : Int)) HCB7.out)
                clear ha' hb'
                go_wp2_with fail
                rw [HTC.out]
                exact ⟨⟨k + 1, a', b', N, by omega, by go_num, HNY.out, by have := HNX.out; omega, HNL, Lib.hid (setRow_heap _ _ _ _ _ _ HCB7.out), Lib.hid (by rw [setRow_other _ _ (by omega)]; exact HSB7.out), Lib.hid (by rw [setRow_other _ _ (by omega)]; exact HRB7.out), Lib.hid (Rg.below_setRow HB7.out (by omega) _), HRN⟩, by simp [intOf]; omega⟩
              | false =>
                rw [hr] at hrt
                have HR2 := Lib.hid hr
                refine hrt.mono ?_
                rintro e w4 ⟨rfl, hb4⟩
                have HX4 := Lib.hid (Rp.row_le hb4 HXA.out)
                have HC4 := Lib.hid (Rp.row_le hb4 HCA.out)
                have HS4 := Lib.hid (Rp.row_le hb4 HSA.out)
                have HR4 := Lib.hid (Rp.row_le hb4 HRA.out)
                have HB4 : Hid (Below w.heap.size w w4) := Lib.hid (HBA.out.trans (hb4.mono HBA.out.size))
                clear hb4 hr hrt c1
                go_wp2_with (first | (refine wpList_load_row rfl 22 _ rfl sb rfl 22 (bysA s) (0, 0) _ HS4.out Tryz.underlying22 rfl HIS.out ?_) | (refine wpList_load_row rfl 22 _ rfl xb rfl 22 (bysA X) (0, 0) _ HX4.out Tryz.underlying22 rfl HIX.out ?_))
                refine (node_any s X w4 (HS.out.below HB4.out) HSL.out HXL.out).mono ?_
                rintro e w5 ⟨rfl, hb5⟩
                obtain ⟨N, hN⟩ : ∃ N, N = nodeS s X := ⟨_, rfl⟩
                have HNL : Hid (N.length = 32) := Lib.hid (by rw [hN]; exact nodeS_length _ _)
                have HNE := Lib.hid hN
                have HIN := Lib.hid (info_of HNL.out)
                rw [← hN]
                have HS5 := Lib.hid (Rp.row_le hb5 HS4.out)
                obtain ⟨w6, hw6⟩ : ∃ w6, w6 = w5.setRow sb (bysA N) := ⟨_, rfl⟩
                have HW6 := Lib.hid hw6
                have HSB6 : Hid (w6.heap[sb]? = some (.cells (bysA N) 22 (0, 0))) := Lib.hid (by rw [hw6]; exact setRow_heap _ _ _ _ _ _ HS5.out)
                have HCB6 : Hid (w6.heap[w.heap.size + 1]? = some (.cells #[.int .i64 (a : Int), .int .i64 (b : Int)] 156 (0, 0))) := Lib.hid (by rw [hw6, setRow_other _ _ (by omega)]; exact Rp.row_le hb5 HC4.out)
                have HRB6 : Hid (w6.heap[w.heap.size]? = some (.cells (bysA root) 22 (0, 0))) := Lib.hid (by rw [hw6, setRow_other _ _ (by omega)]; exact Rp.row_le hb5 HR4.out)
                have HB6 : Hid (Below w.heap.size w w6) := Lib.hid (by rw [hw6]; exact Rg.below_setRow (HB4.out.trans (hb5.mono HB4.out.size)) (by omega) _)
                obtain ⟨d0, d1, d2, d3⟩ := two_cells HCB6.out
                have HTC := Lib.hid (two_stored (a' := .int .i64 ((a : Int) / 2)) (b' := .int .i64 ((b : Int) / 2)) HCB6.out)
                have HRN : Hid (Rfc.runI nodeS iN m E P = Rfc.runI nodeS (a / 2) (b / 2) N (P.drop (k + 1))) := Lib.hid (by rw [HRUN.out, HDR.out, Rfc.runI, if_neg hb0, HR2.out, cond_false, HNE.out])
                clear hN hw6 hb5
                go_wp2_with (first | (refine Rg.store_row rfl 22 _ _ rfl sb rfl 22 (bysA s) (bysA N) rfl HS5.out HIN.out (by rw [bysA_size, bysA_size, HNL.out, HSL.out]) (bysA_one _) ?_; rw [← HW6.out]))
                rw [HTC.out]
                exact ⟨⟨k + 1, a / 2, b / 2, N, by omega, by go_num, by omega, by omega, HNL, Lib.hid (setRow_heap _ _ _ _ _ _ HCB6.out), Lib.hid (by rw [setRow_other _ _ (by omega)]; exact HSB6.out), Lib.hid (by rw [setRow_other _ _ (by omega)]; exact HRB6.out), Lib.hid (Rg.below_setRow HB6.out (by omega) _), HRN⟩, by simp [intOf]; omega⟩
          · obtain rfl : k = P.length := by omega
            have HDN : Hid (Rfc.runI nodeS iN m E P = if b = 0 then some s else none) := Lib.hid (by rw [HRUN.out, List.drop_length]; rfl)
            have c1 : wr.cell? ⟨w.heap.size + 1, 1, none⟩ = some (.int .i64 (b : Int)) := (cell_of_row _ _ _ _ _ _ HCB.out).trans rfl
            have HIS := Lib.hid (info_of HSL.out)
            have HIR := Lib.hid (info_of HR.out)
            by_cases hb0 : b = 0
            · have hbI : ((b : Int) != 0) = false := by rw [hb0]; rfl
              have hsl := HSL.out
              have hrl := HR.out
              cases heq : (s == root) with
              | true =>
                have HA : Hid (chkI l iN ((m : Int) + 1) P root = 0) := Lib.hid (by rw [HE.out, HDN.out, if_pos hb0, if_pos (by rw [eq_of_beq heq])])
                go_wp2_with (first | (refine unguard16 (by rfl) ?_; refine wpList_load_row rfl 22 _ rfl sb rfl 22 (bysA s) (0, 0) _ HSB.out Tryz.underlying22 rfl HIS.out ?_) | (refine unguard16 (by rfl) ?_; refine wpList_load_row rfl 22 _ rfl w.heap.size rfl 22 (bysA root) (0, 0) _ HRB.out Tryz.underlying22 rfl HIR.out ?_))
                go_ret
                exact ⟨by rw [HA.out]; rfl, HB.out⟩
              | false =>
                have HA : Hid (chkI l iN ((m : Int) + 1) P root = 17) := Lib.hid (by rw [HE.out, HDN.out, if_pos hb0, if_neg (fun h => by rw [Option.some.inj h] at heq; simp at heq)])
                go_wp2_with (first | (refine unguard16 (by rfl) ?_; refine wpList_load_row rfl 22 _ rfl sb rfl 22 (bysA s) (0, 0) _ HSB.out Tryz.underlying22 rfl HIS.out ?_) | (refine unguard16 (by rfl) ?_; refine wpList_load_row rfl 22 _ rfl w.heap.size rfl 22 (bysA root) (0, 0) _ HRB.out Tryz.underlying22 rfl HIR.out ?_))
                go_ret
                exact ⟨by rw [HA.out]; rfl, HB.out⟩
            · have hbI : ((b : Int) != 0) = true := by rw [bne_iff_ne]; omega
              have HA : Hid (chkI l iN ((m : Int) + 1) P root = 17) := Lib.hid (by rw [HE.out, HDN.out, if_neg hb0, if_neg (by simp)])
              go_wp2_with fail
              go_ret
              exact ⟨by rw [HA.out]; rfl, HB.out⟩
end Ref
end Go.Proofs.YtmonkggoilhngaaGreatDoor
