/- The plain law of the log: tree sums, peaks, paths and climbers. No program in sight. -/
import Derived.Test.YtmonkggoilhngaaGreatDoorGShaA
import Derived.Test.YtmonkggoilhngaaGreatDoorGL32P
import Derived.Test.YtmonkggoilhngaaGreatDoorConc
import Derived.Test.YtmonkggoilhngaaGreatDoorGRegion
import Derived.Test.YtmonkggoilhngaaGreatDoorGConcW
import Derived.Test.YtmonkggoilhngaaGreatDoorGRef
import Derived.Test.YtmonkggoilhngaaGreatDoorGEqR
namespace Go.Proofs.YtmonkggoilhngaaGreatDoor
namespace Rfc
def hf (n : Nat) : Nat := 2 ^ Nat.log2 (n - 1)
theorem hf_pos (n : Nat) : 0 < hf n := Nat.two_pow_pos _
theorem hf_lt (n : Nat) (h : 2 ≤ n) : hf n < n := by
  have := Nat.log2_self_le (show n - 1 ≠ 0 by omega)
  unfold hf
  omega
theorem snoc {α : Type} (p : List α) : p = [] ∨ ∃ q x, p = q ++ [x] := by
  rcases List.eq_nil_or_concat p with h | ⟨q, x, h⟩
  · exact .inl h
  · exact .inr ⟨q, x, by rw [h]; simp⟩
section
variable {α : Type} (nd : α → α → α) (e0 : α)
def mth (l : List α) : α :=
  if _h : 2 ≤ l.length then nd (mth (l.take (hf l.length))) (mth (l.drop (hf l.length))) else l.headD e0
termination_by l.length
decreasing_by
  · have := hf_lt _ _h; simp; omega
  · have := hf_pos l.length; simp; omega
/-! Peaks, the last one first. -/
def merge (s : α) (z : Nat) : List (α × Nat) → List (α × Nat)
  | [] => [(s, z)]
  | x :: xs => if x.2 = z then merge (nd x.1 s) (2 * z) xs else (s, z) :: x :: xs
def peaks (l : List α) : List (α × Nat) := l.foldl (fun ps s => merge nd s 1 ps) []
def tops (o : α) (ps : List (α × Nat)) : α := ps.foldl (fun o x => nd x.1 o) o
def top : List (α × Nat) → α
  | [] => e0
  | x :: xs => tops nd x.1 xs
/-! Paths -/
def strip : Nat → Nat → Nat → Nat × Nat
  | 0, a, b => (a, b)
  | f + 1, a, b => if a ≠ 0 ∧ a % 2 = 0 then strip f (a / 2) (b / 2) else (a, b)
def next (a b : Nat) : Nat × Nat := if a % 2 = 0 ∧ a = b then ((strip a a b).1 / 2, (strip a a b).2 / 2) else (a / 2, b / 2)
def right (a b : Nat) : Bool := decide (a % 2 = 1) || decide (a = b)
theorem strip_eq (f a b : Nat) (h : a = b) : (strip f a b).1 = (strip f a b).2 ∧ (strip f a b).1 ≤ a ∧ (strip f a b).2 ≤ b := by
  induction f generalizing a b with
  | zero => exact ⟨h, Nat.le_refl _, Nat.le_refl _⟩
  | succ f ih =>
    rw [strip]
    split
    · obtain ⟨h1, h2, h3⟩ := ih (a / 2) (b / 2) (by rw [h])
      exact ⟨h1, by omega, by omega⟩
    · exact ⟨h, Nat.le_refl _, Nat.le_refl _⟩
theorem next_lt (a b : Nat) (hb : b ≠ 0) : (next a b).2 < b := by
  unfold next
  split
  · rename_i h
    obtain ⟨h1, h2, h3⟩ := strip_eq a a b h.2
    show (strip a a b).2 / 2 < b
    omega
  · show b / 2 < b
    omega
theorem next_le (a b : Nat) (h : a ≤ b) : (next a b).1 ≤ (next a b).2 := by
  unfold next
  split
  · rename_i hc
    obtain ⟨h1, h2, h3⟩ := strip_eq a a b hc.2
    show (strip a a b).1 / 2 ≤ (strip a a b).2 / 2
    omega
  · show a / 2 ≤ b / 2
    omega
def climb (a b : Nat) : List Bool :=
  if _h : b = 0 then [] else right a b :: climb (next a b).1 (next a b).2
termination_by b
decreasing_by exact next_lt a b _h
def up (s : α) (i n : Nat) (p : List α) (bad : α) : α × Bool :=
  if _h : 2 ≤ n then
    match p.getLast? with
    | none => (bad, false)
    | some x => if i < hf n then (nd (up s i (hf n) p.dropLast bad).1 x, (up s i (hf n) p.dropLast bad).2) else (nd x (up s (i - hf n) (n - hf n) p.dropLast bad).1, (up s (i - hf n) (n - hf n) p.dropLast bad).2)
  else (s, decide (p = []))
termination_by n
decreasing_by
  all_goals (first | exact hf_lt n _h | (have := hf_pos n; omega))
/-! Beginnings -/
def cdr (m n : Nat) : List Bool :=
  if _h : m < n ∧ 1 ≤ m then (if m ≤ hf n then false :: cdr m (hf n) else true :: cdr (m - hf n) (n - hf n)) else []
termination_by n
decreasing_by
  · exact hf_lt n (by omega)
  · have := hf_pos n; omega
theorem cdr_all (m n : Nat) (h : ¬ (m < n ∧ 1 ≤ m)) : cdr m n = [] := by rw [cdr, dif_neg h]
theorem cdr_left (m n : Nat) (h : m < n) (h1 : 1 ≤ m) (hi : m ≤ hf n) : cdr m n = false :: cdr m (hf n) := by rw [cdr, dif_pos ⟨h, h1⟩, if_pos hi]
theorem cdr_right (m n : Nat) (h : m < n) (h1 : 1 ≤ m) (hi : ¬ m ≤ hf n) : cdr m n = true :: cdr (m - hf n) (n - hf n) := by rw [cdr, dif_pos ⟨h, h1⟩, if_neg hi]
def ones : Nat → Nat → Nat → Nat × Nat
  | 0, a, b => (a, b)
  | f + 1, a, b => if a % 2 = 1 then ones f (a / 2) (b / 2) else (a, b)
def rises : List Bool → List α → α × α → α × α
  | d :: ds, x :: xs, s => rises ds xs (if d then (nd x s.1, nd x s.2) else (s.1, nd s.2 x))
  | _, _, s => s
theorem rises_snoc (ds : List Bool) (xs : List α) (d : Bool) (x : α) (s : α × α) (h : ds.length = xs.length) : rises nd (ds ++ [d]) (xs ++ [x]) s = if d then (nd x (rises nd ds xs s).1, nd x (rises nd ds xs s).2) else ((rises nd ds xs s).1, nd (rises nd ds xs s).2 x) := by
  induction ds generalizing xs s with
  | nil => cases xs with
    | nil => rfl
    | cons y ys => simp at h
  | cons e ds ih => cases xs with
    | nil => simp at h
    | cons y ys => simp only [List.cons_append, rises]; exact ih ys _ (by simpa using h)
def both (m n : Nat) (p : List α) (first : Bool) (old bad : α) : α × α × Bool :=
  if _h : m < n ∧ 1 ≤ m then
    match p.getLast? with
    | none => (bad, bad, false)
    | some x =>
      if m ≤ hf n then
        let t := both m (hf n) p.dropLast first old bad
        (t.1, nd t.2.1 x, t.2.2)
      else
        let t := both (m - hf n) (n - hf n) p.dropLast false old bad
        (nd x t.1, nd x t.2.1, t.2.2)
  else bif first then (old, old, decide (p = [])) else if p.length = 1 then (p.headD bad, p.headD bad, true) else (bad, bad, false)
termination_by n
decreasing_by
  · exact hf_lt n (by omega)
  · have := hf_pos n; omega
def start (f : Bool) (old : α) (p : List α) : List α := bif f then old :: p else p
theorem both_ok (n : Nat) : ∀ (m : Nat) (p : List α) (first : Bool) (old bad : α),
    (both nd m n p first old bad).2.2 = decide ((start (first && (cdr m n).all (!·)) old p).length = (cdr m n).length + 1) ∧
    (∀ x q, start (first && (cdr m n).all (!·)) old p = x :: q → q.length = (cdr m n).length → ((both nd m n p first old bad).1, (both nd m n p first old bad).2.1) = rises nd (cdr m n).reverse q (x, x)) := by
  induction n using Nat.strongRecOn with
  | _ n ih =>
    intro m p first old bad
    by_cases hn : m < n ∧ 1 ≤ m
    · rw [both, dif_pos hn]
      by_cases hi : m ≤ hf n
      · rw [cdr_left m n hn.1 hn.2 hi]
        rcases snoc p with rfl | ⟨q, x, rfl⟩
        · simp only [List.getLast?_nil, List.all_cons, Bool.not_false, Bool.true_and]
          generalize (first && (cdr m (hf n)).all fun x => !x) = f
          cases f
          · exact ⟨by simp [start], fun x q h => by simp [start] at h⟩
          · refine ⟨by simp [start], fun x q h hq => ?_⟩
            simp only [start, cond_true, List.cons.injEq] at h
            rw [← h.2] at hq
            simp at hq
        · simp only [List.getLast?_append, List.getLast?_singleton, List.dropLast_concat, Option.some_or, if_pos hi, List.all_cons, Bool.not_false, Bool.true_and]
          obtain ⟨h1, h2⟩ := ih (hf n) (hf_lt n (by omega)) m q first old bad
          have hst : start (first && (cdr m (hf n)).all fun x => !x) old (q ++ [x]) = start (first && (cdr m (hf n)).all fun x => !x) old q ++ [x] := by
            unfold start
            cases (first && (cdr m (hf n)).all fun x => !x) <;> rfl
          refine ⟨by rw [h1, hst]; simp, fun y r h hr => ?_⟩
          rw [hst] at h
          rcases snoc r with rfl | ⟨r', z, rfl⟩
          · simp at hr
          · have hl : r'.length = (cdr m (hf n)).length := by simpa using hr
            rw [show y :: (r' ++ [z]) = (y :: r') ++ [z] from rfl] at h
            obtain ⟨ha, hb⟩ := List.append_inj' h rfl
            cases hb
            have h3 := h2 y r' ha hl
            rw [List.reverse_cons, rises_snoc _ _ _ _ _ _ (by simpa using hl.symm), ← h3]
            rfl
      · rw [cdr_right m n hn.1 hn.2 hi]
        rcases snoc p with rfl | ⟨q, x, rfl⟩
        · simp only [List.getLast?_nil, List.all_cons, Bool.not_true, Bool.false_and, Bool.and_false]
          exact ⟨by simp [start], fun x q h => by simp [start] at h⟩
        · simp only [List.getLast?_append, List.getLast?_singleton, List.dropLast_concat, Option.some_or, if_neg hi, List.all_cons, Bool.not_true, Bool.false_and, Bool.and_false]
          obtain ⟨h1, h2⟩ := ih (n - hf n) (by have := hf_pos n; omega) (m - hf n) q false old bad
          simp only [Bool.false_and] at h1 h2
          refine ⟨by rw [h1, decide_eq_decide]; simp only [start, cond_false, List.length_append, List.length_cons, List.length_nil]; omega, fun y r h hr => ?_⟩
          simp only [start, cond_false] at h h2
          rcases snoc r with rfl | ⟨r', z, rfl⟩
          · simp at hr
          · have hl : r'.length = (cdr (m - hf n) (n - hf n)).length := by simpa using hr
            rw [show y :: (r' ++ [z]) = (y :: r') ++ [z] from rfl] at h
            obtain ⟨ha, hb⟩ := List.append_inj' h rfl
            cases hb
            have h3 := h2 y r' ha hl
            rw [List.reverse_cons, rises_snoc _ _ _ _ _ _ (by simpa using hl.symm), ← h3]
            rfl
    · rw [both, dif_neg hn, cdr_all m n hn]
      cases first
      · refine ⟨?_, fun x q h hq => ?_⟩
        · match p with
          | [] => rfl
          | [x] => rfl
          | _ :: _ :: _ => simp [start]
        · simp only [start, Bool.false_and, cond_false] at h
          subst h
          obtain rfl : q = [] := by cases q with
            | nil => rfl
            | cons _ _ => simp at hq
          rfl
      · refine ⟨?_, fun x q h hq => ?_⟩
        · cases p <;> simp [start]
        · simp only [start, List.all_nil, Bool.and_self, cond_true, List.cons.injEq] at h
          obtain ⟨rfl, rfl⟩ := h
          rfl
def sub (l : List α) (m : Nat) (first : Bool) : List α :=
  if _h : m < l.length ∧ 1 ≤ m then (if m ≤ hf l.length then sub (l.take (hf l.length)) m first ++ [mth nd e0 (l.drop (hf l.length))] else sub (l.drop (hf l.length)) (m - hf l.length) false ++ [mth nd e0 (l.take (hf l.length))])
  else bif first then [] else [mth nd e0 l]
termination_by l.length
decreasing_by
  · have := hf_lt l.length (by omega); simp; omega
  · have := hf_pos l.length; simp; omega
end
end Rfc
end Go.Proofs.YtmonkggoilhngaaGreatDoor
/- The walks of rfclog.EntrySum, node, half. -/
namespace Go.Proofs.YtmonkggoilhngaaGreatDoor
open Go.RowKit Bits Mem Sha
namespace Ref
theorem z32r : (#[.int .u8 0, .int .u8 0, .int .u8 0, .int .u8 0, .int .u8 0, .int .u8 0, .int .u8 0, .int .u8 0, .int .u8 0, .int .u8 0, .int .u8 0, .int .u8 0, .int .u8 0, .int .u8 0, .int .u8 0, .int .u8 0, .int .u8 0, .int .u8 0, .int .u8 0, .int .u8 0, .int .u8 0, .int .u8 0, .int .u8 0, .int .u8 0, .int .u8 0, .int .u8 0, .int .u8 0, .int .u8 0, .int .u8 0, .int .u8 0, .int .u8 0, .int .u8 0] : Array Value) = bysA zeros32 := rfl
def nodeS (a b : List UInt8) : List UInt8 := sha (1 :: (a ++ b))
def leafS (l : List UInt8) : List UInt8 := sha (0 :: l)
theorem nodeS_length (a b : List UInt8) : (nodeS a b).length = 32 := sha_length _
theorem leafS_length (l : List UInt8) : (leafS l).length = 32 := sha_length _
theorem Rp3.row {w : World} {g n : Nat} {l : List UInt8} {t : TypeId} {f : Nat × Nat} (h : w.heap[g]? = some (.cells (bysA l) t f)) (hn : l.length = n) (hm : n ≤ maxLen) : Rd w 1 (.slice (some ⟨g, 0, none⟩) n n) n (bys l) := by
  subst hn
  refine ⟨by rw [bys_length]; omega, .inr ⟨g, 0, l.length, rfl, lt_of_heap h, Nat.le_refl _, hm, fun j u hu => ?_⟩⟩
  rw [Nat.zero_add, cell_of_row w g j _ _ _ h]
  simpa [bysA] using hu
theorem Rp3.lit2 (w : World) (a b : List UInt8) (x y : Value) (hx : ∃ q c, x = .slice q a.length c ∧ Rd w 1 (.slice q a.length c) a.length (bys a)) (hy : ∃ q c, y = .slice q b.length c ∧ Rd w 1 (.slice q b.length c) b.length (bys b)) :
    Parts (w.alloc (.cells #[x, y] 23)) (.slice (some ⟨w.heap.size, 0, none⟩) 2 2) [a, b] := by
  have hb : Below w.heap.size w (w.alloc (.cells #[x, y] 23)) := (Below.refl _ _).alloc (Nat.le_refl _) _
  refine ⟨[x, y], Rd_lit w #[x, y] 23 1 2 rfl (by decide), fun i hi => ?_⟩
  obtain ⟨q, c, rfl, hx⟩ := hx
  obtain ⟨q', c', rfl, hy⟩ := hy
  match i, hi with
  | 0, _ => exact ⟨q, c, rfl, hx.below hb⟩
  | 1, _ => exact ⟨q', c', rfl, hy.below hb⟩
theorem Rp3.of3 {w : World} {v x y z : Value} {a b c : List UInt8} (h : Rd w 1 v 3 [x, y, z]) (hx : ∃ q c, x = .slice q a.length c ∧ Rd w 1 (.slice q a.length c) a.length (bys a)) (hy : ∃ q c, y = .slice q b.length c ∧ Rd w 1 (.slice q b.length c) b.length (bys b)) (hz : ∃ q k, z = .slice q c.length k ∧ Rd w 1 (.slice q c.length k) c.length (bys c)) : Parts w v [a, b, c] := by
  refine ⟨[x, y, z], h, fun i hi => ?_⟩
  obtain ⟨q, k, rfl, hx⟩ := hx
  obtain ⟨q2, k2, rfl, hy⟩ := hy
  obtain ⟨q3, k3, rfl, hz⟩ := hz
  match i, hi with
  | 0, _ => exact ⟨_, _, rfl, hx⟩
  | 1, _ => exact ⟨_, _, rfl, hy⟩
  | 2, _ => exact ⟨_, _, rfl, hz⟩
set_option maxRecDepth 100000 in
set_option maxHeartbeats 4000000 in
theorem entrySum_any (q : Option Addr) (c : Nat) (l : List UInt8) (w : World) (hS : Sha.Tabs w) (hl : Rd w 1 (.slice q l.length c) l.length (bys l)) (h : l.length ≤ 1000000) :
    Calls Tryz.prog 92 #[.slice q l.length c] w fun e w' => e = .returned (.agg (bysA (leafS l))) ∧ Below w.heap.size w w' := by
  have HS := Lib.hid hS
  have HL := Lib.hid hl
  clear hS hl
  go_enter Tryz.func92, Tryz.ntmps92
  go_wp2_with fail
  rw [z32r]
  have hrz : (w.alloc (.cells (bysA zeros32) 22)).heap[w.heap.size]? = some (.cells (bysA zeros32) 22 (0, 0)) := Rg.heap_alloc_at w _ _ rfl
  have hw1 : Below w.heap.size w (w.alloc (.cells (bysA zeros32) 22)) := (Below.refl _ _).alloc (Nat.le_refl _) _
  obtain ⟨w1, hw1e⟩ : ∃ w1, w1 = w.alloc (.cells (bysA zeros32) 22) := ⟨_, rfl⟩
  have hs1 : w1.heap.size = w.heap.size + 1 := by rw [hw1e]; simp
  rw [← hw1e] at hrz hw1
  rw [← hw1e]
  have hx2 : Below w1.heap.size w1 (w1.alloc (.cells #[.int .u8 0] 5)) := (Below.refl _ _).alloc (Nat.le_refl _) _
  have hr4 : Rd (w1.alloc (.cells #[.int .u8 0] 5)) 1 (.slice (some ⟨w1.heap.size, 0, none⟩) 1 1) 1 (bys [0]) := Rd_lit w1 #[.int .u8 0] 5 1 1 rfl (by decide)
  obtain ⟨w2, hw2e⟩ : ∃ w2, w2 = w1.alloc (.cells #[.int .u8 0] 5) := ⟨_, rfl⟩
  have hs2 : w2.heap.size = w.heap.size + 1 + 1 := by rw [hw2e, World.size_alloc, hs1]
  rw [← hw2e] at hx2 hr4
  rw [← hw2e, ← hs2, ← hs1]
  have h2 : Below w.heap.size w w2 := hw1.trans (hx2.mono hw1.size)
  have hp := Rp3.lit2 w2 [0] l _ _ ⟨_, _, rfl, hr4⟩ ⟨_, _, rfl, HL.out.below h2⟩
  have hx3 : Below w2.heap.size w2 (w2.alloc (.cells #[.slice (some ⟨w1.heap.size, 0, none⟩) 1 1, .slice q l.length c] 23)) := (Below.refl _ _).alloc (Nat.le_refl _) _
  have hs := parts_any _ _ [[0], l] _ (HS.out.below (h2.trans (hx3.mono h2.size))) hp (by simp; omega)
  rw [show [[0], l].flatten = 0 :: l from by simp] at hs
  have HB2 := Lib.hid h2
  have HX3 := Lib.hid hx3
  have HRZ := Lib.hid (Rp.row_le hx2 hrz)
  clear hw1e hw2e hs1 hs2 hp hrz hw1 hx2 hr4 h2 hx3
  refine hs.mono ?_
  clear hs
  rintro e w3 ⟨rfl, hb3⟩
  have h23 : Below w2.heap.size w2 w3 := HX3.out.trans (hb3.mono HX3.out.size)
  have HB3 := Lib.hid (HB2.out.trans (h23.mono HB2.out.size))
  have HRZ3 := Lib.hid (Rp.row_le h23 HRZ.out)
  have HM := Lib.hid (sha_length (0 :: l))
  obtain ⟨R, hR⟩ : ∃ R, R = sha (0 :: l) := ⟨_, rfl⟩
  rw [← hR] at HM ⊢
  have HRR : Hid (R = leafS l) := Lib.hid hR
  have HIM : Hid ((Tryz.prog.info? 22).map (·.size) = some (bysA R).size) := Lib.hid (by rw [bysA_size, HM.out]; exact info32)
  clear hR hb3 h23 HX3 HRZ
  go_wp2_with (refine Rg.store_row rfl 22 _ _ rfl w.heap.size rfl 22 (bysA zeros32) (bysA R) rfl HRZ3.out HIM.out (by rw [bysA_size, bysA_size, HM.out]; rfl) (bysA_one _) ?_)
  refine bodyPost_ret (v := .agg (bysA R)) (results_cell_row (P := Tryz.prog) rfl _ _ w.heap.size 22 (bysA R) (0, 0) _ rfl (setRow_heap _ _ _ _ 22 _ HRZ3.out) Tryz.underlying22 rfl HIM.out) rfl ⟨by rw [HRR.out], ?_⟩
  exact Rg.below_setRow HB3.out (Nat.le_refl _) _
set_option maxRecDepth 100000 in
set_option maxHeartbeats 4000000 in
theorem node_any (a b : List UInt8) (w : World) (hS : Sha.Tabs w) (ha : a.length = 32) (hb : b.length = 32) :
    Calls Tryz.prog 94 #[.agg (bysA a), .agg (bysA b)] w fun e w' => e = .returned (.agg (bysA (nodeS a b))) ∧ Below w.heap.size w w' := by
  obtain ⟨wz, hwz⟩ : ∃ wz, wz = ((w.alloc (.cells (bysA a) 22)).alloc (.cells (bysA b) 22)).alloc (.cells (bysA zeros32) 22) := ⟨_, rfl⟩
  have hbz : Below w.heap.size w wz := by rw [hwz]; exact (((Below.refl _ _).alloc (Nat.le_refl _) _).alloc (by simp) _).alloc (by simp; omega) _
  have hra : wz.heap[w.heap.size]? = some (.cells (bysA a) 22 (0, 0)) := by rw [hwz]; exact (Rg.heap_alloc_past _ _ _ (by simp; omega)).trans ((Rg.heap_alloc_past _ _ _ (by simp)).trans (Rg.heap_alloc_at w _ _ rfl))
  have hrb : wz.heap[w.heap.size + 1]? = some (.cells (bysA b) 22 (0, 0)) := by rw [hwz]; exact (Rg.heap_alloc_past _ _ _ (by simp)).trans (Rg.heap_alloc_at _ _ _ (by simp))
  have hrz : wz.heap[w.heap.size + 1 + 1]? = some (.cells (bysA zeros32) 22 (0, 0)) := by rw [hwz]; exact Rg.heap_alloc_at _ _ _ (by simp)
  have HS := Lib.hid hS
  have HA := Lib.hid ha
  have HB := Lib.hid hb
  have HWZ := Lib.hid hwz
  have HBZ := Lib.hid hbz
  have HRA := Lib.hid hra
  have HRB := Lib.hid hrb
  have HRZ := Lib.hid hrz
  obtain ⟨M, hM⟩ : ∃ M, M = nodeS a b := ⟨_, rfl⟩
  have HME := Lib.hid hM
  have HML : Hid (M.length = 32) := Lib.hid (by rw [hM]; exact nodeS_length a b)
  have HIM : Hid ((Tryz.prog.info? 22).map (·.size) = some (bysA M).size) := Lib.hid (by rw [bysA_size, HML.out]; exact info32)
  clear hS ha hb hwz hbz hra hrb hrz hM
  go_enter Tryz.func94, Tryz.ntmps94
  go_wp2_with fail
  rw [z32r, ← HWZ.out]
  refine Rc.region (wz.heap.size) 5 [Rc.F 0 (fun p => .slice p.q 1 1) (fun p _ y => Rd y 1 (.slice p.q 1 1) 1 (bys [1])), ⟨3, [0], [], some (fun _ pj => .slice pj.q 3 3), fun p pj _ y => Rd y 1 (.slice pj.q 3 3) 3 [.slice (p 0).q 1 1, .slice (some ⟨w.heap.size, 0, none⟩) 32 32, .slice (some ⟨w.heap.size + 1, 0, none⟩) 32 32]⟩, Rc.G 4 [0, 3] (fun _ => .agg (bysA M)) (fun _ _ _ => True)] [] (by kernel_rfl) (Nat.le_refl _) (by kernel_rfl) ?_; intro p; simp only [List.take, List.drop]
  refine Rc.fK rfl rfl rfl rfl ?_ ?_
  · intro x Fs hx hle hg K hK
    have hlit : Rd (x.alloc (.cells #[.int .u8 1] 5)) 1 (.slice (some ⟨x.heap.size, 0, none⟩) 1 1) 1 (bys [1]) := Rd_lit x #[.int .u8 1] 5 1 1 rfl (by decide)
    go_wp2_with fail
    exact hK ⟨some ⟨x.heap.size, 0, none⟩, 1, undef⟩ _ ((Below.refl _ _).alloc (Nat.le_refl _) _) fun F y hF hy => hlit.keeps hy (fun k hk => .inr (by cases hk; exact hF _ (Nat.le_refl _) (by simp)))
  intro K hK; go_simp; refine hK _ ?_; clear hK K
  iterate 2 (refine Rc.rK rfl rfl ?_; intro K hK; apply Exists.intro; refine ⟨?_, ?_⟩; (focus (intro x hx;  go_simp; (first | (fail) | ((try go_bits); (try go_simp); (try rfl))))); go_simp; refine hK _ ?_; clear hK K)
  refine Rc.fK rfl rfl rfl rfl ?_ ?_
  · intro x Fs hx hle hg K hK
    have hlit := Rd_lit x #[.slice (p 0).q 1 1, .slice (some ⟨w.heap.size, 0, none⟩) 32 32, .slice (some ⟨w.heap.size + 1, 0, none⟩) 32 32] 23 1 3 rfl (by decide)
    go_wp2_with fail
    exact hK ⟨some ⟨x.heap.size, 0, none⟩, 3, undef⟩ _ ((Below.refl _ _).alloc (Nat.le_refl _) _) fun F y hF hy => hlit.keeps hy (fun k hk => .inr (by cases hk; exact hF _ (Nat.le_refl _) (by simp)))
  intro K hK; go_simp; refine hK _ ?_; clear hK K
  refine Rc.fK rfl rfl rfl rfl ?_ ?_
  · intro x Fs hx hle hg K hK
    have hbx := HBZ.out.trans ((Rc.undrew hx).mono HBZ.out.size)
    have h0 : Rd x 1 (.slice (p 0).q 1 1) 1 (bys [1]) := hg.1
    have h3 : Rd x 1 (.slice (p 3).q 3 3) 3 [.slice (p 0).q 1 1, .slice (some ⟨w.heap.size, 0, none⟩) 32 32, .slice (some ⟨w.heap.size + 1, 0, none⟩) 32 32] := hg.2.1
    have hra := Rp3.row (Rp.row_le (Rc.undrew hx) HRA.out) HA.out (by decide)
    have hrb := Rp3.row (Rp.row_le (Rc.undrew hx) HRB.out) HB.out (by decide)
    have hpt : Parts x (.slice (p 3).q 3 3) [[1], a, b] := Rp3.of3 h3 ⟨_, _, rfl, h0⟩ ⟨_, _, by rw [HA.out], by rw [HA.out]; exact hra⟩ ⟨_, _, by rw [HB.out], by rw [HB.out]; exact hrb⟩
    have hof := parts_any (p 3).q 3 [[1], a, b] x (HS.out.below hbx) hpt (by simp [HA.out, HB.out])
    rw [show [[1], a, b].flatten = 1 :: (a ++ b) by simp] at hof
    have HOF := Lib.hid (show Calls Tryz.prog _ _ _ (fun e w' => e = .returned (.agg (bysA M)) ∧ Below x.heap.size x w') by rw [HME.out]; exact hof)
    clear hof hg h0 h3 hra hrb hpt
    go_wp2_with fail
    refine HOF.out.mono ?_
    rintro e x' ⟨rfl, hb⟩
    go_wp2_with fail
    exact hK Rc.dflt x' hb (fun _ _ _ _ => trivial)
  intro K hK; go_simp; refine hK _ ?_; clear hK K
  refine Rc.done fun x Fs hx hle hg => ?_
  have HRZX := Lib.hid (Rp.row_le (Rc.undrew hx) HRZ.out)
  have HBX := Lib.hid (HBZ.out.trans ((Rc.undrew hx).mono HBZ.out.size))
  clear hx hle hg
  go_wp2_with (refine Rg.store_row rfl 22 _ _ rfl (w.heap.size + 1 + 1) rfl 22 (bysA zeros32) (bysA M) rfl HRZX.out HIM.out (by rw [bysA_size, bysA_size, HML.out]; rfl) (bysA_one _) ?_)
  refine NoPanic.normal ?_
  go_wp2_with fail
  refine bodyPost_ret (v := .agg (bysA M)) (results_cell_row (P := Tryz.prog) rfl _ _ (w.heap.size + 1 + 1) 22 (bysA M) (0, 0) _ rfl (setRow_heap _ _ _ _ 22 _ HRZX.out) Tryz.underlying22 rfl HIM.out) rfl ⟨by rw [HME.out], ?_⟩
  exact Rg.below_setRow HBX.out (by omega) _
end Ref
end Go.Proofs.YtmonkggoilhngaaGreatDoor
/- The walk of rfclog.total. -/
namespace Go.Proofs.YtmonkggoilhngaaGreatDoor
open Go.RowKit Bits Mem Sha
namespace Rc
section
variable {P : Program} {ops : Array Oper} {Q : Exit → Act → World → Prop} {B : Nat} {w : World} {spec : List Sp} {fin : List Nat} {tail : List Oper} {p : Nat → Par} {j : Nat} {o : Oper} {r : List Oper} {a : Act}
end
end Rc
namespace Ref
theorem range_list (s : List UInt8) (h : s.length = 32) : (List.range 32).map (fun i => s.getD i 0) = s := by
  refine List.ext_getElem? fun j => ?_
  by_cases hj : j < 32
  · rw [List.getElem?_map, List.getElem?_range hj]
    simp [List.getElem?_eq_getElem (show j < s.length by omega)]
  · rw [List.getElem?_eq_none (by simp; omega), List.getElem?_eq_none (by omega)]
def pk (L : List (List UInt8)) (i : Nat) : List (List UInt8 × Nat) := Rfc.peaks nodeS (L.take i)
end Ref
end Go.Proofs.YtmonkggoilhngaaGreatDoor
/- The walks of the log's Add, Len, Root. -/
namespace Go.Proofs.YtmonkggoilhngaaGreatDoor
open Go.RowKit Bits Mem Sha
namespace Rq
end Rq
theorem Sha.Tabs.rows {B : Nat} {w x : World} (h : Sha.Tabs w) (hb : Below B w x) (hT : (0 : Nat) < B ∧ (1 : Nat) < B) : Sha.Tabs x := by
  obtain ⟨t, f, h1⟩ := h.start
  obtain ⟨t', f', h2⟩ := h.rounds
  exact ⟨⟨t, f, (hb.block _ hT.1).trans h1⟩, ⟨t', f', (hb.block _ hT.2).trans h2⟩⟩
namespace Mem
theorem Rd.ltB {w : World} {n : Nat} {size : Nat} {v : Value} {xs : List Value} (h : Rd w size v n xs) : ∀ k, v.ownBlock = some k → k < w.heap.size := fun k hk => by
  rcases h.2 with ⟨hn, _⟩ | ⟨b, off, cap, rfl, hb, _⟩
  · rw [hn] at hk; cases hk
  · cases hk; exact hb
end Mem
namespace Ref
end Ref
end Go.Proofs.YtmonkggoilhngaaGreatDoor
/- The walk of the log's Inclusion. -/
namespace Go.Proofs.YtmonkggoilhngaaGreatDoor
open Go.RowKit Bits Mem Sha
namespace Ref
theorem flat_drop (L : List (List UInt8)) (h : All32 L) (k : Nat) (hk : k ≤ L.length) : (L.drop k).flatten = L.flatten.drop (k * 32) := by
  have h1 : L.flatten = (L.take k).flatten ++ (L.drop k).flatten := by rw [← List.flatten_append, List.take_append_drop]
  have h2 := (h.take k).flat
  rw [List.length_take, Nat.min_eq_left hk] at h2
  rw [h1, ← h2, List.drop_left]
theorem All32.drop {L : List (List UInt8)} (h : All32 L) (k : Nat) : All32 (L.drop k) := fun x hx => h x (List.mem_of_mem_drop hx)
theorem RdL.drop {w : World} {b off c k : Nat} {L : List (List UInt8)} (h : RdL w (.slice (some ⟨b, off, none⟩) L.length c) L) (hk : k ≤ L.length) : RdL w (.slice (some ⟨b, off + k * 32, none⟩) (L.length - k) (c - k)) (L.drop k) := by
  have hl := (h.1.drop k).flat
  refine ⟨h.1.drop k, ?_⟩
  rw [List.length_drop] at hl ⊢
  obtain ⟨h1, h2⟩ := h.2
  refine ⟨by rw [bys_length, hl], ?_⟩
  rcases h2 with ⟨hv, _⟩ | ⟨b', off', cap, hv, hb, hnc, hcm, hc⟩
  · cases hv
  · cases hv
    refine .inr ⟨b, off + k * 32, c - k, rfl, hb, by omega, by omega, fun j u hj => ?_⟩
    rw [Nat.add_assoc]
    refine hc _ u ?_
    rw [flat_drop L h.1 k hk] at hj
    unfold bys at hj ⊢
    rw [List.map_drop, List.getElem?_drop] at hj
    exact hj
end Ref
end Go.Proofs.YtmonkggoilhngaaGreatDoor
/- The walks of the climber's right and of power. -/
namespace Go.Proofs.YtmonkggoilhngaaGreatDoor
open Go.RowKit Bits Mem Sha
namespace Ref
theorem and_one (a : Nat) (h : a < 9223372036854775808) : bits .and .i64 (a : Int) (1 : Int) = ((a % 2 : Nat) : Int) := by
  have := i64_and a 1 h (by omega)
  rw [Nat.and_one_is_mod] at this
  exact this
set_option maxRecDepth 100000 in
set_option maxHeartbeats 1000000 in
theorem right16_any (a b : Nat) (w : World) (ha : a < 9223372036854775808) (hb : b < 9223372036854775808) :
    Calls Tryz.prog 93 #[.agg #[.int .i64 a, .int .i64 b]] w fun e w' => e = .returned (.bool (Rfc.right a b)) ∧ Below w.heap.size w w' := by
  have h1 := and_one a ha
  by_cases ho : a % 2 = 1
  · have HR : Hid (Rfc.right a b = true) := Lib.hid (by unfold Rfc.right; simp [ho])
    rw [ho] at h1
    have h2 : bits .and .i64 (a : Int) (1 : Int) = 1 := h1
    clear h1 ho
    go_enter Tryz.func93, Tryz.ntmps93
    go_wp2_with fail
    go_ret
    exact ⟨by rw [HR.out]; rfl, (Below.refl _ _).alloc (Nat.le_refl _) _⟩
  · have h2 : bits .and .i64 (a : Int) (1 : Int) = 0 := by rw [h1]; omega
    by_cases he : a = b
    · subst he
      have HR : Hid (Rfc.right a a = true) := Lib.hid (by unfold Rfc.right; simp)
      clear h1 ho
      go_enter Tryz.func93, Tryz.ntmps93
      go_wp2_with fail
      go_ret
      exact ⟨by rw [HR.out]; rfl, (Below.refl _ _).alloc (Nat.le_refl _) _⟩
    · have HR : Hid (Rfc.right a b = false) := Lib.hid (by unfold Rfc.right; simp [he]; omega)
      have hne : ((a : Int) == (b : Int)) = false := by rw [beq_eq_false_iff_ne]; omega
      clear h1 ho
      go_enter Tryz.func93, Tryz.ntmps93
      go_wp2_with fail
      go_ret
      exact ⟨by rw [HR.out]; rfl, (Below.refl _ _).alloc (Nat.le_refl _) _⟩
theorem infoCl (a b : Nat) : (Tryz.prog.info? 156).map (·.size) = some (#[Value.int .i64 (a : Int), .int .i64 (b : Int)] : Array Value).size := by kernel_rfl
set_option maxRecDepth 100000 in
set_option maxHeartbeats 2000000 in
theorem up16_any (a b : Nat) (w : World) (ha : a < 9223372036854775808) (hb : b < 9223372036854775808) (hr : a % 2 = 1 ∨ a = b) (h0 : a ≠ 0) :
    Calls Tryz.prog 95 #[.agg #[.int .i64 a, .int .i64 b]] w fun e w' => e = .returned (.agg #[.int .i64 (Rfc.next a b).1, .int .i64 (Rfc.next a b).2]) ∧ Below w.heap.size w w' := by
  have h1 := and_one a ha
  by_cases ho : a % 2 = 1
  · have HN : Hid (Rfc.next a b = (a / 2, b / 2)) := Lib.hid (by unfold Rfc.next; rw [if_neg (by omega)])
    rw [ho] at h1
    have h2 : bits .and .i64 (a : Int) (1 : Int) = 1 := h1
    have h3 : (a : Int) / 2 = ((a / 2 : Nat) : Int) := by omega
    clear h1 ho hr h3
    go_enter Tryz.func95, Tryz.ntmps95
    go_wp2_with fail
    refine bodyPost_ret (v := .agg #[.int .i64 ((a : Int) / 2), .int .i64 ((b : Int) / 2)]) (results_cell_row (P := Tryz.prog) rfl _ _ (w.heap.size + 1) 156 #[.int .i64 ((a : Int) / 2), .int .i64 ((b : Int) / 2)] (0, 0) _ rfl (Rg.heap_alloc_at _ _ _ (by simp)) Tryz.underlying156 rfl (infoCl (a / 2) (b / 2))) rfl ⟨?_, ((Below.refl _ _).alloc (Nat.le_refl _) _).alloc (by simp) _⟩
    rw [HN.out]
    rfl
  · obtain rfl : a = b := by omega
    have h2 : bits .and .i64 (a : Int) (1 : Int) = 0 := by rw [h1]; omega
    clear h1
    go_enter Tryz.func95, Tryz.ntmps95
    have HN : Hid (Rfc.next a a = ((Rfc.strip a a a).1 / 2, (Rfc.strip a a a).2 / 2)) := Lib.hid (by unfold Rfc.next; rw [if_pos ⟨by omega, rfl⟩])
    clear hr ho
    go_wp2_with fail
    go_loopw [] (fun wr => ∃ x f : Nat, x ≤ f ∧ x < 9223372036854775808 ∧ Hid (Rfc.strip f x x = Rfc.strip a a a) ∧ wr = (w.alloc (.cells #[.int .i64 (x : Int), .int .i64 (x : Int)] 156)).alloc (.cells #[.int .i64 0, .int .i64 0] 156)) (fun wr => (intOf ((wr.cell? ⟨w.heap.size, 0, none⟩).getD undef)).toNat)
    case atStart => exact ⟨a, a, Nat.le_refl _, ha, Lib.hid rfl, rfl⟩
    case round =>
      obtain ⟨x, f, hxf, hxl, HS, rfl⟩ := hrel
      have hx1 := and_one x hxl
      have hcell : ∀ y : Int, ((w.alloc (.cells #[.int .i64 y, .int .i64 y] 156)).alloc (.cells #[.int .i64 0, .int .i64 0] 156)).cell? ⟨w.heap.size, 0, none⟩ = some (.int .i64 y) := fun y =>
        (cell_of_row _ _ _ _ _ _ ((Rg.heap_alloc_past (w.alloc (.cells #[.int .i64 y, .int .i64 y] 156)) _ w.heap.size (by simp)).trans (Rg.heap_alloc_at w (.cells #[.int .i64 y, .int .i64 y] 156) _ rfl))).trans rfl
      have HC := Lib.hid hcell
      clear hcell
      by_cases hx0 : x = 0
      · have hne : ((x : Int) != 0) = false := by rw [hx0]; rfl
        have HE : Hid (Rfc.next a a = (x / 2, x / 2)) := Lib.hid (by
          have h : Rfc.strip f x x = (x, x) := by
            cases f with
            | zero => rfl
            | succ f => rw [Rfc.strip, if_neg (by omega)]
          rw [HN.out, ← HS.out, h])
        clear hx1
        (try clear hxo)
        (try clear hx0)
        go_wp2_with fail
        refine bodyPost_ret (v := .agg #[.int .i64 ((x : Int) / 2), .int .i64 ((x : Int) / 2)]) (results_cell_row (P := Tryz.prog) rfl _ _ (w.heap.size + 1) 156 #[.int .i64 ((x : Int) / 2), .int .i64 ((x : Int) / 2)] (0, 0) _ rfl (Rg.heap_alloc_at _ _ _ (by simp)) Tryz.underlying156 rfl (infoCl (x / 2) (x / 2))) rfl ⟨?_, ((Below.refl _ _).alloc (Nat.le_refl _) _).alloc (by simp) _⟩
        rw [HE.out]
        rfl
      · have hne : ((x : Int) != 0) = true := by rw [bne_iff_ne]; omega
        by_cases hxo : x % 2 = 1
        · have hx2 : bits .and .i64 (x : Int) (1 : Int) = 1 := by rw [hx1, hxo]; rfl
          have HE : Hid (Rfc.next a a = (x / 2, x / 2)) := Lib.hid (by
            have h : Rfc.strip f x x = (x, x) := by
              cases f with
              | zero => rfl
              | succ f => rw [Rfc.strip, if_neg (by omega)]
            rw [HN.out, ← HS.out, h])
          clear hx1
          (try clear hxo)
          (try clear hx0)
          go_wp2_with fail
          refine bodyPost_ret (v := .agg #[.int .i64 ((x : Int) / 2), .int .i64 ((x : Int) / 2)]) (results_cell_row (P := Tryz.prog) rfl _ _ (w.heap.size + 1) 156 #[.int .i64 ((x : Int) / 2), .int .i64 ((x : Int) / 2)] (0, 0) _ rfl (Rg.heap_alloc_at _ _ _ (by simp)) Tryz.underlying156 rfl (infoCl (x / 2) (x / 2))) rfl ⟨?_, ((Below.refl _ _).alloc (Nat.le_refl _) _).alloc (by simp) _⟩
          rw [HE.out]
          rfl
        · have hx2 : bits .and .i64 (x : Int) (1 : Int) = 0 := by rw [hx1]; omega
          clear hx1
          go_wp2_with fail
          obtain ⟨f, rfl⟩ : ∃ g, f = g + 1 := ⟨f - 1, by omega⟩
          refine ⟨⟨x / 2, f, by omega, by omega, Lib.hid (by rw [← HS.out, Rfc.strip, if_pos ⟨hx0, by omega⟩]), rfl⟩, ?_⟩
          rw [HC.out, HC.out]
          show ((x : Int) / 2).toNat < (x : Int).toNat
          omega
end Ref
end Go.Proofs.YtmonkggoilhngaaGreatDoor
/- The plain law of the log, second part: what the climber's loops compute. No program in sight. -/
namespace Go.Proofs.YtmonkggoilhngaaGreatDoor
namespace Rfc
section
variable {α : Type} (nd : α → α → α)
def runI : Nat → Nat → α → List α → Option α
  | _, b, s, [] => if b = 0 then some s else none
  | a, b, s, x :: ps => if b = 0 then none else bif right a b then runI (next a b).1 (next a b).2 (nd x s) ps else runI (a / 2) (b / 2) (nd s x) ps
end
end Rfc
end Go.Proofs.YtmonkggoilhngaaGreatDoor
/- The walk of rfclog.CheckInclusion. -/
namespace Go.Proofs.YtmonkggoilhngaaGreatDoor
open Go.RowKit Bits Mem Sha
namespace Ref
def chkI (l : List UInt8) (i n : Int) (P : List (List UInt8)) (root : List UInt8) : Int :=
  if n < 1 ∨ i < 0 ∨ n ≤ i then 1 else if Rfc.runI nodeS i.toNat (n.toNat - 1) (leafS l) P = some root then 0 else 17
theorem right_up {a b : Nat} (h : Rfc.right a b = true) (hb : b ≠ 0) : (a % 2 = 1 ∨ a = b) ∧ a ≠ 0 := by
  unfold Rfc.right at h
  simp at h
  omega
theorem info_of {M : List UInt8} (h : M.length = 32) : (Tryz.prog.info? 22).map (·.size) = some (bysA M).size := by rw [bysA_size, h]; exact info32
set_option maxRecDepth 100000 in
set_option maxHeartbeats 8000000 in
theorem checkI_any (q : Option Addr) (c : Nat) (l : List UInt8) (i n : Int) (qp : Option Addr) (cp : Nat) (P : List (List UInt8)) (root : List UInt8) (w : World) (hS : Sha.Tabs w) (hl : Rd w 1 (.slice q l.length c) l.length (bys l)) (h : l.length ≤ 1000000) (hp : RdL w (.slice qp P.length cp) P) (hr : root.length = 32) (hn : n ≤ 9223372036854775807) :
    Calls Tryz.prog 69 #[.slice q l.length c, .int .i64 i, .int .i64 n, .slice qp P.length cp, .agg (bysA root)] w fun e w' => e = .returned (.int .i64 (chkI l i n P root)) ∧ Below w.heap.size w w' := by
  have HS := Lib.hid hS
  have HL := Lib.hid hl
  have HP := Lib.hid hp
  have HR := Lib.hid hr
  have hcap := Rd_cap hp.2
  unfold maxLen at hcap
  have hPl : P.length ≤ 9223372036854775807 := by omega
  clear hcap
  clear hS hl hp hr
  by_cases h1 : n < 1
  ·
    as_aux_lemma =>
      have HE : Hid (chkI l i n P root = 1) := Lib.hid (by unfold chkI; rw [if_pos (by omega)])
      go_enter Tryz.func69, Tryz.ntmps69
      go_wp2_with fail
      go_ret
      exact ⟨by rw [HE.out]; rfl, (Below.refl _ _).alloc (Nat.le_refl _) _⟩
  · by_cases h2 : i < 0
    ·
      as_aux_lemma =>
        have HE : Hid (chkI l i n P root = 1) := Lib.hid (by unfold chkI; rw [if_pos (by omega)])
        go_enter Tryz.func69, Tryz.ntmps69
        go_wp2_with fail
        go_ret
        exact ⟨by rw [HE.out]; rfl, (Below.refl _ _).alloc (Nat.le_refl _) _⟩
    · by_cases h3 : n ≤ i
      ·
        as_aux_lemma =>
          have HE : Hid (chkI l i n P root = 1) := Lib.hid (by unfold chkI; rw [if_pos (by omega)])
          go_enter Tryz.func69, Tryz.ntmps69
          go_wp2_with fail
          go_ret
          exact ⟨by rw [HE.out]; rfl, (Below.refl _ _).alloc (Nat.le_refl _) _⟩
      · obtain ⟨iN, rfl⟩ : ∃ k : Nat, i = (k : Int) := ⟨i.toNat, by omega⟩
        obtain ⟨m, rfl⟩ : ∃ m : Nat, n = (m : Int) + 1 := ⟨(n - 1).toNat, by omega⟩
        have him : iN ≤ m := by omega
        have hmb : m < 9223372036854775807 := by omega
        have HE : Hid (chkI l iN ((m : Int) + 1) P root = if Rfc.runI nodeS iN m (leafS l) P = some root then 0 else 17) := Lib.hid (by
          unfold chkI
          rw [if_neg (by omega), show ((m : Int) + 1).toNat - 1 = m by omega]
          rfl)
        obtain ⟨w1, hw1⟩ : ∃ w1, w1 = (w.alloc (.cells (bysA root) 22)).alloc (.cells #[.int .i64 (iN : Int), .int .i64 (m : Int)] 156) := ⟨_, rfl⟩
        have hb1 : Below w.heap.size w w1 := by rw [hw1]; exact ((Below.refl _ _).alloc (Nat.le_refl _) _).alloc (by simp) _
        have hrr : w1.heap[w.heap.size]? = some (.cells (bysA root) 22 (0, 0)) := by rw [hw1]; exact (Rg.heap_alloc_past _ _ _ (by simp)).trans (Rg.heap_alloc_at w _ _ rfl)
        have hrc : w1.heap[w.heap.size + 1]? = some (.cells #[.int .i64 (iN : Int), .int .i64 (m : Int)] 156 (0, 0)) := by rw [hw1]; exact Rg.heap_alloc_at _ _ _ (by simp)
        have HW1 := Lib.hid hw1
        have HB1 := Lib.hid hb1
        have HRR1 := Lib.hid hrr
        have HRC1 := Lib.hid hrc
        clear hw1 hb1 hrr hrc
        go_enter Tryz.func69, Tryz.ntmps69
        go_wp2_with fail
        rw [← HW1.out]
        refine (entrySum_any q c l w1 (HS.out.below HB1.out) (HL.out.below HB1.out) h).mono ?_
        rintro e w2 ⟨rfl, hb2⟩
        obtain ⟨E, hE⟩ : ∃ E, E = leafS l := ⟨_, rfl⟩
        have HEL : Hid (E.length = 32) := Lib.hid (by rw [hE]; exact leafS_length l)
        have HIE := Lib.hid (info_of HEL.out)
        have HEE := Lib.hid hE
        rw [← hE]
        rw [← hE] at HE
        obtain ⟨w3, hw3⟩ : ∃ w3, w3 = w2.alloc (.cells (bysA E) 22) := ⟨_, rfl⟩
        have hb23 : Below w2.heap.size w2 w3 := by rw [hw3]; exact (Below.refl _ _).alloc (Nat.le_refl _) _
        have hb13 : Below w1.heap.size w1 w3 := hb2.trans (hb23.mono hb2.size)
        have hrs : w3.heap[w2.heap.size]? = some (.cells (bysA E) 22 (0, 0)) := by rw [hw3]; exact Rg.heap_alloc_at _ _ _ rfl
        have HW3 := Lib.hid hw3
        have HRS3 := Lib.hid hrs
        have HRR3 := Lib.hid (Rp.row_le hb13 HRR1.out)
        have HRC3 := Lib.hid (Rp.row_le hb13 HRC1.out)
        have HB3 : Hid (Below w.heap.size w w3) := Lib.hid (HB1.out.trans (hb13.mono HB1.out.size))
        have hsb1 : w.heap.size + 1 < w2.heap.size := Nat.lt_of_lt_of_le (lt_of_heap HRC1.out) hb2.size
        clear hE hw3 hb23 hb13 hrs hb2
        go_wp2_with (refine Rg.store_row_new rfl 22 _ _ rfl w2.heap.size rfl rfl 22 _ (bysA E) rfl HIE.out (by rw [bysA_size, HEL.out]; rfl) (bysA_one _) ?_)
        rw [← HW3.out]
        obtain ⟨sb, hsb⟩ : ∃ sb, sb = w2.heap.size := ⟨_, rfl⟩
        rw [← hsb] at HRS3 hsb1 ⊢
        clear hsb HW3
        go_loopw [34] (fun kv wr => ∃ (k a b : Nat) (s : List UInt8), k ≤ P.length ∧ kv = .int .i64 k ∧ a ≤ b ∧ b < 9223372036854775807 ∧ Hid (s.length = 32) ∧ Hid (wr.heap[w.heap.size + 1]? = some (.cells #[.int .i64 (a : Int), .int .i64 (b : Int)] 156 (0, 0))) ∧
          Hid (wr.heap[sb]? = some (.cells (bysA s) 22 (0, 0))) ∧ Hid (wr.heap[w.heap.size]? = some (.cells (bysA root) 22 (0, 0))) ∧ Hid (Below w.heap.size w wr) ∧ Hid (Rfc.runI nodeS iN m E P = Rfc.runI nodeS a b s (P.drop k))) (fun kv _ => P.length - (intOf kv).toNat)
        case atStart => exact ⟨0, iN, m, E, Nat.zero_le _, rfl, him, hmb, HEL, HRC3, HRS3, HRR3, HB3, Lib.hid (by rw [List.drop_zero])⟩
        case round =>
          obtain ⟨k, a, b, s, hk, rfl, hab, hbb, HSL, HCB, HSB, HRB, HB, HRUN⟩ := hrel
          clear hn hmb h1 h2 h3 him
          by_cases hlt : k < P.length
          ·
            have hltI : (k : Int) < P.length := by omega
            have HRL : Hid (RdL wr (.slice qp P.length cp) P) := Lib.hid (HP.out.below HB.out)
            obtain ⟨bp, op, hqe, hbp, hxl1, hxl2, hload⟩ := HRL.out.load hlt
            subst hqe
            clear hxl1 hxl2
            have hkb : k < 9223372036854775807 := by omega
            obtain ⟨X, hX⟩ : ∃ X, X = P.getD k [] := ⟨_, rfl⟩
            have HXL : Hid (X.length = 32) := Lib.hid (by rw [hX]; exact HP.out.1.getD hlt)
            have HDR : Hid (P.drop k = X :: P.drop (k + 1)) := Lib.hid (by rw [hX, List.drop_eq_getElem_cons hlt]; simp [List.getD, hlt])
            rw [← hX] at hload
            have HLD := Lib.hid (hload wr (Below.refl _ _))
            have HIX := Lib.hid (info_of HXL.out)
            have HIS := Lib.hid (info_of HSL.out)
            have HIC := Lib.hid (infoCl a b)
            obtain ⟨wa, hwa⟩ : ∃ wa, wa = wr.alloc (.cells (bysA X) 22) := ⟨_, rfl⟩
            have hba : Below wr.heap.size wr wa := by rw [hwa]; exact (Below.refl _ _).alloc (Nat.le_refl _) _
            have HXA : Hid (wa.heap[wr.heap.size]? = some (.cells (bysA X) 22 (0, 0))) := Lib.hid (by rw [hwa]; exact Rg.heap_alloc_at _ _ _ rfl)
            have HCA := Lib.hid (Rp.row_le hba HCB.out)
            have HSA := Lib.hid (Rp.row_le hba HSB.out)
            have HRA := Lib.hid (Rp.row_le hba HRB.out)
            have HBA : Hid (Below w.heap.size w wa) := Lib.hid (HB.out.trans (hba.mono HB.out.size))
            have c1 : wa.cell? ⟨w.heap.size + 1, 1, none⟩ = some (.int .i64 (b : Int)) := (cell_of_row _ _ _ _ _ _ HCA.out).trans rfl
            have HWA := Lib.hid hwa
            obtain ⟨xb, hxb⟩ : ∃ xb, xb = wr.heap.size := ⟨_, rfl⟩
            have hxs : sb < xb := by rw [hxb]; exact lt_of_heap HSB.out
            rw [← hxb] at HXA
            clear hload hX hwa hba
            by_cases hb0 : b = 0
            · have hbI : ((b : Int) == 0) = true := by rw [hb0]; rfl
              have HRN : Hid (Rfc.runI nodeS iN m E P = none) := Lib.hid (by rw [HRUN.out, HDR.out, Rfc.runI, if_pos hb0])
              go_wp2_with (first | (refine l_load rfl _ _ rfl _ HLD.out ?_) | (refine Rg.store_row_new rfl 22 _ _ rfl wr.heap.size rfl rfl 22 _ (bysA X) rfl HIX.out (by rw [bysA_size, HXL.out]; rfl) (bysA_one _) ?_; rw [← HWA.out]))
              go_ret
              exact ⟨by rw [HE.out, HRN.out, if_neg (by simp)]; rfl, HBA.out⟩
            · have hbI : ((b : Int) == 0) = false := by rw [beq_eq_false_iff_ne]; omega
              go_wp2_with (first | (refine l_load rfl _ _ rfl _ HLD.out ?_) | (refine Rg.store_row_new rfl 22 _ _ rfl wr.heap.size rfl rfl 22 _ (bysA X) rfl HIX.out (by rw [bysA_size, HXL.out]; rfl) (bysA_one _) ?_; rw [← HWA.out]) | (refine wpList_load_row rfl 156 _ rfl (w.heap.size + 1) rfl 156 #[.int .i64 (a : Int), .int .i64 (b : Int)] (0, 0) _ HCA.out Tryz.underlying156 rfl HIC.out ?_))
              rw [← hxb]
              clear hxb
              have hrt := right16_any a b wa (by omega) (by omega)
              cases hr : Rfc.right a b with
              | true =>
                rw [hr] at hrt
                obtain ⟨hup, ha0⟩ := right_up hr hb0
                have HUP := Lib.hid hup
                have HR2 := Lib.hid hr
                refine hrt.mono ?_
                rintro e w4 ⟨rfl, hb4⟩
                have HX4 := Lib.hid (Rp.row_le hb4 HXA.out)
                have HC4 := Lib.hid (Rp.row_le hb4 HCA.out)
                have HS4 := Lib.hid (Rp.row_le hb4 HSA.out)
                have HR4 := Lib.hid (Rp.row_le hb4 HRA.out)
                have HB4 : Hid (Below w.heap.size w w4) := Lib.hid (HBA.out.trans (hb4.mono HBA.out.size))
                clear hb4 hr hrt hup c1
                go_wp2_with (first | (refine wpList_load_row rfl 22 _ rfl sb rfl 22 (bysA s) (0, 0) _ HS4.out Tryz.underlying22 rfl HIS.out ?_) | (refine wpList_load_row rfl 22 _ rfl xb rfl 22 (bysA X) (0, 0) _ HX4.out Tryz.underlying22 rfl HIX.out ?_))
                refine (node_any X s w4 (HS.out.below HB4.out) HXL.out HSL.out).mono ?_
                rintro e w5 ⟨rfl, hb5⟩
                obtain ⟨N, hN⟩ : ∃ N, N = nodeS X s := ⟨_, rfl⟩
                have HNL : Hid (N.length = 32) := Lib.hid (by rw [hN]; exact nodeS_length _ _)
                have HNE := Lib.hid hN
                have HIN := Lib.hid (info_of HNL.out)
                rw [← hN]
                have HS5 := Lib.hid (Rp.row_le hb5 HS4.out)
                obtain ⟨w6, hw6⟩ : ∃ w6, w6 = w5.setRow sb (bysA N) := ⟨_, rfl⟩
                have HW6 := Lib.hid hw6
                have HSB6 : Hid (w6.heap[sb]? = some (.cells (bysA N) 22 (0, 0))) := Lib.hid (by rw [hw6]; exact setRow_heap _ _ _ _ _ _ HS5.out)
                have HCB6 : Hid (w6.heap[w.heap.size + 1]? = some (.cells #[.int .i64 (a : Int), .int .i64 (b : Int)] 156 (0, 0))) := Lib.hid (by rw [hw6, setRow_other _ _ (by omega)]; exact Rp.row_le hb5 HC4.out)
                have HRB6 : Hid (w6.heap[w.heap.size]? = some (.cells (bysA root) 22 (0, 0))) := Lib.hid (by rw [hw6, setRow_other _ _ (by omega)]; exact Rp.row_le hb5 HR4.out)
                have HB6 : Hid (Below w.heap.size w w6) := Lib.hid (by rw [hw6]; exact Rg.below_setRow (HB4.out.trans (hb5.mono HB4.out.size)) (by omega) _)
                clear hN hw6 hb5
                go_wp2_with (first | (refine Rg.store_row rfl 22 _ _ rfl sb rfl 22 (bysA s) (bysA N) rfl HS5.out HIN.out (by rw [bysA_size, bysA_size, HNL.out, HSL.out]) (bysA_one _) ?_; rw [← HW6.out]) | (refine wpList_load_row rfl 156 _ rfl (w.heap.size + 1) rfl 156 #[.int .i64 (a : Int), .int .i64 (b : Int)] (0, 0) _ HCB6.out Tryz.underlying156 rfl HIC.out ?_))
                refine (up16_any a b w6 (by omega) (by omega) HUP.out ha0).mono ?_
                rintro e w7 ⟨rfl, hb7⟩
                have HNX := Lib.hid (Rfc.next_lt a b hb0)
                have HNY := Lib.hid (Rfc.next_le a b hab)
                obtain ⟨a', ha'⟩ : ∃ a', a' = (Rfc.next a b).1 := ⟨_, rfl⟩
                obtain ⟨b', hb'⟩ : ∃ b', b' = (Rfc.next a b).2 := ⟨_, rfl⟩
                rw [← hb'] at HNX
                rw [← ha', ← hb'] at HNY ⊢
                have HRN : Hid (Rfc.runI nodeS iN m E P = Rfc.runI nodeS a' b' N (P.drop (k + 1))) := Lib.hid (by rw [HRUN.out, HDR.out, Rfc.runI, if_neg hb0, HR2.out, cond_true, ha', hb', HNE.out])
                have HSB7 := Lib.hid (Rp.row_le hb7 HSB6.out)
                have HCB7 := Lib.hid (Rp.row_le hb7 HCB6.out)
                have HRB7 := Lib.hid (Rp.row_le hb7 HRB6.out)
                have HB7 : Hid (Below w.heap.size w w7) := Lib.hid (HB6.out.trans (hb7.mono HB6.out.size))
                clear hb7
                obtain ⟨e0, e1, e2, e3⟩ := two_cells HCB7.out
                have HTC := Lib.hid (two_stored (a' := .int .i64 (a' : Int)) (b' := .int .i64 (b' : Int)) HCB7.out)
                clear ha' hb'
                go_wp2_with fail
                rw [HTC.out]
                exact ⟨⟨k + 1, a', b', N, by omega, by go_num, HNY.out, by have := HNX.out; omega, HNL, Lib.hid (setRow_heap _ _ _ _ _ _ HCB7.out), Lib.hid (by rw [setRow_other _ _ (by omega)]; exact HSB7.out), Lib.hid (by rw [setRow_other _ _ (by omega)]; exact HRB7.out), Lib.hid (Rg.below_setRow HB7.out (by omega) _), HRN⟩, by simp [intOf]; omega⟩
              | false =>
                rw [hr] at hrt
                have HR2 := Lib.hid hr
                refine hrt.mono ?_
                rintro e w4 ⟨rfl, hb4⟩
                have HX4 := Lib.hid (Rp.row_le hb4 HXA.out)
                have HC4 := Lib.hid (Rp.row_le hb4 HCA.out)
                have HS4 := Lib.hid (Rp.row_le hb4 HSA.out)
                have HR4 := Lib.hid (Rp.row_le hb4 HRA.out)
                have HB4 : Hid (Below w.heap.size w w4) := Lib.hid (HBA.out.trans (hb4.mono HBA.out.size))
                clear hb4 hr hrt c1
                go_wp2_with (first | (refine wpList_load_row rfl 22 _ rfl sb rfl 22 (bysA s) (0, 0) _ HS4.out Tryz.underlying22 rfl HIS.out ?_) | (refine wpList_load_row rfl 22 _ rfl xb rfl 22 (bysA X) (0, 0) _ HX4.out Tryz.underlying22 rfl HIX.out ?_))
                refine (node_any s X w4 (HS.out.below HB4.out) HSL.out HXL.out).mono ?_
                rintro e w5 ⟨rfl, hb5⟩
                obtain ⟨N, hN⟩ : ∃ N, N = nodeS s X := ⟨_, rfl⟩
                have HNL : Hid (N.length = 32) := Lib.hid (by rw [hN]; exact nodeS_length _ _)
                have HNE := Lib.hid hN
                have HIN := Lib.hid (info_of HNL.out)
                rw [← hN]
                have HS5 := Lib.hid (Rp.row_le hb5 HS4.out)
                obtain ⟨w6, hw6⟩ : ∃ w6, w6 = w5.setRow sb (bysA N) := ⟨_, rfl⟩
                have HW6 := Lib.hid hw6
                have HSB6 : Hid (w6.heap[sb]? = some (.cells (bysA N) 22 (0, 0))) := Lib.hid (by rw [hw6]; exact setRow_heap _ _ _ _ _ _ HS5.out)
                have HCB6 : Hid (w6.heap[w.heap.size + 1]? = some (.cells #[.int .i64 (a : Int), .int .i64 (b : Int)] 156 (0, 0))) := Lib.hid (by rw [hw6, setRow_other _ _ (by omega)]; exact Rp.row_le hb5 HC4.out)
                have HRB6 : Hid (w6.heap[w.heap.size]? = some (.cells (bysA root) 22 (0, 0))) := Lib.hid (by rw [hw6, setRow_other _ _ (by omega)]; exact Rp.row_le hb5 HR4.out)
                have HB6 : Hid (Below w.heap.size w w6) := Lib.hid (by rw [hw6]; exact Rg.below_setRow (HB4.out.trans (hb5.mono HB4.out.size)) (by omega) _)
                obtain ⟨d0, d1, d2, d3⟩ := two_cells HCB6.out
                have HTC := Lib.hid (two_stored (a' := .int .i64 ((a : Int) / 2)) (b' := .int .i64 ((b : Int) / 2)) HCB6.out)
                have HRN : Hid (Rfc.runI nodeS iN m E P = Rfc.runI nodeS (a / 2) (b / 2) N (P.drop (k + 1))) := Lib.hid (by rw [HRUN.out, HDR.out, Rfc.runI, if_neg hb0, HR2.out, cond_false, HNE.out])
                clear hN hw6 hb5
                go_wp2_with (first | (refine Rg.store_row rfl 22 _ _ rfl sb rfl 22 (bysA s) (bysA N) rfl HS5.out HIN.out (by rw [bysA_size, bysA_size, HNL.out, HSL.out]) (bysA_one _) ?_; rw [← HW6.out]))
                rw [HTC.out]
                exact ⟨⟨k + 1, a / 2, b / 2, N, by omega, by go_num, by omega, by omega, HNL, Lib.hid (setRow_heap _ _ _ _ _ _ HCB6.out), Lib.hid (by rw [setRow_other _ _ (by omega)]; exact HSB6.out), Lib.hid (by rw [setRow_other _ _ (by omega)]; exact HRB6.out), Lib.hid (Rg.below_setRow HB6.out (by omega) _), HRN⟩, by simp [intOf]; omega⟩
          · obtain rfl : k = P.length := by omega
            have HDN : Hid (Rfc.runI nodeS iN m E P = if b = 0 then some s else none) := Lib.hid (by rw [HRUN.out, List.drop_length]; rfl)
            have c1 : wr.cell? ⟨w.heap.size + 1, 1, none⟩ = some (.int .i64 (b : Int)) := (cell_of_row _ _ _ _ _ _ HCB.out).trans rfl
            have HIS := Lib.hid (info_of HSL.out)
            have HIR := Lib.hid (info_of HR.out)
            by_cases hb0 : b = 0
            · have hbI : ((b : Int) != 0) = false := by rw [hb0]; rfl
              have hsl := HSL.out
              have hrl := HR.out
              cases heq : (s == root) with
              | true =>
                have HA : Hid (chkI l iN ((m : Int) + 1) P root = 0) := Lib.hid (by rw [HE.out, HDN.out, if_pos hb0, if_pos (by rw [eq_of_beq heq])])
                go_wp2_with (first | (refine unguard16 (by rfl) ?_; refine wpList_load_row rfl 22 _ rfl sb rfl 22 (bysA s) (0, 0) _ HSB.out Tryz.underlying22 rfl HIS.out ?_) | (refine unguard16 (by rfl) ?_; refine wpList_load_row rfl 22 _ rfl w.heap.size rfl 22 (bysA root) (0, 0) _ HRB.out Tryz.underlying22 rfl HIR.out ?_))
                go_ret
                exact ⟨by rw [HA.out]; rfl, HB.out⟩
              | false =>
                have HA : Hid (chkI l iN ((m : Int) + 1) P root = 17) := Lib.hid (by rw [HE.out, HDN.out, if_pos hb0, if_neg (fun h => by rw [Option.some.inj h] at heq; simp at heq)])
                go_wp2_with (first | (refine unguard16 (by rfl) ?_; refine wpList_load_row rfl 22 _ rfl sb rfl 22 (bysA s) (0, 0) _ HSB.out Tryz.underlying22 rfl HIS.out ?_) | (refine unguard16 (by rfl) ?_; refine wpList_load_row rfl 22 _ rfl w.heap.size rfl 22 (bysA root) (0, 0) _ HRB.out Tryz.underlying22 rfl HIR.out ?_))
                go_ret
                exact ⟨by rw [HA.out]; rfl, HB.out⟩
            · have hbI : ((b : Int) != 0) = true := by rw [bne_iff_ne]; omega
              have HA : Hid (chkI l iN ((m : Int) + 1) P root = 17) := Lib.hid (by rw [HE.out, HDN.out, if_neg hb0, if_neg (by simp)])
              go_wp2_with fail
              go_ret
              exact ⟨by rw [HA.out]; rfl, HB.out⟩
end Ref
end Go.Proofs.YtmonkggoilhngaaGreatDoor
