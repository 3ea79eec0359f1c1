/- A reckoning with kinds: what kinds of values come up where. Kinds of cells, of blocks and of slots, and what they say. Plain; no condition. -/
import Derived.Test.YtmonkggoilhngaaGreatDoorConc
import Derived.Test.YtmonkggoilhngaaGreatDoorGRegion
import Derived.Laws.Tables
import Derived.Laws.StructEq
import Derived.Laws.CopyRow
import Derived.Deep.MidRow
import Derived.Laws.Externs
import Derived.Laws.Strings
namespace Go.Proofs.YtmonkggoilhngaaGreatDoor
set_option linter.unusedVariables false
set_option linter.unusedSimpArgs false
open Go.RowKit
namespace Ab
inductive K where
  | int (k : IntKind)
  | bool
  | sl (n : Nat)
  | pt (i : Nat)
  | ow (n hi : Nat)
  | nl
  | any
  | wild
def kid : IntKind → Nat
  | .i8 => 0 | .i16 => 1 | .i32 => 2 | .i64 => 3 | .u8 => 4 | .u16 => 5 | .u32 => 6 | .u64 => 7
def kcode : K → Nat
  | .int k => 8 * kid k
  | .bool => 1
  | .sl n => 8 * n + 2
  | .pt i => 8 * i + 3
  | .ow n _ => 8 * n + 4
  | .nl => 5
  | .any => 6
  | .wild => 7
def kcod2 : K → Nat
  | .ow _ hi => hi
  | _ => 0
theorem kcode_inj {a b : K} (h : kcode a = kcode b) (h2 : kcod2 a = kcod2 b) : a = b := by
  cases a <;> cases b <;> simp only [kcode, kcod2] at h h2 <;> first | rfl | (exfalso; omega) | skip
  · rename_i k k'
    have : kid k = kid k' := by omega
    cases k <;> cases k' <;> first | rfl | (exfalso; revert this; decide)
  all_goals (congr 1 <;> omega)
instance : DecidableEq K := fun a b => if h : kcode a = kcode b then (if h2 : kcod2 a = kcod2 b then .isTrue (kcode_inj h h2) else .isFalse (fun e => h2 (by rw [e]))) else .isFalse (fun e => h (by rw [e]))
def lay : Nat → List K
  | 0 => [.sl 1, .int .i64]
  | 1 => [.pt 0, .bool]
  | _ => []
def ile : Int → Int → Bool
  | .ofNat m, .ofNat n => Nat.ble m n
  | .ofNat _, .negSucc _ => false
  | .negSucc _, .ofNat _ => true
  | .negSucc m, .negSucc n => Nat.ble n m
def ieq : Int → Int → Bool
  | .ofNat m, .ofNat n => Nat.beq m n
  | .ofNat _, .negSucc _ => false
  | .negSucc _, .ofNat _ => false
  | .negSucc m, .negSucc n => Nat.beq n m
theorem ile_iff {a b : Int} : ile a b = true ↔ a ≤ b := by
  cases a <;> cases b <;> simp only [ile]
  · rw [Nat.ble_eq]; simp
  · simp; omega
  · simp; omega
  · rw [Nat.ble_eq]; omega
theorem ieq_iff {a b : Int} : ieq a b = true ↔ a = b := by
  cases a <;> cases b <;> simp only [ieq]
  · rw [Nat.beq_eq]; simp; omega
  · simp
  · simp
  · rw [Nat.beq_eq]; constructor <;> intro h <;> omega
def decEqI (a b : Int) : Decidable (a = b) := match h : ieq a b with
  | true => .isTrue (ieq_iff.1 h)
  | false => .isFalse fun e => by rw [ieq_iff.2 e] at h; cases h
def decLeI (a b : Int) : Decidable (a ≤ b) := match h : ile a b with
  | true => .isTrue (ile_iff.1 h)
  | false => .isFalse fun e => by rw [ile_iff.2 e] at h; cases h
def decLtI (a b : Int) : Decidable (a < b) := decLeI (a + 1) b
def klo : IntKind → Int
  | .i8 => -128 | .i16 => -32768 | .i32 => -2147483648 | .i64 => -9223372036854775808
  | .u8 | .u16 | .u32 | .u64 => 0
def khi : IntKind → Int
  | .i8 => 127 | .i16 => 32767 | .i32 => 2147483647 | .i64 => 9223372036854775807
  | .u8 => 255 | .u16 => 65535 | .u32 => 4294967295 | .u64 => 18446744073709551615
theorem wrap_in (k : IntKind) (n : Int) : klo k ≤ k.wrap n ∧ k.wrap n ≤ khi k := by
  cases k <;> simp only [klo, khi, IntKind.wrap, IntKind.bits, IntKind.signed] <;> simp <;> (try split) <;> omega
abbrev S := Nat → Option (Bool × List K)
def SL (σ : S) (v : Value) (n : Nat) : Prop :=
  ∃ a len cap, v = .slice a len cap ∧ len ≤ cap ∧ cap ≤ maxLen ∧ len ≤ 1000000 ∧ (a = none → cap = 0) ∧
    ∀ p, a = some p → p.spot = none ∧ ∃ m l, σ p.block = some (m, l) ∧ ∀ i, i < len * n → l[p.off + i]? = some (.int .u8)
def OW (σ : S) (v : Value) (κs : List K) (lo hi : Nat) : Prop :=
  (v = .slice none 0 0 ∧ lo = 0) ∨ ∃ b len cap l, v = .slice (some ⟨b, 0, none⟩) len cap ∧ lo ≤ len ∧ len ≤ hi ∧ len ≤ cap ∧ cap ≤ maxLen ∧ σ b = some (true, l) ∧ l.length = cap * κs.length ∧
    ∀ (i j : Nat) (κ : K), i < cap → κs[j]? = some κ → l[i * κs.length + j]? = some κ
def KT (σ : S) (v : Value) : K → Prop
  | .int k => ∃ n, v = .int k n ∧ klo k ≤ n ∧ n ≤ khi k
  | .bool => ∃ b, v = .bool b
  | .sl n => SL σ v n
  | .pt i => ∃ b, v = .pointer (some ⟨b, 0, none⟩) ∧ σ b = some (true, lay i)
  | .ow n hi => OW σ v (List.replicate n (.int .u8)) 0 hi
  | .nl => v = .slice none 0 0
  | .any => v.oneCell' = true
  | .wild => True
def nw : K → Bool
  | .wild => false
  | _ => true
def Le (σ σ' : S) : Prop := ∀ b x, σ b = some x → σ' b = some x
theorem SL.mono {σ σ' : S} (h : Le σ σ') {v : Value} {n : Nat} (hv : SL σ v n) : SL σ' v n := by
  obtain ⟨a, len, cap, e, h1, h2, h0, h3, h4⟩ := hv
  refine ⟨a, len, cap, e, h1, h2, h0, h3, fun p hp => ?_⟩
  obtain ⟨hs, m, l, hb, h5⟩ := h4 p hp
  exact ⟨hs, m, l, h _ _ hb, h5⟩
theorem OW.mono {σ σ' : S} (h : Le σ σ') {v : Value} {κs : List K} {lo hi : Nat} (hv : OW σ v κs lo hi) : OW σ' v κs lo hi := by
  rcases hv with hn | ⟨b, len, cap, l, e, h1, h2, h3, h4, hb, h5, h6⟩
  · exact .inl hn
  · exact .inr ⟨b, len, cap, l, e, h1, h2, h3, h4, h _ _ hb, h5, h6⟩
theorem OW.one {σ : S} {v : Value} {κs : List K} {lo hi : Nat} (hv : OW σ v κs lo hi) : v.oneCell' = true := by
  rcases hv with ⟨rfl, _⟩ | ⟨b, len, cap, l, rfl, _⟩ <;> rfl
theorem KT.mono {σ σ' : S} (h : Le σ σ') {v : Value} {κ : K} (hv : KT σ v κ) : KT σ' v κ := by
  cases κ with
  | sl n => exact SL.mono h hv
  | pt i => obtain ⟨b, e, hb⟩ := hv; exact ⟨b, e, h _ _ hb⟩
  | ow n hi => exact OW.mono h hv
  | _ => exact hv
theorem KT.one {σ : S} {v : Value} {κ : K} (hn : nw κ = true) (hv : KT σ v κ) : v.oneCell' = true := by
  cases κ with
  | int k => obtain ⟨n, rfl, _⟩ := hv; rfl
  | bool => obtain ⟨b, rfl⟩ := hv; rfl
  | sl n => obtain ⟨a, len, cap, rfl, _⟩ := hv; rfl
  | pt i => obtain ⟨b, rfl, _⟩ := hv; rfl
  | ow n hi => exact OW.one hv
  | nl => obtain rfl := hv; rfl
  | any => exact hv
  | wild => cases hn
def CT (σ : S) (C : List Value) (l : List K) : Prop := C.length = l.length ∧ ∀ (i : Nat) (κ : K), l[i]? = some κ → ∃ v, C[i]? = some v ∧ KT σ v κ
theorem CT.mono {σ σ' : S} (h : Le σ σ') {C : List Value} {l : List K} (hv : CT σ C l) : CT σ' C l := by
  refine ⟨hv.1, fun i κ hi => ?_⟩
  obtain ⟨v, h1, h2⟩ := hv.2 i κ hi
  exact ⟨v, h1, h2.mono h⟩
theorem CT.one {σ : S} {C : List Value} {l : List K} (hn : ∀ κ ∈ l, nw κ = true) (h : CT σ C l) : ∀ u ∈ C, u.oneCell' = true := by
  intro u hu
  obtain ⟨i, hi, rfl⟩ := List.mem_iff_getElem.1 hu
  obtain ⟨v, h1, h2⟩ := h.2 i (l[i]'(by rw [← h.1]; exact hi)) (List.getElem?_eq_getElem _)
  rw [List.getElem?_eq_getElem hi] at h1
  cases h1
  exact h2.one (hn _ (List.getElem_mem _))
theorem CT.seg {σ : S} {C : List Value} {l : List K} (h : CT σ C l) (o n : Nat) : CT σ ((C.drop o).take n) ((l.drop o).take n) := by
  refine ⟨by simp [h.1], fun i κ hi => ?_⟩
  rw [List.getElem?_take] at hi ⊢
  split at hi
  · rename_i hlt
    rw [if_pos hlt]
    rw [List.getElem?_drop] at hi ⊢
    exact h.2 _ _ hi
  · cases hi
structure Gt where
  l : List (Nat × List K)
  fx : List (Nat × Array Value)
structure WT (gt : Gt) (σ : S) (w : World) : Prop where
  tab : ∀ g l, (g, l) ∈ gt.l → σ g = some (false, l)
  fx : ∀ g C, (g, C) ∈ gt.fx → (∃ l, σ g = some (false, l)) ∧ ∃ t f, w.heap[g]? = some (.cells C t f)
  blk : ∀ b m l, σ b = some (m, l) → ∃ C t f, w.heap[b]? = some (.cells C t f) ∧ (m = true → f = (0, 0)) ∧ CT σ C.toList l
theorem WT.lt {gt : Gt} {σ : S} {w : World} (h : WT gt σ w) {b : Nat} {x : Bool × List K} (hb : σ b = some x) : b < w.heap.size := by
  obtain ⟨C, t, f, h1, _⟩ := h.blk b x.1 x.2 hb
  exact (Array.getElem?_eq_some_iff.1 h1).1
structure Go1 (σ σ' : S) (w w' : World) : Prop where
  same : ∀ b, b < w.heap.size → σ' b = σ b
  os : w'.os = w.os
  tape : w'.tape = w.tape
  output : w'.output = w.output
  size : w.heap.size ≤ w'.heap.size
  kept : ∀ b, b < w.heap.size → (∀ l, σ b ≠ some (true, l)) → w'.heap[b]? = w.heap[b]?
theorem Go1.refl (σ : S) (w : World) : Go1 σ σ w w := ⟨fun _ _ => rfl, rfl, rfl, rfl, Nat.le_refl _, fun _ _ _ => rfl⟩
theorem Go1.le {gt : Gt} {σ σ' : S} {w w' : World} (h : Go1 σ σ' w w') (hw : WT gt σ w) : Le σ σ' := fun b x hb => (h.same b (hw.lt hb)).trans hb
theorem Go1.trans {σ σ' σ'' : S} {w w' w'' : World} (h : Go1 σ σ' w w') (h' : Go1 σ' σ'' w' w'') : Go1 σ σ'' w w'' := by
  refine ⟨fun b hb => (h'.same b (Nat.lt_of_lt_of_le hb h.size)).trans (h.same b hb), h'.os.trans h.os, h'.tape.trans h.tape, h'.output.trans h.output, Nat.le_trans h.size h'.size, fun b hb hn => ?_⟩
  exact (h'.kept b (Nat.lt_of_lt_of_le hb h.size) (fun l hl => hn l (by rw [← h.same b hb]; exact hl))).trans (h.kept b hb hn)
theorem WT.drew {gt : Gt} {σ : S} {w : World} (h : WT gt σ w) : WT gt σ w.drew := ⟨h.tab, h.fx, h.blk⟩
theorem Go1.drew {σ σ' : S} {w w' : World} (h : Go1 σ σ' w w') : Go1 σ σ' w w'.drew := ⟨h.same, h.os, h.tape, h.output, h.size, h.kept⟩
def more (σ : S) (b : Nat) (l : List K) : S := fun k => if k = b then some (true, l) else σ k
theorem Go1.alloc {gt : Gt} {σ : S} {w : World} (hw : WT gt σ w) (C : Array Value) (t : TypeId) (l : List K) (hC : CT σ C.toList l) :
    Go1 σ (more σ w.heap.size l) w (w.alloc (.cells C t)) ∧ WT gt (more σ w.heap.size l) (w.alloc (.cells C t)) := by
  have hs : ∀ b, b < w.heap.size → more σ w.heap.size l b = σ b := fun b hb => by unfold more; rw [if_neg (Nat.ne_of_lt hb)]
  have hle : Le σ (more σ w.heap.size l) := fun b x hb => (hs b (hw.lt hb)).trans hb
  refine ⟨⟨hs, rfl, rfl, rfl, by rw [World.size_alloc]; omega, fun b hb _ => Rg.heap_alloc_past w _ b hb⟩, ⟨fun g l' hg => hle _ _ (hw.tab g l' hg), fun g D hg => ?_, fun b m l' hb => ?_⟩⟩
  · obtain ⟨⟨l', hl⟩, t', f, hh⟩ := hw.fx g D hg
    exact ⟨⟨l', hle _ _ hl⟩, t', f, (Rg.heap_alloc_past w _ g (hw.lt hl)).trans hh⟩
  · by_cases hb' : b = w.heap.size
    · subst hb'
      unfold more at hb
      rw [if_pos rfl] at hb
      cases hb
      exact ⟨C, t, (0, 0), heap_alloc_last w _, fun _ => rfl, hC.mono hle⟩
    · unfold more at hb
      rw [if_neg hb'] at hb
      obtain ⟨D, t', f, h1, h2, h3⟩ := hw.blk b m l' hb
      exact ⟨D, t', f, (Rg.heap_alloc_past w _ b (hw.lt hb)).trans h1, h2, h3.mono hle⟩
theorem Go1.set {gt : Gt} {σ : S} {w : World} (hw : WT gt σ w) {b : Nat} {l : List K} (hb : σ b = some (true, l)) (C : Array Value) (hC : CT σ C.toList l) :
    Go1 σ σ w (w.setRow b C) ∧ WT gt σ (w.setRow b C) := by
  have ho : ∀ k, k ≠ b → (w.setRow b C).heap[k]? = w.heap[k]? := fun k hk => by
    unfold World.setRow
    exact (Array.getElem?_modify ..).trans (if_neg (Ne.symm hk))
  refine ⟨⟨fun _ _ => rfl, rfl, rfl, rfl, by simp [World.setRow], fun k hk hn => ho k (fun e => hn l (by rw [e]; exact hb))⟩, ⟨hw.tab, fun g D hg => ?_, fun k m l' hk => ?_⟩⟩
  · obtain ⟨⟨l', hl⟩, t', f, hh⟩ := hw.fx g D hg
    exact ⟨⟨l', hl⟩, t', f, (ho g (fun e => by rw [e, hb] at hl; cases hl)).trans hh⟩
  obtain ⟨D, t', f, h1, h2, h3⟩ := hw.blk k m l' hk
  by_cases hkb : k = b
  · subst hkb
    rw [hb] at hk
    cases hk
    exact ⟨C, t', f, setRow_heap w k D C t' f h1, h2, hC⟩
  · exact ⟨D, t', f, (ho k hkb).trans h1, h2, h3⟩
inductive T where
  | int (k : IntKind) (lo hi : Int)
  | bool
  | cb (b : Bool)
  | agg (l : List K)
  | ptr (m : Bool) (l : List K) (off : Nat)
  | sl (n : Nat)
  | ss (m : Bool) (κ : K) (lo hi : Nat)
  | pk (m : Bool) (κ : K) (n : Nat)
  | pr (m : Bool) (ks : List K)
  | str
  | ow (κs : List K) (lo hi : Nat)
  | nl
  | np
  | t2 (a b : T)
  | t3 (a b c : T)
  | or (a b : T)
  | und
  | any
def SS (σ : S) (v : Value) (m : Bool) (κ : K) (lo hi : Nat) : Prop :=
  ∃ a len cap, v = .slice a len cap ∧ lo ≤ len ∧ len ≤ hi ∧ len ≤ cap ∧ cap ≤ maxLen ∧ (a = none → cap = 0) ∧
    ∀ p, a = some p → p.spot = none ∧ ∃ m' l, σ p.block = some (m', l) ∧ (m = true → m' = true) ∧ ∀ i, i < len → l[p.off + i]? = some κ
def PK (σ : S) (v : Value) (m : Bool) (κ : K) (n : Nat) : Prop :=
  ∃ p m' l, v = .pointer (some p) ∧ p.spot = none ∧ σ p.block = some (m', l) ∧ (m = true → m' = true) ∧ ∀ i, i < n → l[p.off + i]? = some κ
def PR (σ : S) (v : Value) (m : Bool) (ks : List K) : Prop :=
  ∃ p m' l, v = .pointer (some p) ∧ p.spot = none ∧ σ p.block = some (m', l) ∧ (m = true → m' = true) ∧ ∀ i κ, ks[i]? = some κ → l[p.off + i]? = some κ
def VT (σ : S) (v : Value) : T → Prop
  | .int k lo hi => ∃ n, v = .int k n ∧ lo ≤ n ∧ n ≤ hi
  | .bool => ∃ b, v = .bool b
  | .cb b => v = .bool b
  | .agg l => ∃ C : Array Value, v = .agg C ∧ CT σ C.toList l
  | .ptr m l off => ∃ b m', v = .pointer (some ⟨b, off, none⟩) ∧ σ b = some (m', l) ∧ (m = true → m' = true)
  | .sl n => SL σ v n
  | .ss m κ lo hi => SS σ v m κ lo hi
  | .pk m κ n => PK σ v m κ n
  | .pr m ks => PR σ v m ks
  | .str => ∃ s, v = .string s
  | .ow κs lo hi => OW σ v κs lo hi
  | .nl => v = .slice none 0 0
  | .np => v = .pointer none
  | .t2 a b => ∃ x y, v = .tuple #[x, y] ∧ VT σ x a ∧ VT σ y b
  | .t3 a b c => ∃ x y z, v = .tuple #[x, y, z] ∧ VT σ x a ∧ VT σ y b ∧ VT σ z c
  | .or a b => VT σ v a ∨ VT σ v b
  | .und => v = undef
  | .any => True
theorem SS.mono {σ σ' : S} (h : Le σ σ') {v : Value} {m : Bool} {κ : K} {lo hi : Nat} (hv : SS σ v m κ lo hi) : SS σ' v m κ lo hi := by
  obtain ⟨a, len, cap, e, h1, h2, h3, h4, h5, h6⟩ := hv
  refine ⟨a, len, cap, e, h1, h2, h3, h4, h5, fun p hp => ?_⟩
  obtain ⟨hs, m', l, hb, h7⟩ := h6 p hp
  exact ⟨hs, m', l, h _ _ hb, h7⟩
theorem PK.mono {σ σ' : S} (h : Le σ σ') {v : Value} {m : Bool} {κ : K} {n : Nat} (hv : PK σ v m κ n) : PK σ' v m κ n := by
  obtain ⟨p, m', l, e, h1, hb, h2⟩ := hv
  exact ⟨p, m', l, e, h1, h _ _ hb, h2⟩
theorem PR.mono {σ σ' : S} (h : Le σ σ') {v : Value} {m : Bool} {ks : List K} (hv : PR σ v m ks) : PR σ' v m ks := by
  obtain ⟨p, m', l, e, h1, hb, h2⟩ := hv
  exact ⟨p, m', l, e, h1, h _ _ hb, h2⟩
theorem VT.mono {σ σ' : S} (h : Le σ σ') : ∀ {τ : T} {v : Value}, VT σ v τ → VT σ' v τ
  | .int .., _, hv => hv
  | .bool, _, hv => hv
  | .cb _, _, hv => hv
  | .agg _, _, ⟨C, e, hC⟩ => ⟨C, e, hC.mono h⟩
  | .ptr .., _, ⟨b, m', e, hb, hm⟩ => ⟨b, m', e, h _ _ hb, hm⟩
  | .sl _, _, hv => SL.mono h hv
  | .ss .., _, hv => SS.mono h hv
  | .pk .., _, hv => PK.mono h hv
  | .pr .., _, hv => PR.mono h hv
  | .str, _, hv => hv
  | .ow .., _, hv => OW.mono h hv
  | .nl, _, hv => hv
  | .np, _, hv => hv
  | .t2 .., _, ⟨x, y, e, hx, hy⟩ => ⟨x, y, e, VT.mono h hx, VT.mono h hy⟩
  | .t3 .., _, ⟨x, y, z, e, hx, hy, hz⟩ => ⟨x, y, z, e, VT.mono h hx, VT.mono h hy, VT.mono h hz⟩
  | .or .., _, hv => hv.imp (VT.mono h) (VT.mono h)
  | .und, _, hv => hv
  | .any, _, _ => trivial
inductive Tr where
  | nil
  | nd (v : Option T) (l r : Tr)
def Tr.val : Tr → Option T
  | .nil => none
  | .nd v _ _ => v
def Tr.left : Tr → Tr
  | .nil => .nil
  | .nd _ l _ => l
def Tr.right : Tr → Tr
  | .nil => .nil
  | .nd _ _ r => r
noncomputable def Tr.get (k : Nat) : Tr → Nat → Option T :=
  Nat.rec (motive := fun _ => Tr → Nat → Option T) (fun _ _ => none)
    (fun _ ih t n => match Nat.beq n 0 with
      | true => t.val
      | false => match Nat.beq (Nat.mod n 2) 1 with
        | true => ih t.left (Nat.div n 2)
        | false => ih t.right (Nat.pred (Nat.div n 2))) k
noncomputable def Tr.set (k : Nat) : Tr → Nat → T → Tr :=
  Nat.rec (motive := fun _ => Tr → Nat → T → Tr) (fun t _ _ => t)
    (fun _ ih t n τ => match Nat.beq n 0 with
      | true => .nd (some τ) t.left t.right
      | false => match Nat.beq (Nat.mod n 2) 1 with
        | true => .nd t.val (ih t.left (Nat.div n 2) τ) t.right
        | false => .nd t.val t.left (ih t.right (Nat.pred (Nat.div n 2)) τ)) k
theorem way (n : Nat) : (n = 0) ∨ (Nat.beq n 0 = false ∧ Nat.beq (Nat.mod n 2) 1 = true ∧ n = 2 * Nat.div n 2 + 1) ∨ (Nat.beq n 0 = false ∧ Nat.beq (Nat.mod n 2) 1 = false ∧ n = 2 * Nat.pred (Nat.div n 2) + 2) := by
  have e1 : Nat.mod n 2 = n % 2 := rfl
  have e2 : Nat.div n 2 = n / 2 := rfl
  rw [e1, e2]
  by_cases h0 : n = 0
  · exact .inl h0
  · right
    have hb : Nat.beq n 0 = false := by
      cases hh : Nat.beq n 0
      · rfl
      · exact absurd (Nat.eq_of_beq_eq_true hh) h0
    by_cases h1 : n % 2 = 1
    · refine .inl ⟨hb, by rw [h1]; rfl, by omega⟩
    · have h2 : n % 2 = 0 := by omega
      refine .inr ⟨hb, by rw [h2]; rfl, ?_⟩
      rw [Nat.pred_eq_sub_one]
      omega
theorem Tr.get_succ (k : Nat) (t : Tr) (n : Nat) : Tr.get (k + 1) t n = (match Nat.beq n 0 with
      | true => t.val
      | false => match Nat.beq (Nat.mod n 2) 1 with
        | true => Tr.get k t.left (Nat.div n 2)
        | false => Tr.get k t.right (Nat.pred (Nat.div n 2))) := rfl
theorem Tr.set_succ (k : Nat) (t : Tr) (n : Nat) (τ : T) : Tr.set (k + 1) t n τ = (match Nat.beq n 0 with
      | true => .nd (some τ) t.left t.right
      | false => match Nat.beq (Nat.mod n 2) 1 with
        | true => .nd t.val (Tr.set k t.left (Nat.div n 2) τ) t.right
        | false => .nd t.val t.left (Tr.set k t.right (Nat.pred (Nat.div n 2)) τ)) := rfl
theorem Tr.get_set (τ : T) : ∀ (k : Nat) (t : Tr) (n : Nat), n < k → Tr.get k (Tr.set k t n τ) n = some τ
  | 0, _, _, h => absurd h (Nat.not_lt_zero _)
  | k + 1, t, n, h => by
    rw [Tr.get_succ, Tr.set_succ]
    rcases way n with rfl | ⟨h1, h2, h3⟩ | ⟨h1, h2, h3⟩
    · rfl
    · simp only [h1, h2, Tr.left]; exact Tr.get_set τ k _ _ (by omega)
    · simp only [h1, h2, Tr.right]; exact Tr.get_set τ k _ _ (by omega)
theorem Tr.get_set_ne (τ : T) : ∀ (k : Nat) (t : Tr) (n m : Nat), n ≠ m → Tr.get k (Tr.set k t n τ) m = Tr.get k t m
  | 0, _, _, _, _ => rfl
  | k + 1, t, n, m, h => by
    rw [Tr.get_succ, Tr.set_succ, Tr.get_succ]
    rcases way n with rfl | ⟨h1, h2, h3⟩ | ⟨h1, h2, h3⟩ <;> rcases way m with rfl | ⟨k1, k2, k3⟩ | ⟨k1, k2, k3⟩
    · exact absurd rfl h
    · simp only [k1, k2, Tr.left]
    · simp only [k1, k2, Tr.right]
    · simp only [h1, h2, Tr.val]
    · simp only [h1, h2, k1, k2, Tr.left]; exact Tr.get_set_ne τ k _ _ _ (by omega)
    · simp only [h1, h2, k1, k2, Tr.right]
    · simp only [h1, h2, Tr.val]
    · simp only [h1, h2, k1, k2, Tr.left]
    · simp only [h1, h2, k1, k2, Tr.right]; exact Tr.get_set_ne τ k _ _ _ (by omega)
theorem Tr.get_nil : ∀ (k n : Nat), Tr.get k .nil n = none
  | 0, _ => rfl
  | k + 1, n => by
    rw [Tr.get_succ]
    rcases way n with rfl | ⟨h1, h2, _⟩ | ⟨h1, h2, _⟩
    · rfl
    · simp only [h1, h2, Tr.left]; exact Tr.get_nil k _
    · simp only [h1, h2, Tr.right]; exact Tr.get_nil k _
structure Env where
  length : Nat
  tr : Tr
noncomputable def Env.at (Γ : Env) (t : Nat) : Option T := match Nat.blt t Γ.length with
  | true => Γ.tr.get Γ.length t
  | false => none
noncomputable def Env.set (Γ : Env) (t : Nat) (τ : T) : Env := ⟨Γ.length, Γ.tr.set Γ.length t τ⟩
theorem blt_true {t n : Nat} (h : t < n) : Nat.blt t n = true := by unfold Nat.blt; rw [Nat.ble_eq]; exact h
theorem Env.lt {Γ : Env} {t : Nat} {τ : T} (h : Γ.at t = some τ) : t < Γ.length := by
  unfold Env.at at h
  split at h
  · rename_i hb
    unfold Nat.blt at hb
    rw [Nat.ble_eq] at hb
    exact hb
  · cases h
theorem Env.at_ok {Γ : Env} {t : Nat} (h : t < Γ.length) : Γ.at t = Γ.tr.get Γ.length t := by unfold Env.at; rw [blt_true h]
theorem Env.set_self {Γ : Env} {t : Nat} {τ : T} (h : t < Γ.length) : (Γ.set t τ).at t = some τ := by
  rw [Env.at_ok (show t < (Γ.set t τ).length from h)]
  exact Tr.get_set τ _ _ _ h
theorem Env.set_ne {Γ : Env} {d t : Nat} {τ : T} (h : d ≠ t) : (Γ.set d τ).at t = Γ.at t := by
  unfold Env.at Env.set
  dsimp only
  split
  · exact Tr.get_set_ne τ _ _ _ _ h
  · rfl
def Typed (σ : S) (a : Act) (Γ : Env) : Prop := Γ.length ≤ a.tmps.size ∧ a.defers = [] ∧ ∀ (t : Nat) (τ : T), Γ.at t = some τ → VT σ (a.tmps.getD t undef) τ
theorem Typed.mono {σ σ' : S} (h : Le σ σ') {a : Act} {Γ : Env} (ht : Typed σ a Γ) : Typed σ' a Γ := ⟨ht.1, ht.2.1, fun t τ hτ => (ht.2.2 t τ hτ).mono h⟩
noncomputable def putT (Γ : Env) (d : Option Tmp) (τ : T) : Env := match d with
  | some d => Γ.set d τ
  | none => Γ
theorem Typed.put {σ : S} {a : Act} {Γ : Env} (ht : Typed σ a Γ) {d : Option Tmp} {v : Value} {τ : T} (hv : VT σ v τ) : Typed σ (a.put d v) (putT Γ d τ) := by
  cases d with
  | none => exact ht
  | some d =>
    refine ⟨by simpa [putT, Act.put, Env.set] using ht.1, ht.2.1, fun t τ' hτ => ?_⟩
    have hlt : t < Γ.length := Env.lt (Γ := Γ.set d τ) hτ
    change (Γ.set d τ).at t = some τ' at hτ
    show VT σ ((a.tmps.setIfInBounds d v).getD t undef) τ'
    by_cases hd : d = t
    · subst hd
      rw [Env.set_self hlt] at hτ
      cases hτ
      replace hlt := Nat.lt_of_lt_of_le hlt ht.1
      simpa [Array.getD_eq_getD_getElem?, Array.getElem?_setIfInBounds_self_of_lt hlt] using hv
    · rw [Env.set_ne hd] at hτ
      have := ht.2.2 t τ' hτ
      rw [Array.getD_eq_getD_getElem?] at this ⊢
      rwa [Array.getElem?_setIfInBounds_ne hd]
/-! Forced values: what the kernel reckons with stays small. -/
def forceN {α : Type} (n : Nat) (k : Nat → α) : α := match n with
  | 0 => k 0
  | m + 1 => k (Nat.succ m)
theorem forceN_eq {α : Type} (n : Nat) (k : Nat → α) : forceN n k = k n := by cases n <;> rfl
def forceI {α : Type} (n : Int) (k : Int → α) : α := match n with
  | .ofNat m => forceN m fun m => k (.ofNat m)
  | .negSucc m => forceN m fun m => k (.negSucc m)
theorem forceI_eq {α : Type} (n : Int) (k : Int → α) : forceI n k = k n := by cases n <;> simp only [forceI, forceN_eq]
def forceK {α : Type} (l : List K) (k : List K → α) : α := match l with
  | [] => k []
  | x :: r => match x with
    | .int i => forceK r fun r => k (.int i :: r)
    | .sl n => forceK r fun r => k (.sl n :: r)
    | x => forceK r fun r => k (x :: r)
theorem forceK_eq {α : Type} : ∀ (l : List K) (k : List K → α), forceK l k = k l
  | [], _ => rfl
  | x :: r, k => by cases x <;> simp only [forceK, forceK_eq r]
def forceT {α : Type} (τ : T) (k : T → α) : α := match τ with
  | .int i lo hi => forceI lo fun lo => forceI hi fun hi => k (.int i lo hi)
  | .ptr m l o => forceN o fun o => k (.ptr m l o)
  | .ow κs a b => forceN a fun a => forceN b fun b => k (.ow κs a b)
  | .ss m κ a b => forceN a fun a => forceN b fun b => k (.ss m κ a b)
  | .agg l => forceK l fun l => k (.agg l)
  | τ => k τ
theorem forceT_eq {α : Type} (τ : T) (k : T → α) : forceT τ k = k τ := by cases τ <;> simp only [forceT, forceI_eq, forceN_eq, forceK_eq]
noncomputable def Tr.setK {α : Type} (f : Nat) : Tr → Nat → T → (Tr → α) → α :=
  Nat.rec (motive := fun _ => Tr → Nat → T → (Tr → α) → α) (fun t _ _ k => k t)
    (fun _ ih t n τ k => match Nat.beq n 0 with
      | true => match t with
        | .nil => k (.nd (some τ) .nil .nil)
        | .nd _ l r => k (.nd (some τ) l r)
      | false => match Nat.beq (Nat.mod n 2) 1 with
        | true => match t with
          | .nil => ih .nil (Nat.div n 2) τ fun l => k (.nd none l .nil)
          | .nd v l r => ih l (Nat.div n 2) τ fun l => k (.nd v l r)
        | false => match t with
          | .nil => ih .nil (Nat.pred (Nat.div n 2)) τ fun r => k (.nd none .nil r)
          | .nd v l r => ih r (Nat.pred (Nat.div n 2)) τ fun r => k (.nd v l r)) f
theorem Tr.setK_eq {α : Type} : ∀ (f : Nat) (t : Tr) (n : Nat) (τ : T) (k : Tr → α), Tr.setK f t n τ k = k (Tr.set f t n τ)
  | 0, _, _, _, _ => rfl
  | f + 1, t, n, τ, k => by
    have ih := @Tr.setK_eq α f
    rw [Tr.set_succ]
    show (match Nat.beq n 0 with
      | true => match t with
        | .nil => k (.nd (some τ) .nil .nil)
        | .nd _ l r => k (.nd (some τ) l r)
      | false => match Nat.beq (Nat.mod n 2) 1 with
        | true => match t with
          | .nil => Tr.setK f .nil (Nat.div n 2) τ fun l => k (.nd none l .nil)
          | .nd v l r => Tr.setK f l (Nat.div n 2) τ fun l => k (.nd v l r)
        | false => match t with
          | .nil => Tr.setK f .nil (Nat.pred (Nat.div n 2)) τ fun r => k (.nd none .nil r)
          | .nd v l r => Tr.setK f r (Nat.pred (Nat.div n 2)) τ fun r => k (.nd v l r)) = _
    cases t <;> (cases Nat.beq n 0 <;> (try cases Nat.beq (Nat.mod n 2) 1) <;> simp only [ih] <;> rfl)
noncomputable def putK {α : Type} (Γ : Env) (d : Option Tmp) (τ : T) (k : Env → α) : α := match d with
  | some d => match Γ with
    | ⟨n, t⟩ => forceT τ fun τ => Tr.setK n t d τ fun t => k ⟨n, t⟩
  | none => k Γ
theorem putK_eq {α : Type} (Γ : Env) (d : Option Tmp) (τ : T) (k : Env → α) : putK Γ d τ k = k (putT Γ d τ) := by
  cases d with
  | none => rfl
  | some d =>
    obtain ⟨n, t⟩ := Γ
    simp only [putK, forceT_eq, Tr.setK_eq]
    rfl
noncomputable def Tr.forceK {α : Type} (t : Tr) : (Tr → α) → α :=
  Tr.rec (motive := fun _ => (Tr → α) → α) (fun k => k .nil) (fun v _ _ il ir k => match v with
    | some τ => forceT τ fun τ => il fun l => ir fun r => k (.nd (some τ) l r)
    | none => il fun l => ir fun r => k (.nd none l r)) t
theorem Tr.forceK_eq {α : Type} : ∀ (t : Tr) (k : Tr → α), Tr.forceK t k = k t
  | .nil, _ => rfl
  | .nd v l r, k => by
    have hl := @Tr.forceK_eq α l
    have hr := @Tr.forceK_eq α r
    show (match v with
    | some τ => forceT τ fun τ => Tr.forceK l fun l => Tr.forceK r fun r => k (.nd (some τ) l r)
    | none => Tr.forceK l fun l => Tr.forceK r fun r => k (.nd none l r)) = _
    cases v <;> simp only [forceT_eq, hl, hr]
noncomputable def Env.forceK {α : Type} (Γ : Env) (k : Env → α) : α := match Γ with
  | ⟨n, t⟩ => forceN n fun n => Tr.forceK t fun t => k ⟨n, t⟩
theorem Env.forceK_eq {α : Type} (Γ : Env) (k : Env → α) : Γ.forceK k = k Γ := by
  obtain ⟨n, t⟩ := Γ
  simp only [Env.forceK, forceN_eq, Tr.forceK_eq]
def gOf (gt : Gt) (g : Nat) : Option (List K) := (gt.l.find? fun x => x.1 == g).map (·.2)
theorem gOf_mem {gt : Gt} {g : Nat} {l : List K} (h : gOf gt g = some l) : (g, l) ∈ gt.l := by
  unfold gOf at h
  rw [Option.map_eq_some_iff] at h
  obtain ⟨⟨g', l'⟩, h1, h2⟩ := h
  have h3 := List.mem_of_find?_eq_some h1
  have h4 := List.find?_some h1
  simp at h4 h2
  subst h4 h2
  exact h3
noncomputable def ty (gt : Gt) (Γ : Env) : Operand → T
  | .tmp t => (Γ.at t).getD .any
  | .const (.int k n) => .int k n n
  | .const (.bool b) => .cb b
  | .const (.slice none 0 0) => .nl
  | .const (.pointer none) => .np
  | .global g => match gOf gt g with | some l => .ptr false l 0 | none => .any
  | _ => .any
theorem SL_nil (σ : S) (n : Nat) : SL σ (.slice none 0 0) n := ⟨none, 0, 0, rfl, Nat.le_refl _, Nat.zero_le _, Nat.zero_le _, fun _ => rfl, fun _ h => nomatch h⟩
theorem ty_ok {gt : Gt} {σ : S} {w : World} {a : Act} {Γ : Env} (hw : WT gt σ w) (ht : Typed σ a Γ) (x : Operand) : VT σ (a.eval x) (ty gt Γ x) := by
  unfold ty
  split
  · rename_i t
    cases h : Γ.at t with
    | none => exact trivial
    | some τ => exact ht.2.2 t τ h
  · exact ⟨_, rfl, Int.le_refl _, Int.le_refl _⟩
  · exact rfl
  · exact rfl
  · exact rfl
  · rename_i g
    split
    · rename_i l hl
      exact ⟨g, false, rfl, hw.tab g l (gOf_mem hl), fun h => nomatch h⟩
    · exact trivial
  · exact trivial
def knd : T → Option (List K)
  | .int k lo hi => if klo k ≤ lo ∧ hi ≤ khi k then some [.int k] else none
  | .bool => some [.bool]
  | .cb _ => some [.bool]
  | .agg l => some l
  | .sl n => some [.sl n]
  | .nl => some [.nl]
  | .ss _ κ _ hi => if κ = .int .u8 ∧ hi ≤ 1000000 then some [.sl 1] else some [.any]
  | .ow κs _ hi => if κs = List.replicate κs.length (.int .u8) ∧ hi ≤ 1000000 then some [.ow κs.length hi] else some [.any]
  | .ptr m l o => if m = true ∧ o = 0 then (if l = lay 0 then some [.pt 0] else if l = lay 1 then some [.pt 1] else some [.any]) else some [.any]
  | _ => none
theorem SS.sl {σ : S} {v : Value} {m : Bool} {lo hi : Nat} (h : SS σ v m (.int .u8) lo hi) (hb : hi ≤ 1000000) : SL σ v 1 := by
  obtain ⟨a, len, cap, e, h1, h2, h3, h4, h5, h6⟩ := h
  refine ⟨a, len, cap, e, h3, h4, by omega, h5, fun p hp => ?_⟩
  obtain ⟨hs, m', l, hb, _, h7⟩ := h6 p hp
  exact ⟨hs, m', l, hb, fun i hi => h7 i (by omega)⟩
theorem OW.wide {σ : S} {v : Value} {κs : List K} {lo hi lo' hi' : Nat} (h : OW σ v κs lo hi) (h1 : lo' ≤ lo) (h2 : hi ≤ hi') : OW σ v κs lo' hi' := by
  rcases h with ⟨rfl, rfl⟩ | ⟨b, len, cap, l, e, k1, k2, k3⟩
  · exact .inl ⟨rfl, by omega⟩
  · exact .inr ⟨b, len, cap, l, e, by omega, by omega, k3⟩
theorem CT_single {σ : S} {v : Value} {κ : K} (h : KT σ v κ) : CT σ [v] [κ] := ⟨rfl, fun i κ' hi => by
  match i with
  | 0 => simp at hi; subst hi; exact ⟨v, rfl, h⟩
  | i + 1 => simp at hi⟩
theorem cells_single {v : Value} (h : v.oneCell' = true) : v.cells.toList = [v] := by
  cases v <;> first | rfl | (simp [Value.oneCell'] at h)
theorem knd_ok {σ : S} {v : Value} {τ : T} {l : List K} (hv : VT σ v τ) (h : knd τ = some l) : CT σ v.cells.toList l := by
  cases τ with
  | int k lo hi =>
    obtain ⟨n, rfl, h1, h2⟩ := hv
    unfold knd at h
    dsimp only at h
    split at h
    · rename_i hr
      cases h
      exact CT_single ⟨n, rfl, Int.le_trans hr.1 h1, Int.le_trans h2 hr.2⟩
    · cases h
  | bool => obtain ⟨b, rfl⟩ := hv; cases h; exact CT_single ⟨b, rfl⟩
  | cb b => obtain rfl := hv; cases h; exact CT_single ⟨b, rfl⟩
  | agg l => obtain ⟨C, rfl, hC⟩ := hv; cases h; exact hC
  | sl n =>
    have hv' : SL σ v n := hv
    cases h
    rw [cells_single (KT.one (κ := .sl n) rfl hv')]
    exact CT_single hv'
  | nl =>
    obtain rfl : v = _ := hv
    cases h
    exact CT_single (κ := .nl) rfl
  | ss m κ lo hi =>
    have hv' : SS σ v m κ lo hi := hv
    unfold knd at h
    dsimp only at h
    split at h
    · rename_i hk
      obtain ⟨rfl, hb⟩ := hk
      cases h
      have := hv'.sl hb
      rw [cells_single (KT.one (κ := .sl 1) rfl this)]
      exact CT_single (κ := .sl 1) this
    · cases h
      obtain ⟨a, len, cap, rfl, _⟩ := hv'
      exact CT_single (κ := .any) rfl
  | ow κs lo hi =>
    have hv' : OW σ v κs lo hi := hv
    have h1 := hv'.one
    unfold knd at h
    dsimp only at h
    rw [cells_single h1]
    split at h
    · rename_i hk
      cases h
      refine CT_single (κ := .ow κs.length hi) ?_
      show OW σ v (List.replicate κs.length (.int .u8)) 0 hi
      rw [← hk.1]
      exact hv'.wide (Nat.zero_le _) (Nat.le_refl _)
    · cases h
      exact CT_single (κ := .any) h1
  | ptr m l o =>
    obtain ⟨b, m', rfl, hb, hm⟩ := hv
    unfold knd at h
    dsimp only at h
    rw [cells_single rfl]
    split at h
    · rename_i hk
      obtain ⟨rfl, rfl⟩ := hk
      rw [hm rfl] at hb
      split at h
      · rename_i hl; cases h; exact CT_single (κ := .pt 0) ⟨b, rfl, by rw [hb, hl]⟩
      · split at h
        · rename_i hl; cases h; exact CT_single (κ := .pt 1) ⟨b, rfl, by rw [hb, hl]⟩
        · cases h; exact CT_single (κ := .any) rfl
    · cases h; exact CT_single (κ := .any) rfl
  | _ => cases h
def ofK : K → T
  | .int k => .int k (klo k) (khi k)
  | .bool => .bool
  | .sl n => .sl n
  | .pt i => .ptr true (lay i) 0
  | .ow n hi => .ow (List.replicate n (.int .u8)) 0 hi
  | .nl => .nl
  | .any => .any
  | .wild => .any
theorem ofK_ok {σ : S} {v : Value} {κ : K} (h : KT σ v κ) : VT σ v (ofK κ) := by
  cases κ with
  | int k => exact h
  | bool => exact h
  | sl n => exact h
  | pt i => obtain ⟨b, e, hb⟩ := h; exact ⟨b, true, e, hb, fun _ => rfl⟩
  | ow n hi => exact h
  | nl => exact h
  | any => exact trivial
  | wild => exact trivial
end Ab
end Go.Proofs.YtmonkggoilhngaaGreatDoor
/- A reckoning with kinds: operations. Plain; no condition. -/
namespace Go.Proofs.YtmonkggoilhngaaGreatDoor
set_option linter.unusedVariables false
set_option linter.unusedSimpArgs false
open Go.RowKit
namespace Ab
structure TI where
  size : Nat
  row : Bool
  zero : List K
  arr : Option (Nat × Nat × Bool) := none
  flds : Option (List (Nat × Nat)) := none
  int : Option IntKind := none
  sl : Option Nat := none
  slz : List K := []
  ptr : Bool := false
  bl : Bool := false
  str : Bool := false
  u8 : Bool := false
def nil0 : S := fun _ => none
structure TiOk (P : Program) (t : TypeId) (i : TI) : Prop where
  info : ∃ it z d, P.info? t = some it ∧ it.size = i.size ∧ it.zero = some z ∧ CT nil0 z.cells.toList i.zero ∧ P.underlying t = some d ∧ d.isRow = i.row
  arr : ∀ n es r, i.arr = some (n, es, r) → ∃ e ie d, P.underlying t = some (.array n e) ∧ P.info? e = some ie ∧ ie.size = es ∧ P.underlying e = some d ∧ d.isRow = r
  flds : ∀ L, i.flds = some L → ∃ fields, P.underlying t = some (.struct fields) ∧ fields.toList.mapM (fun f => (P.info? f.type).map fun i => (f.offset, i.size)) = some L
  int : ∀ k, i.int = some k → P.underlying t = some (.int k)
  sl : ∀ n, i.sl = some n → ∃ e ie z, P.underlying t = some (.slice e) ∧ P.info? e = some ie ∧ ie.size = n ∧ ie.zero = some z ∧ CT nil0 z.cells.toList i.slz ∧ i.slz.length = n ∧ ie.bytes ≤ 1024
  ptr : i.ptr = true → ∃ e, P.underlying t = some (.pointer e)
  bl : i.bl = true → P.underlying t = some .bool
  str : i.str = true → P.underlying t = some .string
  u8 : i.u8 = true → ∃ e, P.underlying t = some (.slice e) ∧ P.underlying e = some (.int .u8)
def kB (v : Value) : K → Bool
  | .int k => match v with | .int k' n => decide (k' = k) && decide (klo k ≤ n) && decide (n ≤ khi k) | _ => false
  | .bool => match v with | .bool _ => true | _ => false
  | .sl _ => match v with | .slice none 0 0 => true | _ => false
  | .ow _ _ => match v with | .slice none 0 0 => true | _ => false
  | .nl => match v with | .slice none 0 0 => true | _ => false
  | .pt _ => false
  | .any => v.oneCell'
  | .wild => true
def ksB : List Value → List K → Bool
  | [], [] => true
  | v :: C, κ :: l => kB v κ && ksB C l
  | _, _ => false
theorem kB_ok {v : Value} {κ : K} (h : kB v κ = true) : KT nil0 v κ := by
  cases κ with
  | wild => trivial
  | int k =>
    unfold kB at h
    dsimp only at h
    split at h
    · rename_i k' n
      simp only [Bool.and_eq_true, decide_eq_true_eq] at h
      obtain ⟨⟨rfl, h1⟩, h2⟩ := h
      exact ⟨n, rfl, h1, h2⟩
    · cases h
  | bool =>
    unfold kB at h
    dsimp only at h
    split at h
    · exact ⟨_, rfl⟩
    · cases h
  | sl n =>
    unfold kB at h
    dsimp only at h
    split at h
    · exact SL_nil _ _
    · cases h
  | ow n hi =>
    unfold kB at h
    dsimp only at h
    split at h
    · exact .inl ⟨rfl, rfl⟩
    · cases h
  | nl =>
    unfold kB at h
    dsimp only at h
    split at h
    · exact rfl
    · cases h
  | pt i => cases h
  | any => exact h
theorem ksB_ok : ∀ {C : List Value} {l : List K}, ksB C l = true → CT nil0 C l
  | [], [], _ => ⟨rfl, fun i κ hi => by simp at hi⟩
  | v :: C, κ :: l, h => by
    unfold ksB at h
    rw [Bool.and_eq_true] at h
    have ih := ksB_ok h.2
    refine ⟨by simp [ih.1], fun i κ' hi => ?_⟩
    cases i with
    | zero => simp at hi; subst hi; exact ⟨v, rfl, kB_ok h.1⟩
    | succ i => simpa using ih.2 i κ' (by simpa using hi)
  | [], _ :: _, h => by simp [ksB] at h
  | _ :: _, [], h => by simp [ksB] at h
def placesB (P : Program) (fs : List Field) : Option (List (Nat × Nat)) := fs.mapM (fun f => (P.info? f.type).map fun i => (f.offset, i.size))
def chkTi (P : Program) (t : Nat) (i : TI) : Bool :=
  match P.info? t, P.underlying t with
  | some it, some d =>
    it.size == i.size && d.isRow == i.row && (match it.zero with | some z => ksB z.cells.toList i.zero | none => false) &&
    (match i.arr with
      | none => true
      | some (n, es, r) => match d with
        | .array n' e => n == n' && (match P.info? e, P.underlying e with | some ie, some de => ie.size == es && de.isRow == r | _, _ => false)
        | _ => false) &&
    (match i.flds with | none => true | some L => match d with | .struct fs => decide (placesB P fs.toList = some L) | _ => false) &&
    (match i.int with | none => true | some k => match d with | .int k' => decide (k' = k) | _ => false) &&
    (match i.sl with | none => true | some n => match d with
      | .slice e => (match P.info? e with | some ie => ie.size == n && decide (ie.bytes ≤ 1024) && (match ie.zero with | some z => ksB z.cells.toList i.slz && i.slz.length == n | none => false) | none => false)
      | _ => false) &&
    (match i.ptr with | false => true | true => match d with | .pointer _ => true | _ => false) &&
    (match i.bl with | false => true | true => match d with | .bool => true | _ => false) &&
    (match i.str with | false => true | true => match d with | .string => true | _ => false) &&
    (match i.u8 with | false => true | true => match d with | .slice e => (match P.underlying e with | some (.int .u8) => true | _ => false) | _ => false)
  | _, _ => false
theorem chkTi_ok {P : Program} {t : Nat} {i : TI} (h : chkTi P t i = true) : TiOk P t i := by
  unfold chkTi at h
  cases hi : P.info? t with
  | none => simp [hi] at h
  | some it =>
    cases hu : P.underlying t with
    | none => simp [hi, hu] at h
    | some d =>
      simp only [hi, hu, Bool.and_eq_true] at h
      obtain ⟨⟨⟨⟨⟨⟨⟨⟨⟨⟨h1, h2⟩, h3⟩, h4⟩, h5⟩, h6⟩, h7⟩, h8⟩, h9⟩, h10⟩, h11⟩ := h
      refine ⟨?_, ?_, ?_, ?_, ?_, ?_, ?_, ?_, ?_⟩
      · cases hz : it.zero with
        | none => simp [hz] at h3
        | some z =>
          simp only [hz] at h3
          exact ⟨it, z, d, hi, by simpa using h1, hz, ksB_ok h3, hu, by simpa using h2⟩
      · intro n es r ha
        simp only [ha] at h4
        cases d with
        | array n' e =>
          simp only [Bool.and_eq_true] at h4
          obtain ⟨k7, k8⟩ := h4
          cases he : P.info? e with
          | none => simp [he] at k8
          | some ie =>
            cases hue : P.underlying e with
            | none => simp [he, hue] at k8
            | some de =>
              simp only [he, hue, Bool.and_eq_true] at k8
              have k7' : n = n' := by simpa using k7
              subst k7'
              exact ⟨e, ie, de, hu, he, by simpa using k8.1, hue, by simpa using k8.2⟩
        | _ => simp at h4
      · intro L hL
        simp only [hL] at h5
        cases d with
        | struct fs =>
          simp only [decide_eq_true_eq] at h5
          exact ⟨fs, hu, h5⟩
        | _ => simp at h5
      · intro k hk
        simp only [hk] at h6
        cases d with
        | int k' =>
          simp only [decide_eq_true_eq] at h6
          rw [hu, h6]
        | _ => simp at h6
      · intro n hn
        simp only [hn] at h7
        cases d with
        | slice e =>
          simp only at h7
          cases hie : P.info? e with
          | none => simp [hie] at h7
          | some ie =>
            simp only [hie, Bool.and_eq_true, beq_iff_eq, decide_eq_true_eq] at h7
            obtain ⟨⟨k1, k2⟩, k3⟩ := h7
            cases hz : ie.zero with
            | none => simp [hz] at k3
            | some z =>
              simp only [hz, Bool.and_eq_true, beq_iff_eq] at k3
              exact ⟨e, ie, z, hu, hie, k1, hz, ksB_ok k3.1, k3.2, k2⟩
        | _ => simp at h7
      · intro hp
        simp only [hp] at h8
        cases d with
        | pointer e => exact ⟨e, hu⟩
        | _ => simp at h8
      · intro hp
        simp only [hp] at h9
        cases d with
        | bool => exact hu
        | _ => simp at h9
      · intro hp
        simp only [hp] at h10
        cases d with
        | string => exact hu
        | _ => simp at h10
      · intro hp
        simp only [hp] at h11
        cases d with
        | slice e => exact ⟨e, hu, by revert h11; dsimp only; split <;> simp_all⟩
        | _ => simp at h11
def EqOk (P : Program) (t : TypeId) (l : List K) : Prop :=
  ∀ (σ : S) (C D : Array Value) (w : World), CT σ C.toList l → CT σ D.toList l →
    (∀ op x y, (eqGuard op t x y (.agg C) (.agg D)).run P w = .ok () w) ∧
    ∃ b, (binOp .eql t (.agg C) (.agg D)).run P w = .ok (.bool b) w ∧ (binOp .neq t (.agg C) (.agg D)).run P w = .ok (.bool (!b)) w
structure Ctx where
  P : Program
  gt : Gt
  ti : List (Nat × TI)
  eqs : List (Nat × List K)
  sg : List (Nat × List T × T)
def VTs (σ : S) (vs : List Value) (τs : List T) : Prop := vs.length = τs.length ∧ ∀ (i : Nat) (τ : T), τs[i]? = some τ → ∃ v, vs[i]? = some v ∧ VT σ v τ
def Ans (gt : Gt) (σ : S) (w : World) (v : Value) (w' : World) (τ : T) : Prop := ∃ σ', Go1 σ σ' w w' ∧ WT gt σ' w' ∧ VT σ' v τ
def SigOk (P : Program) (gt : Gt) (f : FuncId) (τs : List T) (τ : T) : Prop :=
  ∀ (σ : S) (w : World) (vs : Array Value), WT gt σ w → VTs σ vs.toList τs →
    (∃ v w', (callFunc f vs).run P w = .ok (.value v) w' ∧ Ans gt σ w v w' τ) ∨
    ((callFunc f vs).run P w = .ok (.enter f vs) w ∧ Calls P f vs w fun e w' => ∃ v, e = .returned v ∧ Ans gt σ w v w' τ)
structure Ctx.Ok (c : Ctx) : Prop where
  order : c.P.follows .mixedOrders = true
  ti : ∀ x ∈ c.ti, TiOk c.P x.1 x.2
  eqs : ∀ x ∈ c.eqs, EqOk c.P x.1 x.2
  sg : ∀ x ∈ c.sg, SigOk c.P c.gt x.1 x.2.1 x.2.2
def Ctx.t (c : Ctx) (t : Nat) : Option TI := (c.ti.find? fun x => x.1 == t).map (·.2)
theorem Ctx.Ok.t {c : Ctx} (h : c.Ok) {t : Nat} {i : TI} (ht : c.t t = some i) : TiOk c.P t i := by
  unfold Ctx.t at ht
  rw [Option.map_eq_some_iff] at ht
  obtain ⟨⟨t', i'⟩, h1, h2⟩ := ht
  have h3 := List.mem_of_find?_eq_some h1
  have h4 := List.find?_some h1
  simp at h4 h2
  subst h4 h2
  exact h.ti _ h3
def full (k : IntKind) : T := .int k (klo k) (khi k)
def cst (k : IntKind) (n : Int) : T := if klo k ≤ n ∧ n ≤ khi k then .int k n n else full k
def cmpB : BinOp → Int → Int → Option Bool
  | .eql, x, y => some (x == y)
  | .neq, x, y => some (x != y)
  | .lss, x, y => some (decide (x < y))
  | .leq, x, y => some (decide (x ≤ y))
  | .gtr, x, y => some (decide (x > y))
  | .geq, x, y => some (decide (x ≥ y))
  | _, _, _ => none
set_option warn.classDefReducibility false
attribute [local instance 100000] decEqI decLeI decLtI
def isB : T → Bool
  | .bool | .cb _ => true
  | _ => false
def isS : T → Bool
  | .sl _ | .ss .. | .ow .. | .nl => true
  | _ => false
def nilB : T → T
  | .nl => .cb true
  | .ss _ _ a _ => if 0 < a then .cb false else .bool
  | _ => .bool
def aCmp (op : BinOp) (a b a' b' : Int) : Option T :=
  if a = b ∧ a' = b' then (cmpB op a a').map .cb else match op with
      | .lss => if b < a' then some (.cb true) else if b' ≤ a then some (.cb false) else some .bool
      | op => (cmpB op a a').map fun _ => .bool
def aInt (op : BinOp) (k : IntKind) (a b : Int) (k' : IntKind) (a' b' : Int) : Option T :=
    match op with
    | .shl | .shr => if 0 ≤ a' ∧ klo k ≤ a ∧ b ≤ khi k then some (full k) else none
    | .add => if k = k' then some (if a = b ∧ a' = b' then cst k (a + a') else full k) else none
    | .sub => if k = k' then some (if a = b ∧ a' = b' then cst k (a - a') else full k) else none
    | .mul => if k = k' then some (if a = b ∧ a' = b' then cst k (a * a') else full k) else none
    | .quo => if k = k' ∧ a = b ∧ a' = b' ∧ 0 ≤ a ∧ a ≤ khi k ∧ 0 < a' then some (.int k (a / a') (a / a')) else none
    | .rem => if k = k' ∧ a = b ∧ a' = b' ∧ 0 ≤ a ∧ 0 < a' then some (.int k (a % a') (a % a')) else none
    | .and | .or | .xor | .andNot => if k = k' then some (full k) else none
    | op => if k = k' then aCmp op a b a' b' else none
def aInt1 (op : BinOp) (k : IntKind) (a b : Int) : T → Option T
  | .int k' a' b' => aInt op k a b k' a' b'
  | _ => none
def aAgg (c : Ctx) (op : BinOp) (t : TypeId) (l : List K) : T → Option T
  | .agg l' => match op with
    | .eql | .neq => if c.eqs.any (fun x => x.1 == t && decide (x.2 = l) && decide (x.2 = l')) then some .bool else none
    | _ => none
  | _ => none
def aPtr (c : Ctx) (op : BinOp) (t : TypeId) : T → Option T
  | .np => match c.t t with
    | some i => if i.ptr then (match op with | .eql => some (.cb false) | .neq => some (.cb true) | _ => none) else none
    | none => none
  | _ => none
def aStr (op : BinOp) : T → Option T
  | .str => match op with
    | .eql | .neq => some .bool
    | _ => none
  | _ => none
def aRest (c : Ctx) (op : BinOp) (t : TypeId) (x : T) : T → Option T
  | .nl => match c.t t with
    | some i => if i.sl.isSome && isS x then (match op with | .eql => some (nilB x) | .neq => some .bool | _ => none) else none
    | none => none
  | y => if isB x && isB y then (match op, c.t t with
    | .eql, some i | .neq, some i => if i.bl then some .bool else none
    | _, _ => none) else none
def absBin (c : Ctx) (op : BinOp) (t : TypeId) (x y : T) : Option T :=
  match x with
  | .int k a b => aInt1 op k a b y
  | .agg l => aAgg c op t l y
  | .ptr .. => aPtr c op t y
  | .str => aStr op y
  | _ => aRest c op t x y
theorem eqIn_ptr {P : Program} {w : World} (d : Nat) {t e : TypeId} (h : P.underlying t = some (.pointer e)) (a : Addr) : (Op.equalIn (d + 1) t (.pointer (some a)) (.pointer none)).run P w = .ok false w := by
  simp [Op.equalIn, run_underlying h]
theorem eqIn_sl {P : Program} {w : World} (d : Nat) {t e : TypeId} (h : P.underlying t = some (.slice e)) (a : Option Addr) (n k : Nat) : (Op.equalIn (d + 1) t (.slice a n k) (.slice none 0 0)).run P w = .ok a.isNone w := by
  cases a <;> simp [Op.equalIn, run_underlying h]
theorem eql_of {P : Program} {w : World} {t : TypeId} {x y : Value} {b : Bool} (h : (Op.equal t x y).run P w = .ok b w) (hx : binOp .eql t x y = (do pure (.bool (← Op.equal t x y)))) : (binOp .eql t x y).run P w = .ok (.bool b) w := by
  rw [hx, Sem.run_bind, h]; rfl
theorem neq_of {P : Program} {w : World} {t : TypeId} {x y : Value} {b : Bool} (h : (Op.equal t x y).run P w = .ok b w) (hx : binOp .neq t x y = (do pure (.bool (!(← Op.equal t x y))))) : (binOp .neq t x y).run P w = .ok (.bool (!b)) w := by
  rw [hx, Sem.run_bind, h]; rfl
theorem guard_of {P : Program} {w : World} {s : Sem Value} {op : BinOp} {t : TypeId} {ox oy : Operand} {x y v : Value} (hg : eqGuard op t ox oy x y = pure ()) (h : (binOp op t x y).run P w = .ok v w) :
    ((do eqGuard op t ox oy x y; binOp op t x y : Sem Value)).run P w = .ok v w := by
  rw [Sem.run_bind, hg]; exact h
theorem isB_ok {σ : S} {v : Value} : ∀ {τ : T}, isB τ = true → VT σ v τ → ∃ b, v = .bool b
  | .bool, _, h => h
  | .cb _, _, h => ⟨_, h⟩
theorem nilB_ok {σ : S} {q : Option Addr} {k z : Nat} : ∀ {τ : T}, VT σ (.slice q k z) τ → VT σ (.bool q.isNone) (nilB τ)
  | .nl, h => by cases h; rfl
  | .ss m κ a b, h => by
    unfold nilB
    dsimp only
    split
    · rename_i ha
      obtain ⟨_, _, _, e, h1, _, h3, _, h5, _⟩ := h
      cases e
      cases q with
      | none => have := h5 rfl; omega
      | some p => rfl
    · exact ⟨_, rfl⟩
  | .int .., _ => ⟨_, rfl⟩ | .bool, _ => ⟨_, rfl⟩ | .cb _, _ => ⟨_, rfl⟩ | .agg _, _ => ⟨_, rfl⟩ | .ptr .., _ => ⟨_, rfl⟩ | .sl _, _ => ⟨_, rfl⟩ | .pk .., _ => ⟨_, rfl⟩ | .pr .., _ => ⟨_, rfl⟩ | .str, _ => ⟨_, rfl⟩ | .ow .., _ => ⟨_, rfl⟩
  | .np, _ => ⟨_, rfl⟩ | .t2 .., _ => ⟨_, rfl⟩ | .t3 .., _ => ⟨_, rfl⟩ | .or .., _ => ⟨_, rfl⟩ | .und, _ => ⟨_, rfl⟩ | .any, _ => ⟨_, rfl⟩
theorem isS_ok {σ : S} {v : Value} : ∀ {τ : T}, isS τ = true → VT σ v τ → ∃ a n k, v = .slice a n k
  | .sl _, _, ⟨a, n, k, e, _⟩ => ⟨a, n, k, e⟩
  | .ss .., _, ⟨a, n, k, e, _⟩ => ⟨a, n, k, e⟩
  | .ow .., _, .inl ⟨e, _⟩ => ⟨_, _, _, e⟩
  | .ow .., _, .inr ⟨_, n, k, _, e, _⟩ => ⟨_, n, k, e⟩
  | .nl, _, e => ⟨_, _, _, e⟩
theorem wrap_same (k : IntKind) (n : Int) (h1 : klo k ≤ n) (h2 : n ≤ khi k) : k.wrap n = n := by
  cases k <;> simp only [klo, khi] at h1 h2 <;> simp only [IntKind.wrap, IntKind.bits, IntKind.signed] <;> simp <;> (try split) <;> omega
theorem full_ok (σ : S) (k : IntKind) (n : Int) : VT σ (.int k (k.wrap n)) (full k) := ⟨_, rfl, (wrap_in k n).1, (wrap_in k n).2⟩
theorem cst_ok (σ : S) (k : IntKind) (n : Int) : VT σ (.int k (k.wrap n)) (cst k n) := by
  unfold cst
  split
  · rename_i h
    rw [wrap_same k n h.1 h.2]
    exact ⟨n, rfl, Int.le_refl _, Int.le_refl _⟩
  · exact full_ok σ k n
theorem fold_ok (σ : S) (k : IntKind) (r : Int → Int → Int) {a b a' b' x y : Int} (h1 : a ≤ x) (h2 : x ≤ b) (h3 : a' ≤ y) (h4 : y ≤ b') :
    VT σ (.int k (k.wrap (r x y))) (if a = b ∧ a' = b' then cst k (r a a') else full k) := by
  split
  · rename_i h
    obtain rfl : x = a := by omega
    obtain rfl : y = a' := by omega
    exact cst_ok σ k _
  · exact full_ok σ k _
theorem fdiv_in (k : IntKind) (x : Int) (n : Nat) (h1 : klo k ≤ x) (h2 : x ≤ khi k) : klo k ≤ x.fdiv (2 ^ n) ∧ x.fdiv (2 ^ n) ≤ khi k := by
  have hp : (0 : Int) < 2 ^ n := Int.pow_pos (by decide)
  have hk : klo k ≤ 0 := by cases k <;> decide
  have hh : 0 ≤ khi k := by cases k <;> decide
  have e : x.fdiv (2 ^ n) = x / 2 ^ n := Int.fdiv_eq_ediv_of_nonneg x (Int.le_of_lt hp)
  rw [e]
  have hge : (1 : Int) ≤ 2 ^ n := hp
  constructor
  · rcases Int.lt_or_le x 0 with hx | hx
    · have : x ≤ x / 2 ^ n := by
        rw [Int.le_ediv_iff_mul_le hp]
        have := Int.mul_le_mul_of_nonpos_left (a := x) (Int.le_of_lt hx) hge
        omega
      omega
    · have := Int.ediv_nonneg hx (Int.le_of_lt hp)
      omega
  · rcases Int.lt_or_le x 0 with hx | hx
    · have : x / 2 ^ n < 0 := Int.ediv_neg_of_neg_of_pos hx hp
      omega
    · have := Int.ediv_le_self (2 ^ n) hx
      omega
theorem bits_run {P : Program} {w : World} (σ : S) (op : BinOp) (k : IntKind) (x y : Int) (h : op = .and ∨ op = .or ∨ op = .xor ∨ op = .andNot) : ∃ v, (Op.intBits op k x y).run P w = .ok v w ∧ VT σ v (full k) := by
  rcases h with rfl | rfl | rfl | rfl <;> exact ⟨_, rfl, full_ok σ k _⟩
theorem guard_int {P : Program} {w : World} (op : BinOp) (t : TypeId) (x y : Operand) (k k' : IntKind) (n m : Int) : (eqGuard op t x y (.int k n) (.int k' m)).run P w = .ok () w := by
  cases op <;> rfl
theorem aInt_ok {c : Ctx} (hc : c.Ok) {σ : S} {w : World} (op : BinOp) (t : TypeId) (ox oy : Operand) {x y : Value} {k k' : IntKind} {a b a' b' : Int} {ρ : T} (hx : VT σ x (.int k a b)) (hy : VT σ y (.int k' a' b')) (h : aInt op k a b k' a' b' = some ρ) :
    ∃ v, ((do eqGuard op t ox oy x y; binOp op t x y : Sem Value)).run c.P w = .ok v w ∧ VT σ v ρ := by
  unfold aInt at h
  obtain ⟨n, rfl, h1, h2⟩ := hx
  obtain ⟨m, rfl, h3, h4⟩ := hy
  have hg := guard_int (P := c.P) (w := w) op t ox oy k k' n m
  simp only [Sem.run_bind, hg, Result.andThen_ok]
  cases op with
  | shl =>
    dsimp only at h
    split at h
    · rename_i hh
      cases h
      have hm : ¬ m < 0 := by omega
      refine ⟨_, ?_, full_ok σ k (n * 2 ^ min m.toNat k.bits)⟩
      simp [binOp, Op.shift, hm]
    · cases h
  | shr =>
    dsimp only at h
    split at h
    · rename_i hh
      cases h
      have hm : ¬ m < 0 := by omega
      refine ⟨.int k (n.fdiv (2 ^ min m.toNat k.bits)), by simp [binOp, Op.shift, hm], ?_⟩
      have := fdiv_in k n (min m.toNat k.bits) (by omega) (by omega)
      exact ⟨_, rfl, this.1, this.2⟩
    · cases h
  | add =>
    dsimp only at h
    split at h
    · rename_i hk; cases h; subst hk
      exact ⟨_, by simp [binOp, Op.intArith], fold_ok σ k (fun x y => x + y) h1 h2 h3 h4⟩
    · cases h
  | sub =>
    dsimp only at h
    split at h
    · rename_i hk; cases h; subst hk
      exact ⟨_, by simp [binOp, Op.intArith], fold_ok σ k (fun x y => x - y) h1 h2 h3 h4⟩
    · cases h
  | mul =>
    dsimp only at h
    split at h
    · rename_i hk; cases h; subst hk
      exact ⟨_, by simp [binOp, Op.intArith], fold_ok σ k (fun x y => x * y) h1 h2 h3 h4⟩
    · cases h
  | quo =>
    dsimp only at h
    split at h
    · rename_i hh; cases h
      obtain ⟨rfl, rfl, rfl, h5, h6, h7⟩ := hh
      obtain rfl : n = a := by omega
      obtain rfl : m = a' := by omega
      have hm : m ≠ 0 := by omega
      have e : n.tdiv m = n / m := Int.tdiv_eq_ediv_of_nonneg h5
      have h8 : 0 ≤ n / m := Int.ediv_nonneg h5 (by omega)
      have h9 : n / m ≤ n := Int.ediv_le_self m h5
      have hk : klo k ≤ 0 := by cases k <;> decide
      refine ⟨.int k (n / m), ?_, _, rfl, Int.le_refl _, Int.le_refl _⟩
      simp [binOp, Op.intDiv, hm, e, wrap_same k (n / m) (by omega) (by omega)]
    · cases h
  | rem =>
    dsimp only at h
    split at h
    · rename_i hh; cases h
      obtain ⟨rfl, rfl, rfl, h5, h7⟩ := hh
      obtain rfl : n = a := by omega
      obtain rfl : m = a' := by omega
      have hm : m ≠ 0 := by omega
      have e : n.tmod m = n % m := Int.tmod_eq_emod_of_nonneg h5
      refine ⟨.int k (n % m), ?_, _, rfl, Int.le_refl _, Int.le_refl _⟩
      simp [binOp, Op.intDiv, hm, e]
    · cases h
  | and =>
    dsimp only at h
    split at h
    · rename_i hk; cases h; subst hk
      obtain ⟨v, hv, hv'⟩ := bits_run (P := c.P) (w := w) σ .and k n m (by simp)
      exact ⟨v, by simpa [binOp] using hv, hv'⟩
    · cases h
  | or =>
    dsimp only at h
    split at h
    · rename_i hk; cases h; subst hk
      obtain ⟨v, hv, hv'⟩ := bits_run (P := c.P) (w := w) σ .or k n m (by simp)
      exact ⟨v, by simpa [binOp] using hv, hv'⟩
    · cases h
  | xor =>
    dsimp only at h
    split at h
    · rename_i hk; cases h; subst hk
      obtain ⟨v, hv, hv'⟩ := bits_run (P := c.P) (w := w) σ .xor k n m (by simp)
      exact ⟨v, by simpa [binOp] using hv, hv'⟩
    · cases h
  | andNot =>
    dsimp only at h
    split at h
    · rename_i hk; cases h; subst hk
      obtain ⟨v, hv, hv'⟩ := bits_run (P := c.P) (w := w) σ .andNot k n m (by simp)
      exact ⟨v, by simpa [binOp] using hv, hv'⟩
    · cases h
  | _ =>
    dsimp only at h
    split at h
    · rename_i hk
      subst hk
      unfold aCmp at h
      split at h
      · rename_i he
        obtain rfl : n = a := by omega
        obtain rfl : m = a' := by omega
        cases h
        exact ⟨_, by simp [binOp, Op.intCmp], rfl⟩
      · dsimp only at h
        first
          | (cases h; exact ⟨_, by simp [binOp, Op.intCmp]; rfl, _, rfl⟩)
          | (split at h
             · cases h; exact ⟨.bool true, by simp [binOp, Op.intCmp]; omega, rfl⟩
             · split at h
               · cases h; exact ⟨.bool false, by simp [binOp, Op.intCmp]; omega, rfl⟩
               · cases h; exact ⟨_, by simp [binOp, Op.intCmp]; rfl, _, rfl⟩)
    · cases h

theorem aAgg_ok {c : Ctx} (hc : c.Ok) {σ : S} {w : World} (op : BinOp) (t : TypeId) (ox oy : Operand) {x y : Value} {l l' : List K} {ρ : T} (hx : VT σ x (.agg l)) (hy : VT σ y (.agg l')) (h : aAgg c op t l (.agg l') = some ρ) :
    ∃ v, ((do eqGuard op t ox oy x y; binOp op t x y : Sem Value)).run c.P w = .ok v w ∧ VT σ v ρ := by
  unfold aAgg at h
  dsimp only at h
  obtain ⟨C, rfl, hC⟩ := hx
  obtain ⟨D, rfl, hD⟩ := hy
  have key : ∀ l0, (t, l0) ∈ c.eqs → l0 = l → l0 = l' → (op = .eql ∨ op = .neq) → ρ = .bool → ∃ v, ((do eqGuard op t ox oy (.agg C) (.agg D); binOp op t (.agg C) (.agg D) : Sem Value)).run c.P w = .ok v w ∧ VT σ v ρ := by
    intro l0 hm e1 e2 hop hρ
    subst e1 hρ
    rw [← e2] at hD
    obtain ⟨hg, b, h1, h2⟩ := hc.eqs _ hm σ C D w hC hD
    simp only [Sem.run_bind, hg, Result.andThen_ok]
    rcases hop with rfl | rfl
    · exact ⟨_, h1, b, rfl⟩
    · exact ⟨_, h2, !b, rfl⟩
  have any : (c.eqs.any fun x => x.1 == t && decide (x.2 = l) && decide (x.2 = l')) = true → ∃ l0, (t, l0) ∈ c.eqs ∧ l0 = l ∧ l0 = l' := by
    intro ha
    rw [List.any_eq_true] at ha
    obtain ⟨⟨t0, l0⟩, hm, hx⟩ := ha
    simp only [Bool.and_eq_true, beq_iff_eq, decide_eq_true_eq] at hx
    obtain ⟨⟨e0, e1⟩, e2⟩ := hx
    rw [e0] at hm
    exact ⟨l0, hm, e1, e2⟩
  split at h
  · split at h
    · rename_i ha
      cases h
      obtain ⟨l0, hm, e1, e2⟩ := any ha
      exact key l0 hm e1 e2 (.inl rfl) rfl
    · cases h
  · split at h
    · rename_i ha
      cases h
      obtain ⟨l0, hm, e1, e2⟩ := any ha
      exact key l0 hm e1 e2 (.inr rfl) rfl
    · cases h
  · cases h

theorem aPtr_ok {c : Ctx} (hc : c.Ok) {σ : S} {w : World} (op : BinOp) (t : TypeId) (ox oy : Operand) {x y : Value} {m : Bool} {l : List K} {off : Nat} {ρ : T} (hx : VT σ x (.ptr m l off)) (hy : VT σ y .np) (h : aPtr c op t .np = some ρ) :
    ∃ v, ((do eqGuard op t ox oy x y; binOp op t x y : Sem Value)).run c.P w = .ok v w ∧ VT σ v ρ := by
  unfold aPtr at h
  dsimp only at h
  obtain ⟨b, m', rfl, _, _⟩ := hx
  obtain rfl := hy
  split at h
  · rename_i i hi
    split at h
    · rename_i hp
      obtain ⟨e, hu⟩ := (hc.t hi).ptr hp
      split at h
      · cases h
        exact ⟨.bool false, guard_of (s := pure undef) rfl (eql_of (eqIn_ptr 9999 hu _) rfl), rfl⟩
      · cases h
        exact ⟨.bool true, guard_of (s := pure undef) rfl (neq_of (eqIn_ptr 9999 hu _) rfl), rfl⟩
      · cases h
    · cases h
  · cases h

theorem aRest_ok {c : Ctx} (hc : c.Ok) {σ : S} {w : World} (op : BinOp) (t : TypeId) (ox oy : Operand) {x y : Value} {τ τ' ρ : T} (hx : VT σ x τ) (hy : VT σ y τ') (h : aRest c op t τ τ' = some ρ) :
    ∃ v, ((do eqGuard op t ox oy x y; binOp op t x y : Sem Value)).run c.P w = .ok v w ∧ VT σ v ρ := by
  unfold aRest at h
  split at h
  · obtain rfl := hy
    split at h
    · rename_i i hi
      split at h
      · rename_i hp
        rw [Bool.and_eq_true] at hp
        obtain ⟨n, hn⟩ := Option.isSome_iff_exists.1 hp.1
        obtain ⟨e, _, _, hu, _⟩ := (hc.t hi).sl n hn
        obtain ⟨q, k, z, rfl⟩ := isS_ok hp.2 hx
        split at h
        · cases h
          exact ⟨.bool q.isNone, guard_of (s := pure undef) rfl (eql_of (eqIn_sl 9999 hu q k z) rfl), nilB_ok hx⟩
        · cases h
          exact ⟨.bool (!q.isNone), guard_of (s := pure undef) rfl (neq_of (eqIn_sl 9999 hu q k z) rfl), _, rfl⟩
        · cases h
      · cases h
    · cases h
  · split at h
    · rename_i hb
      rw [Bool.and_eq_true] at hb
      obtain ⟨p, rfl⟩ := isB_ok hb.1 hx
      obtain ⟨q, rfl⟩ := isB_ok hb.2 hy
      split at h
      · rename_i i hi
        split at h
        · rename_i hbl
          cases h
          exact ⟨.bool (p == q), by simp [eqGuard, run_eql_bool w t p q ((hc.t hi).bl hbl)], _, rfl⟩
        · cases h
      · rename_i i hi
        split at h
        · rename_i hbl
          cases h
          exact ⟨.bool (!(p == q)), by simp [eqGuard, run_neq_bool w t p q ((hc.t hi).bl hbl)], _, rfl⟩
        · cases h
      · cases h
    · cases h
theorem aStr_ok {c : Ctx} (hc : c.Ok) {σ : S} {w : World} (op : BinOp) (t : TypeId) (ox oy : Operand) {x y : Value} {ρ : T} (hx : VT σ x .str) (hy : VT σ y .str) (h : aStr op .str = some ρ) :
    ∃ v, ((do eqGuard op t ox oy x y; binOp op t x y : Sem Value)).run c.P w = .ok v w ∧ VT σ v ρ := by
  unfold aStr at h
  dsimp only at h
  obtain ⟨p, rfl⟩ := hx
  obtain ⟨q, rfl⟩ := hy
  split at h
  · cases h
    exact ⟨.bool (p.toList == q.toList), guard_of (s := pure undef) rfl (by rw [binOp_string_eql]; rfl), _, rfl⟩
  · cases h
    exact ⟨.bool !(p.toList == q.toList), guard_of (s := pure undef) rfl (by rw [binOp_string_neq]; rfl), _, rfl⟩
  · cases h

theorem bin_ok {c : Ctx} (hc : c.Ok) {σ : S} {w : World} (op : BinOp) (t : TypeId) (ox oy : Operand) {x y : Value} {τ τ' ρ : T} (hx : VT σ x τ) (hy : VT σ y τ') (h : absBin c op t τ τ' = some ρ) :
    ∃ v, ((do eqGuard op t ox oy x y; binOp op t x y : Sem Value)).run c.P w = .ok v w ∧ VT σ v ρ := by
  unfold absBin at h
  split at h
  · unfold aInt1 at h
    split at h
    · exact aInt_ok hc op t ox oy hx hy h
    · cases h
  · cases τ' with
    | agg l' => exact aAgg_ok hc op t ox oy hx hy h
    | _ => cases h
  · cases τ' with
    | np => exact aPtr_ok hc op t ox oy hx hy h
    | _ => cases h
  · cases τ' with
    | str => exact aStr_ok hc op t ox oy hx hy h
    | _ => cases h
  · exact aRest_ok hc op t ox oy hx hy h
end Ab
end Go.Proofs.YtmonkggoilhngaaGreatDoor
