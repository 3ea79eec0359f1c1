/- A part of the proof. Plain; no condition. -/
import Derived.Test.YtjkbpdobeljmjaaGreatDoorP23
import Derived.Test.YtjkbpdobeljmjaaGreatDoorP0
import Derived.Test.YtjkbpdobeljmjaaGreatDoorChecked
/- A reckoning with kinds, for this program: types, tables, the standard functions on words. Plain; no condition. -/
namespace Go.Proofs.YtjkbpdobeljmjaaGreatDoor
open Go.RowKit
namespace Ab
theorem eq_ok {P : Program} {t e : TypeId} {n : Nat} {k : IntKind} (ht : P.underlying t = some (.array n e)) (he : P.underlying e = some (.int k)) (hsz : ∀ w, (sizeOf e).run P w = .ok 1 w) (hg : P.eqGuardType P.depth t = false) :
    EqOk P t (List.replicate n (.int k)) := by
  intro σ C D w hC hD
  have lc : ∀ (C : Array Value), CT σ C.toList (List.replicate n (.int k)) → ∃ f : Nat → Int, ∀ i, i < n → (part e C (i * 1)).run P w = .ok (.int k (f i)) w := by
    intro C hC
    have : ∀ i, ∃ z : Int, i < n → (part e C (i * 1)).run P w = .ok (.int k z) w := by
      intro i
      by_cases hi : i < n
      · obtain ⟨v, h1, z, rfl, _⟩ := hC.2 i (.int k) (by rw [List.getElem?_replicate, if_pos hi])
        have h1' : C[i]? = some (.int k z) := by simpa using h1
        exact ⟨z, fun _ => by simp [part, isAgg, run_underlying he, h1']⟩
      · exact ⟨0, fun h => absurd h hi⟩
    exact ⟨fun i => (this i).choose, fun i hi => (this i).choose_spec hi⟩
  obtain ⟨f, hf⟩ := lc C hC
  obtain ⟨g, hgg⟩ := lc D hD
  have key : ∃ b, (Op.equalIn 10000 t (.agg C) (.agg D)).run P w = .ok b w := by
    rw [show (10000 : Nat) = 9999 + 1 from rfl, Op.equalIn]
    simp only [Sem.run_bind, run_underlying ht, Result.andThen_ok, hsz, Std.Legacy.Range.forIn_eq_forIn_range', Std.Legacy.Range.size, Nat.sub_zero, Nat.add_sub_cancel, Nat.div_one]
    have hl : ∀ i ∈ List.range' 0 n 1, i < n := fun i hi => by simpa using (List.mem_range'_1.1 hi).2
    generalize List.range' 0 n 1 = l at hl ⊢
    induction l with
    | nil => exact ⟨true, by simp⟩
    | cons i l ih =>
      have hi : i < n := hl i (by simp)
      have pe : (Op.equalIn 9999 e (.int k (f i)) (.int k (g i))).run P w = .ok (f i == g i) w := by
        rw [show (9999 : Nat) = 9998 + 1 from rfl, run_equalIn_int w 9998 e k k _ _ he]
      simp only [List.forIn_cons, Sem.run_bind, hf i hi, hgg i hi, pe, Result.andThen_ok]
      cases hb : (f i == g i)
      · exact ⟨false, by simp⟩
      · simp only [Bool.not_true, Bool.false_eq_true, if_false, Sem.run_pure, Result.andThen_ok]
        exact ih fun j hj => hl j (by simp [hj])
  obtain ⟨b, hb⟩ := key
  refine ⟨fun op x y => run_eqGuard_agg w op t x y C D hg, b, ?_, ?_⟩
  · rw [run_eql_struct, hb]; rfl
  · rw [run_neq_struct, hb]; rfl
abbrev U : K := .int .u64
abbrev B8 : K := .int .u8
def w4 : List K := [U, U, U, U]
def w8 : List K := [U, U, U, U, U, U, U, U]
def w16 : List K := w8 ++ w8
def w80 : List K := w16 ++ w16 ++ w16 ++ w16 ++ w16
def b8 : List K := [B8, B8, B8, B8, B8, B8, B8, B8]
def b32 : List K := b8 ++ b8 ++ b8 ++ b8
def b80 : List K := b32 ++ b32 ++ b8 ++ b8
def proofK (n : Nat) : List K := .ow 32 n :: .bool :: b32 ++ b32
def foundK : List K := .int .i64 :: b32 ++ b80 ++ [.bool, .int .i64, .sl 1] ++ b32 ++ b32 ++ proofK 256 ++ b32 ++ b32 ++ b32 ++ [.int .i64]
def signedK : List K := .int .i64 :: b32 ++ b32 ++ b32
def underK : List K := proofK 256 ++ signedK ++ b32 ++ [.ow 32 256]
def memberK : List K := .sl 1 :: .bool :: .int .i64 :: b32
def answerK : List K := .int .i64 :: .int .i64 :: .int .i64 :: foundK ++ b32 ++ [.ow 32 256] ++ underK ++ [.any, .any] ++ memberK ++ [.sl 1] ++ b32 ++ [.ow 32 256]
def mod4 : Array Value := #[.int .u64 18446744073709551597, .int .u64 18446744073709551615, .int .u64 18446744073709551615, .int .u64 9223372036854775807]
def gtL : Gt := ⟨[(8, w4), (11, w4), (2, w4), (0, w4), (1, w4), (5, w4), (9, w4), (4, w8), (7, w80)], [(8, mod4)]⟩
def tiL : List (Nat × TI) := [
  (28, { size := 1, row := false, zero := [U], int := some .u64 }),
  (170, { size := 4, row := true, zero := w4, arr := some (4, 1, false) }),
  (165, { size := 96, row := true, zero := b32 ++ b32 ++ b32, flds := some [(0, 32), (32, 32), (64, 32)] }),
  (172, { size := 16, row := true, zero := w16, flds := some [(0, 4), (4, 4), (8, 4), (12, 4)] }),
  (3, { size := 1, row := false, zero := [.int .i64], int := some .i64 }),
  (5, { size := 1, row := false, zero := [B8], int := some .u8 }),
  (4, { size := 1, row := false, zero := [.bool], bl := true }),
  (31, { size := 1, row := false, zero := [.sl 1], sl := some 1, slz := [B8], u8 := true }),
  (241, { size := 1, row := false, zero := [.any], sl := some 1, slz := [U] }),
  (230, { size := 1, row := false, zero := [.any], sl := some 1, slz := [.sl 1] }),
  (22, { size := 32, row := true, zero := b32, arr := some (32, 1, false) }),
  (167, { size := 4, row := true, zero := w4, arr := some (4, 1, false) }),
  (251, { size := 8, row := true, zero := w8, arr := some (8, 1, false) }),
  (168, { size := 4, row := true, zero := w4, arr := some (4, 1, false) }),
  (96, { size := 1, row := false, zero := [U], int := some .u64 }),
  (362, { size := 80, row := true, zero := w80, arr := some (80, 1, false) }),
  (24, { size := 1, row := false, zero := [.int .i64], int := some .i64 }),
  (40, { size := 64, row := true, zero := b32 ++ b32, arr := some (64, 1, false) }),
  (33, { size := 32, row := true, zero := b32, arr := some (32, 1, false) }),
  (30, { size := 80, row := true, zero := b80, arr := some (80, 1, false) }),
  (35, { size := 64, row := true, zero := b32 ++ b32, flds := some [(0, 32), (32, 32)] }),
  (37, { size := 66, row := true, zero := proofK 256, flds := some [(0, 1), (1, 1), (2, 64)] }),
  (39, { size := 343, row := true, zero := foundK, flds := some [(0, 1), (1, 32), (33, 80), (113, 1), (114, 1), (115, 1), (116, 32), (148, 32), (180, 66), (246, 32), (278, 32), (310, 32), (342, 1)] }),
  (42, { size := 97, row := true, zero := signedK, flds := some [(0, 1), (1, 32), (33, 64)] }),
  (44, { size := 196, row := true, zero := underK, flds := some [(0, 66), (66, 97), (163, 32), (195, 1)] }),
  (48, { size := 35, row := true, zero := memberK, flds := some [(0, 1), (1, 1), (2, 1), (3, 32)] }),
  (50, { size := 646, row := true, zero := answerK, flds := some [(0, 1), (1, 1), (2, 1), (3, 343), (346, 32), (378, 1), (379, 196), (575, 1), (576, 1), (577, 35), (612, 1), (613, 32), (645, 1)] }),
  (194, { size := 3, row := true, zero := [.int .i64, .int .i64, .sl 1], flds := some [(0, 1), (1, 1), (2, 1)] }),
  (202, { size := 65, row := true, zero := .int .i64 :: b32 ++ b32, flds := some [(0, 1), (1, 32), (33, 32)] }),
  (380, { size := 2, row := true, zero := [.any, .bool], flds := some [(0, 1), (1, 1)] }),
  (342, { size := 2, row := true, zero := [.sl 1, .int .i64], flds := some [(0, 1), (1, 1)] }),
  (288, { size := 1, row := false, zero := [.any], ptr := true }),
  (323, { size := 1, row := false, zero := [.any], ptr := true }),
  (92, { size := 1, row := false, zero := [.any], ptr := true }),
  (32, { size := 1, row := false, zero := [.ow 32 256], sl := some 32, slz := b32 }),
  (45, { size := 1, row := false, zero := [.any], sl := some 3, slz := [.int .i64, .int .i64, .sl 1] }),
  (46, { size := 1, row := false, zero := [.any], sl := some 65, slz := .int .i64 :: b32 ++ b32 }),
  (315, { size := 1, row := false, zero := [.any], sl := some 16, slz := w16 }),
  (9, { size := 1, row := false, zero := [.any], str := true })]
def eqL : List (Nat × List K) := [(170, w4), (22, b32)]
noncomputable def cx (sg : List (Nat × List T × T)) : Ctx := ⟨Tryz.prog, gtL, tiL, eqL, sg⟩
theorem ti_all : (tiL.all fun x => chkTi Tryz.prog x.1 x.2) = true := by kernel_rfl
theorem size_one {e : TypeId} (h : (Tryz.prog.info? e).map (·.size) = some 1) (w : World) : (sizeOf e).run Tryz.prog w = .ok 1 w := by
  obtain ⟨i0, h1, h2⟩ := Option.map_eq_some_iff.1 h
  simp [sizeOf, typeInfo, h1, h2]
theorem cx_ok {sg : List (Nat × List T × T)} (h : ∀ x ∈ sg, SigOk Tryz.prog gtL x.1 x.2.1 x.2.2) : (cx sg).Ok := by
  refine ⟨by kernel_rfl, fun x hx => chkTi_ok (List.all_eq_true.1 ti_all x hx), fun x hx => ?_, h⟩
  simp only [cx, eqL, List.mem_cons, List.not_mem_nil, or_false] at hx
  rcases hx with rfl | rfl
  · exact eq_ok (n := 4) (k := .u64) (e := 28) Tryz.underlying170 Tryz.underlying28 (size_one (by kernel_rfl)) (by kernel_rfl)
  · exact eq_ok (n := 32) (k := .u8) (e := 5) Tryz.underlying22 Tryz.underlying5 (size_one (by kernel_rfl)) (by kernel_rfl)
theorem VTs.three {σ : S} {vs : Array Value} {a b c : T} (h : VTs σ vs.toList [a, b, c]) : ∃ x y z, vs = #[x, y, z] ∧ VT σ x a ∧ VT σ y b ∧ VT σ z c := by
  obtain ⟨vs⟩ := vs
  obtain ⟨h1, h2⟩ := h
  match vs, h1 with
  | [x, y, z], _ =>
    obtain ⟨x', e1, k1⟩ := h2 0 a rfl
    obtain ⟨y', e2, k2⟩ := h2 1 b rfl
    obtain ⟨z', e3, k3⟩ := h2 2 c rfl
    cases e1; cases e2; cases e3
    exact ⟨x, y, z, rfl, k1, k2, k3⟩
theorem VTs.one {σ : S} {vs : Array Value} {a : T} (h : VTs σ vs.toList [a]) : ∃ x, vs = #[x] ∧ VT σ x a := by
  obtain ⟨vs⟩ := vs
  obtain ⟨h1, h2⟩ := h
  match vs, h1 with
  | [x], _ =>
    obtain ⟨x', e1, k1⟩ := h2 0 a rfl
    cases e1
    exact ⟨x, rfl, k1⟩
def sub64E : Array Value → Sem Value := fun args => do
  let (x, y, b) ← Extern.MathBitsCarry.three "Sub64" args
  pure (Extern.MathBitsCarry.pair ((x + Extern.MathBitsCarry.m64 - y - b) % Extern.MathBitsCarry.m64) (if x < y + b then 1 else 0))
theorem run_sub64E {P : Program} (x y b : Nat) (hb : b ≤ 1) (w : World) :
    (sub64E #[.int .u64 x, .int .u64 y, .int .u64 b]).run P w =
      .ok (.tuple #[.int .u64 (((x + 18446744073709551616 - y - b) % 18446744073709551616 : Nat) : Int), .int .u64 ((if x < y + b then 1 else 0 : Nat) : Int)]) w := by
  have : b = 0 ∨ b = 1 := by omega
  rcases this with rfl | rfl <;> rfl
theorem sub64_run (x y b : Nat) (hb : b ≤ 1) (w : World) : (callFunc 179 #[.int .u64 x, .int .u64 y, .int .u64 b]).run Tryz.prog w =
    .ok (.value (.tuple #[.int .u64 (((x + 18446744073709551616 - y - b) % 18446744073709551616 : Nat) : Int), .int .u64 ((if x < y + b then 1 else 0 : Nat) : Int)])) w := by
  rw [run_callFunc_extern Tryz.func179 (by kernel_rfl) (by kernel_rfl) (by kernel_rfl) (e := sub64E) (by kernel_rfl), run_sub64E x y b hb]
  rfl
theorem add64_run (x y c : Int) (hx : 0 ≤ x) (hy : 0 ≤ y) (hc0 : 0 ≤ c) (hc : c ≤ 1) (w : World) : (callFunc 116 #[.int .u64 x, .int .u64 y, .int .u64 c]).run Tryz.prog w =
    .ok (.value (.tuple #[.int .u64 ((x + y + c) % 18446744073709551616), .int .u64 ((x + y + c) / 18446744073709551616)])) w := by
  rw [run_callFunc_extern Tryz.func116 (by kernel_rfl) (by kernel_rfl) (by kernel_rfl) (e := add64Entry) (by kernel_rfl), run_add64 x y c hx hy hc0 hc]
  rfl
abbrev TU : T := .int .u64 0 18446744073709551615
abbrev TC : T := .int .u64 0 1
theorem add64_sig : SigOk Tryz.prog gtL 116 [TU, TU, TC] (.t2 TU TC) := by
  intro σ w vs hw hv
  obtain ⟨x, y, z, rfl, ⟨a, rfl, a1, a2⟩, ⟨b, rfl, b1, b2⟩, ⟨d, rfl, d1, d2⟩⟩ := hv.three
  exact .inl ⟨_, w, add64_run a b d a1 b1 d1 d2 w, .stay hw ⟨_, _, rfl, ⟨_, rfl, by omega, by omega⟩, ⟨_, rfl, by omega, by omega⟩⟩⟩
theorem sub64_sig : SigOk Tryz.prog gtL 179 [TU, TU, TC] (.t2 TU TC) := by
  intro σ w vs hw hv
  obtain ⟨x, y, z, rfl, ⟨a, rfl, a1, a2⟩, ⟨b, rfl, b1, b2⟩, ⟨d, rfl, d1, d2⟩⟩ := hv.three
  obtain ⟨a, rfl⟩ := Int.eq_ofNat_of_zero_le a1
  obtain ⟨b, rfl⟩ := Int.eq_ofNat_of_zero_le b1
  obtain ⟨d, rfl⟩ := Int.eq_ofNat_of_zero_le d1
  refine .inl ⟨_, w, sub64_run a b d (by omega) w, .stay hw ⟨_, _, rfl, ⟨_, rfl, by omega, by omega⟩, ⟨_, rfl, by omega, ?_⟩⟩⟩
  split <;> decide
def sg0 : List (Nat × List T × T) := [(116, [TU, TU, TC], .t2 TU TC), (179, [TU, TU, TC], .t2 TU TC)]
theorem sg0_ok : ∀ x ∈ sg0, SigOk Tryz.prog gtL x.1 x.2.1 x.2.2 := by
  intro x hx
  simp only [sg0, List.mem_cons, List.not_mem_nil, or_false] at hx
  rcases hx with rfl | rfl
  · exact add64_sig
  · exact sub64_sig
theorem more_ok {sg : List (Nat × List T × T)} (h : ∀ x ∈ sg, SigOk Tryz.prog gtL x.1 x.2.1 x.2.2) {f : Nat} {τs : List T} {τ : T} (hf : SigOk Tryz.prog gtL f τs τ) : ∀ x ∈ (f, τs, τ) :: sg, SigOk Tryz.prog gtL x.1 x.2.1 x.2.2 := by
  intro x hx
  rcases List.mem_cons.1 hx with rfl | hx
  · exact hf
  · exact h x hx
def E4 : T := .agg w4
def P16 : T := .agg w16
theorem esub_sig : SigOk Tryz.prog gtL 242 [E4, E4] (.t2 E4 TC) := sig_ok (cx_ok sg0_ok) 300 Tryz.func242 (by kernel_rfl)
end Ab
end Go.Proofs.YtjkbpdobeljmjaaGreatDoor

/- Signatures: sums and products of words. Plain; no condition. -/
namespace Go.Proofs.YtjkbpdobeljmjaaGreatDoor
open Go.RowKit
namespace Ab
def A32 : T := .agg b32
abbrev TI64 : T := .int .i64 (-9223372036854775808) 9223372036854775807
def s_esub : List (Nat × List T × T) := (242, [E4, E4], .t2 E4 TC) :: sg0
theorem s_esub_ok : ∀ x ∈ s_esub, SigOk Tryz.prog gtL x.1 x.2.1 x.2.2 := more_ok sg0_ok esub_sig
theorem eadd_sig : SigOk Tryz.prog gtL 241 [E4, E4] (.t2 E4 TC) := sig_ok (cx_ok s_esub_ok) 300 Tryz.func241 (by kernel_rfl)
def s_eadd : List (Nat × List T × T) := (241, [E4, E4], .t2 E4 TC) :: s_esub
theorem s_eadd_ok : ∀ x ∈ s_eadd, SigOk Tryz.prog gtL x.1 x.2.1 x.2.2 := more_ok s_esub_ok eadd_sig
theorem emore_sig : SigOk Tryz.prog gtL 178 [E4, TU] (E4) := sig_ok (cx_ok s_eadd_ok) 300 Tryz.func178 (by kernel_rfl)
def s_emore : List (Nat × List T × T) := (178, [E4, TU], E4) :: s_eadd
theorem s_emore_ok : ∀ x ∈ s_emore, SigOk Tryz.prog gtL x.1 x.2.1 x.2.2 := more_ok s_eadd_ok emore_sig
theorem mul64_sig : SigOk Tryz.prog gtL 119 [TU, TU] (.t2 TU TU) := sig_ok (cx_ok s_emore_ok) 300 Tryz.func119 (by kernel_rfl)
def s_mul64 : List (Nat × List T × T) := (119, [TU, TU], .t2 TU TU) :: s_emore
theorem s_mul64_ok : ∀ x ∈ s_mul64, SigOk Tryz.prog gtL x.1 x.2.1 x.2.2 := more_ok s_emore_ok mul64_sig
theorem prod_sig : SigOk Tryz.prog gtL 177 [E4, E4] (.agg w8) := sig_ok (cx_ok s_mul64_ok) 300 Tryz.func177 (by kernel_rfl)
def s_prod : List (Nat × List T × T) := (177, [E4, E4], .agg w8) :: s_mul64
theorem s_prod_ok : ∀ x ∈ s_prod, SigOk Tryz.prog gtL x.1 x.2.1 x.2.2 := more_ok s_mul64_ok prod_sig
end Ab
end Go.Proofs.YtjkbpdobeljmjaaGreatDoor

/- Numbers in words of 64 bits (plain). -/
namespace Go.Proofs.YtjkbpdobeljmjaaGreatDoor
namespace Fld
def words (n : Nat) : Nat → List Nat
  | 0 => []
  | k + 1 => n % 18446744073709551616 :: words (n / 18446744073709551616) k
theorem words_length (k : Nat) : ∀ n, (words n k).length = k := by
  induction k with
  | zero => intro n; rfl
  | succ k ih => intro n; simp [words, ih]
theorem words_lt (k : Nat) : ∀ n, ∀ x ∈ words n k, x < 18446744073709551616 := by
  induction k with
  | zero => intro n x hx; simp [words] at hx
  | succ k ih =>
    intro n x hx
    simp only [words, List.mem_cons] at hx
    rcases hx with rfl | hx
    · exact Nat.mod_lt _ (by decide)
    · exact ih _ x hx
def val : List Nat → Nat
  | [] => 0
  | x :: l => x + 18446744073709551616 * val l
theorem words_val : ∀ l : List Nat, (∀ x ∈ l, x < 18446744073709551616) → words (val l) l.length = l
  | [], _ => rfl
  | x :: l, h => by
    have hx := h x (List.mem_cons_self ..)
    have ih := words_val l (fun y hy => h y (List.mem_cons_of_mem _ hy))
    have h1 : (x + 18446744073709551616 * val l) % 18446744073709551616 = x := by omega
    have h2 : (x + 18446744073709551616 * val l) / 18446744073709551616 = val l := by omega
    simp only [List.length_cons, words, val, h1, h2, ih]
theorem val_lt : ∀ l : List Nat, (∀ x ∈ l, x < 18446744073709551616) → val l < 18446744073709551616 ^ l.length
  | [], _ => by simp [val]
  | x :: l, h => by
    have hx := h x (List.mem_cons_self ..)
    have ih := val_lt l (fun y hy => h y (List.mem_cons_of_mem _ hy))
    rw [List.length_cons, Nat.pow_succ]
    unfold val
    generalize 18446744073709551616 ^ l.length = Q at ih ⊢
    omega
theorem val_words (k : Nat) : ∀ n, n < 18446744073709551616 ^ k → val (words n k) = n := by
  induction k with
  | zero => intro n hn; simp at hn; subst hn; rfl
  | succ k ih =>
    intro n hn
    rw [Nat.pow_succ] at hn
    simp only [words, val]
    rw [ih (n / 18446744073709551616) (by
      generalize 18446744073709551616 ^ k = Q at hn ⊢
      omega)]
    omega
def subC : List Nat → List Nat → Nat → List Nat × Nat
  | x :: a, y :: b, u => let r := subC a b (if x < y + u then 1 else 0); ((x + 18446744073709551616 - y - u) % 18446744073709551616 :: r.1, r.2)
  | _, _, u => ([], u)
theorem subC_words (k : Nat) : ∀ m n u, m < 18446744073709551616 ^ k → n < 18446744073709551616 ^ k → u ≤ 1 → subC (words m k) (words n k) u = (words (m + 18446744073709551616 ^ k - n - u) k, if m < n + u then 1 else 0) := by
  induction k with
  | zero =>
    intro m n u hm hn hu
    simp at hm hn
    subst hm hn
    simp only [words, subC]
    have : u = 0 ∨ u = 1 := by omega
    rcases this with rfl | rfl <;> rfl
  | succ k ih =>
    intro m n u hm hn hu
    rw [Nat.pow_succ] at hm hn ⊢
    have hQ : 18446744073709551616 ^ k > 0 := Nat.pow_pos (by decide)
    have h1 : m / 18446744073709551616 < 18446744073709551616 ^ k := by generalize 18446744073709551616 ^ k = Q at hm hn ⊢; omega
    have h2 : n / 18446744073709551616 < 18446744073709551616 ^ k := by generalize 18446744073709551616 ^ k = Q at hm hn ⊢; omega
    simp only [words, subC]
    by_cases hc : m % 18446744073709551616 < n % 18446744073709551616 + u
    · rw [if_pos hc, ih _ _ 1 h1 h2 (by decide)]
      generalize 18446744073709551616 ^ k = Q at hm hn hQ h1 h2 ⊢
      have e1 : (m % 18446744073709551616 + 18446744073709551616 - n % 18446744073709551616 - u) % 18446744073709551616 = (m + Q * 18446744073709551616 - n - u) % 18446744073709551616 := by omega
      have e2 : (m + Q * 18446744073709551616 - n - u) / 18446744073709551616 = m / 18446744073709551616 + Q - n / 18446744073709551616 - 1 := by omega
      have e3 : (if m / 18446744073709551616 < n / 18446744073709551616 + 1 then 1 else 0) = (if m < n + u then 1 else 0) := by
        by_cases h : m < n + u
        · rw [if_pos h, if_pos (by omega)]
        · rw [if_neg h, if_neg (by omega)]
      simp only [e1, e2, e3]
    · rw [if_neg hc, ih _ _ 0 h1 h2 (by decide)]
      generalize 18446744073709551616 ^ k = Q at hm hn hQ h1 h2 ⊢
      have e1 : (m % 18446744073709551616 + 18446744073709551616 - n % 18446744073709551616 - u) % 18446744073709551616 = (m + Q * 18446744073709551616 - n - u) % 18446744073709551616 := by omega
      have e2 : (m + Q * 18446744073709551616 - n - u) / 18446744073709551616 = m / 18446744073709551616 + Q - n / 18446744073709551616 - 0 := by omega
      have e3 : (if m / 18446744073709551616 < n / 18446744073709551616 + 0 then 1 else 0) = (if m < n + u then 1 else 0) := by
        by_cases h : m < n + u
        · rw [if_pos h, if_pos (by omega)]
        · rw [if_neg h, if_neg (by omega)]
      simp only [e1, e2, e3]
def P : Nat := 57896044618658097711785492504343953926634992332820282019728792003956564819949
end Fld
end Go.Proofs.YtjkbpdobeljmjaaGreatDoor

