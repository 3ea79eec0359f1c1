/- The walk of hmac.Same, and of custumallaw03.HmacSames. -/
import Derived.Test.YtmcjjionfmdioaaDoorKeys
import Derived.Test.YtmcjjionfmdioaaDoorPure
import Derived.Test.YtmcjjionfmdioaaDoorPlanB
namespace Go.Proofs.YtmcjjionfmdioaaDoor
open Go.RowKit Bits Mem Sha
namespace Ref
@[go_sem] theorem u8_or (a b : UInt8) : bits .or .u8 (a.toNat : Int) (b.toNat : Int) = ((a.toNat ||| b.toNat : Nat) : Int) := by
  have h1 := a.toNat_lt
  have h2 := b.toNat_lt
  show IntKind.u8.wrap ((BitVec.ofInt 8 (a.toNat : Int) ||| BitVec.ofInt 8 (b.toNat : Int)).toNat : Int) = _
  have e : (BitVec.ofInt 8 (a.toNat : Int) ||| BitVec.ofInt 8 (b.toNat : Int)).toNat = a.toNat ||| b.toNat := by
    rw [BitVec.toNat_or, BitVec.ofInt_natCast, BitVec.ofInt_natCast, BitVec.toNat_ofNat, BitVec.toNat_ofNat, Nat.mod_eq_of_lt (by omega), Nat.mod_eq_of_lt (by omega)]
  have h3 : a.toNat ||| b.toNat < 2 ^ 8 := Nat.or_lt_two_pow (by omega) (by omega)
  rw [e, IntKind.wrap_u8']
  omega
/-- What the loop has gathered after k bytes. -/
def dif (a b : List UInt8) : Nat → UInt8
  | 0 => 0
  | k + 1 => dif a b k ||| (bt a k ^^^ bt b k)
theorem u8_or_zero (x y : UInt8) : x ||| y = 0 ↔ x = 0 ∧ y = 0 := by
  constructor
  · intro h
    have h2 : x.toBitVec ||| y.toBitVec = 0#8 := by
      have := congrArg UInt8.toBitVec h
      simpa using this
    have h3 : x.toBitVec = 0#8 ∧ y.toBitVec = 0#8 := BitVec.or_eq_zero_iff.1 h2
    exact ⟨UInt8.toBitVec_inj.1 h3.1, UInt8.toBitVec_inj.1 h3.2⟩
  · rintro ⟨rfl, rfl⟩; rfl
theorem u8_xor_zero (x y : UInt8) : x ^^^ y = 0 ↔ x = y := by
  constructor
  · intro h
    have := congrArg (· ^^^ y) h
    simpa [UInt8.xor_assoc] using this
  · rintro rfl; simp
theorem dif_zero (a b : List UInt8) (k : Nat) : dif a b k = 0 ↔ ∀ i < k, bt a i = bt b i := by
  induction k with
  | zero => simp [dif]
  | succ k ih =>
    rw [dif, u8_or_zero, ih, u8_xor_zero]
    constructor
    · rintro ⟨h1, h2⟩ i hi
      by_cases h : i = k
      · rw [h]; exact h2
      · exact h1 i (by omega)
    · intro h
      exact ⟨fun i hi => h i (by omega), h k (by omega)⟩
theorem dif_same (a b : List UInt8) (h : a.length = b.length) : dif a b a.length = 0 ↔ a = b := by
  rw [dif_zero]
  constructor
  · intro hh
    refine List.ext_getElem h fun i h1 h2 => ?_
    have := hh i h1
    simpa [bt, List.getD, h1, h2] using this
  · rintro rfl i _; rfl
set_option maxRecDepth 100000 in
set_option maxHeartbeats 4000000 in
theorem same_any (qa qb : Option Addr) (na nb ca cb : Nat) (a b : List UInt8) (w : World) (hna : a.length = na) (hnb : b.length = nb) (ha : Rd w 1 (.slice qa na ca) na (bys a)) (hb : Rd w 1 (.slice qb nb cb) nb (bys b)) (h1 : na ≤ 1000000) :
    Calls Tryd.prog 46 #[.slice qa na ca, .slice qb nb cb] w fun e w' => e = .returned (.bool (decide (a = b))) ∧ Below w.heap.size w w' := by
  subst hna hnb
  have HA := Lib.hid ha
  have HBB := Lib.hid hb
  clear ha hb
  go_enter Tryd.func46, Tryd.ntmps46
  by_cases hl : a.length = b.length
  · have HE := Lib.hid hl
    go_wp2_with fail
    go_loopw [5, 15] (fun d i wr => ∃ k : Nat, k ≤ b.length ∧ i = .int .i64 k ∧ d = .int .u8 ((dif a b k).toNat : Int) ∧ Below w.heap.size w wr) (fun _ i _ => b.length - (intOf i).toNat)
    case atStart => exact ⟨0, Nat.zero_le _, rfl, rfl, Below.refl _ _⟩
    case round =>
      obtain ⟨k, hk, rfl, rfl, hb⟩ := hrel
      by_cases hlt : k < b.length
      · obtain ⟨ga, oa, rfl, _, _, _, hca⟩ := Rd_lt (HA.out.below hb) (by omega)
        obtain ⟨gb, ob, rfl, _, _, _, hcb⟩ := Rd_lt (HBB.out.below hb) (by omega)
        have c1 := hca k _ (bys_get a k (by omega))
        have c2 := hcb k _ (bys_get b k (by omega))
        have hsuc : dif a b (k + 1) = dif a b k ||| (bt a k ^^^ bt b k) := rfl
        have HX : Hid (a.getD k 0 = bt a k ∧ b.getD k 0 = bt b k) := Lib.hid ⟨rfl, rfl⟩
        rw [HX.out.1] at c1
        rw [HX.out.2] at c2
        obtain ⟨x, hx⟩ : ∃ x, x = bt a k := ⟨_, rfl⟩
        obtain ⟨y, hy⟩ : ∃ y, y = bt b k := ⟨_, rfl⟩
        obtain ⟨d, hd⟩ : ∃ d, d = dif a b k := ⟨_, rfl⟩
        rw [← hx, ← hy, ← hd] at hsuc
        rw [← hx] at c1
        rw [← hy] at c2
        rw [← hd]
        have HSUC := Lib.hid hsuc
        have q1 : (k : Int) < b.length := by omega
        clear hca hcb hx hy hd hsuc HX
        go_wp2
        refine ⟨⟨k + 1, by omega, rfl, ?_, hb⟩, by simp [intOf]; omega⟩
        rw [← UInt8.toNat_xor, u8_or, ← UInt8.toNat_or, HSUC.out]
      · obtain rfl : k = b.length := by omega
        have hz : dif a b b.length = 0 ↔ a = b := by rw [← HE.out]; exact dif_same a b HE.out
        go_wp2
        go_ret
        refine ⟨?_, hb⟩
        show Ending.returned (Value.bool (((dif a b b.length).toNat : Int) == 0)) = _
        by_cases h : a = b
        · rw [decide_eq_true h, hz.2 h]; rfl
        · rw [decide_eq_false h]
          have : dif a b b.length ≠ 0 := fun e => h (hz.1 e)
          have h0 : (dif a b b.length).toNat ≠ 0 := fun e => this (UInt8.toNat_inj.1 e)
          have h2 : (((dif a b b.length).toNat : Int) == 0) = false := by simpa using h0
          rw [h2]
  · have hne : ¬ ((a.length : Int) = (b.length : Int)) := by omega
    have hne2 : a ≠ b := fun h => hl (by rw [h])
    have HNE := Lib.hid hne2
    clear hne2
    go_wp2_with fail
    go_ret
    exact ⟨by rw [decide_eq_false HNE.out]; rfl, Below.refl _ _⟩
theorem same_beq (qa qb : Option Addr) (na nb ca cb : Nat) (a b : List UInt8) (w : World) (hna : a.length = na) (hnb : b.length = nb) (ha : Rd w 1 (.slice qa na ca) na (bys a)) (hb : Rd w 1 (.slice qb nb cb) nb (bys b)) (h1 : na ≤ 1000000) :
    Calls Tryd.prog 46 #[.slice qa na ca, .slice qb nb cb] w fun e w' => e = .returned (.bool (a == b)) ∧ Below w.heap.size w w' :=
  (same_any qa qb na nb ca cb a b w hna hnb ha hb h1).mono fun e w' ⟨h, hb⟩ => ⟨by rw [h]; by_cases he : a = b <;> simp [he], hb⟩
theorem ne_snoc (l : List UInt8) (y : UInt8) : (l == l ++ [y]) = false := by
  rw [beq_eq_false_iff_ne]
  intro h
  have := congrArg List.length h
  simp at this
theorem Ow_set {w : World} {base g n cap j : Nat} {e : TypeId} {l : List UInt8} (h : Ow w base e 1 (.slice (some ⟨g, 0, none⟩) n cap) n (bys l)) (hj : j < n) (x : UInt8) :
    w.cell? ⟨g, j, none⟩ = some (.int .u8 ((bt l j).toNat : Int)) ∧ w.frozen? ⟨g, j, none⟩ = false ∧ base ≤ g ∧
      Ow (w.setCell ⟨g, j, none⟩ (.int .u8 (x.toNat : Int))) base e 1 (.slice (some ⟨g, 0, none⟩) n cap) n (bys (l.set j x)) := by
  obtain ⟨h1, h2⟩ := h
  rw [bys_length, Nat.mul_one] at h1
  rcases h2 with ⟨hv, _⟩ | ⟨g', cap', cur, fz, hv, hb, hg, hf, hnc, hcm, hcs, ht⟩
  · cases hv
  · cases hv
    rw [Nat.mul_one] at hcs ht
    have hc : cur[j]? = some (.int .u8 ((bt l j).toNat : Int)) := by
      have := bys_get l j (by omega)
      rw [← ht, List.getElem?_take, if_pos hj] at this
      simpa [bt] using this
    refine ⟨by rw [cell_of_row w _ j _ _ _ hg]; exact hc, ?_, hb, by rw [bys_length, List.length_set]; omega, .inr ⟨g, cap, cur.setIfInBounds j (.int .u8 (x.toNat : Int)), fz, rfl, hb, ?_, ?_, hnc, hcm, by simpa using hcs, ?_⟩⟩
    · have := hf j (by omega)
      simp only [World.frozen?, hg]
      simpa using this
    · rw [setCell_eq_setRow w g j cur e fz _ hg]
      exact setRow_heap w g cur _ e fz hg
    · intro i hi
      rw [Array.size_setIfInBounds] at hi
      exact hf i hi
    · rw [Nat.mul_one, Array.toList_setIfInBounds, List.take_set, ht]
      simp [bys, List.map_set]
/-- A guarded operation that runs is as one without a guard. -/
theorem unguard {P : Program} {ops : Array Oper} {rest : List Oper} {o : Oper} {a : Act} {w : World} {Q : Exit → Act → World → Prop} (hw : Region.wanted o (yielded ops a.tmps) = true)
    (h : wpList P ops Q ({ o with guard := none } :: rest) a w) : wpList P ops Q (o :: rest) a w := by
  cases o
  unfold wpList at h ⊢
  rw [if_pos hw]
  split at h
  · exact h
  · rename_i hn; exact absurd rfl hn
theorem Ow_pos {w : World} {base n : Nat} {e : TypeId} {v : Value} {xs : List Value} (h : Ow w base e 1 v n xs) (h0 : 0 < n) : ∃ g c, v = .slice (some ⟨g, 0, none⟩) n c := by
  rcases h.2 with ⟨_, hn⟩ | ⟨g, cap, cur, fz, hv, _⟩
  · omega
  · exact ⟨g, cap, hv⟩
theorem modlen (n : Int) (m : Nat) (hm : 0 < m) (hb : m < 9223372036854775808) : ∃ j : Nat, j < m ∧ wrap64 ((IntKind.u64.wrap n).tmod (m : Int)) = (j : Int) := by
  have h1 : 0 ≤ IntKind.u64.wrap n := by rw [IntKind.wrap_u64]; omega
  have h2 : (IntKind.u64.wrap n).tmod (m : Int) = IntKind.u64.wrap n % (m : Int) := Int.tmod_eq_emod_of_nonneg h1
  have h3 : 0 ≤ IntKind.u64.wrap n % (m : Int) := Int.emod_nonneg _ (by omega)
  have h4 : IntKind.u64.wrap n % (m : Int) < (m : Int) := Int.emod_lt_of_pos _ (by omega)
  refine ⟨(IntKind.u64.wrap n % (m : Int)).toNat, by omega, ?_⟩
  rw [h2, IntWalk.wrap64_in _ (by omega)]
  omega
set_option maxRecDepth 100000 in
set_option maxHeartbeats 4000000 in
theorem hmacSames_any (qa qb : Option Addr) (ca cb : Nat) (a b : List UInt8) (at_ : Int) (w : World) (hS : Sha.Tabs w) (ha : Rd w 1 (.slice qa a.length ca) a.length (bys a)) (hb : Rd w 1 (.slice qb b.length cb) b.length (bys b)) (hn0 : -9223372036854775808 ≤ at_) (hn1 : at_ ≤ 9223372036854775807) :
    Calls Tryd.prog 14 #[.slice qa a.length ca, .slice qb b.length cb, .int .i64 at_] w fun e w' => e = .returned (.bool true) ∧ Below w.heap.size w w' := by
  obtain ⟨i0, hi, hz0, hz1, hz2⟩ := parts3 info1
  have HS := Lib.hid hS
  have hcapA := Rd_cap ha
  have hcapB := Rd_cap hb
  have HBRD := Lib.hid (Rd_take hb (Nat.min_le_left b.length 300))
  have HARD := Lib.hid (Rd_take ha (Nat.min_le_left a.length 300))
  have hminA : (if (300 : Int) < (a.length : Int) then (300 : Int) else (a.length : Int)) = ((min a.length 300 : Nat) : Int) := by split <;> omega
  have hminB : (if (300 : Int) < (b.length : Int) then (300 : Int) else (b.length : Int)) = ((min b.length 300 : Nat) : Int) := by split <;> omega
  clear hS ha hb
  go_enter Tryd.func14, Tryd.ntmps14
  obtain ⟨y, hy⟩ : ∃ y, y = UInt8.ofNat (at_ % 256).toNat := ⟨_, rfl⟩
  have hyy : at_ % 256 = (y.toNat : Int) := by rw [hy, UInt8.toNat_ofNat']; omega
  clear hy
  go_wp2_with fail
  refine Rp.region 11 [(0, true), (1, true), (2, true), (3, true), (4, true), (5, true), (6, true), (7, true), (8, true), (9, true), (10, true)] (by kernel_rfl) (by kernel_rfl) ?_; simp only [Rp.pick, Rp.nth, List.drop_succ_cons, List.drop_zero]
  repeat (refine Rp.stepK rfl ?_; intro K hK; apply Exists.intro; refine ⟨?_, ?_⟩; (focus (intro x hx;  go_simp; (first | (fail) | ((try go_bits); (try go_simp); (try rfl))))); go_simp; refine hK _ ?_; clear hK K)
  refine Rp.s_cut rfl 28 _ _ rfl 5 i0 Tryd.underlying28 hi qa a.length ca (min a.length 300) rfl rfl (by omega) ?_
  intro K hK; go_simp; refine hK _ ?_; clear hK K
  repeat (refine Rp.stepK rfl ?_; intro K hK; apply Exists.intro; refine ⟨?_, ?_⟩; (focus (intro x hx;  go_simp; (first | (fail) | ((try go_bits); (try go_simp); (try rfl))))); go_simp; refine hK _ ?_; clear hK K)
  refine Rp.s_cut rfl 28 _ _ rfl 5 i0 Tryd.underlying28 hi qb b.length cb (min b.length 300) rfl rfl (by omega) ?_
  intro K hK; go_simp; refine hK _ ?_; clear hK K
  repeat (refine Rp.stepK rfl ?_; intro K hK; apply Exists.intro; refine ⟨?_, ?_⟩; (focus (intro x hx;  go_simp; (first | (fail) | ((try go_bits); (try go_simp); (try rfl))))); go_simp; refine hK _ ?_; clear hK K)
  refine Rp.done ?_
  obtain ⟨A, hXA⟩ : ∃ A, A = a.take (min a.length 300) := ⟨_, rfl⟩
  have hlA : min a.length 300 = A.length := by rw [hXA, List.length_take]; omega
  have hsA : A.length ≤ 300 := by omega
  rw [← hXA] at HARD
  rw [hlA] at HARD ⊢
  clear hXA hlA
  obtain ⟨B, hXB⟩ : ∃ B, B = b.take (min b.length 300) := ⟨_, rfl⟩
  have hlB : min b.length 300 = B.length := by rw [hXB, List.length_take]; omega
  have hsB : B.length ≤ 300 := by omega
  rw [← hXB] at HBRD
  rw [hlB] at HBRD ⊢
  clear hXB hlB hminA hminB hcapA hcapB
  obtain ⟨wd, hwd⟩ : ∃ wd, wd = w.drew := ⟨_, rfl⟩
  have hbd : Below w.heap.size w wd := by rw [hwd]; exact (Below.refl _ _).drew
  have hsd : wd.heap.size = w.heap.size := by rw [hwd]; rfl
  rw [← hwd]
  have HA := Lib.hid (HARD.out.below hbd)
  have HB := Lib.hid (HBRD.out.below hbd)
  have HBD := Lib.hid hbd
  have HSD := Lib.hid hsd
  clear hwd hbd hsd HARD HBRD
  go_wp2_with fail
  refine NoPanic.normal ?_
  have hx1 : Below wd.heap.size wd (wd.alloc (.cells #[] 5)) := (Below.refl _ _).alloc (Nat.le_refl _) _
  have ho1 : Ow (wd.alloc (.cells #[] 5)) wd.heap.size 5 1 (.slice (some ⟨wd.heap.size, 0, none⟩) 0 0) 0 [] := Ow.lit wd #[] 5 1 0 wd.heap.size (Nat.le_refl _) (Nat.zero_le _) rfl
  have hrd1 := HA.out.below hx1
  have HO1 := Lib.hid ho1
  have HX1 := Lib.hid hx1
  have HRD1 := Lib.hid hrd1
  clear hx1 ho1 hrd1
  by_cases hk : 0 < A.length
  · have hk0 : (0 : Int) < A.length := by omega
    obtain ⟨j, hj, ej⟩ := modlen at_ A.length hk (by omega)
    have hlj : (j : Int) < A.length := by omega
    obtain ⟨x, hx⟩ : ∃ x, x = bt A j := ⟨_, rfl⟩
    have HXE := Lib.hid hx
    clear hx
    go_wp2_with (at_builtin; go_must (refine app_empty rfl _ _ 28 28 rfl wd.heap.size 5 i0 (.int .u8 0) 1 1 Tryd.underlying28 hi hz0 hz1 hz2 rfl _ rfl HO1.out _ _ _ rfl (Rd.src Tryd.underlying28 HRD1.out (bys_one _)) (by unfold maxLen; omega) (by omega) (by simp) ?_); go_must (intro w1v w1 how1 hb1); go_must (obtain ⟨g, c1, rfl⟩ := Ow_pos how1 hk); go_must (obtain ⟨c0, f0, hge, ho2⟩ := Ow_set how1 hj (x ^^^ y)); rw [← HXE.out] at c0; have HO2 := Lib.hid ho2; clear ho2 how1)
    have h01 : Below wd.heap.size wd w1 := HX1.out.trans (hb1.mono HX1.out.size)
    obtain ⟨ws, hws⟩ : ∃ ws, ws = w1.setCell ⟨g, j, none⟩ (.int .u8 ((x.toNat ^^^ y.toNat : Nat) : Int)) := ⟨_, rfl⟩
    have hbs : Below wd.heap.size wd ws := by rw [hws]; exact h01.setCell hge _
    have HO := HO2.out
    rw [UInt8.toNat_xor, ← hws] at HO
    rw [← hws]
    have HC := Lib.hid (Rd.of_ow HO)
    have hCl : (A.set j (x ^^^ y)).length = A.length := List.length_set
    obtain ⟨C, hC⟩ : ∃ C, C = A.set j (x ^^^ y) := ⟨_, rfl⟩
    rw [← hC] at HC hCl
    obtain ⟨q1, hq1⟩ : ∃ q1 : Option Addr, q1 = some ⟨g, 0, none⟩ := ⟨_, rfl⟩
    rw [← hq1] at HC ⊢
    clear hC hq1 hws h01 c0 f0 hge HO2 HO HXE ej hlj hb1
    obtain ⟨v0, hv0⟩ : ∃ v0, v0 = ws.drew := ⟨_, rfl⟩
    have hbv : Below wd.heap.size wd v0 := by rw [hv0]; exact hbs.drew
    have hsv : ws.heap.size = v0.heap.size := by rw [hv0]; rfl
    have HCV : Hid (Rd v0 1 (.slice q1 A.length c1) A.length (bys C)) := Lib.hid (by rw [hv0]; exact HC.out.drewN 1)
    have HAV := Lib.hid (HA.out.below hbv)
    have HBV := Lib.hid (HB.out.below hbv)
    have HBVW := Lib.hid (HBD.out.trans (hbv.mono HBD.out.size))
    have hCA : C.length ≤ 300 := by omega
    refine Rb.plan (ws.heap.size) 34 (.f 0 (.s 1 (.s 2 (.s 3 (.s 5 (.s 6 (.s 7 (.s 8 (.s 9 (.f 4 (.s 10 (.s 11 (.s 12 (.s 13 (.s 14 (.s 16 (.s 17 (.s 18 (.s 19 (.s 20 (.f 15 (.s 21 (.s 22 (.s 23 (.s 24 (.s 26 (.s 28 (.b 25 (.b 27 (.f 29 (.f 30 (.f 31 (.s 32 (.s 33 (.done)))))) 29 (.f 27 (.f 30 (.f 31 (.s 32 (.s 33 (.done))))))) 29 (.f 25 (.f 27 (.f 30 (.f 31 (.s 32 (.s 33 (.done))))))))))))))))))))))))))))))))))) (by kernel_rfl) (by kernel_rfl) ?_; simp only [List.drop_succ_cons, List.drop_zero]
    rw [← hv0, hsv]
    clear hv0 hbv hsv HA HB HC hbs HO1 HX1 HRD1
    refine Rb.pF (by rfl) fun K hK => ?_
    go_wp2_with fail
    refine (marks_any _ (HS.out.below HBVW.out)).mono ?_
    rintro e v1 ⟨rfl, hb1⟩
    have HX1 := Lib.hid hb1
    go_wp2_with fail
    refine hK _ _ hb1 ?_; clear hK K hb1
    repeat (refine Rb.pK rfl rfl ?_; intro K hK; apply Exists.intro; refine ⟨?_, ?_⟩; (focus (intro x hx;  go_simp; (first | (fail) | ((try go_bits); (try go_simp); (try rfl))))); go_simp; refine hK _ ?_; clear hK K)
    refine Rb.p_str rfl rfl 28 9 _ rfl 5 Tryd.underlying9 Tryd.underlying28 Tryd.underlying5 _ _ (A) rfl (fun x hx => HAV.out.below (HX1.out.trans hx)) ?_; intro K hK; go_simp; refine hK _ ?_; clear hK K
    repeat (refine Rb.pK rfl rfl ?_; intro K hK; apply Exists.intro; refine ⟨?_, ?_⟩; (focus (intro x hx;  go_simp; (first | (fail) | ((try go_bits); (try go_simp); (try rfl))))); go_simp; refine hK _ ?_; clear hK K)
    refine Rb.p_str rfl rfl 28 9 _ rfl 5 Tryd.underlying9 Tryd.underlying28 Tryd.underlying5 _ _ (B) rfl (fun x hx => HBV.out.below (HX1.out.trans hx)) ?_; intro K hK; go_simp; refine hK _ ?_; clear hK K
    repeat (refine Rb.pK rfl rfl ?_; intro K hK; apply Exists.intro; refine ⟨?_, ?_⟩; (focus (intro x hx;  go_simp; (first | (fail) | ((try go_bits); (try go_simp); (try rfl))))); go_simp; refine hK _ ?_; clear hK K)
    refine Rb.pF (by rfl) fun K hK => ?_
    go_wp2_with fail
    refine (same_beq _ _ _ _ _ _ A B _ rfl rfl (HAV.out.below HX1.out) (HBV.out.below HX1.out) (by omega)).mono ?_
    rintro e v2 ⟨rfl, hb2⟩
    have HX2 := Lib.hid (HX1.out.trans (hb2.mono HX1.out.size))
    go_wp2_with fail
    refine hK _ _ (hb2.mono HX1.out.size) ?_; clear hK K hb2
    repeat (refine Rb.pK rfl rfl ?_; intro K hK; apply Exists.intro; refine ⟨?_, ?_⟩; (focus (intro x hx;  go_simp; (first | (fail) | ((try go_bits); (try go_simp); (try rfl))))); go_simp; refine hK _ ?_; clear hK K)
    refine Rb.p_str rfl rfl 28 9 _ rfl 5 Tryd.underlying9 Tryd.underlying28 Tryd.underlying5 _ _ (A) rfl (fun x hx => HAV.out.below (HX2.out.trans hx)) ?_; intro K hK; go_simp; refine hK _ ?_; clear hK K
    repeat (refine Rb.pK rfl rfl ?_; intro K hK; apply Exists.intro; refine ⟨?_, ?_⟩; (focus (intro x hx;  go_simp; (first | (fail) | ((try go_bits); (try go_simp); (try rfl))))); go_simp; refine hK _ ?_; clear hK K)
    refine Rb.p_str rfl rfl 28 9 _ rfl 5 Tryd.underlying9 Tryd.underlying28 Tryd.underlying5 _ _ (C) rfl (fun x hx => HCV.out.below (HX2.out.trans hx)) ?_; intro K hK; go_simp; refine hK _ ?_; clear hK K
    repeat (refine Rb.pK rfl rfl ?_; intro K hK; apply Exists.intro; refine ⟨?_, ?_⟩; (focus (intro x hx;  go_simp; (first | (fail) | ((try go_bits); (try go_simp); (try rfl))))); go_simp; refine hK _ ?_; clear hK K)
    refine Rb.pF (by rfl) fun K hK => ?_
    go_wp2_with fail
    refine (same_beq _ _ _ _ _ _ A C _ rfl hCl (HAV.out.below HX2.out) (HCV.out.below HX2.out) (by omega)).mono ?_
    rintro e v3 ⟨rfl, hb3⟩
    have HX3 := Lib.hid (HX2.out.trans (hb3.mono HX2.out.size))
    go_wp2_with fail
    refine hK _ _ (hb3.mono HX2.out.size) ?_; clear hK K hb3
    repeat (refine Rb.pK rfl rfl ?_; intro K hK; apply Exists.intro; refine ⟨?_, ?_⟩; (focus (intro x hx;  go_simp; (first | (fail) | ((try go_bits); (try go_simp); (try rfl))))); go_simp; refine hK _ ?_; clear hK K)
    clear HCV HBV HX1 HX2
    refine Rb.pB ?_ ?_
    · refine Rb.pOne (by rfl) fun K hK => ?_
      go_wp2_with fail
      refine hK _ _ ((Below.refl _ _).alloc HX3.out.size _) ?_; clear hK K
      obtain ⟨ua, hua⟩ : ∃ ua, ua = v3.alloc (.cells #[] 5) := ⟨_, rfl⟩
      have HXA : Hid (Below v0.heap.size v0 ua) := Lib.hid (by rw [hua]; exact HX3.out.alloc HX3.out.size _)
      have HE : Hid (Ow ua v0.heap.size 5 1 (.slice (some ⟨v3.heap.size, 0, none⟩) 0 0) 0 []) := Lib.hid (by rw [hua]; exact Ow.lit v3 #[] 5 1 0 v0.heap.size HX3.out.size (Nat.zero_le _) rfl)
      rw [← hua]
      clear hua
      refine Rb.pB ?_ ?_
      · refine Rb.pOne (by rfl) fun K hK => ?_
        refine unguard (by rfl) ?_
        refine app_empty rfl _ _ 28 28 rfl v0.heap.size 5 i0 (.int .u8 0) 1 1 Tryd.underlying28 hi hz0 hz1 hz2 rfl v3.heap.size rfl HE.out _ _ _ rfl (Rd.src Tryd.underlying28 (HAV.out.below HXA.out) (bys_one _)) (by unfold maxLen; omega) (by omega) HXA.out.size ?_
        intro v4 ub how4 hb4
        obtain ⟨q4, c4, rfl⟩ := Ow_form how4
        have hb4' : Below v0.heap.size ua ub := hb4.mono HXA.out.size
        have HX4 := Lib.hid (HXA.out.trans hb4')
        have HO4 := Lib.hid how4
        go_wp2_with fail
        refine hK _ _ hb4' ?_; clear hK K how4
        refine Rb.pF (by rfl) fun K hK => ?_
        go_wp2_with fail
        have HLIT : Hid (Rd (ub.alloc (.cells #[.int .u8 (y.toNat : Int)] 5)) 1 (.slice (some ⟨ub.heap.size, 0, none⟩) 1 1) 1 (bys [y])) := Lib.hid (Rd_lit ub #[.int .u8 (y.toNat : Int)] 5 1 1 rfl (by decide))
        have hyc : Below v0.heap.size ub (ub.alloc (.cells #[.int .u8 (y.toNat : Int)] 5)) := (Below.refl _ _).alloc HX4.out.size _
        refine hK _ _ hyc ?_; clear hK K
        have HOWN := Lib.hid (HO4.out.alloc (.cells #[.int .u8 (y.toNat : Int)] 5))
        have HXC := Lib.hid (HX4.out.trans hyc)
        obtain ⟨uc, huc⟩ : ∃ uc, uc = ub.alloc (.cells #[.int .u8 (y.toNat : Int)] 5) := ⟨_, rfl⟩
        rw [← huc] at HLIT HOWN HXC ⊢
        clear huc hyc HO4 HX4 HXA HE hb4 hb4'
        have hbb : v0.heap.size ≤ uc.heap.size := HXC.out.size
        refine Rb.pF (by rfl) fun K hK => ?_
        refine unguard (by rfl) ?_
        refine app_ow rfl _ _ 28 28 rfl v0.heap.size 5 i0 (.int .u8 0) 1 1 Tryd.underlying28 hi hz0 hz1 hz2 rfl _ _ _ rfl HOWN.out _ _ _ rfl (Rd.src Tryd.underlying28 HLIT.out (bys_one _)) (by unfold maxLen; omega) (by omega) hbb ?_
        intro v6 ud how6 hg6
        obtain ⟨q6, c6, rfl⟩ := Ow_form how6
        have hbl : Below v0.heap.size uc ud := (Below.refl _ _).grown hg6 hbb (fun k hk => (HOWN.out.lt k hk).1)
        have HXD := Lib.hid (HXC.out.trans hbl)
        have h6 := Rd.of_ow how6
        rw [← bys_append] at h6
        have HR6 := Lib.hid h6
        go_wp2_with fail
        refine hK _ _ hbl ?_; clear hK K hbl how6 hg6 h6
        refine Rb.pF (by rfl) fun K hK => ?_
        go_wp2_with fail
        refine (same_beq _ _ _ _ _ _ A (A ++ [y]) _ rfl (by simp) (HAV.out.below HXD.out) HR6.out (by omega)).mono ?_
        rintro e ue ⟨rfl, hbe⟩
        have HXE := Lib.hid (HXD.out.trans (hbe.mono HXD.out.size))
        rw [ne_snoc]
        go_wp2_with fail
        refine hK _ _ (hbe.mono HXD.out.size) ?_; clear hK K hbe
        repeat (refine Rb.pK rfl rfl ?_; intro K hK; apply Exists.intro; refine ⟨?_, ?_⟩; (focus (intro x hx;  go_simp; (first | (fail) | ((try go_bits); (try go_simp); (try rfl))))); go_simp; refine hK _ ?_; clear hK K)
        refine Rb.pDone ?_; go_wp2_with fail; refine NoPanic.normal ?_; go_wp2_with fail
        go_ret
        exact ⟨rfl, HBVW.out.trans (HXE.out.mono HBVW.out.size)⟩
      · refine Rb.pOne (by rfl) fun K hK => ?_
        go_wp2_with fail
        have HLIT0 : Hid (Rd (ua.alloc (.cells #[.int .u8 (y.toNat : Int)] 5)) 1 (.slice (some ⟨ua.heap.size, 0, none⟩) 1 1) 1 (bys [y])) := Lib.hid (Rd_lit ua #[.int .u8 (y.toNat : Int)] 5 1 1 rfl (by decide))
        have hyc : Below v0.heap.size ua (ua.alloc (.cells #[.int .u8 (y.toNat : Int)] 5)) := (Below.refl _ _).alloc HXA.out.size _
        refine hK _ _ hyc ?_; clear hK K
        have HE0 := Lib.hid (HE.out.alloc (.cells #[.int .u8 (y.toNat : Int)] 5))
        have HXA0 := Lib.hid (HXA.out.trans hyc)
        clear HE HXA hyc
        obtain ⟨ub, hub⟩ : ∃ ub, ub = ua.alloc (.cells #[.int .u8 (y.toNat : Int)] 5) := ⟨_, rfl⟩
        rw [← hub] at HLIT0 HE0 HXA0 ⊢
        have HE := HE0
        have HXA := HXA0
        clear hub HE0 HXA0
        refine Rb.pF (by rfl) fun K hK => ?_
        refine unguard (by rfl) ?_
        refine app_empty rfl _ _ 28 28 rfl v0.heap.size 5 i0 (.int .u8 0) 1 1 Tryd.underlying28 hi hz0 hz1 hz2 rfl v3.heap.size rfl HE.out _ _ _ rfl (Rd.src Tryd.underlying28 (HAV.out.below HXA.out) (bys_one _)) (by unfold maxLen; omega) (by omega) HXA.out.size ?_
        intro v4 uc how4 hb4
        obtain ⟨q4, c4, rfl⟩ := Ow_form how4
        have hb4' : Below v0.heap.size ub uc := hb4.mono HXA.out.size
        have HX4 := Lib.hid (HXA.out.trans hb4')
        have HO4 := Lib.hid how4
        go_wp2_with fail
        refine hK _ _ hb4' ?_; clear hK K how4
        have HOWN := HO4
        have HXC := HX4
        have HLIT := Lib.hid (HLIT0.out.below hb4)
        clear HO4 HX4 HXA HE hb4 hb4' HLIT0
        have hbb : v0.heap.size ≤ uc.heap.size := HXC.out.size
        refine Rb.pF (by rfl) fun K hK => ?_
        refine unguard (by rfl) ?_
        refine app_ow rfl _ _ 28 28 rfl v0.heap.size 5 i0 (.int .u8 0) 1 1 Tryd.underlying28 hi hz0 hz1 hz2 rfl _ _ _ rfl HOWN.out _ _ _ rfl (Rd.src Tryd.underlying28 HLIT.out (bys_one _)) (by unfold maxLen; omega) (by omega) hbb ?_
        intro v6 ud how6 hg6
        obtain ⟨q6, c6, rfl⟩ := Ow_form how6
        have hbl : Below v0.heap.size uc ud := (Below.refl _ _).grown hg6 hbb (fun k hk => (HOWN.out.lt k hk).1)
        have HXD := Lib.hid (HXC.out.trans hbl)
        have h6 := Rd.of_ow how6
        rw [← bys_append] at h6
        have HR6 := Lib.hid h6
        go_wp2_with fail
        refine hK _ _ hbl ?_; clear hK K hbl how6 hg6 h6
        refine Rb.pF (by rfl) fun K hK => ?_
        go_wp2_with fail
        refine (same_beq _ _ _ _ _ _ A (A ++ [y]) _ rfl (by simp) (HAV.out.below HXD.out) HR6.out (by omega)).mono ?_
        rintro e ue ⟨rfl, hbe⟩
        have HXE := Lib.hid (HXD.out.trans (hbe.mono HXD.out.size))
        rw [ne_snoc]
        go_wp2_with fail
        refine hK _ _ (hbe.mono HXD.out.size) ?_; clear hK K hbe
        repeat (refine Rb.pK rfl rfl ?_; intro K hK; apply Exists.intro; refine ⟨?_, ?_⟩; (focus (intro x hx;  go_simp; (first | (fail) | ((try go_bits); (try go_simp); (try rfl))))); go_simp; refine hK _ ?_; clear hK K)
        refine Rb.pDone ?_; go_wp2_with fail; refine NoPanic.normal ?_; go_wp2_with fail
        go_ret
        exact ⟨rfl, HBVW.out.trans (HXE.out.mono HBVW.out.size)⟩
    · refine Rb.pOne (by rfl) fun K hK => ?_
      go_wp2_with fail
      refine hK _ _ ((Below.refl _ _).alloc HX3.out.size _) ?_; clear hK K
      obtain ⟨ua, hua⟩ : ∃ ua, ua = v3.alloc (.cells #[.int .u8 (y.toNat : Int)] 5) := ⟨_, rfl⟩
      have HXA0 : Hid (Below v0.heap.size v0 ua) := Lib.hid (by rw [hua]; exact HX3.out.alloc HX3.out.size _)
      have HLIT0 : Hid (Rd ua 1 (.slice (some ⟨v3.heap.size, 0, none⟩) 1 1) 1 (bys [y])) := Lib.hid (by rw [hua]; exact Rd_lit v3 #[.int .u8 (y.toNat : Int)] 5 1 1 rfl (by decide))
      rw [← hua]
      clear hua
      refine Rb.pF (by rfl) fun K hK => ?_
      go_wp2_with fail
      have hyb : Below ua.heap.size ua (ua.alloc (.cells #[] 5)) := (Below.refl _ _).alloc (Nat.le_refl _) _
      refine hK _ _ (hyb.mono HXA0.out.size) ?_; clear hK K
      obtain ⟨ub, hub⟩ : ∃ ub, ub = ua.alloc (.cells #[] 5) := ⟨_, rfl⟩
      have HE : Hid (Ow ub v0.heap.size 5 1 (.slice (some ⟨ua.heap.size, 0, none⟩) 0 0) 0 []) := Lib.hid (by rw [hub]; exact Ow.lit ua #[] 5 1 0 v0.heap.size HXA0.out.size (Nat.zero_le _) rfl)
      rw [← hub] at hyb ⊢
      have HXA := Lib.hid (HXA0.out.trans (hyb.mono HXA0.out.size))
      have HLIT1 := Lib.hid (HLIT0.out.below hyb)
      clear hub hyb HLIT0 HXA0
      refine Rb.pF (by rfl) fun K hK => ?_
      refine unguard (by rfl) ?_
      refine app_empty rfl _ _ 28 28 rfl v0.heap.size 5 i0 (.int .u8 0) 1 1 Tryd.underlying28 hi hz0 hz1 hz2 rfl ua.heap.size rfl HE.out _ _ _ rfl (Rd.src Tryd.underlying28 (HAV.out.below HXA.out) (bys_one _)) (by unfold maxLen; omega) (by omega) HXA.out.size ?_
      intro v4 uc how4 hb4
      obtain ⟨q4, c4, rfl⟩ := Ow_form how4
      have hb4' : Below v0.heap.size ub uc := hb4.mono HXA.out.size
      have HX4 := Lib.hid (HXA.out.trans hb4')
      have HO4 := Lib.hid how4
      go_wp2_with fail
      refine hK _ _ hb4' ?_; clear hK K how4
      have HOWN := HO4
      have HXC := HX4
      have HLIT := Lib.hid (HLIT1.out.below hb4)
      clear HO4 HX4 HXA HE hb4 hb4' HLIT1
      have hbb : v0.heap.size ≤ uc.heap.size := HXC.out.size
      refine Rb.pF (by rfl) fun K hK => ?_
      refine unguard (by rfl) ?_
      refine app_ow rfl _ _ 28 28 rfl v0.heap.size 5 i0 (.int .u8 0) 1 1 Tryd.underlying28 hi hz0 hz1 hz2 rfl _ _ _ rfl HOWN.out _ _ _ rfl (Rd.src Tryd.underlying28 HLIT.out (bys_one _)) (by unfold maxLen; omega) (by omega) hbb ?_
      intro v6 ud how6 hg6
      obtain ⟨q6, c6, rfl⟩ := Ow_form how6
      have hbl : Below v0.heap.size uc ud := (Below.refl _ _).grown hg6 hbb (fun k hk => (HOWN.out.lt k hk).1)
      have HXD := Lib.hid (HXC.out.trans hbl)
      have h6 := Rd.of_ow how6
      rw [← bys_append] at h6
      have HR6 := Lib.hid h6
      go_wp2_with fail
      refine hK _ _ hbl ?_; clear hK K hbl how6 hg6 h6
      refine Rb.pF (by rfl) fun K hK => ?_
      go_wp2_with fail
      refine (same_beq _ _ _ _ _ _ A (A ++ [y]) _ rfl (by simp) (HAV.out.below HXD.out) HR6.out (by omega)).mono ?_
      rintro e ue ⟨rfl, hbe⟩
      have HXE := Lib.hid (HXD.out.trans (hbe.mono HXD.out.size))
      rw [ne_snoc]
      go_wp2_with fail
      refine hK _ _ (hbe.mono HXD.out.size) ?_; clear hK K hbe
      repeat (refine Rb.pK rfl rfl ?_; intro K hK; apply Exists.intro; refine ⟨?_, ?_⟩; (focus (intro x hx;  go_simp; (first | (fail) | ((try go_bits); (try go_simp); (try rfl))))); go_simp; refine hK _ ?_; clear hK K)
      refine Rb.pDone ?_; go_wp2_with fail; refine NoPanic.normal ?_; go_wp2_with fail
      go_ret
      exact ⟨rfl, HBVW.out.trans (HXE.out.mono HBVW.out.size)⟩
  · have hk0 : ¬ (0 : Int) < A.length := by omega
    go_wp2_with (at_builtin; go_must (refine app_empty rfl _ _ 28 28 rfl wd.heap.size 5 i0 (.int .u8 0) 1 1 Tryd.underlying28 hi hz0 hz1 hz2 rfl _ rfl HO1.out _ _ _ rfl (Rd.src Tryd.underlying28 HRD1.out (bys_one _)) (by unfold maxLen; omega) (by omega) (by simp) ?_); go_must (intro w1v w1 how1 hb1); go_must (obtain ⟨q1, c1, rfl⟩ := Ow_form how1))
    have hbs : Below wd.heap.size wd w1 := HX1.out.trans (hb1.mono HX1.out.size)
    obtain ⟨ws, hws⟩ : ∃ ws, ws = w1 := ⟨_, rfl⟩
    rw [← hws] at hbs how1 ⊢
    have HC := Lib.hid (Rd.of_ow how1)
    obtain ⟨C, hC⟩ : ∃ C, C = A := ⟨_, rfl⟩
    have hCl : C.length = A.length := by rw [hC]
    rw [← hC] at HC
    rw [hCl] at HC
    clear hC hws hb1 how1
    obtain ⟨v0, hv0⟩ : ∃ v0, v0 = ws.drew := ⟨_, rfl⟩
    have hbv : Below wd.heap.size wd v0 := by rw [hv0]; exact hbs.drew
    have hsv : ws.heap.size = v0.heap.size := by rw [hv0]; rfl
    have HCV : Hid (Rd v0 1 (.slice q1 A.length c1) A.length (bys C)) := Lib.hid (by rw [hv0]; exact HC.out.drewN 1)
    have HAV := Lib.hid (HA.out.below hbv)
    have HBV := Lib.hid (HB.out.below hbv)
    have HBVW := Lib.hid (HBD.out.trans (hbv.mono HBD.out.size))
    have hCA : C.length ≤ 300 := by omega
    refine Rb.plan (ws.heap.size) 34 (.f 0 (.s 1 (.s 2 (.s 3 (.s 5 (.s 6 (.s 7 (.s 8 (.s 9 (.f 4 (.s 10 (.s 11 (.s 12 (.s 13 (.s 14 (.s 16 (.s 17 (.s 18 (.s 19 (.s 20 (.f 15 (.s 21 (.s 22 (.s 23 (.s 24 (.s 26 (.s 28 (.b 25 (.b 27 (.f 29 (.f 30 (.f 31 (.s 32 (.s 33 (.done)))))) 29 (.f 27 (.f 30 (.f 31 (.s 32 (.s 33 (.done))))))) 29 (.f 25 (.f 27 (.f 30 (.f 31 (.s 32 (.s 33 (.done))))))))))))))))))))))))))))))))))) (by kernel_rfl) (by kernel_rfl) ?_; simp only [List.drop_succ_cons, List.drop_zero]
    rw [← hv0, hsv]
    clear hv0 hbv hsv HA HB HC hbs HO1 HX1 HRD1
    refine Rb.pF (by rfl) fun K hK => ?_
    go_wp2_with fail
    refine (marks_any _ (HS.out.below HBVW.out)).mono ?_
    rintro e v1 ⟨rfl, hb1⟩
    have HX1 := Lib.hid hb1
    go_wp2_with fail
    refine hK _ _ hb1 ?_; clear hK K hb1
    repeat (refine Rb.pK rfl rfl ?_; intro K hK; apply Exists.intro; refine ⟨?_, ?_⟩; (focus (intro x hx;  go_simp; (first | (fail) | ((try go_bits); (try go_simp); (try rfl))))); go_simp; refine hK _ ?_; clear hK K)
    refine Rb.p_str rfl rfl 28 9 _ rfl 5 Tryd.underlying9 Tryd.underlying28 Tryd.underlying5 _ _ (A) rfl (fun x hx => HAV.out.below (HX1.out.trans hx)) ?_; intro K hK; go_simp; refine hK _ ?_; clear hK K
    repeat (refine Rb.pK rfl rfl ?_; intro K hK; apply Exists.intro; refine ⟨?_, ?_⟩; (focus (intro x hx;  go_simp; (first | (fail) | ((try go_bits); (try go_simp); (try rfl))))); go_simp; refine hK _ ?_; clear hK K)
    refine Rb.p_str rfl rfl 28 9 _ rfl 5 Tryd.underlying9 Tryd.underlying28 Tryd.underlying5 _ _ (B) rfl (fun x hx => HBV.out.below (HX1.out.trans hx)) ?_; intro K hK; go_simp; refine hK _ ?_; clear hK K
    repeat (refine Rb.pK rfl rfl ?_; intro K hK; apply Exists.intro; refine ⟨?_, ?_⟩; (focus (intro x hx;  go_simp; (first | (fail) | ((try go_bits); (try go_simp); (try rfl))))); go_simp; refine hK _ ?_; clear hK K)
    refine Rb.pF (by rfl) fun K hK => ?_
    go_wp2_with fail
    refine (same_beq _ _ _ _ _ _ A B _ rfl rfl (HAV.out.below HX1.out) (HBV.out.below HX1.out) (by omega)).mono ?_
    rintro e v2 ⟨rfl, hb2⟩
    have HX2 := Lib.hid (HX1.out.trans (hb2.mono HX1.out.size))
    go_wp2_with fail
    refine hK _ _ (hb2.mono HX1.out.size) ?_; clear hK K hb2
    repeat (refine Rb.pK rfl rfl ?_; intro K hK; apply Exists.intro; refine ⟨?_, ?_⟩; (focus (intro x hx;  go_simp; (first | (fail) | ((try go_bits); (try go_simp); (try rfl))))); go_simp; refine hK _ ?_; clear hK K)
    refine Rb.p_str rfl rfl 28 9 _ rfl 5 Tryd.underlying9 Tryd.underlying28 Tryd.underlying5 _ _ (A) rfl (fun x hx => HAV.out.below (HX2.out.trans hx)) ?_; intro K hK; go_simp; refine hK _ ?_; clear hK K
    repeat (refine Rb.pK rfl rfl ?_; intro K hK; apply Exists.intro; refine ⟨?_, ?_⟩; (focus (intro x hx;  go_simp; (first | (fail) | ((try go_bits); (try go_simp); (try rfl))))); go_simp; refine hK _ ?_; clear hK K)
    refine Rb.p_str rfl rfl 28 9 _ rfl 5 Tryd.underlying9 Tryd.underlying28 Tryd.underlying5 _ _ (C) rfl (fun x hx => HCV.out.below (HX2.out.trans hx)) ?_; intro K hK; go_simp; refine hK _ ?_; clear hK K
    repeat (refine Rb.pK rfl rfl ?_; intro K hK; apply Exists.intro; refine ⟨?_, ?_⟩; (focus (intro x hx;  go_simp; (first | (fail) | ((try go_bits); (try go_simp); (try rfl))))); go_simp; refine hK _ ?_; clear hK K)
    refine Rb.pF (by rfl) fun K hK => ?_
    go_wp2_with fail
    refine (same_beq _ _ _ _ _ _ A C _ rfl hCl (HAV.out.below HX2.out) (HCV.out.below HX2.out) (by omega)).mono ?_
    rintro e v3 ⟨rfl, hb3⟩
    have HX3 := Lib.hid (HX2.out.trans (hb3.mono HX2.out.size))
    go_wp2_with fail
    refine hK _ _ (hb3.mono HX2.out.size) ?_; clear hK K hb3
    repeat (refine Rb.pK rfl rfl ?_; intro K hK; apply Exists.intro; refine ⟨?_, ?_⟩; (focus (intro x hx;  go_simp; (first | (fail) | ((try go_bits); (try go_simp); (try rfl))))); go_simp; refine hK _ ?_; clear hK K)
    clear HCV HBV HX1 HX2
    refine Rb.pB ?_ ?_
    · refine Rb.pOne (by rfl) fun K hK => ?_
      go_wp2_with fail
      refine hK _ _ ((Below.refl _ _).alloc HX3.out.size _) ?_; clear hK K
      obtain ⟨ua, hua⟩ : ∃ ua, ua = v3.alloc (.cells #[] 5) := ⟨_, rfl⟩
      have HXA : Hid (Below v0.heap.size v0 ua) := Lib.hid (by rw [hua]; exact HX3.out.alloc HX3.out.size _)
      have HE : Hid (Ow ua v0.heap.size 5 1 (.slice (some ⟨v3.heap.size, 0, none⟩) 0 0) 0 []) := Lib.hid (by rw [hua]; exact Ow.lit v3 #[] 5 1 0 v0.heap.size HX3.out.size (Nat.zero_le _) rfl)
      rw [← hua]
      clear hua
      refine Rb.pB ?_ ?_
      · refine Rb.pOne (by rfl) fun K hK => ?_
        refine unguard (by rfl) ?_
        refine app_empty rfl _ _ 28 28 rfl v0.heap.size 5 i0 (.int .u8 0) 1 1 Tryd.underlying28 hi hz0 hz1 hz2 rfl v3.heap.size rfl HE.out _ _ _ rfl (Rd.src Tryd.underlying28 (HAV.out.below HXA.out) (bys_one _)) (by unfold maxLen; omega) (by omega) HXA.out.size ?_
        intro v4 ub how4 hb4
        obtain ⟨q4, c4, rfl⟩ := Ow_form how4
        have hb4' : Below v0.heap.size ua ub := hb4.mono HXA.out.size
        have HX4 := Lib.hid (HXA.out.trans hb4')
        have HO4 := Lib.hid how4
        go_wp2_with fail
        refine hK _ _ hb4' ?_; clear hK K how4
        refine Rb.pF (by rfl) fun K hK => ?_
        go_wp2_with fail
        have HLIT : Hid (Rd (ub.alloc (.cells #[.int .u8 (y.toNat : Int)] 5)) 1 (.slice (some ⟨ub.heap.size, 0, none⟩) 1 1) 1 (bys [y])) := Lib.hid (Rd_lit ub #[.int .u8 (y.toNat : Int)] 5 1 1 rfl (by decide))
        have hyc : Below v0.heap.size ub (ub.alloc (.cells #[.int .u8 (y.toNat : Int)] 5)) := (Below.refl _ _).alloc HX4.out.size _
        refine hK _ _ hyc ?_; clear hK K
        have HOWN := Lib.hid (HO4.out.alloc (.cells #[.int .u8 (y.toNat : Int)] 5))
        have HXC := Lib.hid (HX4.out.trans hyc)
        obtain ⟨uc, huc⟩ : ∃ uc, uc = ub.alloc (.cells #[.int .u8 (y.toNat : Int)] 5) := ⟨_, rfl⟩
        rw [← huc] at HLIT HOWN HXC ⊢
        clear huc hyc HO4 HX4 HXA HE hb4 hb4'
        have hbb : v0.heap.size ≤ uc.heap.size := HXC.out.size
        refine Rb.pF (by rfl) fun K hK => ?_
        refine unguard (by rfl) ?_
        refine app_ow rfl _ _ 28 28 rfl v0.heap.size 5 i0 (.int .u8 0) 1 1 Tryd.underlying28 hi hz0 hz1 hz2 rfl _ _ _ rfl HOWN.out _ _ _ rfl (Rd.src Tryd.underlying28 HLIT.out (bys_one _)) (by unfold maxLen; omega) (by omega) hbb ?_
        intro v6 ud how6 hg6
        obtain ⟨q6, c6, rfl⟩ := Ow_form how6
        have hbl : Below v0.heap.size uc ud := (Below.refl _ _).grown hg6 hbb (fun k hk => (HOWN.out.lt k hk).1)
        have HXD := Lib.hid (HXC.out.trans hbl)
        have h6 := Rd.of_ow how6
        rw [← bys_append] at h6
        have HR6 := Lib.hid h6
        go_wp2_with fail
        refine hK _ _ hbl ?_; clear hK K hbl how6 hg6 h6
        refine Rb.pF (by rfl) fun K hK => ?_
        go_wp2_with fail
        refine (same_beq _ _ _ _ _ _ A (A ++ [y]) _ rfl (by simp) (HAV.out.below HXD.out) HR6.out (by omega)).mono ?_
        rintro e ue ⟨rfl, hbe⟩
        have HXE := Lib.hid (HXD.out.trans (hbe.mono HXD.out.size))
        rw [ne_snoc]
        go_wp2_with fail
        refine hK _ _ (hbe.mono HXD.out.size) ?_; clear hK K hbe
        repeat (refine Rb.pK rfl rfl ?_; intro K hK; apply Exists.intro; refine ⟨?_, ?_⟩; (focus (intro x hx;  go_simp; (first | (fail) | ((try go_bits); (try go_simp); (try rfl))))); go_simp; refine hK _ ?_; clear hK K)
        refine Rb.pDone ?_; go_wp2_with fail; refine NoPanic.normal ?_; go_wp2_with fail
        go_ret
        exact ⟨rfl, HBVW.out.trans (HXE.out.mono HBVW.out.size)⟩
      · refine Rb.pOne (by rfl) fun K hK => ?_
        go_wp2_with fail
        have HLIT0 : Hid (Rd (ua.alloc (.cells #[.int .u8 (y.toNat : Int)] 5)) 1 (.slice (some ⟨ua.heap.size, 0, none⟩) 1 1) 1 (bys [y])) := Lib.hid (Rd_lit ua #[.int .u8 (y.toNat : Int)] 5 1 1 rfl (by decide))
        have hyc : Below v0.heap.size ua (ua.alloc (.cells #[.int .u8 (y.toNat : Int)] 5)) := (Below.refl _ _).alloc HXA.out.size _
        refine hK _ _ hyc ?_; clear hK K
        have HE0 := Lib.hid (HE.out.alloc (.cells #[.int .u8 (y.toNat : Int)] 5))
        have HXA0 := Lib.hid (HXA.out.trans hyc)
        clear HE HXA hyc
        obtain ⟨ub, hub⟩ : ∃ ub, ub = ua.alloc (.cells #[.int .u8 (y.toNat : Int)] 5) := ⟨_, rfl⟩
        rw [← hub] at HLIT0 HE0 HXA0 ⊢
        have HE := HE0
        have HXA := HXA0
        clear hub HE0 HXA0
        refine Rb.pF (by rfl) fun K hK => ?_
        refine unguard (by rfl) ?_
        refine app_empty rfl _ _ 28 28 rfl v0.heap.size 5 i0 (.int .u8 0) 1 1 Tryd.underlying28 hi hz0 hz1 hz2 rfl v3.heap.size rfl HE.out _ _ _ rfl (Rd.src Tryd.underlying28 (HAV.out.below HXA.out) (bys_one _)) (by unfold maxLen; omega) (by omega) HXA.out.size ?_
        intro v4 uc how4 hb4
        obtain ⟨q4, c4, rfl⟩ := Ow_form how4
        have hb4' : Below v0.heap.size ub uc := hb4.mono HXA.out.size
        have HX4 := Lib.hid (HXA.out.trans hb4')
        have HO4 := Lib.hid how4
        go_wp2_with fail
        refine hK _ _ hb4' ?_; clear hK K how4
        have HOWN := HO4
        have HXC := HX4
        have HLIT := Lib.hid (HLIT0.out.below hb4)
        clear HO4 HX4 HXA HE hb4 hb4' HLIT0
        have hbb : v0.heap.size ≤ uc.heap.size := HXC.out.size
        refine Rb.pF (by rfl) fun K hK => ?_
        refine unguard (by rfl) ?_
        refine app_ow rfl _ _ 28 28 rfl v0.heap.size 5 i0 (.int .u8 0) 1 1 Tryd.underlying28 hi hz0 hz1 hz2 rfl _ _ _ rfl HOWN.out _ _ _ rfl (Rd.src Tryd.underlying28 HLIT.out (bys_one _)) (by unfold maxLen; omega) (by omega) hbb ?_
        intro v6 ud how6 hg6
        obtain ⟨q6, c6, rfl⟩ := Ow_form how6
        have hbl : Below v0.heap.size uc ud := (Below.refl _ _).grown hg6 hbb (fun k hk => (HOWN.out.lt k hk).1)
        have HXD := Lib.hid (HXC.out.trans hbl)
        have h6 := Rd.of_ow how6
        rw [← bys_append] at h6
        have HR6 := Lib.hid h6
        go_wp2_with fail
        refine hK _ _ hbl ?_; clear hK K hbl how6 hg6 h6
        refine Rb.pF (by rfl) fun K hK => ?_
        go_wp2_with fail
        refine (same_beq _ _ _ _ _ _ A (A ++ [y]) _ rfl (by simp) (HAV.out.below HXD.out) HR6.out (by omega)).mono ?_
        rintro e ue ⟨rfl, hbe⟩
        have HXE := Lib.hid (HXD.out.trans (hbe.mono HXD.out.size))
        rw [ne_snoc]
        go_wp2_with fail
        refine hK _ _ (hbe.mono HXD.out.size) ?_; clear hK K hbe
        repeat (refine Rb.pK rfl rfl ?_; intro K hK; apply Exists.intro; refine ⟨?_, ?_⟩; (focus (intro x hx;  go_simp; (first | (fail) | ((try go_bits); (try go_simp); (try rfl))))); go_simp; refine hK _ ?_; clear hK K)
        refine Rb.pDone ?_; go_wp2_with fail; refine NoPanic.normal ?_; go_wp2_with fail
        go_ret
        exact ⟨rfl, HBVW.out.trans (HXE.out.mono HBVW.out.size)⟩
    · refine Rb.pOne (by rfl) fun K hK => ?_
      go_wp2_with fail
      refine hK _ _ ((Below.refl _ _).alloc HX3.out.size _) ?_; clear hK K
      obtain ⟨ua, hua⟩ : ∃ ua, ua = v3.alloc (.cells #[.int .u8 (y.toNat : Int)] 5) := ⟨_, rfl⟩
      have HXA0 : Hid (Below v0.heap.size v0 ua) := Lib.hid (by rw [hua]; exact HX3.out.alloc HX3.out.size _)
      have HLIT0 : Hid (Rd ua 1 (.slice (some ⟨v3.heap.size, 0, none⟩) 1 1) 1 (bys [y])) := Lib.hid (by rw [hua]; exact Rd_lit v3 #[.int .u8 (y.toNat : Int)] 5 1 1 rfl (by decide))
      rw [← hua]
      clear hua
      refine Rb.pF (by rfl) fun K hK => ?_
      go_wp2_with fail
      have hyb : Below ua.heap.size ua (ua.alloc (.cells #[] 5)) := (Below.refl _ _).alloc (Nat.le_refl _) _
      refine hK _ _ (hyb.mono HXA0.out.size) ?_; clear hK K
      obtain ⟨ub, hub⟩ : ∃ ub, ub = ua.alloc (.cells #[] 5) := ⟨_, rfl⟩
      have HE : Hid (Ow ub v0.heap.size 5 1 (.slice (some ⟨ua.heap.size, 0, none⟩) 0 0) 0 []) := Lib.hid (by rw [hub]; exact Ow.lit ua #[] 5 1 0 v0.heap.size HXA0.out.size (Nat.zero_le _) rfl)
      rw [← hub] at hyb ⊢
      have HXA := Lib.hid (HXA0.out.trans (hyb.mono HXA0.out.size))
      have HLIT1 := Lib.hid (HLIT0.out.below hyb)
      clear hub hyb HLIT0 HXA0
      refine Rb.pF (by rfl) fun K hK => ?_
      refine unguard (by rfl) ?_
      refine app_empty rfl _ _ 28 28 rfl v0.heap.size 5 i0 (.int .u8 0) 1 1 Tryd.underlying28 hi hz0 hz1 hz2 rfl ua.heap.size rfl HE.out _ _ _ rfl (Rd.src Tryd.underlying28 (HAV.out.below HXA.out) (bys_one _)) (by unfold maxLen; omega) (by omega) HXA.out.size ?_
      intro v4 uc how4 hb4
      obtain ⟨q4, c4, rfl⟩ := Ow_form how4
      have hb4' : Below v0.heap.size ub uc := hb4.mono HXA.out.size
      have HX4 := Lib.hid (HXA.out.trans hb4')
      have HO4 := Lib.hid how4
      go_wp2_with fail
      refine hK _ _ hb4' ?_; clear hK K how4
      have HOWN := HO4
      have HXC := HX4
      have HLIT := Lib.hid (HLIT1.out.below hb4)
      clear HO4 HX4 HXA HE hb4 hb4' HLIT1
      have hbb : v0.heap.size ≤ uc.heap.size := HXC.out.size
      refine Rb.pF (by rfl) fun K hK => ?_
      refine unguard (by rfl) ?_
      refine app_ow rfl _ _ 28 28 rfl v0.heap.size 5 i0 (.int .u8 0) 1 1 Tryd.underlying28 hi hz0 hz1 hz2 rfl _ _ _ rfl HOWN.out _ _ _ rfl (Rd.src Tryd.underlying28 HLIT.out (bys_one _)) (by unfold maxLen; omega) (by omega) hbb ?_
      intro v6 ud how6 hg6
      obtain ⟨q6, c6, rfl⟩ := Ow_form how6
      have hbl : Below v0.heap.size uc ud := (Below.refl _ _).grown hg6 hbb (fun k hk => (HOWN.out.lt k hk).1)
      have HXD := Lib.hid (HXC.out.trans hbl)
      have h6 := Rd.of_ow how6
      rw [← bys_append] at h6
      have HR6 := Lib.hid h6
      go_wp2_with fail
      refine hK _ _ hbl ?_; clear hK K hbl how6 hg6 h6
      refine Rb.pF (by rfl) fun K hK => ?_
      go_wp2_with fail
      refine (same_beq _ _ _ _ _ _ A (A ++ [y]) _ rfl (by simp) (HAV.out.below HXD.out) HR6.out (by omega)).mono ?_
      rintro e ue ⟨rfl, hbe⟩
      have HXE := Lib.hid (HXD.out.trans (hbe.mono HXD.out.size))
      rw [ne_snoc]
      go_wp2_with fail
      refine hK _ _ (hbe.mono HXD.out.size) ?_; clear hK K hbe
      repeat (refine Rb.pK rfl rfl ?_; intro K hK; apply Exists.intro; refine ⟨?_, ?_⟩; (focus (intro x hx;  go_simp; (first | (fail) | ((try go_bits); (try go_simp); (try rfl))))); go_simp; refine hK _ ?_; clear hK K)
      refine Rb.pDone ?_; go_wp2_with fail; refine NoPanic.normal ?_; go_wp2_with fail
      go_ret
      exact ⟨rfl, HBVW.out.trans (HXE.out.mono HBVW.out.size)⟩
end Ref
end Go.Proofs.YtmcjjionfmdioaaDoor
