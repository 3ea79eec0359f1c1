/- The walk of custumallaw18.ChainChecks. -/
import Derived.Test.YtmcjjionfmdioaaDoorRefChk
import Derived.Test.YtmcjjionfmdioaaDoorSame
namespace Go.Proofs.YtmcjjionfmdioaaDoor
open Go.RowKit Bits Mem Sha
namespace Ref
theorem Ow_setN {w : World} {base g n cap j size : Nat} {e : TypeId} {l : List UInt8} (h : Ow w base e size (.slice (some ⟨g, 0, none⟩) n cap) n (bys l)) (hj : j < n * size) (x : UInt8) :
    w.cell? ⟨g, j, none⟩ = some (.int .u8 ((bt l j).toNat : Int)) ∧ w.frozen? ⟨g, j, none⟩ = false ∧ base ≤ g ∧
      Ow (w.setCell ⟨g, j, none⟩ (.int .u8 (x.toNat : Int))) base e size (.slice (some ⟨g, 0, none⟩) n cap) n (bys (l.set j x)) := by
  obtain ⟨h1, h2⟩ := h
  rw [bys_length] at h1
  rcases h2 with ⟨hv, _⟩ | ⟨g', cap', cur, fz, hv, hb, hg, hf, hnc, hcm, hcs, ht⟩
  · cases hv
  · cases hv
    have hle : n * size ≤ cap * size := Nat.mul_le_mul_right _ hnc
    have hc : cur[j]? = some (.int .u8 ((bt l j).toNat : Int)) := by
      have := bys_get l j (by omega)
      rw [← ht, List.getElem?_take, if_pos hj] at this
      simpa [bt] using this
    refine ⟨by rw [cell_of_row w _ j _ _ _ hg]; exact hc, ?_, hb, by rw [bys_length, List.length_set]; omega, .inr ⟨g, cap, cur.setIfInBounds j (.int .u8 (x.toNat : Int)), fz, rfl, hb, ?_, ?_, hnc, hcm, by simpa using hcs, ?_⟩⟩
    · have := hf j (by omega)
      simp only [World.frozen?, hg]
      simpa using this
    · rw [setCell_eq_setRow w g j cur e fz _ hg]
      exact setRow_heap w g cur _ e fz hg
    · intro i hi
      rw [Array.size_setIfInBounds] at hi
      exact hf i hi
    · rw [Array.toList_setIfInBounds, List.take_set, ht]
      simp [bys, List.map_set]
/-- One byte of one of the parts turned. -/
theorem flat_set : ∀ {L : List (List UInt8)} (k j : Nat) (x : UInt8), All32 L → k < L.length → j < 32 → L.flatten.set (k * 32 + j) x = (L.set k ((L.getD k []).set j x)).flatten
  | y :: L, 0, j, x, h, _, hj => by
    have := h y (by simp)
    simp only [List.flatten_cons, Nat.zero_mul, Nat.zero_add, List.getD_cons_zero, List.set_cons_zero]
    rw [List.set_append_left _ _ (by omega)]
  | y :: L, k + 1, j, x, h, hk, hj => by
    have h1 := h y (by simp)
    have h2 := flat_set (L := L) k j x (fun z hz => h z (by simp [hz])) (by simpa using hk) hj
    simp only [List.flatten_cons, List.getD_cons_succ, List.set_cons_succ]
    rw [List.set_append_right _ _ (by omega), ← h2]
    congr 2
    omega
theorem All32.set {L : List (List UInt8)} (h : All32 L) {k j : Nat} (hk : k < L.length) (x : UInt8) : All32 (L.set k ((L.getD k []).set j x)) := by
  intro y hy
  rcases List.mem_or_eq_of_mem_set hy with hy | rfl
  · exact h y hy
  · rw [List.length_set]; exact h.getD hk
theorem OwL_set {w : World} {base g c k m : Nat} {L : List (List UInt8)} (h : OwL w base (.slice (some ⟨g, 0, none⟩) L.length c) L) (hk : k < L.length) (hm : m < 32) (x : UInt8) :
    w.cell? ⟨g, k * 32 + m, none⟩ = some (.int .u8 ((bt L.flatten (k * 32 + m)).toNat : Int)) ∧ w.frozen? ⟨g, k * 32 + m, none⟩ = false ∧ base ≤ g ∧ g < w.heap.size ∧
      OwL (w.setCell ⟨g, k * 32 + m, none⟩ (.int .u8 (x.toNat : Int))) base (.slice (some ⟨g, 0, none⟩) L.length c) (L.set k ((L.getD k []).set m x)) := by
  obtain ⟨h1, h2, h3, h4⟩ := Ow_setN (j := k * 32 + m) h.2 (by omega) x
  refine ⟨h1, h2, h3, (h.2.lt g rfl).2, h.1.set hk x, ?_⟩
  rw [flat_set k m x h.1 hk hm, ] at h4
  rw [List.length_set]
  exact h4
theorem grownBy_setCell (x : World) (g o : Nat) (v : Value) : x.grownBy (x.setCell ⟨g, o, none⟩ v) (some g) :=
  ⟨rfl, rfl, rfl, by simp, fun j _ hne => heap_setCell_other _ _ _ _ (fun e => hne (by rw [e]))⟩
theorem OwL.kept {w w' : World} {base : Nat} {v : Value} {L : List (List UInt8)} {row : Option Nat} (h : OwL w base v L) (hg : w.grownBy w' row) (hne : v.ownBlock = none ∨ v.ownBlock ≠ row) : OwL w' base v L := ⟨h.1, h.2.kept hg hne⟩
theorem OwL.some {w : World} {base c : Nat} {q : Option Addr} {L : List (List UInt8)} (h : OwL w base (.slice q L.length c) L) (h0 : 0 < L.length) : ∃ g, q = some ⟨g, 0, none⟩ := by
  rcases h.2.2 with ⟨_, hn⟩ | ⟨g, cap, cur, fz, hv, _⟩
  · omega
  · cases hv; exact ⟨_, rfl⟩
theorem and_low (n : Int) (p : Nat) (hp : p < 60) : ∃ m : Nat, m < 2 ^ p ∧ bits .and .i64 n ((2 ^ p - 1 : Nat) : Int) = (m : Int) := by
  refine ⟨(BitVec.ofInt 64 n).toNat % 2 ^ p, Nat.mod_lt _ (Nat.two_pow_pos p), ?_⟩
  show IntKind.i64.wrap ((BitVec.ofInt 64 n &&& BitVec.ofInt 64 ((2 ^ p - 1 : Nat) : Int)).toNat : Int) = _
  have h60 : 2 ^ p ≤ 2 ^ 60 := Nat.pow_le_pow_right (by omega) (by omega)
  have h1 : (BitVec.ofInt 64 ((2 ^ p - 1 : Nat) : Int)).toNat = 2 ^ p - 1 := by
    rw [BitVec.ofInt_natCast, BitVec.toNat_ofNat]
    exact Nat.mod_eq_of_lt (by omega)
  rw [BitVec.toNat_and, h1, Nat.and_two_pow_sub_one_eq_mod, IntKind.wrap_i64]
  have := Nat.mod_lt (BitVec.ofInt 64 n).toNat (Nat.two_pow_pos p)
  omega
theorem xor8 (x : UInt8) (m : Nat) (h : m < 256) : ∃ y : UInt8, bits .xor .u8 (x.toNat : Int) (m : Int) = (y.toNat : Int) := by
  refine ⟨x ^^^ UInt8.ofNat m, ?_⟩
  have hm : m = (UInt8.ofNat m).toNat := by rw [UInt8.toNat_ofNat']; omega
  show IntKind.u8.wrap ((BitVec.ofInt 8 (x.toNat : Int) ^^^ BitVec.ofInt 8 (m : Int)).toNat : Int) = _
  rw [UInt8.toNat_xor]
  have h1 : (BitVec.ofInt 8 (x.toNat : Int)).toNat = x.toNat := by
    rw [BitVec.ofInt_natCast, BitVec.toNat_ofNat]; exact Nat.mod_eq_of_lt (by have := x.toNat_lt; omega)
  have h2 : (BitVec.ofInt 8 (m : Int)).toNat = (UInt8.ofNat m).toNat := by
    rw [BitVec.ofInt_natCast, BitVec.toNat_ofNat, ← hm]; exact Nat.mod_eq_of_lt (by omega)
  rw [BitVec.toNat_xor, h1, h2]
  have : x.toNat ^^^ (UInt8.ofNat m).toNat < 2 ^ 8 := Nat.xor_lt_two_pow (by have := x.toNat_lt; omega) (by have := (UInt8.ofNat m).toNat_lt; omega)
  rw [IntKind.wrap_u8']
  omega
set_option maxRecDepth 100000 in
set_option maxHeartbeats 4000000 in
theorem chainChecks_any (q : Option Addr) (c : Nat) (l0 : List UInt8) (f : Int) (a : List UInt8) (qr : Option Addr) (cr : Nat) (R : List (List UInt8)) (at_ : Int) (w : World) (hS : Sha.Tabs w) (hT : Ref.Tabs w) (hl : Rd w 1 (.slice q l0.length c) l0.length (bys l0)) (ha : a.length = 32)
    (hr : RdL w (.slice qr R.length cr) R) (hn0 : -9223372036854775808 ≤ at_) (hn1 : at_ ≤ 9223372036854775807) :
    Calls Tryd.prog 12 #[.slice q l0.length c, .agg (pastA f a (.slice qr R.length cr)), .int .i64 at_] w fun e w' => e = .returned (.bool true) ∧ Below w.heap.size w w' := by
  obtain ⟨i0, hi, hz0, hz1, hz2⟩ := parts3 infoA32
  have HS := Lib.hid hS
  have HT := Lib.hid hT
  have hcap := Rd_cap hl
  have HN := Lib.hid (And.intro hn0 hn1)
  have hmin : (if (50 : Int) < (l0.length : Int) then (50 : Int) else (l0.length : Int)) = ((min l0.length 50 : Nat) : Int) := by split <;> omega
  obtain ⟨wp, hwp⟩ : ∃ wp, wp = w.alloc (.cells (pastA f a (.slice qr R.length cr)) 42) := ⟨_, rfl⟩
  have hbp : Below w.heap.size w wp := by rw [hwp]; exact (Below.refl _ _).alloc (Nat.le_refl _) _
  have hgp : wp.heap[w.heap.size]? = some (.cells (pastA f a (.slice qr R.length cr)) 42 (0, 0)) := by rw [hwp]; exact Rg.heap_alloc_at w _ _ rfl
  have HWP := Lib.hid hwp
  have HBP := Lib.hid hbp
  have HGP := Lib.hid hgp
  have HA := Lib.hid ha
  have HR := Lib.hid (hr.below hbp)
  have HL0 := Lib.hid ((Rd_take hl (Nat.min_le_left l0.length 50)).below hbp)
  have HLW := Lib.hid (Rd_take hl (Nat.min_le_left l0.length 50))
  have hgl := lt_of_heap hgp
  have c33 := past_roots hgp ha
  have c0 := past_from hgp
  have HIP : Hid ((Tryd.prog.info? 42).map (·.size) = some (pastA f a (.slice qr R.length cr)).size) := Lib.hid (by rw [pastA_size _ _ ha]; kernel_rfl)
  clear hS hT hl ha hr hn0 hn1 hwp hbp hgp
  go_enter Tryd.func12, Tryd.ntmps12
  go_wp2_with (rw [← HWP.out])
  obtain ⟨l, hXl⟩ : ∃ l, l = l0.take (min l0.length 50) := ⟨_, rfl⟩
  have hll : min l0.length 50 = l.length := by rw [hXl, List.length_take]; omega
  have hl50 : l.length ≤ 50 := by omega
  rw [← hXl] at HL0 HLW
  rw [hll] at HL0 HLW ⊢
  clear hXl hll hmin hcap
  refine (few18_any qr cr R wp HR.out).mono ?_
  rintro e w1 ⟨v1, rfl, hown, hb1⟩
  obtain ⟨q1, c1, rfl⟩ := Ow_form hown.2
  have hT12 : (R.take 12).length ≤ 12 := by rw [List.length_take]; omega
  obtain ⟨T, hTe⟩ : ∃ T, T = R.take 12 := ⟨_, rfl⟩
  rw [← hTe] at hown hT12
  have HTE := Lib.hid hTe
  have HRT := Lib.hid (show OwL w1 w.heap.size (.slice q1 T.length c1) T from ⟨hown.1, hown.2.base_le HBP.out.size⟩)
  have HLT := Lib.hid hown.2.lt
  have HLTG := Lib.hid (show ∀ k, (Value.slice q1 T.length c1).ownBlock = some k → w.heap.size < k from fun k hk => Nat.lt_of_lt_of_le hgl (hown.2.lt k hk).1)
  have HW1 := Lib.hid (lt_of_heap (Rp.row_le hb1 HGP.out))
  have HB1 := Lib.hid (HBP.out.trans (hb1.mono HBP.out.size))
  have HG1 := Lib.hid (Rp.row_le hb1 HGP.out)
  have HR1 := Lib.hid (HR.out.below hb1)
  have HL1 := Lib.hid (HL0.out.below hb1)
  rw [← hTe]
  clear hown hTe hb1 HWP HBP HGP HR HL0 c33 c0 hgl
  go_wp2_with (refine wpList_load_row rfl 42 _ rfl w.heap.size rfl 42 (pastA f a (.slice qr R.length cr)) (0, 0) _ HG1.out Tryd.underlying42 rfl HIP.out ?_)
  refine (links_any q c l f a qr cr R w1 (HS.out.below HB1.out) HL1.out (by omega) HA.out HR1.out).mono ?_
  rintro e w2 ⟨v2, rfl, hown, hb2⟩
  rw [← HTE.out] at hown
  obtain ⟨q2, c2, rfl⟩ := Ow_form hown.2
  have hLl := lks_length l f a T T.length
  have hchk := chk_lks (id := l) (f := f) (a := a) (R := T)
  obtain ⟨L, hLe⟩ : ∃ L, L = lks l f a T T.length := ⟨_, rfl⟩
  rw [← hLe] at hown hLl hchk ⊢
  have HOT := Lib.hid (HRT.out.below hb2)
  have HOL := Lib.hid (show OwL w2 w.heap.size (.slice q2 L.length c2) L from ⟨hown.1, hown.2.base_le HB1.out.size⟩)
  have HLL := Lib.hid (show ∀ k, (Value.slice q2 L.length c2).ownBlock = some k → w1.heap.size ≤ k from fun k hk => (hown.2.lt k hk).1)
  have HLTT := Lib.hid (show ∀ k, (Value.slice q1 T.length c1).ownBlock = some k → k < w1.heap.size from fun k hk => (HLT.out k hk).2)
  have HB2 := Lib.hid (HB1.out.trans (hb2.mono HB1.out.size))
  have HG2 := Lib.hid (Rp.row_le hb2 HG1.out)
  have HL2 := Lib.hid (HL1.out.below hb2)
  have HLN := Lib.hid hLl
  have HCHK := Lib.hid hchk
  clear hown hLe hLl hchk hb2 HG1 HR1 HL1 HRT HLT
  have c0 := past_from HG2.out
  have hgl := lt_of_heap HG2.out
  go_wp2_with (refine l_load rfl _ _ rfl _ (past_ahead HG2.out HA.out) ?_)
  refine (check_any q c l f a q1 q2 c1 c2 T L w2 (HS.out.below HB2.out) HL2.out (by omega) HA.out HOT.out.rd HOL.out.rd).mono ?_
  rintro e w3 ⟨rfl, hb3⟩
  rw [HCHK.out]
  have HOT3 := Lib.hid (HOT.out.below hb3)
  have HOL3 := Lib.hid (HOL.out.below hb3)
  have HB3 := Lib.hid (HB2.out.trans (hb3.mono HB2.out.size))
  have HG3 := Lib.hid (Rp.row_le hb3 HG2.out)
  have HL3 := Lib.hid (HL2.out.below hb3)
  clear hb3 HG2 HL2 HOT HOL c0 hgl
  have c0 := past_from HG3.out
  have hgl := lt_of_heap HG3.out
  go_wp2_with fail
  have hL12 : L.length ≤ 12 := by rw [HLN.out]; exact hT12
  have HZ32 : Hid (All32 [zeros32]) := Lib.hid (All32.one rfl)
  have HC1 : Hid (chk l f a T (L ++ [zeros32]) = 1) := Lib.hid (chk_len (by rw [List.length_append, HLN.out]; simp))
  refine Rc.region (w3.heap.size) 22 [Rc.F 0 (fun _ => .bool true) (fun _ _ _ => True), Rc.F 13 (fun p => .slice p.q 0 0) (fun p F y => OwF F y w3.heap.size 25 32 (.slice p.q 0 0) 0 []), Rc.C 15 [13] [13] (fun p => .slice p.q L.length p.c) (fun p F y => OwF F y w3.heap.size 25 32 (.slice p.q L.length p.c) L.length (bys L.flatten)), Rc.F 17 (fun p => .slice p.q 1 p.c) (fun p _ y => Rd y 32 (.slice p.q 1 p.c) 1 (bys zeros32)), Rc.C 18 [15, 17] [15] (fun p => .slice p.q (L.length + 1) p.c) (fun p _ y => Rd y 32 (.slice p.q (L.length + 1) p.c) (L.length + 1) (bys (L.flatten ++ zeros32))), Rc.G 19 [18] (fun _ => .int .i64 1) (fun _ _ _ => True)] [] (by kernel_rfl) (Nat.le_refl _) (by kernel_rfl) ?_; intro p; simp only [List.take_succ_cons, List.take_zero, List.take_nil, List.drop_succ_cons, List.drop_zero, List.drop_nil]
  refine Rc.fK rfl rfl rfl rfl ?_ ?_
  · intro x Fs hx hle hg K hK
    have hbx := HB3.out.trans ((Rc.undrew hx).mono HB3.out.size)
    go_wp2_with fail
    refine (chains_any x (HS.out.below hbx) (HT.out.below hbx)).mono ?_
    rintro e x' ⟨rfl, hb⟩
    go_wp2_with fail
    exact hK Rc.dflt x' hb (fun _ _ _ _ => trivial)
  intro K hK; go_simp; refine hK _ ?_; clear hK K
  iterate 10 (refine Rc.rK rfl rfl ?_; intro K hK; apply Exists.intro; refine ⟨?_, ?_⟩; (focus (intro x hx; have c0x := Rc.cell_le hx hgl c0; go_simp; (first | (fail) | ((try go_bits); (try go_simp); (try rfl))))); go_simp; refine hK _ ?_; clear hK K)
  refine Rc.r_load rfl rfl _ _ rfl (.agg (bysA a)) (fun x hx => past_ahead (Rg.below_row (Rc.undrew hx) (lt_of_heap HG3.out) HG3.out) HA.out) ?_; intro K hK; go_simp; refine hK _ ?_; clear hK K
  iterate 1 (refine Rc.rK rfl rfl ?_; intro K hK; apply Exists.intro; refine ⟨?_, ?_⟩; (focus (intro x hx;  go_simp; (first | (fail) | ((try go_bits); (try go_simp); (try rfl))))); go_simp; refine hK _ ?_; clear hK K)
  refine Rc.fK rfl rfl rfl rfl ?_ ?_
  · intro x Fs hx hle hg K hK
    go_wp2_with fail
    exact hK ⟨some ⟨x.heap.size, 0, none⟩, 0, undef⟩ _ ((Below.refl _ _).alloc (Nat.le_refl _) _) fun F y hF hy => OwF.fresh (w := x) (Ow.lit x #[] 25 32 0 x.heap.size (Nat.le_refl _) (Nat.zero_le _) rfl) hle hF hy
  intro K hK; go_simp; refine hK _ ?_; clear hK K
  iterate 1 (refine Rc.rK rfl rfl ?_; intro K hK; apply Exists.intro; refine ⟨?_, ?_⟩; (focus (intro x hx;  go_simp; (first | (fail) | ((try go_bits); (try go_simp); (try rfl))))); go_simp; refine hK _ ?_; clear hK K)
  refine Rc.cK rfl rfl rfl ?_ ?_
  · intro x Fs hx hle hg K hK
    have HO : Hid (OwF (Fs 13) x w3.heap.size 25 32 (.slice (p 13).q 0 0) 0 []) := Lib.hid hg.1
    have hrl := (HOL3.out.below (Rc.undrew hx)).rd.2
    refine unguard (by rfl) ?_
    refine app_ow3 rfl _ _ 40 40 rfl w3.heap.size 25 i0 (.agg (bysA zeros32)) 32 32 Tryd.underlying40 hi hz0 hz1 hz2 (by simp [Value.cells, bysA_size, zeros32]) _ 0 [] rfl HO.out.1 L.length _ rfl (Rd.src Tryd.underlying40 hrl (bys_one _)) (by unfold maxLen; omega) (by omega) hle ?_
    intro v' x' how hg' hor
    obtain ⟨q', c', rfl⟩ := Ow_form how
    rw [Nat.zero_add] at how hor ⊢
    go_wp2_with fail
    exact hK ⟨q', c', undef⟩ x' (HO.out.eff (by simp [Rc.C]) hg') (fun y hy => HO.out.next (by simp [Rc.C]) how hor hy)
  intro K hK; go_simp; refine hK _ ?_; clear hK K
  iterate 1 (refine Rc.rK rfl rfl ?_; intro K hK; apply Exists.intro; refine ⟨?_, ?_⟩; (focus (intro x hx;  go_simp; (first | (fail) | ((try go_bits); (try go_simp); (try rfl))))); go_simp; refine hK _ ?_; clear hK K)
  rw [z32]
  refine Rc.fK rfl rfl rfl rfl ?_ ?_
  · intro x Fs hx hle hg K hK
    have hlit := Rd_lit x (bysA zeros32) 25 32 1 rfl (by decide)
    go_wp2_with fail
    rw [z32, fill_all (bysA zeros32) (bysA zeros32) rfl]
    exact hK ⟨some ⟨x.heap.size, 0, none⟩, 1, undef⟩ _ ((Below.refl _ _).alloc (Nat.le_refl _) _) fun F y hF hy => hlit.keeps hy (fun k hk => .inr (by cases hk; exact hF _ (Nat.le_refl _) (by simp)))
  intro K hK; go_simp; refine hK _ ?_; clear hK K
  refine Rc.cK rfl rfl rfl ?_ ?_
  · intro x Fs hx hle hg K hK
    have HO : Hid (OwF (Fs 15) x w3.heap.size 25 32 (.slice (p 15).q L.length (p 15).c) L.length (bys L.flatten)) := Lib.hid hg.1
    have HO2 : Hid (Rd x 32 (.slice (p 17).q 1 (p 17).c) 1 (bys zeros32)) := Lib.hid hg.2.1
    clear hg
    refine unguard (by rfl) ?_
    refine app_ow3 rfl _ _ 40 40 rfl w3.heap.size 25 i0 (.agg (bysA zeros32)) 32 32 Tryd.underlying40 hi hz0 hz1 hz2 (by simp [Value.cells, bysA_size, zeros32]) _ L.length _ rfl HO.out.1 1 _ rfl (Rd.src Tryd.underlying40 HO2.out (bys_one _)) (by unfold maxLen; omega) (by omega) hle ?_
    intro v' x' how hg' hor
    obtain ⟨q', c', rfl⟩ := Ow_form how
    rw [← bys_append] at how
    go_wp2_with fail
    exact hK ⟨q', c', undef⟩ x' (HO.out.eff (by simp [Rc.C]) hg') (fun y hy => Rd.of_ow (HO.out.next (by simp [Rc.C]) how hor hy).1)
  intro K hK; go_simp; refine hK _ ?_; clear hK K
  refine Rc.fK rfl rfl rfl rfl ?_ ?_
  · intro x Fs hx hle hg K hK
    have hrd : Rd x 32 (.slice (p 18).q (L.length + 1) (p 18).c) (L.length + 1) (bys (L.flatten ++ zeros32)) := hg.1
    have hRL : RdL x (.slice (p 18).q (L ++ [zeros32]).length (p 18).c) (L ++ [zeros32]) := ⟨HOL3.out.1.append HZ32.out, by simpa using hrd⟩
    have hbx := HB3.out.trans ((Rc.undrew hx).mono HB3.out.size)
    have hc := check_any q c l f a q1 (p 18).q c1 (p 18).c T (L ++ [zeros32]) x (HS.out.below hbx) (HL3.out.below (Rc.undrew hx)) (by omega) HA.out (HOT3.out.below (Rc.undrew hx)).rd hRL
    rw [HC1.out, List.length_append, List.length_singleton] at hc
    have HCC := Lib.hid hc
    clear hc hRL hrd hg
    go_wp2_with fail
    refine HCC.out.mono ?_
    rintro e x' ⟨rfl, hb⟩
    go_wp2_with fail
    exact hK Rc.dflt x' hb (fun _ _ _ _ => trivial)
  intro K hK; go_simp; refine hK _ ?_; clear hK K
  iterate 2 (refine Rc.rK rfl rfl ?_; intro K hK; apply Exists.intro; refine ⟨?_, ?_⟩; (focus (intro x hx;  go_simp; (first | (fail) | ((try go_bits); (try go_simp); (try rfl))))); go_simp; refine hK _ ?_; clear hK K)
  refine Rc.done fun x Fs hx hle hg => ?_
  go_wp2_with fail
  refine NoPanic.normal ?_
  have HOT4 := Lib.hid (HOT3.out.below (Rc.undrew hx))
  have HOL4 := Lib.hid (HOL3.out.below (Rc.undrew hx))
  have HB4 := Lib.hid (HB3.out.trans ((Rc.undrew hx).mono HB3.out.size))
  have HG4 := Lib.hid (Rp.row_le (Rc.undrew hx) HG3.out)
  have HL4 := Lib.hid (HL3.out.below (Rc.undrew hx))
  clear hx hle hg c0 hgl HOT3 HOL3 HB3 HG3 HL3 HC1 HZ32
  by_cases h0 : L.length = 0
  · go_wp2_with fail
    go_ret
    exact ⟨rfl, HB4.out⟩
  · obtain ⟨k, hk, ek⟩ := modlen at_ L.length (by omega) (by omega)
    have hkI : (k : Int) < L.length := by omega
    have hbeq : ((L.length : Int) == 0) = false := by simpa using h0
    have hneI : ¬ ((L.length : Int) = 0) := by omega
    go_wp2_with fail
    obtain ⟨g2, hqe⟩ := HOL4.out.some (by omega)
    subst hqe
    obtain ⟨m, hm, em⟩ := and_low at_ 5 (by omega)
    have em : bits .and .i64 at_ 31 = (m : Int) := em
    have hmI : (m : Int) < 32 := by omega
    obtain ⟨hc0, _, hge0, hlg, _⟩ := OwL_set HOL4.out hk (by omega : m < 32) 0
    obtain ⟨y, hy⟩ := xor8 (bt L.flatten (k * 32 + m)) 1 (by omega)
    have hy : bits .xor .u8 ((bt L.flatten (k * 32 + m)).toNat : Int) 1 = (y.toNat : Int) := hy
    obtain ⟨b, hb⟩ : ∃ b, b = bt L.flatten (k * 32 + m) := ⟨_, rfl⟩
    rw [← hb] at hc0 hy
    have HBE := Lib.hid hb
    have HGE := Lib.hid (HLL.out g2 rfl)
    clear hb
    refine Rc.region (x.heap.size) 10 [] [] (by kernel_rfl) (Nat.le_refl _) (by kernel_rfl) ?_; intro p; simp only [List.take_succ_cons, List.take_zero, List.take_nil, List.drop_succ_cons, List.drop_zero, List.drop_nil]
    iterate 10 (refine Rc.rK rfl rfl ?_; intro K hK; apply Exists.intro; refine ⟨?_, ?_⟩; (focus (intro x hx; have c0x := Rc.cell_le hx hlg hc0; go_simp; (first | (fail) | ((try go_bits); (try go_simp); (try rfl))))); go_simp; refine hK _ ?_; clear hK K)
    refine Rc.done fun x5 Fs5 hx hle hg => ?_
    obtain ⟨hc5, hf5, _, _, how5⟩ := OwL_set (HOL4.out.below (Rc.undrew hx)) hk (by omega : m < 32) y
    rw [← HBE.out] at hc5
    have hgrow := grownBy_setCell x5 g2 (k * 32 + m) (.int .u8 (y.toNat : Int))
    have hB5 := HB4.out.trans ((Rc.undrew hx).mono HB4.out.size)
    have HB6 := Lib.hid (Below.setCell hB5 (p := ⟨g2, k * 32 + m, none⟩) hge0 (Value.int .u8 (y.toNat : Int)))
    have hg6 : (x5.setCell ⟨g2, k * 32 + m, none⟩ (.int .u8 (y.toNat : Int))).heap[w.heap.size]? = x5.heap[w.heap.size]? := heap_setCell_other _ _ _ _ (by have := HW1.out; have := HGE.out; simp; omega)
    have HG6 := Lib.hid (hg6.trans (Rp.row_le (Rc.undrew hx) HG4.out))
    have HOT6 := Lib.hid ((HOT4.out.below (Rc.undrew hx)).kept hgrow (by
      cases hk : (Value.slice q1 T.length c1).ownBlock with
      | none => exact .inl rfl
      | some j =>
        refine .inr fun e => ?_
        cases e
        have := HLTT.out g2 hk
        have := HGE.out
        omega))
    have HOL6 := Lib.hid how5
    have HLN2 : Hid ((L.set k ((L.getD k []).set m y)).length = L.length) := Lib.hid List.length_set
    obtain ⟨M, hM⟩ : ∃ M, M = L.set k ((L.getD k []).set m y) := ⟨_, rfl⟩
    rw [← hM] at HOL6 HLN2
    clear hx hle hg hc0 how5 HOT4 HG4 HL4 HB4 HOL4 hB5 hgrow hM hg6
    go_wp2_with fail
    refine NoPanic.normal ?_
    obtain ⟨ws, hws⟩ : ∃ ws, ws = x5.setCell ⟨g2, k * 32 + m, none⟩ (.int .u8 (y.toNat : Int)) := ⟨_, rfl⟩
    rw [← hws] at HB6 HG6 HOT6 HOL6 ⊢
    clear hws hc5 hf5 hy em hmI hm
    have hkT : k < T.length := by rw [← HLN.out]; exact hk
    obtain ⟨i, hi⟩ : ∃ i, i = T.length - 1 - k := ⟨_, rfl⟩
    have hiT : i < T.length := by omega
    have hiI : (T.length : Int) - 1 - (k : Int) = (i : Int) := by omega
    have hTb : (0 : Int) ≤ (T.length : Int) - 1 := by omega
    have hTb2 : (T.length : Int) - 1 ≤ 12 := by omega
    clear hi
    obtain ⟨g1, hqe⟩ := HOT6.out.some (by omega)
    subst hqe
    obtain ⟨m1, hm1, em1⟩ := and_low (at_ / 32) 1 (by omega)
    have em1 : bits .and .i64 (at_ / 32) 1 = (m1 : Int) := em1
    have hm1I : (m1 : Int) < 2 := by omega
    obtain ⟨hc0, _, hge1, hlg1, _⟩ := OwL_set HOT6.out hiT (by omega : 0 < 32) 0
    obtain ⟨y1, hy1⟩ := xor8 (bt T.flatten (i * 32 + 0)) m1 (by omega)
    obtain ⟨b1, hb1⟩ : ∃ b1, b1 = bt T.flatten (i * 32 + 0) := ⟨_, rfl⟩
    rw [← hb1, Nat.add_zero] at hc0
    rw [← hb1] at hy1
    have HBE1 := Lib.hid hb1
    have HGE1 := Lib.hid (HLTT.out g1 rfl)
    have HGP1 := Lib.hid (HLTG.out g1 rfl)
    have HLN := Lib.hid HLN.out
    clear hb1
    go_wp2_with fail
    refine Rc.region (ws.heap.size) 16 [] [] (by kernel_rfl) (Nat.le_refl _) (by kernel_rfl) ?_; intro p; simp only [List.take_succ_cons, List.take_zero, List.take_nil, List.drop_succ_cons, List.drop_zero, List.drop_nil]
    iterate 16 (refine Rc.rK rfl rfl ?_; intro K hK; apply Exists.intro; refine ⟨?_, ?_⟩; (focus (intro x hx; have c0x := Rc.cell_le hx hlg1 hc0; go_simp; (first | (fail) | ((try go_bits); (try go_simp); (try rfl))))); go_simp; refine hK _ ?_; clear hK K)
    refine Rc.done fun x6 Fs6 hx hle hg => ?_
    obtain ⟨hc6, hf6, _, _, how6⟩ := OwL_set (HOT6.out.below (Rc.undrew hx)) hiT (by omega : 0 < 32) y1
    rw [← HBE1.out] at hc6
    rw [Nat.add_zero] at hc6 hf6 how6
    have hgrow := grownBy_setCell x6 g1 (i * 32) (.int .u8 (y1.toNat : Int))
    have hB5 := HB6.out.trans ((Rc.undrew hx).mono HB6.out.size)
    have HB7 := Lib.hid (Below.setCell hB5 (p := ⟨g1, i * 32, none⟩) hge1 (Value.int .u8 (y1.toNat : Int)))
    have hg7 : (x6.setCell ⟨g1, i * 32, none⟩ (.int .u8 (y1.toNat : Int))).heap[w.heap.size]? = x6.heap[w.heap.size]? := heap_setCell_other _ _ _ _ (by have := HGP1.out; simp; omega)
    have HG7 := Lib.hid (hg7.trans (Rp.row_le (Rc.undrew hx) HG6.out))
    have HOL7 := Lib.hid ((HOL6.out.below (Rc.undrew hx)).kept hgrow (.inr (by have := HGE.out; have := HGE1.out; simp [Value.ownBlock]; omega)))
    have HOT7 := Lib.hid how6
    have HTN2 : Hid ((T.set i ((T.getD i []).set 0 y1)).length = T.length) := Lib.hid List.length_set
    obtain ⟨U, hU⟩ : ∃ U, U = T.set i ((T.getD i []).set 0 y1) := ⟨_, rfl⟩
    rw [← hU] at HOT7 HTN2
    clear hx hle hg hc0 how6 HOT6 HG6 HB6 HOL6 hB5 hgrow hU hg7
    go_wp2_with fail
    refine NoPanic.normal ?_
    obtain ⟨wt, hwt⟩ : ∃ wt, wt = x6.setCell ⟨g1, i * 32, none⟩ (.int .u8 (y1.toNat : Int)) := ⟨_, rfl⟩
    rw [← hwt] at HB7 HG7 HOT7 HOL7 ⊢
    clear hwt hc6 hf6 hy1 em1 hm1I hm1 hiI
    have c0 := past_from HG7.out
    have hgl := lt_of_heap HG7.out
    go_wp2_with (refine l_load rfl _ _ rfl _ (past_ahead HG7.out HA.out) ?_)
    have hck := check_any q c l f a (some ⟨g1, 0, none⟩) (some ⟨g2, 0, none⟩) c1 c2 U M wt (HS.out.below HB7.out) (HLW.out.below HB7.out) (by omega) HA.out (by rw [HTN2.out]; exact HOT7.out.rd) (by rw [HLN2.out]; exact HOL7.out.rd)
    rw [HTN2.out, HLN2.out] at hck
    refine hck.mono ?_
    rintro e w8 ⟨rfl, hb8⟩
    obtain ⟨ck, hcke⟩ : ∃ ck, ck = chk l f a U M := ⟨_, rfl⟩
    have HCK := Lib.hid hcke
    rw [← hcke]
    have HB8 := Lib.hid (HB7.out.trans (hb8.mono HB7.out.size))
    have HG8 := Lib.hid (Rp.row_le hb8 HG7.out)
    have HRU := Lib.hid (show RdL w8 (.slice (some ⟨g1, 0, none⟩) U.length c1) U by rw [HTN2.out]; exact (HOT7.out.below hb8).rd)
    have HRM := Lib.hid (show RdL w8 (.slice (some ⟨g2, 0, none⟩) M.length c2) M by rw [HLN2.out]; exact (HOL7.out.below hb8).rd)
    have HLR := Lib.hid (HLW.out.below HB8.out)
    clear hck hcke hb8 c0 hgl HG7 HOT7 HOL7 HB7
    have c0 := past_from HG8.out
    have hgl := lt_of_heap HG8.out
    rw [← HTN2.out, ← HLN2.out]
    go_wp2_with fail
    refine Rc.region (w8.heap.size) 15 [Rc.F 9 (fun p => .slice p.q U.length p.c) (fun p _ y => Rd y 1 (.slice p.q U.length p.c) U.length (strs U)), Rc.F 11 (fun p => .slice p.q M.length p.c) (fun p _ y => Rd y 1 (.slice p.q M.length p.c) M.length (strs M)), Rc.G 12 [9, 11] (fun _ => .int .i64 ck) (fun _ _ _ => True)] [] (by kernel_rfl) (Nat.le_refl _) (by kernel_rfl) ?_; intro p; simp only [List.take_succ_cons, List.take_zero, List.take_nil, List.drop_succ_cons, List.drop_zero, List.drop_nil]
    iterate 2 (refine Rc.rK rfl rfl ?_; intro K hK; apply Exists.intro; refine ⟨?_, ?_⟩; (focus (intro x hx;  go_simp; (first | (fail) | ((try go_bits); (try go_simp); (try rfl))))); go_simp; refine hK _ ?_; clear hK K)
    refine Rc.r_str rfl rfl 28 9 _ rfl 5 Tryd.underlying9 Tryd.underlying28 Tryd.underlying5 _ _ (l) rfl (fun x hx => HLR.out.below (Rc.undrew hx)) ?_; intro K hK; go_simp; refine hK _ ?_; clear hK K
    iterate 4 (refine Rc.rK rfl rfl ?_; intro K hK; apply Exists.intro; refine ⟨?_, ?_⟩; (focus (intro x hx; have c0x := Rc.cell_le hx hgl c0; go_simp; (first | (fail) | ((try go_bits); (try go_simp); (try rfl))))); go_simp; refine hK _ ?_; clear hK K)
    refine Rc.r_str rfl rfl 28 9 _ rfl 5 Tryd.underlying9 Tryd.underlying28 Tryd.underlying5 _ _ (a) rfl (fun x hx => past_rd (Rp.row_le (Rc.undrew hx) HG8.out) HA.out) ?_; intro K hK; go_simp; refine hK _ ?_; clear hK K
    iterate 1 (refine Rc.rK rfl rfl ?_; intro K hK; apply Exists.intro; refine ⟨?_, ?_⟩; (focus (intro x hx;  go_simp; (first | (fail) | ((try go_bits); (try go_simp); (try rfl))))); go_simp; refine hK _ ?_; clear hK K)
    refine Rc.fK rfl rfl rfl rfl ?_ ?_
    · intro x Fs hx hle hg K hK
      go_wp2_with fail
      refine (texts16_any (some ⟨g1, 0, none⟩) c1 U x (HRU.out.below (Rc.undrew hx)) (by have := HTN2.out; omega)).mono ?_
      rintro e x' ⟨v, rfl, hown, hb⟩
      obtain ⟨q', c', rfl⟩ := Ow_form hown
      go_wp2_with fail
      exact hK ⟨q', c', undef⟩ x' hb (fun F y hF hy => Rd.of_ow (OwF.fresh hown hle hF hy).1)
    intro K hK; go_simp; refine hK _ ?_; clear hK K
    iterate 1 (refine Rc.rK rfl rfl ?_; intro K hK; apply Exists.intro; refine ⟨?_, ?_⟩; (focus (intro x hx;  go_simp; (first | (fail) | ((try go_bits); (try go_simp); (try rfl))))); go_simp; refine hK _ ?_; clear hK K)
    refine Rc.fK rfl rfl rfl rfl ?_ ?_
    · intro x Fs hx hle hg K hK
      go_wp2_with fail
      refine (texts16_any (some ⟨g2, 0, none⟩) c2 M x (HRM.out.below (Rc.undrew hx)) (by have := HLN2.out; omega)).mono ?_
      rintro e x' ⟨v, rfl, hown, hb⟩
      obtain ⟨q', c', rfl⟩ := Ow_form hown
      go_wp2_with fail
      exact hK ⟨q', c', undef⟩ x' hb (fun F y hF hy => Rd.of_ow (OwF.fresh hown hle hF hy).1)
    intro K hK; go_simp; refine hK _ ?_; clear hK K
    refine Rc.fK rfl rfl rfl rfl ?_ ?_
    · intro x Fs hx hle hg K hK
      have HU : Hid (Rd x 1 (.slice (p 9).q U.length (p 9).c) U.length (strs U)) := Lib.hid hg.1
      have HM : Hid (Rd x 1 (.slice (p 11).q M.length (p 11).c) M.length (strs M)) := Lib.hid hg.2.1
      have hbx := HB8.out.trans ((Rc.undrew hx).mono HB8.out.size)
      clear hg
      go_wp2_with fail
      refine (refcheck_any l f a (p 9).q (p 11).q (p 9).c (p 11).c U M x (HT.out.below hbx) (by omega) HA.out HU.out HM.out HRU.out.1 HRM.out.1).mono ?_
      rintro e x' ⟨rfl, hb⟩
      rw [← HCK.out]
      go_wp2_with fail
      exact hK Rc.dflt x' hb (fun _ _ _ _ => trivial)
    intro K hK; go_simp; refine hK _ ?_; clear hK K
    iterate 2 (refine Rc.rK rfl rfl ?_; intro K hK; apply Exists.intro; refine ⟨?_, ?_⟩; (focus (intro x hx;  go_simp; (first | (fail) | ((try go_bits); (try go_simp); (try rfl))))); go_simp; refine hK _ ?_; clear hK K)
    refine Rc.done fun x Fs hx hle hg => ?_
    go_wp2_with fail
    refine NoPanic.normal ?_
    have HB9 := Lib.hid (HB8.out.trans ((Rc.undrew hx).mono HB8.out.size))
    clear hx hle hg
    go_wp2_with fail
    go_ret
    exact ⟨rfl, HB9.out⟩
end Ref
end Go.Proofs.YtmcjjionfmdioaaDoor
