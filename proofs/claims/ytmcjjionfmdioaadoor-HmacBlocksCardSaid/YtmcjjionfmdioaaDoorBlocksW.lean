/- The walk of custumallaw03.HmacBlocks. -/
import Derived.Test.YtmcjjionfmdioaaDoorBlocks
import Derived.Test.YtmcjjionfmdioaaDoorPlanT
namespace Go.Proofs.YtmcjjionfmdioaaDoor
open Go.RowKit Bits Mem Sha
namespace Ref
theorem app_make {P : Program} {ops : Array Oper} {rest : List Oper} {o : Oper} {a : Act} {w : World} {Q : Exit → Act → World → Prop} (hgd : o.guard = none) (s y : Operand) (t tn ts : TypeId)
    (ho : o.op = .call { callee := .builtin .append, args := #[s, y], argTypes := #[t, tn] })
    (base : Nat) (e : TypeId) (i : TypeInfo) (k : IntKind) (ht : P.underlying t = some (.slice e)) (hk : P.underlying tn = some (.int k)) (hts : P.underlying ts = some .string) (hi : P.info? e = some i) (hz : i.zero = some (.int .u8 0))
    (hsize : i.size = 1) (hby : i.bytes = 1)
    (v : Value) (n : Nat) (l : List UInt8) (hs : a.eval s = v) (hown : Ow w base e 1 v n (bys l))
    (m : Nat) (hx : a.eval y = .int .i64 (m : Int)) (h63 : n + m ≤ 1000000) (hbase : base ≤ w.heap.size)
    (h : ∀ v' w', Ow w' base e 1 v' (n + m) (bys (l ++ List.replicate m 0)) → w.grownBy w' v.ownBlock → wpList P ops Q rest (a.put o.dst v') w') : wpList P ops Q (o :: rest) a w := by
  have hsrc := Src.ofString (P := P) w hts (nul m)
  rw [nul_size, byteCells_nul] at hsrc
  obtain ⟨v', w', hr, h1, h2⟩ := run_app_ow (P := P) (ty := o.type) ht hi hz hsize hby rfl hown hsrc (by unfold maxLen; omega) (by omega) hbase
  obtain ⟨p, c, rfl⟩ := Ow_form hown
  have hold : ∃ olds : Array Value, (Builtin.firstCells 1 n (.slice p n c)).run P w.drew = .ok olds w.drew := by
    have hrd := Rd.of_ow hown
    rcases hrd.2 with ⟨hv, h0⟩ | ⟨b, off, cap', hv, _, _, _, hc⟩
    · cases hv
      exact ⟨_, run_firstCells_none w.drew 1 0 0 0⟩
    · cases hv
      exact ⟨_, run_firstCells_some w.drew 1 n ⟨b, off, none⟩ n c (bys l) hown.1 (fun j u hu => by rw [addr_add]; exact hc j u hu)⟩
  obtain ⟨olds, hold⟩ := hold
  rw [← run_app_make ht hk hts hi hz hsize hby p n c m h63 olds hold] at hr
  rw [bys_append, bys_nul] at h
  refine wpList_plain hgd fun K hK => ?_
  unfold Oper.wp
  simp [execOp, ho, resolve, invoke, builtin, hs, hx, hr, Result.andThen]
  exact hK _ _ (h v' w' h1 h2)
theorem hmac_sha (k m : List UInt8) (h : 64 < k.length) : hmac (sha k) m = hmac k m := by
  unfold hmac macKey
  rw [if_pos h, if_neg (by rw [sha_length]; omega)]
theorem hmac_nul (k m : List UInt8) (j : Nat) (h : k.length + j ≤ 64) : hmac (k ++ List.replicate j 0) m = hmac k m := by
  have hf : fill (k ++ List.replicate j 0) = fill k := by
    unfold fill
    rw [List.length_append, List.length_replicate, List.append_assoc, List.replicate_append_replicate]
    congr 2
    omega
  unfold hmac macKey padk
  rw [if_neg (by rw [List.length_append, List.length_replicate]; omega), if_neg (by omega), hf]
set_option maxRecDepth 100000 in
set_option maxHeartbeats 4000000 in
theorem hmacBlocks_any (qa qb : Option Addr) (ca cb : Nat) (a b : List UInt8) (more : Int) (w : World) (hS : Sha.Tabs w) (hR : Ref.Tabs w) (ha : Rd w 1 (.slice qa a.length ca) a.length (bys a)) (hb : Rd w 1 (.slice qb b.length cb) b.length (bys b)) :
    Calls Tryd.prog 11 #[.slice qa a.length ca, .int .i64 more, .slice qb b.length cb] w fun e w' => e = .returned (.bool true) ∧ Below w.heap.size w w' := by
  obtain ⟨i0, hi, hz0, hz1, hz2⟩ := parts3 info1
  have HS := Lib.hid hS
  have HR := Lib.hid hR
  have hcapA := Rd_cap ha
  have hcapB := Rd_cap hb
  have HBRD := Lib.hid (Rd_take hb (Nat.min_le_left b.length 200))
  have HARD := Lib.hid (Rd_take ha (Nat.min_le_left a.length 200))
  have hminA : (if (200 : Int) < (a.length : Int) then (200 : Int) else (a.length : Int)) = ((min a.length 200 : Nat) : Int) := by split <;> omega
  have hminB : (if (200 : Int) < (b.length : Int) then (200 : Int) else (b.length : Int)) = ((min b.length 200 : Nat) : Int) := by split <;> omega
  clear hS hR ha hb
  go_enter Tryd.func11, Tryd.ntmps11
  go_wp2_with fail
  refine Rp.region 11 [(0, true), (1, true), (2, true), (3, true), (4, true), (5, true), (6, true), (7, true), (8, true), (9, true), (10, true)] (by kernel_rfl) (by kernel_rfl) ?_; simp only [Rp.pick, Rp.nth, List.drop_succ_cons, List.drop_zero]
  repeat (refine Rp.stepK rfl ?_; intro K hK; apply Exists.intro; refine ⟨?_, ?_⟩; (focus (intro x hx;  go_simp; (first | (fail) | ((try go_bits); (try go_simp); (try rfl))))); go_simp; refine hK _ ?_; clear hK K)
  refine Rp.s_cut rfl 28 _ _ rfl 5 i0 Tryd.underlying28 hi qa a.length ca (min a.length 200) rfl rfl (by omega) ?_
  intro K hK; go_simp; refine hK _ ?_; clear hK K
  repeat (refine Rp.stepK rfl ?_; intro K hK; apply Exists.intro; refine ⟨?_, ?_⟩; (focus (intro x hx;  go_simp; (first | (fail) | ((try go_bits); (try go_simp); (try rfl))))); go_simp; refine hK _ ?_; clear hK K)
  refine Rp.s_cut rfl 28 _ _ rfl 5 i0 Tryd.underlying28 hi qb b.length cb (min b.length 200) rfl rfl (by omega) ?_
  intro K hK; go_simp; refine hK _ ?_; clear hK K
  repeat (refine Rp.stepK rfl ?_; intro K hK; apply Exists.intro; refine ⟨?_, ?_⟩; (focus (intro x hx;  go_simp; (first | (fail) | ((try go_bits); (try go_simp); (try rfl))))); go_simp; refine hK _ ?_; clear hK K)
  refine Rp.done ?_
  obtain ⟨A, hXA⟩ : ∃ A, A = a.take (min a.length 200) := ⟨_, rfl⟩
  have hlA : min a.length 200 = A.length := by rw [hXA, List.length_take]; omega
  have hsA : A.length ≤ 200 := by omega
  rw [← hXA] at HARD
  rw [hlA] at HARD ⊢
  clear hXA hlA
  obtain ⟨B, hXB⟩ : ∃ B, B = b.take (min b.length 200) := ⟨_, rfl⟩
  have hlB : min b.length 200 = B.length := by rw [hXB, List.length_take]; omega
  have hsB : B.length ≤ 200 := by omega
  rw [← hXB] at HBRD
  rw [hlB] at HBRD ⊢
  clear hXB hlB hminA hminB hcapA hcapB
  obtain ⟨wd, hwd⟩ : ∃ wd, wd = w.drew := ⟨_, rfl⟩
  have hbd : Below w.heap.size w wd := by rw [hwd]; exact (Below.refl _ _).drew
  rw [← hwd]
  have HA := Lib.hid (HARD.out.below hbd)
  have HB := Lib.hid (HBRD.out.below hbd)
  have HBD := Lib.hid hbd
  clear hwd hbd HARD HBRD
  go_wp2_with fail
  refine NoPanic.normal ?_
  by_cases hk : 64 < A.length
  · have hk0 : (64 : Int) < A.length := by omega
    go_wp2_with (refine conv_str rfl 28 9 _ rfl 5 Tryd.underlying9 Tryd.underlying28 Tryd.underlying5 _ A.length A rfl HA.out ?_)
    refine (sum_any ⟨A.toArray⟩ A (by rfl) _ (HR.out.below HBD.out) (by omega)).mono ?_
    rintro e w1 ⟨rfl, hb1⟩
    have HB1 := Lib.hid (HB.out.below hb1)
    have HA1 := Lib.hid (HA.out.below hb1)
    have HBW1 := Lib.hid (HBD.out.trans (hb1.mono HBD.out.size))
    have HSL := Lib.hid (sha_length A)
    have HEQ : Hid (∀ m, hmac (sha A) m = hmac A m) := Lib.hid (fun m => hmac_sha A m hk)
    obtain ⟨S, hS⟩ : ∃ S, S = sha A := ⟨_, rfl⟩
    rw [← hS] at HSL HEQ ⊢
    clear hS hb1 HA HB
    go_wp2_with fail
    refine (marks_any _ (HS.out.below HBW1.out)).mono ?_
    rintro e w2 ⟨rfl, hb2⟩
    have HB2 := Lib.hid (HB1.out.below hb2)
    have HA2 := Lib.hid (HA1.out.below hb2)
    have HBW2 := Lib.hid (HBW1.out.trans (hb2.mono HBW1.out.size))
    clear hb2 HB1 HA1 HBW1
    go_wp2_with fail
    have hx3 : Below w2.heap.size w2 (w2.alloc (.cells #[.slice qb B.length cb] 28)) := (Below.refl _ _).alloc (Nat.le_refl _) _
    have hp3 := Parts.lit1 w2 B _ ⟨_, _, rfl, HB2.out⟩
    have HF : Hid ([B].flatten = B) := Lib.hid (by simp)
    obtain ⟨w3, hw3⟩ : ∃ w3, w3 = w2.alloc (.cells #[.slice qb B.length cb] 28) := ⟨_, rfl⟩
    rw [← hw3] at hx3 hp3 ⊢
    have HBW3 := Lib.hid (HBW2.out.trans (hx3.mono HBW2.out.size))
    have HB3 := Lib.hid (HB2.out.below hx3)
    refine (of_any _ _ A _ _ [B] w3 (HS.out.below HBW3.out) (HA2.out.below hx3) hp3 (by rw [HF.out]; omega) (by omega)).mono ?_
    rintro e w4 ⟨rfl, hb4⟩
    rw [HF.out]
    have HB4 := Lib.hid (HB3.out.below hb4)
    have HBW4 := Lib.hid (HBW3.out.trans (hb4.mono HBW3.out.size))
    clear hb4 HBW3 HB3 hx3 hp3 hw3 HA2 HB2 HBW2
    have HML := Lib.hid (hmac_length A B)
    obtain ⟨M, hM⟩ : ∃ M, M = hmac A B := ⟨_, rfl⟩
    have HMM : Hid (hmac S B = M) := Lib.hid (by rw [hM]; exact HEQ.out B)
    rw [← hM] at HML ⊢
    clear hM HEQ
    go_wp2_with (refine unguard (by rfl) ?_; refine conv_bytes rfl 9 28 _ rfl 5 Tryd.underlying9 Tryd.underlying28 Tryd.underlying5 ⟨S.toArray⟩ rfl w4.heap.size (Nat.le_refl _) (by unfold maxLen; simp [ByteArray.size, HSL.out]) ?_; go_must (intro v5 w5 how5 hb5); go_must (obtain ⟨q5, c5, rfl⟩ := Ow_form how5))
    have HS5 := Lib.hid (Rd.of_ow how5)
    have HB5 := Lib.hid (HB4.out.below hb5)
    have HBW5 := Lib.hid (HBW4.out.trans (hb5.mono HBW4.out.size))
    clear how5 hb5 HB4 HBW4
    have hx6 : Below w5.heap.size w5 (w5.alloc (.cells #[.slice qb B.length cb] 28)) := (Below.refl _ _).alloc (Nat.le_refl _) _
    have hp6 := Parts.lit1 w5 B _ ⟨_, _, rfl, HB5.out⟩
    obtain ⟨w6, hw6⟩ : ∃ w6, w6 = w5.alloc (.cells #[.slice qb B.length cb] 28) := ⟨_, rfl⟩
    rw [← hw6] at hx6 hp6 ⊢
    have HBW6 := Lib.hid (HBW5.out.trans (hx6.mono HBW5.out.size))
    refine (of_any _ _ S _ _ [B] w6 (HS.out.below HBW6.out) (HS5.out.below hx6) hp6 (by rw [HF.out]; omega) (by rw [HSL.out]; omega)).mono ?_
    rintro e w7 ⟨rfl, hb7⟩
    rw [HF.out, HMM.out]
    have HBW7 := Lib.hid (HBW6.out.trans (hb7.mono HBW6.out.size))
    have hml := HML.out
    clear hb7 hx6 hp6 hw6 HS5 HB5 HBW5 HBW6
    go_wp2_with fail
    go_ret
    exact ⟨rfl, HBW7.out⟩
  · have hk0 : ¬ (64 : Int) < A.length := by omega
    obtain ⟨j, hj, ej⟩ := modlen more (65 - A.length) (by omega) (by omega)
    have e65 : ((65 - A.length : Nat) : Int) = 65 - (A.length : Int) := by omega
    rw [e65] at ej
    have hjA : A.length + j ≤ 64 := by omega
    have h65 : (0 : Int) ≤ 65 - (A.length : Int) := by omega
    have hne : ¬ (65 - (A.length : Int) = 0) := by omega
    have hlt65 : 65 - (A.length : Int) ≤ 65 := by omega
    have HJA := Lib.hid hjA
    go_wp2_with fail
    obtain ⟨v0, hv0⟩ : ∃ v0, v0 = wd.drew := ⟨_, rfl⟩
    have hbv : Below wd.heap.size wd v0 := by rw [hv0]; exact (Below.refl _ _).drew
    refine Rb.plan (wd.heap.size) 12 (.s 1 (.s 3 (.s 4 (.s 5 (.s 6 (.s 7 (.s 8 (.s 9 (.s 10 (.f 0 (.f 2 (.f 11 (.done))))))))))))) (by kernel_rfl) (by kernel_rfl) ?_; simp only [List.drop_succ_cons, List.drop_zero]
    rw [← hv0]
    have HAV := Lib.hid (HA.out.below hbv)
    have HBV := Lib.hid (HB.out.below hbv)
    have HX0 := Lib.hid hbv
    clear hv0 hbv
    repeat (refine Rb.pK rfl rfl ?_; intro K hK; apply Exists.intro; refine ⟨?_, ?_⟩; (focus (intro x hx;  go_simp; (first | (fail) | ((try go_bits); (try go_simp); (try rfl))))); go_simp; refine hK _ ?_; clear hK K)
    clear ej h65 hne hlt65 e65 hj
    refine Rb.pF (by rfl) fun K hK => ?_
    go_wp2_with fail
    refine hK _ _ ((Below.refl _ _).alloc HX0.out.size _) ?_; clear hK K
    obtain ⟨u1, hu1⟩ : ∃ u1, u1 = v0.alloc (.cells #[] 5) := ⟨_, rfl⟩
    have HX1 : Hid (Below wd.heap.size wd u1) := Lib.hid (by rw [hu1]; exact HX0.out.alloc HX0.out.size _)
    have HE : Hid (Ow u1 wd.heap.size 5 1 (.slice (some ⟨v0.heap.size, 0, none⟩) 0 0) 0 []) := Lib.hid (by rw [hu1]; exact Ow.lit v0 #[] 5 1 0 wd.heap.size HX0.out.size (Nat.zero_le _) rfl)
    have HA1 : Hid (Rd u1 1 (.slice qa A.length ca) A.length (bys A)) := Lib.hid (by rw [hu1]; exact HAV.out.below ((Below.refl _ _).alloc (Nat.le_refl _) _))
    have HB1 : Hid (Rd u1 1 (.slice qb B.length cb) B.length (bys B)) := Lib.hid (by rw [hu1]; exact HBV.out.below ((Below.refl _ _).alloc (Nat.le_refl _) _))
    rw [← hu1]
    clear hu1 HAV HBV HX0
    refine Rb.pF (by rfl) fun K hK => ?_
    refine app_empty rfl _ _ 28 28 rfl wd.heap.size 5 i0 (.int .u8 0) 1 1 Tryd.underlying28 hi hz0 hz1 hz2 rfl v0.heap.size rfl HE.out _ _ _ rfl (Rd.src Tryd.underlying28 HA1.out (bys_one _)) (by unfold maxLen; omega) (by omega) HX1.out.size ?_
    intro v2 u2 how2 hb2
    obtain ⟨q2, c2, rfl⟩ := Ow_form how2
    have hb2' : Below wd.heap.size u1 u2 := hb2.mono HX1.out.size
    have HX2 := Lib.hid (HX1.out.trans hb2')
    have HO2 := Lib.hid how2
    have HA2 := Lib.hid (HA1.out.below hb2)
    have HB2 := Lib.hid (HB1.out.below hb2)
    go_wp2_with fail
    refine hK _ _ hb2' ?_; clear hK K how2 hb2 hb2' HX1 HE HA1 HB1
    refine Rb.pF (by rfl) fun K hK => ?_
    refine app_make rfl _ _ 28 3 9 rfl wd.heap.size 5 i0 .i64 Tryd.underlying28 Tryd.underlying3 Tryd.underlying9 hi hz0 hz1 hz2 _ _ A rfl HO2.out j rfl (by omega) HX2.out.size ?_
    intro v3 u3 how3 hg3
    obtain ⟨q3, c3, rfl⟩ := Ow_form how3
    have hb3 : Below wd.heap.size u2 u3 := (Below.refl _ _).grown hg3 HX2.out.size (fun k hk => (HO2.out.lt k hk).1)
    go_wp2_with fail
    refine hK _ _ hb3 ?_; clear hK K
    have h3 := HX2.out.trans hb3
    have HA3 := Lib.hid (HA.out.below h3)
    have HB3 := Lib.hid (HB.out.below h3)
    have HBW3 := Lib.hid (HBD.out.trans (h3.mono HBD.out.size))
    have HCL : Hid ((A ++ List.replicate j 0).length = A.length + j) := Lib.hid (by simp)
    have HEQ : Hid (hmac (A ++ List.replicate j 0) B = hmac A B) := Lib.hid (hmac_nul A B j hjA)
    have HC3 := Lib.hid (Rd.of_ow how3)
    obtain ⟨C, hC⟩ : ∃ C, C = A ++ List.replicate j 0 := ⟨_, rfl⟩
    rw [← hC] at HCL HEQ HC3
    rw [← HCL.out] at HC3 ⊢
    have HCS : Hid (C.length ≤ 64) := Lib.hid (by rw [HCL.out]; exact hjA)
    clear hC how3 hg3 hb3 h3 HA2 HB2 HO2 HX2 HA HB HCL HJA hjA
    refine Rb.pDone ?_; go_wp2_with fail; refine NoPanic.normal ?_; go_wp2_with fail
    obtain ⟨w1, hw1⟩ : ∃ w1, w1 = u3 := ⟨_, rfl⟩
    rw [← hw1] at HA3 HB3 HBW3 HC3 ⊢
    clear hw1
    refine (marks_any _ (HS.out.below HBW3.out)).mono ?_
    rintro e w2 ⟨rfl, hb2⟩
    have HB2 := Lib.hid (HB3.out.below hb2)
    have HA2 := Lib.hid (HA3.out.below hb2)
    have HC2 := Lib.hid (HC3.out.below hb2)
    have HBW2 := Lib.hid (HBW3.out.trans (hb2.mono HBW3.out.size))
    clear hb2 HB3 HA3 HC3 HBW3
    go_wp2_with fail
    have hx4 : Below w2.heap.size w2 (w2.alloc (.cells #[.slice qb B.length cb] 28)) := (Below.refl _ _).alloc (Nat.le_refl _) _
    have hp4 := Parts.lit1 w2 B _ ⟨_, _, rfl, HB2.out⟩
    have HF : Hid ([B].flatten = B) := Lib.hid (by simp)
    obtain ⟨w3, hw3⟩ : ∃ w3, w3 = w2.alloc (.cells #[.slice qb B.length cb] 28) := ⟨_, rfl⟩
    rw [← hw3] at hx4 hp4 ⊢
    have HBW3 := Lib.hid (HBW2.out.trans (hx4.mono HBW2.out.size))
    have HB3 := Lib.hid (HB2.out.below hx4)
    have HC3 := Lib.hid (HC2.out.below hx4)
    refine (of_any _ _ A _ _ [B] w3 (HS.out.below HBW3.out) (HA2.out.below hx4) hp4 (by rw [HF.out]; omega) (by omega)).mono ?_
    rintro e w4 ⟨rfl, hb4⟩
    rw [HF.out]
    have HB4 := Lib.hid (HB3.out.below hb4)
    have HC4 := Lib.hid (HC3.out.below hb4)
    have HBW4 := Lib.hid (HBW3.out.trans (hb4.mono HBW3.out.size))
    clear hb4 HBW3 HB3 hx4 hp4 hw3 HA2 HB2 HBW2 HC2 HC3
    have HML := Lib.hid (hmac_length A B)
    obtain ⟨M, hM⟩ : ∃ M, M = hmac A B := ⟨_, rfl⟩
    have HMM : Hid (hmac C B = M) := Lib.hid (by rw [hM]; exact HEQ.out)
    rw [← hM] at HML ⊢
    clear hM HEQ
    go_wp2_with fail
    have hx6 : Below w4.heap.size w4 (w4.alloc (.cells #[.slice qb B.length cb] 28)) := (Below.refl _ _).alloc (Nat.le_refl _) _
    have hp6 := Parts.lit1 w4 B _ ⟨_, _, rfl, HB4.out⟩
    obtain ⟨w6, hw6⟩ : ∃ w6, w6 = w4.alloc (.cells #[.slice qb B.length cb] 28) := ⟨_, rfl⟩
    rw [← hw6] at hx6 hp6 ⊢
    have HBW6 := Lib.hid (HBW4.out.trans (hx6.mono HBW4.out.size))
    refine (of_any _ _ C _ _ [B] w6 (HS.out.below HBW6.out) (HC4.out.below hx6) hp6 (by rw [HF.out]; omega) (by have := HCS.out; omega)).mono ?_
    rintro e w7 ⟨rfl, hb7⟩
    rw [HF.out, HMM.out]
    have HBW7 := Lib.hid (HBW6.out.trans (hb7.mono HBW6.out.size))
    have hml := HML.out
    clear hb7 hx6 hp6 hw6 HB4 HC4 HBW4 HBW6
    go_wp2_with fail
    go_ret
    exact ⟨rfl, HBW7.out⟩
end Ref
end Go.Proofs.YtmcjjionfmdioaaDoor
