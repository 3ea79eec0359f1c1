/- TenantActs: the act's id is turned; the round's tail. -/
import Derived.Test.YtmkoiddfkanmiaaDoorTenV
import Derived.Test.YtmkoiddfkanmiaaDoorGTenW
namespace Go.Proofs.YtmkoiddfkanmiaaDoor
open Go.RowKit Bits Mem Sha Cad
namespace Ten
open Pc
theorem xor66 (x : UInt8) : ∃ y : UInt8, bits .xor .u8 (x.toNat : Int) 66 = (y.toNat : Int) := by
  refine ⟨x ^^^ 66, ?_⟩
  show IntKind.u8.wrap ((BitVec.ofInt 8 (x.toNat : Int) ^^^ BitVec.ofInt 8 66).toNat : Int) = _
  rw [UInt8.toNat_xor]
  have h1 : (BitVec.ofInt 8 (x.toNat : Int)).toNat = x.toNat := by
    rw [BitVec.ofInt_natCast, BitVec.toNat_ofNat]; exact Nat.mod_eq_of_lt (by have := x.toNat_lt; omega)
  have h2 : (BitVec.ofInt 8 66).toNat = (66 : UInt8).toNat := by decide
  rw [BitVec.toNat_xor, h1, h2]
  have : x.toNat ^^^ (66 : UInt8).toNat < 2 ^ 8 := Nat.xor_lt_two_pow (by have := x.toNat_lt; omega) (by decide)
  rw [IntKind.wrap_u8]
  omega
theorem bys_set (J : List UInt8) (k : Nat) (y : UInt8) : (bys J).set k (.int .u8 (y.toNat : Int)) = bys (J.set k y) := by
  unfold bys
  rw [List.map_set]
set_option maxRecDepth 100000 in
set_option maxHeartbeats 2000000 in
theorem turn_any (g : Nat → Value) (Q : Exit → Go.Act → World → Prop) (w0 w : World) (n S i B v : Nat) (q2 : Option Addr) (c2 : Nat) (I : List UInt8) (q : Option Addr) (jn c : Nat) (qa qd : Option Addr) (ca cd : Nat) (L : List Ten) (A : Array Value) (d : Option Addr) (e pl f : Int)
    (hIl : I.length ≤ 20) (hB : w0.heap.size ≤ B) (hp : PairT w0 w S n qa ca L qd cd (L.map core)) (hio : Ow w B 5 1 (.slice q2 I.length c2) I.length (bys I)) (hv : w.heap[v]? = some (.cells A 64 (0, 0)))
    (h0 : g 0 = .int .i64 n) (h1 : g 1 = .slice q jn c) (h15 : g 15 = .pointer (some ⟨S, 0, none⟩)) (h16 : g 16 = .pointer (some ⟨S + 1, 0, none⟩)) (h17 : g 17 = .int .i64 i)
    (h18 : g 18 = .pointer (some ⟨v, 0, none⟩)) (h19 : g 19 = .slice q2 I.length c2) (h20 : g 20 = .string ⟨I.toArray⟩) (h34 : g 34 = .pointer d) (h35 : g 35 = .int .i64 e) (h36 : g 36 = .int .i64 pl) (h37 : g 37 = .int .i64 f) (h38 : g 38 = .int .i64 0)
    (hN : ∀ l w', FrA l n q jn c S i v q2 c2 I → l[34]? = some (.pointer d) → l[35]? = some (.int .i64 e) → l[36]? = some (.int .i64 pl) → l[37]? = some (.int .i64 f) → PairT w0 w' S n qa ca L qd cd (L.map core) → w'.heap[v]? = some (.cells A 64 (0, 0)) → Q .normal ⟨l.toArray, []⟩ w') :
    turnsA.wp Tryd.prog Q (fr 415 g) w := by
  have HN := Lib.hid hN
  have HP := Lib.hid hp
  have HIO := Lib.hid hio
  have HV := Lib.hid hv
  clear hN hp hio hv
  rw [fr415, h0, h1, h15, h16, h17, h18, h19, h20, h34, h35, h36, h37, h38]
  clear h0 h1 h15 h16 h17 h18 h19 h20 h34 h35 h36 h37 h38
  conv => arg 2; whnf
  go_wp2_with fail
  go_loopw [38] (fun iv wr => ∃ (k : Nat) (J : List UInt8), k ≤ I.length ∧ iv = .int .i64 k ∧ Hid (J.length = I.length) ∧ Hid (PairT w0 wr S n qa ca L qd cd (L.map core)) ∧ Hid (Ow wr B 5 1 (.slice q2 I.length c2) I.length (bys J)) ∧ Hid (wr.heap[v]? = some (.cells A 64 (0, 0)))) (fun iv _ => I.length - (intOf iv).toNat)
  case atStart => exact ⟨0, I, Nat.zero_le _, rfl, Lib.hid rfl, HP, HIO, HV⟩
  case round =>
    clear HP HIO HV
    obtain ⟨k, J, hk, rfl, HJ, HP, HIO, HV⟩ := hrel
    by_cases hlt : k < I.length
    · have hltI : (k : Int) < (I.length : Int) := by omega
      obtain ⟨gi, rfl⟩ := HIO.out.some_of_lt (by omega)
      have hkj : k < J.length := by rw [HJ.out]; exact hlt
      obtain ⟨y, hy⟩ := xor66 J[k]
      obtain ⟨b, hb⟩ : ∃ b, b = J[k] := ⟨_, rfl⟩
      have hjk : (bys J)[k]? = some (.int .u8 (b.toNat : Int)) := by unfold bys; rw [List.getElem?_map, List.getElem?_eq_getElem hkj, hb]; rfl
      rw [← hb] at hy
      have d1 := HIO.out.cellx hjk
      have d2 := HIO.out.free (j := k) (by omega)
      have hset := HIO.out.set (.int .u8 (y.toNat : Int)) (j := k) (by omega)
      rw [bys_set] at hset
      have hgr : Kp (fun j => some gi = some j) wr (wr.setCell ⟨gi, k, none⟩ (.int .u8 (y.toNat : Int))) := Kp.of_grown (grown_setCell _ _ _ _)
      obtain ⟨c1, f1, hc1⟩ := HIO.out.typedT rfl
      have hfr := HP.out.free hc1 (by decide) (by decide) (by decide) (by decide)
      have hge := (HIO.out.lt gi rfl).1
      obtain ⟨w2, hw2⟩ : ∃ w2, w2 = wr.setCell ⟨gi, k, none⟩ (.int .u8 (y.toNat : Int)) := ⟨_, rfl⟩
      rw [← hw2] at hset hgr
      have HW2 := Lib.hid hw2
      have HP2 : Hid (PairT w0 w2 S n qa ca L qd cd (L.map core)) := Lib.hid ⟨HP.out.a.at (hgr.block _ (HP.out.ltA _ (.inl rfl)).2 (fun h => by cases h; exact hfr.1 (.inl rfl))) (fun j hj => hgr.block j (HP.out.ltA j (.inr hj)).2 (fun h => by cases h; exact hfr.1 (.inr hj))),
        HP.out.d.at (hgr.block _ (HP.out.ltD _ (.inl rfl)).2 (fun h => by cases h; exact hfr.2 (.inl rfl))) (fun j hj => hgr.block j (HP.out.ltD j (.inr hj)).2 (fun h => by cases h; exact hfr.2 (.inr hj))), HP.out.le, HP.out.kept.trans (hgr.below (by have := HP.out.size; have := HP.out.le; omega) (fun j h => by cases h; omega))⟩
      have HI2 := Lib.hid hset
      have hvl := (Array.getElem?_eq_some_iff.1 HV.out).1
      have HV2 : Hid (w2.heap[v]? = some (.cells A 64 (0, 0))) := Lib.hid ((hgr.block v hvl (fun h => by cases h; exact absurd rfl (ne_typedT hc1 HV.out (by decide)))).trans HV.out)
      have HJ2 : Hid ((J.set k y).length = I.length) := Lib.hid (by rw [List.length_set]; exact HJ.out)
      clear hb hjk hset hgr hc1 hfr hge hw2 hvl HP HIO HV hkj
      go_wp2_with (rw [← HW2.out])
      exact ⟨⟨k + 1, J.set k y, by omega, by go_num, HJ2, HP2, HI2, HV2⟩, by simp [intOf]; omega⟩
    · have hltI : ¬ (k : Int) < (I.length : Int) := by omega
      go_wp2_with fail
      exact HN.out _ _ ⟨⟨by kernel_rfl, rfl, rfl, rfl, rfl, rfl⟩, rfl, rfl, rfl⟩ rfl rfl rfl rfl HP.out HV.out
theorem turn_l (l : List Value) (Q : Exit → Go.Act → World → Prop) (w0 w : World) (n S i B v : Nat) (q2 : Option Addr) (c2 : Nat) (I : List UInt8) (q : Option Addr) (jn c : Nat) (qa qd : Option Addr) (ca cd : Nat) (L : List Ten) (A : Array Value) (d : Option Addr) (e pl f : Int)
    (hIl : I.length ≤ 20) (hB : w0.heap.size ≤ B) (hp : PairT w0 w S n qa ca L qd cd (L.map core)) (hio : Ow w B 5 1 (.slice q2 I.length c2) I.length (bys I)) (hv : w.heap[v]? = some (.cells A 64 (0, 0)))
    (hf : FrA l n q jn c S i v q2 c2 I) (h34 : l[34]? = some (.pointer d)) (h35 : l[35]? = some (.int .i64 e)) (h36 : l[36]? = some (.int .i64 pl)) (h37 : l[37]? = some (.int .i64 f)) (h38 : l[38]? = some (.int .i64 0))
    (hN : ∀ l w', FrA l n q jn c S i v q2 c2 I → l[34]? = some (.pointer d) → l[35]? = some (.int .i64 e) → l[36]? = some (.int .i64 pl) → l[37]? = some (.int .i64 f) → PairT w0 w' S n qa ca L qd cd (L.map core) → w'.heap[v]? = some (.cells A 64 (0, 0)) → Q .normal ⟨l.toArray, []⟩ w') :
    turnsA.wp Tryd.prog Q ⟨l.toArray, []⟩ w := by
  obtain ⟨g, he, hg⟩ := lay hf.r.len
  rw [he]
  exact turn_any g Q w0 w n S i B v q2 c2 I q jn c qa qd ca cd L A d e pl f hIl hB hp hio hv (hg _ _ hf.r.p0) (hg _ _ hf.r.p1) (hg _ _ hf.r.p15) (hg _ _ hf.r.p16) (hg _ _ hf.r.p17) (hg _ _ hf.p18) (hg _ _ hf.p19) (hg _ _ hf.p20) (hg _ _ h34) (hg _ _ h35) (hg _ _ h36) (hg _ _ h37) (hg _ _ h38) hN
set_option maxRecDepth 100000 in
set_option maxHeartbeats 2000000 in
theorem tail_any (g : Nat → Value) (Q : Exit → Go.Act → World → Prop) (w0 w : World) (n S i B v m : Nat) (q2 : Option Addr) (c2 : Nat) (I : List UInt8) (q : Option Addr) (jn c : Nat) (xw xi : Int) (xq : Option Addr) (xn xc : Nat) (xh : Bool)
    (hn1 : 1 ≤ n) (hn8 : n ≤ 8) (hm : m ≤ 50) (hIl : I.length ≤ 20) (hB : w0.heap.size ≤ B)
    (hst : StQ w0 w S n m B q2 c2 I v #[.int .i64 xw, .int .i64 xi, .slice xq xn xc, .bool xh])
    (h0 : g 0 = .int .i64 n) (h1 : g 1 = .slice q jn c) (h15 : g 15 = .pointer (some ⟨S, 0, none⟩)) (h16 : g 16 = .pointer (some ⟨S + 1, 0, none⟩)) (h17 : g 17 = .int .i64 i)
    (h18 : g 18 = .pointer (some ⟨v, 0, none⟩)) (h19 : g 19 = .slice q2 I.length c2) (h20 : g 20 = .string ⟨I.toArray⟩)
    (hN : ∀ l w', FrR l n q jn c S i → EndQ w0 w' S n m → Q .normal ⟨l.toArray, []⟩ w') :
    tailA.wp Tryd.prog Q (fr 415 g) w := by
  have HN := Lib.hid hN
  obtain ⟨qa, ca, qd, cd, L, hll, hp, hok, hio, hv⟩ := hst
  have HP := Lib.hid hp
  have HG := Lib.hid hok
  have HIO := Lib.hid hio
  have HV := Lib.hid hv
  have e3 : w.cell? ⟨v, 3, none⟩ = some (.bool xh) := (cell_of_row _ _ _ _ _ _ hv).trans rfl
  have HNI := Lib.hid (get_nil hok I xh)
  have HGC := Lib.hid (getC_core hok I xh)
  obtain ⟨⟨d, e⟩, hd⟩ : ∃ z, z = getT L I xh := ⟨_, rfl⟩
  obtain ⟨⟨pl, f⟩, hpf⟩ : ∃ z, z = placeT L I := ⟨_, rfl⟩
  have HD := Lib.hid hd
  have HPF := Lib.hid hpf
  have HGE := Lib.hid (getD_any S (S + 2) qa ca n L q2 c2 I xh w hp.a (by omega) hok.srt (Rd.of_ow hio))
  rw [← hd] at HGE HNI HGC
  clear hN hp hok hio hv hd hpf
  rw [fr415, h0, h1, h15, h16, h17, h18, h19, h20]
  clear h0 h1 h15 h16 h17 h18 h19 h20
  conv => arg 2; whnf
  go_wp2_with fail
  refine HGE.out.mono ?_
  rintro _ w1 ⟨rfl, hb⟩
  have HP1 := Lib.hid (HP.out.below hb)
  have HIO1 := Lib.hid (HIO.out.below hb)
  have HV1 := Lib.hid ((hb.block v (Array.getElem?_eq_some_iff.1 HV.out).1).trans HV.out)
  have HPL := Lib.hid (placeT_any S (S + 2) qa ca n L q2 c2 I w1 HP1.out.a (by omega) HG.out.srt (Rd.of_ow HIO1.out))
  rw [← HPF.out] at HPL
  clear hb e3 HP HIO HV HGE
  go_wp2_with fail
  refine HPL.out.mono ?_
  rintro _ w2 ⟨rfl, hb⟩
  have HP2 := Lib.hid (HP1.out.below hb)
  have HIO2 := Lib.hid (HIO1.out.below hb)
  have HV2 := Lib.hid ((hb.block v (Array.getElem?_eq_some_iff.1 HV1.out).1).trans HV1.out)
  clear hb HP1 HIO1 HV1 HPL
  go_upto_block 3 with fail
  refine turn_l _ _ w0 w2 n S i B v q2 c2 I q jn c qa qd ca cd L _ d e pl f hIl hB HP2.out HIO2.out HV2.out ⟨⟨by kernel_rfl, rfl, rfl, rfl, rfl, rfl⟩, rfl, rfl, rfl⟩ rfl rfl rfl rfl rfl ?_
  intro l3 w3 hf3 h34 h35 h36 h37 hp3 hv3
  have HP3 := Lib.hid hp3
  have e3 : w3.cell? ⟨v, 3, none⟩ = some (.bool xh) := (cell_of_row _ _ _ _ _ _ hv3).trans rfl
  have HGR := Lib.hid (getR_any (S + 1) (S + 2) qd cd (n : Int) (L.map core) I xh w3 hp3.d (by rw [List.length_map]; omega) HG.out.srt)
  rw [HGC.out] at HGR
  obtain ⟨g3, he3, hg3⟩ := lay hf3.r.len
  rw [he3, fr415, hg3 _ _ hf3.r.p0, hg3 _ _ hf3.r.p1, hg3 _ _ hf3.r.p15, hg3 _ _ hf3.r.p16, hg3 _ _ hf3.r.p17, hg3 _ _ hf3.p18, hg3 _ _ hf3.p20, hg3 _ _ h34, hg3 _ _ h35, hg3 _ _ h36, hg3 _ _ h37]
  clear hf3 h34 h35 h36 h37 hp3 hv3 he3 hg3 HP2 HIO2 HV2
  go_wp2_with fail
  refine HGR.out.mono ?_
  rintro _ w4 ⟨rfl, hw⟩
  obtain rfl : w3 = w4 := hw.symm
  clear hw HGR
  go_upto_region 56 with fail
  refine asks_l _ _ w0 w3 n S i m I q jn c qa qd ca cd L d e pl f hll (by omega) HP3.out HG.out hIl HNI.out HPF.out ⟨by kernel_rfl, rfl, rfl, rfl, rfl, rfl⟩ rfl rfl rfl rfl rfl rfl ?_
  intro l5 w5 hf5 h355 hp5
  have HP5 := Lib.hid hp5
  obtain ⟨g5, he5, hg5⟩ := lay hf5.len
  rw [he5, fr415, hg5 _ _ hf5.p0, hg5 _ _ hf5.p1, hg5 _ _ hf5.p15, hg5 _ _ hf5.p16, hg5 _ _ hf5.p17, hg5 _ _ h355]
  clear hf5 h355 hp5 he5 hg5 HP3 e3
  go_upto_block 5 with fail
  refine stat_l _ _ w0 w5 n S i q jn c qa qd ca cd L (by omega) hn8 HP5.out HG.out ⟨by kernel_rfl, rfl, rfl, rfl, rfl, rfl⟩ rfl rfl ?_
  intro l6 w6 hf6 h40 hp6
  have HP6 := Lib.hid hp6
  have HRO := Lib.hid (roomT_any S (S + 2) qa ca (n : Int) L w6 hp6.a (by omega) (by omega) (by omega))
  have hrv : roomV L n 5 = (n : Int) - (idsT L 1).length - (idsT L 2).length := by unfold roomV; simp
  rw [hrv] at h40
  obtain ⟨rm, hrm⟩ : ∃ rm, rm = (n : Int) - (idsT L 1).length - (idsT L 2).length := ⟨_, rfl⟩
  rw [← hrm] at HRO h40
  obtain ⟨g6, he6, hg6⟩ := lay hf6.len
  rw [he6, fr415, hg6 _ _ hf6.p0, hg6 _ _ hf6.p1, hg6 _ _ hf6.p15, hg6 _ _ hf6.p16, hg6 _ _ hf6.p17, hg6 _ _ h40]
  clear hf6 h40 hp6 he6 hg6 HP5 hrv hrm
  go_wp2_with fail
  refine HRO.out.mono ?_
  rintro _ w7 ⟨rfl, hb⟩
  have HP7 := Lib.hid (HP6.out.below hb)
  clear hb
  go_wp2_with fail
  exact HN.out _ _ ⟨by kernel_rfl, rfl, rfl, rfl, rfl, rfl⟩ ⟨qa, ca, qd, cd, L, hll, HP7.out, HG.out⟩
theorem tail_l (l : List Value) (Q : Exit → Go.Act → World → Prop) (w0 w : World) (n S i B v m : Nat) (q2 : Option Addr) (c2 : Nat) (I : List UInt8) (q : Option Addr) (jn c : Nat) (xw xi : Int) (xq : Option Addr) (xn xc : Nat) (xh : Bool)
    (hn1 : 1 ≤ n) (hn8 : n ≤ 8) (hm : m ≤ 50) (hIl : I.length ≤ 20) (hB : w0.heap.size ≤ B)
    (hst : StQ w0 w S n m B q2 c2 I v #[.int .i64 xw, .int .i64 xi, .slice xq xn xc, .bool xh])
    (hf : FrA l n q jn c S i v q2 c2 I)
    (hN : ∀ l w', FrR l n q jn c S i → EndQ w0 w' S n m → Q .normal ⟨l.toArray, []⟩ w') :
    tailA.wp Tryd.prog Q ⟨l.toArray, []⟩ w := by
  obtain ⟨g, he, hg⟩ := lay hf.r.len
  rw [he]
  exact tail_any g Q w0 w n S i B v m q2 c2 I q jn c xw xi xq xn xc xh hn1 hn8 hm hIl hB hst (hg _ _ hf.r.p0) (hg _ _ hf.r.p1) (hg _ _ hf.r.p15) (hg _ _ hf.r.p16) (hg _ _ hf.r.p17) (hg _ _ hf.p18) (hg _ _ hf.p19) (hg _ _ hf.p20) hN
end Ten
end Go.Proofs.YtmkoiddfkanmiaaDoor
/- TenantActs: the loop over the acts. -/
namespace Go.Proofs.YtmkoiddfkanmiaaDoor
open Go.RowKit Bits Mem Sha Cad
namespace Mem
theorem l_conv {P : Program} {ops : Array Oper} {Q : Exit → Act → World → Prop} {a : Act} {w : World} {o : Oper} {rest : List Oper} (hg : o.guard = none) (t ts : TypeId) (y : Operand) (ho : o.op = .convert t ts y) (v u : Value) (hx : a.eval y = v)
    (hr : (convert t ts v).run P w = .ok u w)
    (h : wpList P ops Q rest (a.put o.dst u) w) : wpList P ops Q (o :: rest) a w :=
  wpList_plain hg fun K hK => by
    unfold Oper.wp
    simp [execOp, ho, hx, hr, Result.andThen]
    exact hK _ _ h
end Mem
namespace Ten
open Pc
set_option maxRecDepth 100000 in
set_option maxHeartbeats 1000000 in
theorem right_any (g : Nat → Value) (Q : Exit → Go.Act → World → Prop) (w : World) (n S i v : Nat) (q2 : Option Addr) (c2 : Nat) (I : List UInt8) (q : Option Addr) (jn c : Nat) (hIl : I.length ≤ 20)
    (h0 : g 0 = .int .i64 n) (h1 : g 1 = .slice q jn c) (h15 : g 15 = .pointer (some ⟨S, 0, none⟩)) (h16 : g 16 = .pointer (some ⟨S + 1, 0, none⟩)) (h17 : g 17 = .int .i64 i)
    (h18 : g 18 = .pointer (some ⟨v, 0, none⟩)) (h19 : g 19 = .slice q2 I.length c2) (h20 : g 20 = .string ⟨I.toArray⟩)
    (hN : ∀ l, FrA l n q jn c S i v q2 c2 I → l[21]? = some (.bool (decide (1 ≤ I.length ∧ I.length ≤ 16))) → Q .normal ⟨l.toArray, []⟩ w) :
    rightA.wp Tryd.prog Q (fr 415 g) w := by
  have HN := Lib.hid hN
  clear hN
  rw [fr415, h0, h1, h15, h16, h17, h18, h19, h20]
  clear h0 h1 h15 h16 h17 h18 h19 h20
  conv => arg 2; whnf
  by_cases h1 : I.length < 1
  · have h1I : ¬ (1 : Int) ≤ (I.length : Int) := by omega
    have hd : Hid (decide (1 ≤ I.length ∧ I.length ≤ 16) = false) := Lib.hid (decide_eq_false (by omega))
    go_wp2_with fail
    exact HN.out _ ⟨⟨by kernel_rfl, rfl, rfl, rfl, rfl, rfl⟩, rfl, rfl, rfl⟩ (by rw [hd.out]; rfl)
  · have h1I : (1 : Int) ≤ (I.length : Int) := by omega
    by_cases h2 : I.length ≤ 16
    · have h2I : (I.length : Int) ≤ 16 := by omega
      have hd : Hid (decide (1 ≤ I.length ∧ I.length ≤ 16) = true) := Lib.hid (decide_eq_true (by omega))
      go_wp2_with fail
      exact HN.out _ ⟨⟨by kernel_rfl, rfl, rfl, rfl, rfl, rfl⟩, rfl, rfl, rfl⟩ (by rw [hd.out]; rfl)
    · have h2I : ¬ (I.length : Int) ≤ 16 := by omega
      have hd : Hid (decide (1 ≤ I.length ∧ I.length ≤ 16) = false) := Lib.hid (decide_eq_false (by omega))
      go_wp2_with fail
      exact HN.out _ ⟨⟨by kernel_rfl, rfl, rfl, rfl, rfl, rfl⟩, rfl, rfl, rfl⟩ (by rw [hd.out]; rfl)
theorem right_l (l : List Value) (Q : Exit → Go.Act → World → Prop) (w : World) (n S i v : Nat) (q2 : Option Addr) (c2 : Nat) (I : List UInt8) (q : Option Addr) (jn c : Nat) (hIl : I.length ≤ 20)
    (hf : FrA l n q jn c S i v q2 c2 I)
    (hN : ∀ l, FrA l n q jn c S i v q2 c2 I → l[21]? = some (.bool (decide (1 ≤ I.length ∧ I.length ≤ 16))) → Q .normal ⟨l.toArray, []⟩ w) :
    rightA.wp Tryd.prog Q ⟨l.toArray, []⟩ w := by
  obtain ⟨g, he, hg⟩ := lay hf.r.len
  rw [he]
  exact right_any g Q w n S i v q2 c2 I q jn c hIl (hg _ _ hf.r.p0) (hg _ _ hf.r.p1) (hg _ _ hf.r.p15) (hg _ _ hf.r.p16) (hg _ _ hf.r.p17) (hg _ _ hf.p18) (hg _ _ hf.p19) (hg _ _ hf.p20) hN
set_option maxRecDepth 100000 in
set_option maxHeartbeats 4000000 in
theorem loop_any (l0 : List Value) (Q : Exit → Go.Act → World → Prop) (w0 w : World) (n S : Nat) (q : Option Addr) (c : Nat) (J : List Act)
    (hn1 : 1 ≤ n) (hn8 : n ≤ 8) (hS : Sha.Tabs w0) (hJ : Rd w0 4 (.slice q J.length c) J.length (acts J)) (hok : ∀ j ∈ J, j.ok w0)
    (hf0 : FrR l0 n q J.length c S 0) (hE : EndQ w0 w S n 0)
    (hN : ∀ (l : List Value) w', l.length = 415 → Below w0.heap.size w0 w' → Q (.exit 0) ⟨l.toArray, []⟩ w') :
    (Code.loop roundA).wp Tryd.prog Q ⟨l0.toArray, []⟩ w := by
  have HN := Lib.hid hN
  have HS := Lib.hid hS
  have HJ := Lib.hid hJ
  have HOK := Lib.hid hok
  clear hN hS hJ hok
  refine wp_loop (fun a wr => ∃ (l : List Value) (i : Nat), a = ⟨l.toArray, []⟩ ∧ FrR l n q J.length c S i ∧ i ≤ 30 ∧ Hid (EndQ w0 wr S n i)) (fun a _ => 30 - (intOf (a.tmps.getD 17 undef)).toNat) ⟨l0, 0, rfl, hf0, by decide, Lib.hid hE⟩ ?_
  clear hf0 hE
  rintro a wr ⟨l, i, rfl, hf, hi, HE⟩
  obtain ⟨g1, he1, hg1⟩ := lay hf.len
  refine wp_hideQ (fun Q' hQ => ?_)
  have HQ := Lib.hid hQ
  have HS17 := Lib.hid hf.p17
  clear hQ
  rw [he1, fr415, hg1 _ _ hf.p0, hg1 _ _ hf.p1, hg1 _ _ hf.p15, hg1 _ _ hf.p16, hg1 _ _ hf.p17]
  clear he1 hg1 hf
  conv => arg 2; whnf
  obtain ⟨qa, ca, qd, cd, L, hll, hp, hok⟩ := HE.out
  by_cases hj : i < J.length
  · have hjI : (i : Int) < (J.length : Int) := by omega
    by_cases hlt : i < 30
    · have hltI : (i : Int) < 30 := by omega
      obtain ⟨x, hx⟩ : ∃ x, J[i]? = some x := ⟨_, List.getElem?_eq_getElem hj⟩
      have HP := Lib.hid hp
      have HG := Lib.hid hok
      have HRJ := Lib.hid (HJ.out.below HP.out.kept)
      obtain ⟨b, off, rfl, hb, _, _, _⟩ := Rd_lt HRJ.out (by omega)
      have hxo := HOK.out x (List.mem_of_getElem? hx)
      obtain ⟨xw, xi, xq, xc, xr, xh⟩ := x
      have HLD : Hid ((Instr.loadAt 64 (.pointer (some ⟨b, off + i * 4, none⟩))).run Tryd.prog wr = .ok (.agg #[.int .i64 xw, .int .i64 xi, .slice xq xr.length xc, .bool xh]) wr) := Lib.hid (act_load HRJ.out hx)
      obtain ⟨wl, hwl⟩ : ∃ wl, wl = wr.alloc (.cells #[.int .i64 xw, .int .i64 xi, .slice xq xr.length xc, .bool xh] 64) := ⟨_, rfl⟩
      obtain ⟨v, hv⟩ : ∃ v, v = wr.heap.size := ⟨_, rfl⟩
      have hbl : Below wr.heap.size wr wl := by rw [hwl]; exact (Below.refl _ _).alloc (Nat.le_refl _) _
      have hvl : wl.heap[v]? = some (.cells #[.int .i64 xw, .int .i64 xi, .slice xq xr.length xc, .bool xh] 64 (0, 0)) := by rw [hwl, hv]; exact heap_alloc_new wr _
      have HLD2 : Hid ((Instr.loadAt 64 (.pointer (some ⟨v, 0, none⟩))).run Tryd.prog wl = .ok (.agg #[.int .i64 xw, .int .i64 xi, .slice xq xr.length xc, .bool xh]) wl) := Lib.hid (by
        have := run_loadAt_mid (P := Tryd.prog) wl v 0 64 [.int .i64 xw, .int .i64 xi, .slice xq xr.length xc, .bool xh] _ (fun j u hu => by rw [cell_of_row wl v _ _ _ _ hvl, Nat.zero_add]; simpa using hu) Tryd.underlying64 rfl (by kernel_rfl)
        simpa using this)
      have HPL : Hid (PairT w0 wl S n qa ca L qd cd (L.map core)) := Lib.hid (HP.out.below hbl)
      have HID := Lib.hid (actid_any xw xi xq xc xr xh wl ((hxo.2).below HPL.out.kept))
      have HVL := Lib.hid hvl
      have HWL := Lib.hid hwl
      have HVE := Lib.hid hv
      have hvs : v < wl.heap.size := (Array.getElem?_eq_some_iff.1 hvl).1
      have hwb : w0.heap.size ≤ wl.heap.size := HPL.out.kept.size
      clear hx hxo hwl hv hbl hvl hp hok
      go_wp2_with (first | (refine l_load rfl _ _ rfl _ HLD.out ?_) | (rw [← HWL.out, ← HVE.out]; refine l_load rfl _ _ rfl _ HLD2.out ?_))
      refine HID.out.mono ?_
      rintro e w2 ⟨q2, c2, rfl, how, hbd⟩
      obtain ⟨I, hI⟩ : ∃ I, I = actId xi xr := ⟨_, rfl⟩
      have hIl : I.length ≤ 20 := by rw [hI]; exact actId_len xi xr
      rw [← hI] at how ⊢
      have HST : Hid (StQ w0 w2 S n i wl.heap.size q2 c2 I v #[.int .i64 xw, .int .i64 xi, .slice xq xr.length xc, .bool xh]) := Lib.hid ⟨qa, ca, qd, cd, L, hll, HPL.out.below hbd, HG.out, how, (hbd.block v hvs).trans HVL.out⟩
      have HCV : Hid ((convert 24 9 (.slice q2 I.length c2)).run Tryd.prog w2 = .ok (.string ⟨I.toArray⟩) w2) := Lib.hid (run_conv_str (P := Tryd.prog) (Rd.of_ow how) 9 24 5 Tryd.underlying9 Tryd.underlying24 Tryd.underlying5)
      clear hI how hbd HID HLD HLD2 HPL HVL HWL HVE hvs HP HRJ HE
      go_upto_region 18 with (refine l_conv rfl 24 9 _ rfl _ _ rfl HCV.out ?_)
      refine right_l _ _ w2 n S i v q2 c2 I _ J.length c hIl ⟨⟨by kernel_rfl, rfl, rfl, rfl, rfl, rfl⟩, rfl, rfl, rfl⟩ ?_
      intro l2 hf2 h21
      go_step
      go_step
      refine wp_seq ?_
      refine arms_l l2 _ w0 w2 n S i wl.heap.size v q2 c2 I _ J.length c xw xi xq xr.length xc xh hn1 hn8 hlt HS.out HST.out hf2 h21 ?_ ?_
      · intro l3 w3 hf3 hst3
        refine (tail_l l3 _ w0 w3 n S i wl.heap.size v (i + 1) q2 c2 I _ J.length c xw xi xq xr.length xc xh hn1 hn8 (by omega) hIl hwb hst3 hf3 ?_ : Code.wp _ _ _ _ _)
        intro l5 w5 hf5 hE5
        have HE5 := Lib.hid hE5
        obtain ⟨g5, he5, hg5⟩ := lay hf5.len
        rw [he5, fr415, hg5 _ _ hf5.p0, hg5 _ _ hf5.p1, hg5 _ _ hf5.p15, hg5 _ _ hf5.p16, hg5 _ _ hf5.p17]
        go_wp2_with fail
        exact HQ.out .normal _ _ ⟨⟨_, i + 1, rfl, ⟨by kernel_rfl, rfl, rfl, rfl, rfl, rfl⟩, by omega, HE5⟩, by rw [slot HS17.out, slot (l := _) (v := .int .i64 ((i + 1 : Nat) : Int)) rfl]; simp [intOf]; omega⟩
      · intro l5 w5 hf5 hE5
        have HE5 := Lib.hid hE5
        obtain ⟨g5, he5, hg5⟩ := lay hf5.len
        rw [he5, fr415, hg5 _ _ hf5.p0, hg5 _ _ hf5.p1, hg5 _ _ hf5.p15, hg5 _ _ hf5.p16, hg5 _ _ hf5.p17]
        go_wp2_with fail
        exact HQ.out .normal _ _ ⟨⟨_, i + 1, rfl, ⟨by kernel_rfl, rfl, rfl, rfl, rfl, rfl⟩, by omega, HE5⟩, by rw [slot HS17.out, slot (l := _) (v := .int .i64 ((i + 1 : Nat) : Int)) rfl]; simp [intOf]; omega⟩
    · have hltI : ¬ (i : Int) < 30 := by omega
      have HK := Lib.hid hp.kept
      clear hp hok HE
      go_wp2_with fail
      exact HQ.out (.exit 0) _ _ (HN.out _ _ (by kernel_rfl) HK.out)
  · have hjI : ¬ (i : Int) < (J.length : Int) := by omega
    have HK := Lib.hid hp.kept
    clear hp hok HE
    go_wp2_with fail
    exact HQ.out (.exit 0) _ _ (HN.out _ _ (by kernel_rfl) HK.out)
end Ten
end Go.Proofs.YtmkoiddfkanmiaaDoor
/- The walk of TenantActs. -/
namespace Go.Proofs.YtmkoiddfkanmiaaDoor
open Go.RowKit Bits Mem Sha Cad
namespace Ten
open Pc
set_option maxRecDepth 100000 in
set_option maxHeartbeats 1000000 in
theorem create_noneT (q : Option Addr) (n c : Nat) (w : World) : Calls Tryd.prog 16 #[.pointer none, .slice q n c, .agg (bysA K0), .agg #[.int .i64 1, .int .i64 1, .int .i64 1]] w fun e w' => e = .returned (.tuple #[.int .i64 0, .int .i64 1]) ∧ Below w.heap.size w w' := by
  have hbl : Below w.heap.size w ((w.alloc (.cells (bysA K0) 44)).alloc (.cells #[.int .i64 1, .int .i64 1, .int .i64 1] 46)) := ((Below.refl w.heap.size w).alloc (Nat.le_refl _) _).alloc (by have : (w.alloc (.cells (bysA K0) 44)).heap.size = w.heap.size + 1 := Array.size_push _; omega) _
  have HBL := Lib.hid hbl
  clear hbl
  go_enter Tryd.func16, Tryd.ntmps16
  go_wp2_with fail
  go_ret2
  exact ⟨rfl, HBL.out⟩
set_option maxRecDepth 100000 in
set_option maxHeartbeats 4000000 in
theorem acts_any (n0 : Int) (q : Option Addr) (c : Nat) (J : List Act) (w : World) (hS : Sha.Tabs w) (hJ : Rd w 4 (.slice q J.length c) J.length (acts J)) (hok : ∀ j ∈ J, j.ok w) :
    Calls Tryd.prog 6 #[.int .i64 n0, .slice q J.length c] w fun e w' => e = .returned (.bool true) ∧ Below w.heap.size w w' := by
  have HS := Lib.hid hS
  have HJ := Lib.hid hJ
  have HOK := Lib.hid hok
  clear hS hJ hok
  go_enter Tryd.func6, Tryd.ntmps6
  go_wp2_with fail
  refine (noneT w).mono ?_
  rintro e w1 ⟨rfl, hw⟩
  obtain rfl : w = w1 := hw.symm
  clear hw
  go_wp2_with (refine l_buildT rfl 44 _ rfl (bysA K0) keys0 ?_)
  refine (limits_any w).mono ?_
  rintro e w2 ⟨rfl, hb⟩
  have HB2 := Lib.hid hb
  clear hb
  go_wp2_with fail
  refine (create_noneT none 0 0 w2).mono ?_
  rintro e w3 ⟨rfl, hb⟩
  have HB3 := Lib.hid (HB2.out.trans (hb.mono HB2.out.size))
  clear hb HB2
  go_wp2_with fail
  refine (noneT _).mono ?_
  rintro e w1 ⟨rfl, rfl⟩
  go_wp2_with fail
  refine (imp_noneT none none 0 0 _).mono ?_
  rintro e w1 ⟨rfl, rfl⟩
  go_wp2_with fail
  refine (noneT _).mono ?_
  rintro e w1 ⟨rfl, rfl⟩
  go_wp2_with fail
  refine (del_noneT none 0 0 _).mono ?_
  rintro e w1 ⟨rfl, rfl⟩
  go_wp2_with fail
  refine (noneT _).mono ?_
  rintro e w1 ⟨rfl, rfl⟩
  go_wp2_with fail
  refine (getd_noneT none 0 0 true _).mono ?_
  rintro e w1 ⟨rfl, rfl⟩
  go_wp2_with fail
  refine (noneT _).mono ?_
  rintro e w1 ⟨rfl, rfl⟩
  go_wp2_with fail
  refine (place_noneT none 0 0 _).mono ?_
  rintro e w1 ⟨rfl, rfl⟩
  go_wp2_with fail
  refine (tables_any _ (HS.out.below HB3.out)).mono ?_
  rintro e w4 ⟨rfl, hb⟩
  have HB4 := Lib.hid (HB3.out.trans (hb.mono HB3.out.size))
  clear hb HB3
  go_wp2_with fail
  refine (noneT _).mono ?_
  rintro e w1 ⟨rfl, rfl⟩
  go_wp2_with fail
  refine (hold_noneT none 0 0 _).mono ?_
  rintro e w1 ⟨rfl, rfl⟩
  go_wp2_with fail
  refine (noneT _).mono ?_
  rintro e w1 ⟨rfl, rfl⟩
  go_wp2_with fail
  refine (free_noneT none 0 0 _).mono ?_
  rintro e w1 ⟨rfl, rfl⟩
  go_wp2_with fail
  refine (noneT _).mono ?_
  rintro e w1 ⟨rfl, rfl⟩
  go_wp2_with fail
  refine (state_noneT none 0 0 _).mono ?_
  rintro e w1 ⟨rfl, rfl⟩
  go_wp2_with fail
  refine (noneT _).mono ?_
  rintro e w1 ⟨rfl, rfl⟩
  go_wp2_with fail
  refine (ids_noneT 1 _).mono ?_
  rintro e w1 ⟨rfl, rfl⟩
  go_wp2_with fail
  refine (noneT _).mono ?_
  rintro e w1 ⟨rfl, rfl⟩
  go_wp2_with fail
  refine (room_noneT _).mono ?_
  rintro e w1 ⟨rfl, rfl⟩
  by_cases hbad : n0 < 1 ∨ 8 < n0
  · go_wp2_with fail
    refine (newTab_bad n0 hbad _).mono ?_
    rintro e w5 ⟨rfl, rfl⟩
    by_cases hb1 : n0 < 1
    · go_wp2_with fail
      go_ret
      exact ⟨rfl, HB4.out⟩
    · have hb2 : 8 < n0 := by omega
      go_wp2_with fail
      go_ret
      exact ⟨rfl, HB4.out⟩
  obtain ⟨n, rfl⟩ : ∃ n : Nat, n0 = (n : Int) := ⟨n0.toNat, by omega⟩
  have hn1 : 1 ≤ n := by omega
  have hn8 : n ≤ 8 := by omega
  have hnI1 : ¬ (n : Int) < 1 := by omega
  have hnI8 : ¬ (8 : Int) < (n : Int) := by omega
  clear hbad
  obtain ⟨wa, hwa⟩ : ∃ wa, wa = w1.alloc (.cells #[.int .i64 n, .slice none 0 0] 106) := ⟨_, rfl⟩
  obtain ⟨wb, hwb⟩ : ∃ wb, wb = wa.alloc (.cells #[.int .i64 n, .slice none 0 0] 62) := ⟨_, rfl⟩
  obtain ⟨S, hSe⟩ : ∃ S, S = w1.heap.size := ⟨_, rfl⟩
  have hsa : wa.heap.size = S + 1 := by rw [hwa, hSe]; exact Array.size_push _
  have hba : Below w1.heap.size w1 wa := by rw [hwa]; exact (Below.refl _ _).alloc (Nat.le_refl _) _
  have hbb : Below wa.heap.size wa wb := by rw [hwb]; exact (Below.refl _ _).alloc (Nat.le_refl _) _
  have hra : wa.heap[S]? = some (.cells #[.int .i64 n, .slice none 0 0] 106 (0, 0)) := by rw [hwa, hSe]; exact heap_alloc_new w1 _
  have HPB : Hid (PairT w wb S n none 0 [] none 0 []) := Lib.hid ⟨⟨(hbb.block S (by omega)).trans hra, by omega, Ow.nil _ _ _ _⟩, ⟨by rw [hwb, ← hsa]; exact heap_alloc_new wa _, by omega, Ow.nil _ _ _ _⟩, by rw [hSe]; exact HB4.out.size, HB4.out.trans ((hba.trans (hbb.mono hba.size)).mono HB4.out.size)⟩
  have HWA := Lib.hid hwa
  have HWB := Lib.hid hwb
  have HSE := Lib.hid hSe
  have HSA := Lib.hid hsa
  clear hwa hwb hSe hsa hba hbb hra
  go_wp2_with fail
  refine (newTab_any n (by omega) (by omega) w1).mono ?_
  rintro e w9 ⟨rfl, hw⟩
  obtain rfl : w9 = wa := hw.trans HWA.out.symm
  rw [← HSE.out]
  clear hw
  go_wp2_with fail
  rw [← HWB.out, HSA.out]
  refine loop_any _ _ w wb n S q c J hn1 hn8 HS.out HJ.out HOK.out ⟨by kernel_rfl, rfl, rfl, rfl, rfl, rfl⟩ ⟨none, 0, none, 0, [], by decide, HPB.out, srt_nilT, fun x hx => by simp at hx, fun x hx => by simp at hx, fun x hx => by simp at hx⟩ ?_
  intro l wz hl hb
  have HBZ := Lib.hid hb
  obtain ⟨g, he, hg⟩ := lay hl
  rw [he, fr415]
  clear hl hb he hg
  go_wp2_with fail
  go_ret
  exact ⟨rfl, HBZ.out⟩
end Ten
end Go.Proofs.YtmkoiddfkanmiaaDoor
