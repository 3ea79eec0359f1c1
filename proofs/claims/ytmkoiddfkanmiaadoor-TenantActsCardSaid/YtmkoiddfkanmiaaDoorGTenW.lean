/- TenantActs: what is gathered of the document, state by state. -/
import Derived.Test.YtmkoiddfkanmiaaDoorGTenS
namespace Go.Proofs.YtmkoiddfkanmiaaDoor
open Go.RowKit Bits Mem Sha Cad
namespace Ten
open Pc
set_option maxRecDepth 100000 in
set_option maxHeartbeats 2000000 in
theorem gath_any (g : Nat → Value) (Q : Exit → Go.Act → World → Prop) (w0 w : World) (n S i : Nat) (q : Option Addr) (jn c : Nat) (qa qd : Option Addr) (ca cd : Nat) (L : List Ten) (st room : Int)
    (hll : L.length ≤ 100) (hp : PairT w0 w S n qa ca L qd cd (L.map core)) (hok : OkT L n) (hs0 : 0 ≤ st) (hs5 : st < 5)
    (h0 : g 0 = .int .i64 n) (h1 : g 1 = .slice q jn c) (h15 : g 15 = .pointer (some ⟨S, 0, none⟩)) (h16 : g 16 = .pointer (some ⟨S + 1, 0, none⟩)) (h17 : g 17 = .int .i64 i)
    (h40 : g 40 = .int .i64 room) (h41 : g 41 = .int .i64 st) (h42 : g 42 = .slice none 0 0) (h43 : g 43 = .int .i64 0)
    (hN : ∀ l w' qo co, FrR l n q jn c S i → l[40]? = some (.int .i64 room) → l[41]? = some (.int .i64 st) → l[42]? = some (.slice qo (idsT L st).length co) → Ow w' w.heap.size 9 1 (.slice qo (idsT L st).length co) (idsT L st).length (strsC (idsT L st)) → Below w.heap.size w w' → Q .normal ⟨l.toArray, []⟩ w') :
    gathA.wp Tryd.prog Q (fr 415 g) w := by
  obtain ⟨i0, hi0, hz0, hz1, hz2⟩ := parts3M infoStrT
  have HN := Lib.hid hN
  have HP := Lib.hid hp
  have HG := Lib.hid hok
  clear hN hp hok
  rw [fr415, h0, h1, h15, h16, h17, h40, h41, h42, h43]
  clear h0 h1 h15 h16 h17 h40 h41 h42 h43
  conv => arg 2; whnf
  go_wp2_with fail
  go_loopw [42, 43] (fun ov iv wr => ∃ (k : Nat) (qo : Option Addr) (co : Nat) (O : List (List UInt8)), k ≤ L.length ∧ iv = .int .i64 k ∧ ov = .slice qo O.length co ∧ Hid (O = idsT (L.take k) st) ∧ Hid (Ow wr w.heap.size 9 1 (.slice qo O.length co) O.length (strsC O)) ∧ Hid (Below w.heap.size w wr)) (fun _ iv _ => L.length - (intOf iv).toNat)
  case atStart => exact ⟨0, none, 0, [], Nat.zero_le _, rfl, rfl, Lib.hid rfl, Lib.hid (Ow.nil _ _ _ _), Lib.hid (Below.refl _ _)⟩
  case round =>
    obtain ⟨k, qo, co, O, hk, rfl, rfl, HOD, HO, HB⟩ := hrel
    have HPR := Lib.hid (HP.out.below HB.out)
    obtain ⟨c0, c1, _, _⟩ := HPR.out.d.cells
    rw [List.length_map] at c1
    by_cases hlt : k < L.length
    · have hltI : (k : Int) < (L.length : Int) := by omega
      obtain ⟨x, hx⟩ : ∃ x, L[k]? = some x := ⟨_, List.getElem?_eq_getElem hlt⟩
      have hxm : (L.map core)[k]? = some (core x) := by rw [List.getElem?_map, hx]; rfl
      obtain ⟨gq, rfl⟩ := HPR.out.d.2.2.some_of_lt (by rw [List.length_map]; omega)
      obtain ⟨r0, r1, _, _, _⟩ := row_cellsE HPR.out.d.2.2 rfl hxm
      have hgl := (HPR.out.d.2.2.lt gq rfl).2
      have HT := Lib.hid (idsT_succ hx st)
      have hxs := (HG.out.st x (List.mem_of_getElem? hx)).1
      have hol : O.length ≤ k := by rw [HOD.out]; have := idsT_len (L.take k) st; rw [List.length_take] at this; omega
      obtain ⟨xi, xs, xp, xd⟩ := x
      replace hxs : 1 ≤ xs := hxs
      replace r0 : wr.cell? ⟨gq, k * 3, none⟩ = some (.string ⟨xi.toArray⟩) := r0
      replace r1 : wr.cell? ⟨gq, k * 3 + 1, none⟩ = some (.int .i64 xs) := r1
      have hrl := HB.out.size
      clear hx hxm
      by_cases hst : xs = st
      · have hstB : (xs == st) = true := by rw [beq_iff_eq]; exact hst
        have hs1 : 0 < st := by omega
        obtain ⟨wl, hwl⟩ : ∃ wl, wl = wr.alloc (.cells #[.string ⟨xi.toArray⟩] 9) := ⟨_, rfl⟩
        have hlit := Rd_lit wr #[.string ⟨xi.toArray⟩] 9 1 1 rfl (by decide)
        have hbl : Below wr.heap.size wr wl := by rw [hwl]; exact (Below.refl wr.heap.size wr).alloc (Nat.le_refl _) _
        rw [← hwl] at hlit
        have HLIT := Lib.hid hlit
        have HWL := Lib.hid hwl
        have HOL := Lib.hid (HO.out.below hbl)
        have hws := hbl.size
        have HBL := Lib.hid hbl
        have HD1 : Hid (O ++ [xi] = idsT (L.take (k + 1)) st) := Lib.hid (by rw [HT.out, HOD.out]; show _ = _ ++ (if (xs == st) = true then _ else _); rw [if_pos hstB])
        clear hlit hwl hbl hst
        go_wp2_with (at_builtin; go_must (rw [← HWL.out]); go_must (refine app_ow3 rfl _ _ 29 29 rfl w.heap.size 9 i0 (.string ⟨#[]⟩) 1 16 Tryd.underlying29 hi0 hz0 hz1 hz2 (by rfl) _ O.length _ rfl HOL.out 1 _ rfl (Rd.src Tryd.underlying29 HLIT.out (strsC_one [xi])) (by unfold maxLen; omega) (by omega) (by omega) ?_); go_must (intro v4 w4 how4 hg4 hn4); go_must (obtain ⟨q4, c4, rfl⟩ := Ow_form how4); go_must (refine Hid.out ?_))
        refine Lib.hid ?_
        have hon : O.length + 1 = (O ++ [xi]).length := by simp
        have HO4 : Hid (Ow w4 w.heap.size 9 1 (.slice q4 (O ++ [xi]).length c4) (O ++ [xi]).length (strsC (O ++ [xi]))) := Lib.hid (by rw [strsC_append, ← hon]; exact how4)
        have hk4 : Kp (fun j => (Value.slice qo O.length co).ownBlock = some j) wr w4 := (Kp.of_below HBL.out).trans (Kp.of_grown hg4) (fun _ _ h => h)
        have HB4 : Hid (Below w.heap.size w w4) := Lib.hid (HB.out.trans (hk4.below hrl (fun j hj => (HO.out.lt j hj).1)))
        clear how4 hg4 hn4 hk4
        rw [hon]
        clear hon
        go_wp2_with fail
        exact ⟨⟨k + 1, q4, c4, O ++ [xi], by omega, by go_num, rfl, HD1, HO4, HB4⟩, by simp [intOf]; omega⟩
      · have hstB : (xs == st) = false := by rw [beq_eq_false_iff_ne]; exact hst
        have HD1 : Hid (O = idsT (L.take (k + 1)) st) := Lib.hid (by rw [HT.out, ← HOD.out]; show _ = _ ++ (if (xs == st) = true then _ else _); rw [hstB]; simp)
        clear hst
        go_wp2_with fail
        exact ⟨⟨k + 1, qo, co, O, by omega, by go_num, rfl, HD1, HO, HB⟩, by simp [intOf]; omega⟩
    · have hltI : ¬ (k : Int) < (L.length : Int) := by omega
      obtain rfl : k = L.length := by omega
      have HE : Hid (O = idsT L st) := Lib.hid (by rw [HOD.out, List.take_length])
      go_wp2_with fail
      exact HN.out _ _ qo co ⟨by kernel_rfl, rfl, rfl, rfl, rfl, rfl⟩ rfl rfl (by rw [← HE.out]; rfl) (by rw [← HE.out]; exact HO.out) HB.out
theorem gath_l (l : List Value) (Q : Exit → Go.Act → World → Prop) (w0 w : World) (n S i : Nat) (q : Option Addr) (jn c : Nat) (qa qd : Option Addr) (ca cd : Nat) (L : List Ten) (st room : Int)
    (hll : L.length ≤ 100) (hp : PairT w0 w S n qa ca L qd cd (L.map core)) (hok : OkT L n) (hs0 : 0 ≤ st) (hs5 : st < 5)
    (hf : FrR l n q jn c S i) (h40 : l[40]? = some (.int .i64 room)) (h41 : l[41]? = some (.int .i64 st)) (h42 : l[42]? = some (.slice none 0 0)) (h43 : l[43]? = some (.int .i64 0))
    (hN : ∀ l w' qo co, FrR l n q jn c S i → l[40]? = some (.int .i64 room) → l[41]? = some (.int .i64 st) → l[42]? = some (.slice qo (idsT L st).length co) → Ow w' w.heap.size 9 1 (.slice qo (idsT L st).length co) (idsT L st).length (strsC (idsT L st)) → Below w.heap.size w w' → Q .normal ⟨l.toArray, []⟩ w') :
    gathA.wp Tryd.prog Q ⟨l.toArray, []⟩ w := by
  obtain ⟨g, he, hg⟩ := lay hf.len
  rw [he]
  exact gath_any g Q w0 w n S i q jn c qa qd ca cd L st room hll hp hok hs0 hs5 (hg _ _ hf.p0) (hg _ _ hf.p1) (hg _ _ hf.p15) (hg _ _ hf.p16) (hg _ _ hf.p17) (hg _ _ h40) (hg _ _ h41) (hg _ _ h42) (hg _ _ h43) hN
end Ten
end Go.Proofs.YtmkoiddfkanmiaaDoor
/- TenantActs: the five states. -/
namespace Go.Proofs.YtmkoiddfkanmiaaDoor
open Go.RowKit Bits Mem Sha Cad
namespace Ten
open Pc
/-- How many places are free, by what has been counted. -/
def roomV (L : List Ten) (n : Nat) (st : Nat) : Int := (n : Int) - (if 1 < st then ((idsT L 1).length : Int) else 0) - (if 2 < st then ((idsT L 2).length : Int) else 0)
set_option maxRecDepth 100000 in
set_option maxHeartbeats 4000000 in
theorem stat_any (g : Nat → Value) (Q : Exit → Go.Act → World → Prop) (w0 w : World) (n S i : Nat) (q : Option Addr) (jn c : Nat) (qa qd : Option Addr) (ca cd : Nat) (L : List Ten)
    (hll : L.length ≤ 100) (hn : n ≤ 8) (hp : PairT w0 w S n qa ca L qd cd (L.map core)) (hok : OkT L n)
    (h0 : g 0 = .int .i64 n) (h1 : g 1 = .slice q jn c) (h15 : g 15 = .pointer (some ⟨S, 0, none⟩)) (h16 : g 16 = .pointer (some ⟨S + 1, 0, none⟩)) (h17 : g 17 = .int .i64 i)
    (h40 : g 40 = .int .i64 n) (h41 : g 41 = .int .i64 0)
    (hN : ∀ l w', FrR l n q jn c S i → l[40]? = some (.int .i64 (roomV L n 5)) → PairT w0 w' S n qa ca L qd cd (L.map core) → Q .normal ⟨l.toArray, []⟩ w') :
    statA.wp Tryd.prog Q (fr 415 g) w := by
  have HN := Lib.hid hN
  have HP := Lib.hid hp
  have HG := Lib.hid hok
  clear hN hp hok
  rw [fr415, h0, h1, h15, h16, h17, h40, h41]
  clear h0 h1 h15 h16 h17 h40 h41
  conv => arg 2; whnf
  go_wp2_with fail
  refine wp_loop (fun a wr => ∃ (l : List Value) (st : Nat), a = ⟨l.toArray, []⟩ ∧ FrR l n q jn c S i ∧ st ≤ 5 ∧ l[40]? = some (.int .i64 (roomV L n st)) ∧ l[41]? = some (.int .i64 (st : Int)) ∧ Hid (PairT w0 wr S n qa ca L qd cd (L.map core))) (fun a _ => 5 - (intOf (a.tmps.getD 41 undef)).toNat) ⟨_, 0, rfl, ⟨by kernel_rfl, rfl, rfl, rfl, rfl, rfl⟩, by decide, (by unfold roomV; simp), rfl, HP⟩ ?_
  clear HP
  rintro a wr ⟨l, st, rfl, hf, h5, hs40, hs41, HPR⟩
  obtain ⟨g1, he1, hg1⟩ := lay hf.len
  obtain ⟨rm, hrm⟩ : ∃ rm, rm = roomV L n st := ⟨_, rfl⟩
  rw [← hrm] at hs40
  refine wp_hideQ (fun Q' hQ => ?_)
  have HQ := Lib.hid hQ
  clear hQ
  rw [he1, fr415, hg1 _ _ hf.p0, hg1 _ _ hf.p1, hg1 _ _ hf.p15, hg1 _ _ hf.p16, hg1 _ _ hf.p17, hg1 _ _ hs40, hg1 _ _ hs41]
  have HS41 := Lib.hid hs41
  have hr1 := idsT_len L 1
  have hr2 := idsT_len L 2
  have hrm0 : rm ≤ 8 ∧ -200 ≤ rm := by
    rw [hrm]
    unfold roomV
    constructor <;> split <;> split <;> omega
  clear he1 hg1 hf hs40 hs41
  have hcase : st = 0 ∨ st = 1 ∨ st = 2 ∨ st = 3 ∨ st = 4 ∨ st = 5 := by omega
  rcases hcase with rfl | rfl | rfl | rfl | rfl | rfl
  · have HRM : Hid (roomV L n 1 = rm) := Lib.hid (by rw [hrm]; rfl)
    clear hrm
    go_upto_block 7 with fail
    refine gath_l _ _ w0 wr n S i q jn c qa qd ca cd L 0 rm (by omega) HPR.out HG.out (by decide) (by decide) ⟨by kernel_rfl, rfl, rfl, rfl, rfl, rfl⟩ rfl rfl rfl rfl ?_
    intro l2 w2 qo co hf2 e40 e41 e42 how hb2
    have HP2 := Lib.hid (HPR.out.below hb2)
    have HO2 := Lib.hid how
    obtain ⟨g2, he2, hg2⟩ := lay hf2.len
    rw [he2, fr415, hg2 _ _ hf2.p0, hg2 _ _ hf2.p1, hg2 _ _ hf2.p15, hg2 _ _ hf2.p16, hg2 _ _ hf2.p17, hg2 _ _ e40, hg2 _ _ e41, hg2 _ _ e42]
    have hl1 := idsT_len L 0
    have HID := Lib.hid (idsT_any S (S + 2) qa ca (n : Int) L 0 w2 HP2.out.a (by omega))
    clear hf2 e40 e41 e42 how hb2 he2 hg2
    go_wp2_with fail
    refine HID.out.mono ?_
    rintro e w3 ⟨qi, ci, rfl, how, hb3⟩
    have HP3 := Lib.hid (HP2.out.below hb3)
    have HSM := Lib.hid (same_any qi qo ci co (idsT L 0) w3 (Rd.of_ow how) ((Rd.of_ow HO2.out).below hb3) (by omega))
    clear how hb3 HID
    go_wp2_with fail
    refine HSM.out.mono ?_
    rintro e w4 ⟨rfl, hb4⟩
    have HP4 := Lib.hid (HP3.out.below hb4)
    clear hb4
    go_wp2_with fail
    exact HQ.out .normal _ _ ⟨⟨_, 1, rfl, ⟨by kernel_rfl, rfl, rfl, rfl, rfl, rfl⟩, by decide, (by rw [HRM.out]; rfl), rfl, HP4⟩, by rw [slot HS41.out, slot (l := _) (v := .int .i64 ((1 : Nat) : Int)) rfl]; decide⟩
  · have HRM : Hid (roomV L n 2 = rm - ((idsT L 1).length : Int)) := Lib.hid (by rw [hrm]; unfold roomV; simp)
    clear hrm
    go_upto_block 7 with fail
    refine gath_l _ _ w0 wr n S i q jn c qa qd ca cd L 1 rm (by omega) HPR.out HG.out (by decide) (by decide) ⟨by kernel_rfl, rfl, rfl, rfl, rfl, rfl⟩ rfl rfl rfl rfl ?_
    intro l2 w2 qo co hf2 e40 e41 e42 how hb2
    have HP2 := Lib.hid (HPR.out.below hb2)
    have HO2 := Lib.hid how
    obtain ⟨g2, he2, hg2⟩ := lay hf2.len
    rw [he2, fr415, hg2 _ _ hf2.p0, hg2 _ _ hf2.p1, hg2 _ _ hf2.p15, hg2 _ _ hf2.p16, hg2 _ _ hf2.p17, hg2 _ _ e40, hg2 _ _ e41, hg2 _ _ e42]
    have hl1 := idsT_len L 1
    have HID := Lib.hid (idsT_any S (S + 2) qa ca (n : Int) L 1 w2 HP2.out.a (by omega))
    clear hf2 e40 e41 e42 how hb2 he2 hg2
    go_wp2_with fail
    refine HID.out.mono ?_
    rintro e w3 ⟨qi, ci, rfl, how, hb3⟩
    have HP3 := Lib.hid (HP2.out.below hb3)
    have HSM := Lib.hid (same_any qi qo ci co (idsT L 1) w3 (Rd.of_ow how) ((Rd.of_ow HO2.out).below hb3) (by omega))
    clear how hb3 HID
    go_wp2_with fail
    refine HSM.out.mono ?_
    rintro e w4 ⟨rfl, hb4⟩
    have HP4 := Lib.hid (HP3.out.below hb4)
    clear hb4
    go_wp2_with fail
    exact HQ.out .normal _ _ ⟨⟨_, 2, rfl, ⟨by kernel_rfl, rfl, rfl, rfl, rfl, rfl⟩, by decide, (by rw [HRM.out]; rfl), rfl, HP4⟩, by rw [slot HS41.out, slot (l := _) (v := .int .i64 ((2 : Nat) : Int)) rfl]; decide⟩
  · have HRM : Hid (roomV L n 3 = rm - ((idsT L 2).length : Int)) := Lib.hid (by rw [hrm]; unfold roomV; simp)
    clear hrm
    go_upto_block 7 with fail
    refine gath_l _ _ w0 wr n S i q jn c qa qd ca cd L 2 rm (by omega) HPR.out HG.out (by decide) (by decide) ⟨by kernel_rfl, rfl, rfl, rfl, rfl, rfl⟩ rfl rfl rfl rfl ?_
    intro l2 w2 qo co hf2 e40 e41 e42 how hb2
    have HP2 := Lib.hid (HPR.out.below hb2)
    have HO2 := Lib.hid how
    obtain ⟨g2, he2, hg2⟩ := lay hf2.len
    rw [he2, fr415, hg2 _ _ hf2.p0, hg2 _ _ hf2.p1, hg2 _ _ hf2.p15, hg2 _ _ hf2.p16, hg2 _ _ hf2.p17, hg2 _ _ e40, hg2 _ _ e41, hg2 _ _ e42]
    have hl1 := idsT_len L 2
    have HID := Lib.hid (idsT_any S (S + 2) qa ca (n : Int) L 2 w2 HP2.out.a (by omega))
    clear hf2 e40 e41 e42 how hb2 he2 hg2
    go_wp2_with fail
    refine HID.out.mono ?_
    rintro e w3 ⟨qi, ci, rfl, how, hb3⟩
    have HP3 := Lib.hid (HP2.out.below hb3)
    have HSM := Lib.hid (same_any qi qo ci co (idsT L 2) w3 (Rd.of_ow how) ((Rd.of_ow HO2.out).below hb3) (by omega))
    clear how hb3 HID
    go_wp2_with fail
    refine HSM.out.mono ?_
    rintro e w4 ⟨rfl, hb4⟩
    have HP4 := Lib.hid (HP3.out.below hb4)
    clear hb4
    go_wp2_with fail
    exact HQ.out .normal _ _ ⟨⟨_, 3, rfl, ⟨by kernel_rfl, rfl, rfl, rfl, rfl, rfl⟩, by decide, (by rw [HRM.out]; rfl), rfl, HP4⟩, by rw [slot HS41.out, slot (l := _) (v := .int .i64 ((3 : Nat) : Int)) rfl]; decide⟩
  · have HRM : Hid (roomV L n 4 = rm) := Lib.hid (by rw [hrm]; rfl)
    clear hrm
    go_upto_block 7 with fail
    refine gath_l _ _ w0 wr n S i q jn c qa qd ca cd L 3 rm (by omega) HPR.out HG.out (by decide) (by decide) ⟨by kernel_rfl, rfl, rfl, rfl, rfl, rfl⟩ rfl rfl rfl rfl ?_
    intro l2 w2 qo co hf2 e40 e41 e42 how hb2
    have HP2 := Lib.hid (HPR.out.below hb2)
    have HO2 := Lib.hid how
    obtain ⟨g2, he2, hg2⟩ := lay hf2.len
    rw [he2, fr415, hg2 _ _ hf2.p0, hg2 _ _ hf2.p1, hg2 _ _ hf2.p15, hg2 _ _ hf2.p16, hg2 _ _ hf2.p17, hg2 _ _ e40, hg2 _ _ e41, hg2 _ _ e42]
    have hl1 := idsT_len L 3
    have HID := Lib.hid (idsT_any S (S + 2) qa ca (n : Int) L 3 w2 HP2.out.a (by omega))
    clear hf2 e40 e41 e42 how hb2 he2 hg2
    go_wp2_with fail
    refine HID.out.mono ?_
    rintro e w3 ⟨qi, ci, rfl, how, hb3⟩
    have HP3 := Lib.hid (HP2.out.below hb3)
    have HSM := Lib.hid (same_any qi qo ci co (idsT L 3) w3 (Rd.of_ow how) ((Rd.of_ow HO2.out).below hb3) (by omega))
    clear how hb3 HID
    go_wp2_with fail
    refine HSM.out.mono ?_
    rintro e w4 ⟨rfl, hb4⟩
    have HP4 := Lib.hid (HP3.out.below hb4)
    clear hb4
    go_wp2_with fail
    exact HQ.out .normal _ _ ⟨⟨_, 4, rfl, ⟨by kernel_rfl, rfl, rfl, rfl, rfl, rfl⟩, by decide, (by rw [HRM.out]; rfl), rfl, HP4⟩, by rw [slot HS41.out, slot (l := _) (v := .int .i64 ((4 : Nat) : Int)) rfl]; decide⟩
  · have HRM : Hid (roomV L n 5 = rm) := Lib.hid (by rw [hrm]; rfl)
    clear hrm
    go_upto_block 7 with fail
    refine gath_l _ _ w0 wr n S i q jn c qa qd ca cd L 4 rm (by omega) HPR.out HG.out (by decide) (by decide) ⟨by kernel_rfl, rfl, rfl, rfl, rfl, rfl⟩ rfl rfl rfl rfl ?_
    intro l2 w2 qo co hf2 e40 e41 e42 how hb2
    have HP2 := Lib.hid (HPR.out.below hb2)
    have HO2 := Lib.hid how
    obtain ⟨g2, he2, hg2⟩ := lay hf2.len
    rw [he2, fr415, hg2 _ _ hf2.p0, hg2 _ _ hf2.p1, hg2 _ _ hf2.p15, hg2 _ _ hf2.p16, hg2 _ _ hf2.p17, hg2 _ _ e40, hg2 _ _ e41, hg2 _ _ e42]
    have hl1 := idsT_len L 4
    have HID := Lib.hid (idsT_any S (S + 2) qa ca (n : Int) L 4 w2 HP2.out.a (by omega))
    clear hf2 e40 e41 e42 how hb2 he2 hg2
    go_wp2_with fail
    refine HID.out.mono ?_
    rintro e w3 ⟨qi, ci, rfl, how, hb3⟩
    have HP3 := Lib.hid (HP2.out.below hb3)
    have HSM := Lib.hid (same_any qi qo ci co (idsT L 4) w3 (Rd.of_ow how) ((Rd.of_ow HO2.out).below hb3) (by omega))
    clear how hb3 HID
    go_wp2_with fail
    refine HSM.out.mono ?_
    rintro e w4 ⟨rfl, hb4⟩
    have HP4 := Lib.hid (HP3.out.below hb4)
    clear hb4
    go_wp2_with fail
    exact HQ.out .normal _ _ ⟨⟨_, 5, rfl, ⟨by kernel_rfl, rfl, rfl, rfl, rfl, rfl⟩, by decide, (by rw [HRM.out]; rfl), rfl, HP4⟩, by rw [slot HS41.out, slot (l := _) (v := .int .i64 ((5 : Nat) : Int)) rfl]; decide⟩
  · have HRM : Hid (roomV L n 5 = rm) := Lib.hid hrm.symm
    clear hrm
    go_wp2_with fail
    exact HQ.out (.exit 5) _ _ (HN.out _ _ ⟨by kernel_rfl, rfl, rfl, rfl, rfl, rfl⟩ (by rw [HRM.out]; rfl) HPR.out)
theorem stat_l (l : List Value) (Q : Exit → Go.Act → World → Prop) (w0 w : World) (n S i : Nat) (q : Option Addr) (jn c : Nat) (qa qd : Option Addr) (ca cd : Nat) (L : List Ten)
    (hll : L.length ≤ 100) (hn : n ≤ 8) (hp : PairT w0 w S n qa ca L qd cd (L.map core)) (hok : OkT L n)
    (hf : FrR l n q jn c S i) (h40 : l[40]? = some (.int .i64 n)) (h41 : l[41]? = some (.int .i64 0))
    (hN : ∀ l w', FrR l n q jn c S i → l[40]? = some (.int .i64 (roomV L n 5)) → PairT w0 w' S n qa ca L qd cd (L.map core) → Q .normal ⟨l.toArray, []⟩ w') :
    statA.wp Tryd.prog Q ⟨l.toArray, []⟩ w := by
  obtain ⟨g, he, hg⟩ := lay hf.len
  rw [he]
  exact stat_any g Q w0 w n S i q jn c qa qd ca cd L hll hn hp hok (hg _ _ hf.p0) (hg _ _ hf.p1) (hg _ _ hf.p15) (hg _ _ hf.p16) (hg _ _ hf.p17) (hg _ _ h40) (hg _ _ h41) hN
end Ten
end Go.Proofs.YtmkoiddfkanmiaaDoor
