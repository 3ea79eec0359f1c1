/- A great walk in pieces: code by its regions, frames by their slots. -/
import Derived.Test.YtmkoiddfkanmiaaDoorGTenK
import Derived.Test.YtmkoiddfkanmiaaDoorGTenH
import Derived.Deep.CutRange
import Derived.Deep.CutBlock
import Derived.Deep.DeepCutAuto
namespace Go.Proofs.YtmkoiddfkanmiaaDoor
open Go.RowKit Bits Mem Sha Cad
namespace Pc
def isRegion (r : Nat) : Code → Bool
  | .region k _ _ => k == r
  | _ => false
/-- The piece of a code that begins with region r. -/
def atRegion (r : Nat) : Code → Option Code
  | .seq a b => if isRegion r a then some (.seq a b) else match atRegion r a with
    | some c => some c
    | none => atRegion r b
  | .region k o d => if k == r then some (.region k o d) else none
  | .block _ c => atRegion r c
  | .loop c => atRegion r c
  | .scope c => atRegion r c
  | .cond _ a b => match atRegion r a with
    | some c => some c
    | none => atRegion r b
  | _ => none
/-- The body of the loop that begins with region r. -/
def loopAt (r : Nat) : Code → Option Code
  | .seq a b => match loopAt r a with
    | some c => some c
    | none => loopAt r b
  | .block _ c => loopAt r c
  | .loop (.seq (.seq (.region k o d) x) y) => if k == r then some (.seq (.seq (.region k o d) x) y) else match loopAt r x with
    | some c => some c
    | none => loopAt r y
  | .loop c => loopAt r c
  | .scope c => loopAt r c
  | .cond _ a b => match loopAt r a with
    | some c => some c
    | none => loopAt r b
  | _ => none
/-- Region r itself. -/
def regAt (r : Nat) : Code → Option Code
  | .seq a b => match regAt r a with
    | some c => some c
    | none => regAt r b
  | .region k o d => if k == r then some (.region k o d) else none
  | .block _ c => regAt r c
  | .loop c => regAt r c
  | .scope c => regAt r c
  | .cond _ a b => match regAt r a with
    | some c => some c
    | none => regAt r b
  | _ => none
/-- Block r. -/
def blockAt (r : Nat) : Code → Option Code
  | .seq a b => match blockAt r a with
    | some c => some c
    | none => blockAt r b
  | .block k c => if k == r then some (.block k c) else blockAt r c
  | .loop c => blockAt r c
  | .scope c => blockAt r c
  | .cond _ a b => match blockAt r a with
    | some c => some c
    | none => blockAt r b
  | _ => none
/-- A frame of n slots. -/
def fr (n : Nat) (g : Nat → Value) : Act := ⟨((List.range n).map g).toArray, []⟩
theorem lay {l : List Value} {n : Nat} (h : l.length = n) : ∃ g : Nat → Value, (⟨l.toArray, []⟩ : Act) = fr n g ∧ ∀ k v, l[k]? = some v → g k = v := by
  refine ⟨fun i => l.getD i undef, ?_, ?_⟩
  · unfold fr
    congr 2
    apply List.ext_getElem?
    intro i
    by_cases hi : i < n
    · rw [List.getElem?_map, List.getElem?_range hi]
      simp [List.getD, List.getElem?_eq_getElem (show i < l.length by omega)]
    · rw [List.getElem?_eq_none (by omega), List.getElem?_eq_none (by rw [List.length_map, List.length_range]; omega)]
  · intro k v hk
    simp [List.getD, hk]
theorem wp_hideQ {P : Program} {c : Code} {Q : Exit → Go.Act → World → Prop} {a : Go.Act} {w : World}
    (h : ∀ Q' : Exit → Go.Act → World → Prop, (∀ e a w, Q e a w → Q' e a w) → c.wp P Q' a w) : c.wp P Q a w := h Q (fun _ _ _ q => q)
theorem slot {l : List Value} {k : Nat} {v : Value} (h : l[k]? = some v) : (⟨l.toArray, []⟩ : Go.Act).tmps.getD k undef = v := by
  show l.toArray.getD k undef = v
  obtain ⟨hk, hv⟩ := List.getElem?_eq_some_iff.1 h
  unfold Array.getD
  rw [dif_pos (show k < l.toArray.size from hk)]
  exact hv
end Pc
namespace Ten
open Pc
set_option maxRecDepth 100000 in
theorem fr415 (g : Nat → Value) : fr 415 g = ⟨([g 0, g 1, g 2, g 3, g 4, g 5, g 6, g 7, g 8, g 9, g 10, g 11, g 12, g 13, g 14, g 15, g 16, g 17, g 18, g 19, g 20, g 21, g 22, g 23, g 24, g 25, g 26, g 27, g 28, g 29, g 30, g 31, g 32, g 33, g 34, g 35, g 36, g 37, g 38, g 39, g 40, g 41, g 42, g 43, g 44, g 45, g 46, g 47, g 48, g 49, g 50, g 51, g 52, g 53, g 54, g 55, g 56, g 57, g 58, g 59, g 60, g 61, g 62, g 63, g 64, g 65, g 66, g 67, g 68, g 69, g 70, g 71, g 72, g 73, g 74, g 75, g 76, g 77, g 78, g 79, g 80, g 81, g 82, g 83, g 84, g 85, g 86, g 87, g 88, g 89, g 90, g 91, g 92, g 93, g 94, g 95, g 96, g 97, g 98, g 99, g 100, g 101, g 102, g 103, g 104, g 105, g 106, g 107, g 108, g 109, g 110, g 111, g 112, g 113, g 114, g 115, g 116, g 117, g 118, g 119, g 120, g 121, g 122, g 123, g 124, g 125, g 126, g 127, g 128, g 129, g 130, g 131, g 132, g 133, g 134, g 135, g 136, g 137, g 138, g 139, g 140, g 141, g 142, g 143, g 144, g 145, g 146, g 147, g 148, g 149, g 150, g 151, g 152, g 153, g 154, g 155, g 156, g 157, g 158, g 159, g 160, g 161, g 162, g 163, g 164, g 165, g 166, g 167, g 168, g 169, g 170, g 171, g 172, g 173, g 174, g 175, g 176, g 177, g 178, g 179, g 180, g 181, g 182, g 183, g 184, g 185, g 186, g 187, g 188, g 189, g 190, g 191, g 192, g 193, g 194, g 195, g 196, g 197, g 198, g 199, g 200, g 201, g 202, g 203, g 204, g 205, g 206, g 207, g 208, g 209, g 210, g 211, g 212, g 213, g 214, g 215, g 216, g 217, g 218, g 219, g 220, g 221, g 222, g 223, g 224, g 225, g 226, g 227, g 228, g 229, g 230, g 231, g 232, g 233, g 234, g 235, g 236, g 237, g 238, g 239, g 240, g 241, g 242, g 243, g 244, g 245, g 246, g 247, g 248, g 249, g 250, g 251, g 252, g 253, g 254, g 255, g 256, g 257, g 258, g 259, g 260, g 261, g 262, g 263, g 264, g 265, g 266, g 267, g 268, g 269, g 270, g 271, g 272, g 273, g 274, g 275, g 276, g 277, g 278, g 279, g 280, g 281, g 282, g 283, g 284, g 285, g 286, g 287, g 288, g 289, g 290, g 291, g 292, g 293, g 294, g 295, g 296, g 297, g 298, g 299, g 300, g 301, g 302, g 303, g 304, g 305, g 306, g 307, g 308, g 309, g 310, g 311, g 312, g 313, g 314, g 315, g 316, g 317, g 318, g 319, g 320, g 321, g 322, g 323, g 324, g 325, g 326, g 327, g 328, g 329, g 330, g 331, g 332, g 333, g 334, g 335, g 336, g 337, g 338, g 339, g 340, g 341, g 342, g 343, g 344, g 345, g 346, g 347, g 348, g 349, g 350, g 351, g 352, g 353, g 354, g 355, g 356, g 357, g 358, g 359, g 360, g 361, g 362, g 363, g 364, g 365, g 366, g 367, g 368, g 369, g 370, g 371, g 372, g 373, g 374, g 375, g 376, g 377, g 378, g 379, g 380, g 381, g 382, g 383, g 384, g 385, g 386, g 387, g 388, g 389, g 390, g 391, g 392, g 393, g 394, g 395, g 396, g 397, g 398, g 399, g 400, g 401, g 402, g 403, g 404, g 405, g 406, g 407, g 408, g 409, g 410, g 411, g 412, g 413, g 414] : List Value).toArray, []⟩ := rfl
/-- What the round's slots hold. -/
structure FrR (l : List Value) (n : Nat) (q : Option Addr) (jn c S i : Nat) : Prop where
  len : l.length = 415
  p0 : l[0]? = some (.int .i64 n)
  p1 : l[1]? = some (.slice q jn c)
  p15 : l[15]? = some (.pointer (some ⟨S, 0, none⟩))
  p16 : l[16]? = some (.pointer (some ⟨S + 1, 0, none⟩))
  p17 : l[17]? = some (.int .i64 i)
/-- And the act's. -/
structure FrA (l : List Value) (n : Nat) (q : Option Addr) (jn c S i v : Nat) (q2 : Option Addr) (c2 : Nat) (I : List UInt8) : Prop where
  r : FrR l n q jn c S i
  p18 : l[18]? = some (.pointer (some ⟨v, 0, none⟩))
  p19 : l[19]? = some (.slice q2 I.length c2)
  p20 : l[20]? = some (.string ⟨I.toArray⟩)
/-- Where table and document stand in a round. -/
def StQ (w0 wx : World) (S n m B : Nat) (q2 : Option Addr) (c2 : Nat) (I : List UInt8) (v : Nat) (A : Array Value) : Prop :=
  ∃ (qa : Option Addr) (ca : Nat) (qd : Option Addr) (cd : Nat) (L : List Ten), L.length ≤ m ∧ PairT w0 wx S n qa ca L qd cd (L.map core) ∧ OkT L n ∧ Ow wx B 5 1 (.slice q2 I.length c2) I.length (bys I) ∧ wx.heap[v]? = some (.cells A 64 (0, 0))
/-- And between two rounds. -/
def EndQ (w0 wx : World) (S n m : Nat) : Prop :=
  ∃ (qa : Option Addr) (ca : Nat) (qd : Option Addr) (cd : Nat) (L : List Ten), L.length ≤ m ∧ PairT w0 wx S n qa ca L qd cd (L.map core) ∧ OkT L n
theorem StQ.fin {w0 wx : World} {S n m B : Nat} {q2 : Option Addr} {c2 : Nat} {I : List UInt8} {v : Nat} {A : Array Value} (h : StQ w0 wx S n m B q2 c2 I v A) : EndQ w0 wx S n m := by
  obtain ⟨qa, ca, qd, cd, L, h1, h2, h3, _, _⟩ := h
  exact ⟨qa, ca, qd, cd, L, h1, h2, h3⟩
noncomputable def codeA : Code := (Tryd.f6.body).getD .skip
noncomputable def rightA : Code := (regAt 18 codeA).getD .skip
noncomputable def arm12 : Code := (atRegion 22 codeA).getD .skip
noncomputable def armsA : Code := (atRegion 19 codeA).getD .skip
noncomputable def turnsA : Code := (blockAt 3 codeA).getD .skip
noncomputable def asksA : Code := (regAt 56 codeA).getD .skip
noncomputable def gathA : Code := (blockAt 7 codeA).getD .skip
noncomputable def statA : Code := (blockAt 5 codeA).getD .skip
noncomputable def tailA : Code := (atRegion 49 codeA).getD .skip
noncomputable def roundA : Code := (loopAt 13 codeA).getD .skip
end Ten
end Go.Proofs.YtmkoiddfkanmiaaDoor
/- TenantActs: the arm of Create and Import. -/
namespace Go.Proofs.YtmkoiddfkanmiaaDoor
open Go.RowKit Bits Mem Sha Cad
namespace Ten
open Pc
theorem made_core {L : List Ten} {n : Nat} (h : OkT L n) (id : List UInt8) (d : Option Addr) {pp ee : Int} {L' : List Ten} (h1 : pp = (putT L id d n).1.1) (h2 : ee = (putT L id d n).1.2) (h3 : L' = (putT L id d n).2) : (docPut (L.map core) id n).1.1 = pp ∧ (docPut (L.map core) id n).1.2 = ee ∧ (docPut (L.map core) id n).2 = L'.map core := by
  rw [docPut_core h id d, h1, h2, h3]
  exact ⟨rfl, rfl, rfl⟩
/-- The table's making: what the contract wants. -/
theorem apart_id {w0 w : World} {S n : Nat} {qa qd : Option Addr} {ca cd : Nat} {L : List Ten} {C : List One} (h : PairT w0 w S n qa ca L qd cd C) {B : Nat} {q2 : Option Addr} {m c2 : Nat} {xs : List Value} (ho : Ow w B 5 1 (.slice q2 m c2) m xs) : ∀ k, (Value.slice q2 m c2).ownBlock = some k → ¬ (Value.slice qa L.length ca).ownBlock = some k := by
  intro k hk he
  obtain ⟨c1, f1, h1⟩ := ho.typedT hk
  obtain ⟨c3, f3, h3⟩ := h.a.2.2.typedT he
  exact ne_typedT h1 h3 (by decide) rfl
/-- The id's row and the act's stand while the table or the document is turned. -/
theorem keep_id {w0 w w' : World} {S n : Nat} {qa qd : Option Addr} {ca cd : Nat} {L : List Ten} {C : List One} (h : PairT w0 w S n qa ca L qd cd C) {B : Nat} {q2 : Option Addr} {m c2 : Nat} {xs : List Value} (ho : Ow w B 5 1 (.slice q2 m c2) m xs) {v : Nat} {A : Array Value} (hv : w.heap[v]? = some (.cells A 64 (0, 0))) {F : Nat → Prop} (hk : Kp F w w') (hF : ∀ k, F k → mineAT S qa L.length ca k ∨ mineDT S qd C.length cd k) : Ow w' B 5 1 (.slice q2 m c2) m xs ∧ w'.heap[v]? = some (.cells A 64 (0, 0)) := by
  refine ⟨ho.kp hk (fun k hk => ?_), (hk.block v (Array.getElem?_eq_some_iff.1 hv).1 (fun e => ?_)).trans hv⟩
  · obtain ⟨c1, f1, h1⟩ := ho.typedT hk
    have := h.free h1 (by decide) (by decide) (by decide) (by decide)
    exact fun e => (hF k e).elim this.1 this.2
  · have := h.free hv (by decide) (by decide) (by decide) (by decide)
    exact (hF v e).elim this.1 this.2
set_option maxRecDepth 100000 in
set_option maxHeartbeats 1000000 in
theorem arm12_any (g : Nat → Value) (Q : Exit → Go.Act → World → Prop) (w0 w : World) (n S i B v : Nat) (q2 : Option Addr) (c2 : Nat) (I : List UInt8) (q : Option Addr) (jn c : Nat) (xw xi : Int) (xq : Option Addr) (xn xc : Nat) (xh : Bool)
    (hn1 : 1 ≤ n) (hn8 : n ≤ 8) (hi : i < 30) (hS : Sha.Tabs w0)
    (hst : StQ w0 w S n i B q2 c2 I v #[.int .i64 xw, .int .i64 xi, .slice xq xn xc, .bool xh])
    (h0 : g 0 = .int .i64 n) (h1 : g 1 = .slice q jn c) (h15 : g 15 = .pointer (some ⟨S, 0, none⟩)) (h16 : g 16 = .pointer (some ⟨S + 1, 0, none⟩)) (h17 : g 17 = .int .i64 i)
    (h18 : g 18 = .pointer (some ⟨v, 0, none⟩)) (h19 : g 19 = .slice q2 I.length c2) (h20 : g 20 = .string ⟨I.toArray⟩) (h21 : g 21 = .bool (decide (1 ≤ I.length ∧ I.length ≤ 16)))
    (hN : ∀ l w', FrA l n q jn c S i v q2 c2 I → StQ w0 w' S n (i + 1) B q2 c2 I v #[.int .i64 xw, .int .i64 xi, .slice xq xn xc, .bool xh] → Q .normal ⟨l.toArray, []⟩ w')
    (hC : ∀ l w', FrR l n q jn c S i → EndQ w0 w' S n (i + 1) → Q (.exit 1) ⟨l.toArray, []⟩ w') :
    arm12.wp Tryd.prog Q (fr 415 g) w := by
  have HN := Lib.hid hN
  have HC := Lib.hid hC
  have HS := Lib.hid hS
  obtain ⟨qa, ca, qd, cd, L, hll, hp, hok, hio, hv⟩ := hst
  have HP := Lib.hid hp
  have HG := Lib.hid hok
  have HIO := Lib.hid hio
  have HV := Lib.hid hv
  have e0 : w.cell? ⟨v, 0, none⟩ = some (.int .i64 xw) := (cell_of_row _ _ _ _ _ _ hv).trans rfl
  clear hN hC hS hp hok hio hv
  rw [fr415, h0, h1, h15, h16, h17, h18, h19, h20, h21]
  clear h0 h1 h15 h16 h17 h18 h19 h20 h21
  conv => arg 2; whnf
  by_cases hr : 1 ≤ I.length ∧ I.length ≤ 16
  · rw [decide_eq_true hr]
    obtain ⟨hr1, hr2⟩ := hr
    by_cases hev : xw.tmod 2 = 0
    · go_upto_region 24 with fail
      go_wp2_with (refine conv_markT rfl 24 _ rfl 5 Tryd.underlying24 Tryd.underlying5 _ 1 1 rfl #[.int .u8 120] (heap_alloc_new _ _) ?_; go_must (intro wm hrm hgm); go_must (refine Hid.out ?_))
      refine Lib.hid ?_
      have hbm : Below w.heap.size w wm := ⟨hgm.os, hgm.tape, hgm.output, Nat.le_trans (Nat.le_of_lt (Array.getElem?_eq_some_iff.1 (heap_alloc_new w (.cells #[.int .u8 120] 5))).1) hgm.size, fun j hj => (hgm.block j (Nat.lt_trans hj (Array.getElem?_eq_some_iff.1 (heap_alloc_new w (.cells #[.int .u8 120] 5))).1) (fun e => by cases e; omega)).trans (Rg.heap_alloc_past w _ j hj)⟩
      have HRM : Hid (Rd wm 1 (.slice (some ⟨w.heap.size, 0, none⟩) 1 1) 1 (bys [120])) := Lib.hid (Rd_of_rowT (l := [120]) hrm rfl (by decide))
      have HBM := Lib.hid hbm
      clear hbm hrm hgm
      go_wp2_with (refine l_buildT rfl 44 _ rfl (bysA K0) keys0 ?_)
      refine (limits_any wm).mono ?_
      rintro e wn ⟨rfl, hb⟩
      have HBN : Hid (Below w.heap.size w wn) := Lib.hid (HBM.out.trans (hb.mono HBM.out.size))
      have HRN := Lib.hid (HRM.out.below hb)
      have HND := Lib.hid (newDir_any (some ⟨w.heap.size, 0, none⟩) 1 [120] K0 wn (HS.out.below (HP.out.kept.trans (HBN.out.mono HP.out.kept.size))) rfl (by decide) (by decide) HRN.out)
      clear hb HBM HRM
      go_wp2_with fail
      refine HND.out.mono ?_
      rintro e wd ⟨gd, rfl, _, _, hb⟩
      have hbd : Below w.heap.size w wd := HBN.out.trans (hb.mono HBN.out.size)
      have HPD := Lib.hid (HP.out.below hbd)
      have HOD := Lib.hid (HIO.out.below hbd)
      have HVD := Lib.hid ((hbd.block v (Array.getElem?_eq_some_iff.1 HV.out).1).trans HV.out)
      clear hb hbd HND HRN HBN
      obtain ⟨⟨⟨pp, ee⟩, L'⟩, hM⟩ : ∃ M, M = makeT L I (some ⟨gd, 0, none⟩) n := ⟨_, rfl⟩
      have HIM := Lib.hid (importT_any S (S + 2) qa ca n L q2 c2 I gd wd HPD.out.a (by omega) HG.out.srt (Rd.of_ow HOD.out) (apart_id HPD.out HOD.out) HPD.out.size hn1 hn8 HG.out.pl)
      rw [← hM] at HIM
      dsimp only at HIM
      have HME := Lib.hid hM
      clear hM
      go_wp2_with fail
      refine HIM.out.mono ?_
      rintro e we ⟨qe, ce, rfl, hT, hkp, _⟩
      have hkpm : Kp (mineAT S qa L.length ca) wd we := hkp
      have HPE := Lib.hid (HPD.out.turnA hT hkpm)
      obtain ⟨hoe, hve⟩ := keep_id HPD.out HOD.out HVD.out hkpm (fun k hk => .inl hk)
      have HOE := Lib.hid hoe
      have HVE := Lib.hid hve
      clear hT hkp hkpm hoe hve HIM HPD HOD HVD
      have hmr := makeT_right L I (some ⟨gd, 0, none⟩) n hr1 hr2
      have hM2 := HME.out.trans hmr
      have HPP : Hid (pp = (putT L I (some ⟨gd, 0, none⟩) n).1.1) := Lib.hid (by rw [← hM2])
      have HEE : Hid (ee = (putT L I (some ⟨gd, 0, none⟩) n).1.2) := Lib.hid (by rw [← hM2])
      have HLL : Hid (L' = (putT L I (some ⟨gd, 0, none⟩) n).2) := Lib.hid (by rw [← hM2])
      have HG2 : Hid (OkT L' n) := Lib.hid (by rw [HLL.out]; exact HG.out.putT I gd)
      have hl2 : L'.length ≤ i + 1 := by rw [HLL.out]; exact Nat.le_trans (putT_len L I _ n) (by omega)
      clear hmr hM2
      have HGE := Lib.hid (getD_any S (S + 2) qe ce n L' q2 c2 I true we HPE.out.a (by omega) HG2.out.srt (Rd.of_ow HOE.out))
      go_wp2_with fail
      refine HGE.out.mono ?_
      rintro e wg ⟨rfl, hb⟩
      have HPG := Lib.hid (HPE.out.below hb)
      have HOG := Lib.hid (HOE.out.below hb)
      have HVG := Lib.hid ((hb.block v (Array.getElem?_eq_some_iff.1 HVE.out).1).trans HVE.out)
      clear hb HGE HPE HOE HVE
      by_cases he0 : ee = 0
      · have hpg := put_get I gd HG.out (by rw [← HEE.out]; exact he0)
        rw [← HLL.out] at hpg
        rw [hpg, he0]
        clear hpg
        obtain ⟨hde, hdn⟩ := dirSame gd
        go_wp2_with fail
        rw [he0] at HEE
        have HDC := Lib.hid (docputR_any (S + 1) (S + 2) qd cd n (L.map core) I wg HPG.out.d (by rw [List.length_map]; omega) HG.out.srt HPG.out.size hn8 (fun x hx => by obtain ⟨y, hy, rfl⟩ := List.mem_map.1 hx; exact HG.out.st y hy))
        obtain ⟨e1, e2, e3⟩ := made_core HG.out I (some ⟨gd, 0, none⟩) HPP.out HEE.out HLL.out
        rw [e1, e2, e3] at HDC
        clear e1 e2 e3
        go_wp2_with fail
        refine HDC.out.mono ?_
        rintro e wz ⟨qz, cz, rfl, hT, hkp, _⟩
        have hkpm : Kp (mineDT S qd (L.map core).length cd) wg wz := hkp.weak (fun k hk => .inl hk)
        have HPZ := Lib.hid (HPG.out.turnD hT hkpm)
        obtain ⟨hoz, hvz⟩ := keep_id HPG.out HOG.out HVG.out hkpm (fun k hk => .inr hk)
        have HOZ := Lib.hid hoz
        have HVZ := Lib.hid hvz
        clear hT hkp hkpm hoz hvz HDC
        go_wp2_with fail
        exact HN.out _ _ ⟨⟨by kernel_rfl, rfl, rfl, rfl, rfl, rfl⟩, rfl, rfl, rfl⟩ ⟨qe, ce, qz, cz, L', hl2, HPZ.out, HG2.out, HOZ.out, HVZ.out⟩
      · have heb : (ee == 0) = false := by rw [beq_eq_false_iff_ne]; exact he0
        go_wp2_with fail
        have HDC := Lib.hid (docputR_any (S + 1) (S + 2) qd cd n (L.map core) I wg HPG.out.d (by rw [List.length_map]; omega) HG.out.srt HPG.out.size hn8 (fun x hx => by obtain ⟨y, hy, rfl⟩ := List.mem_map.1 hx; exact HG.out.st y hy))
        obtain ⟨e1, e2, e3⟩ := made_core HG.out I (some ⟨gd, 0, none⟩) HPP.out HEE.out HLL.out
        rw [e1, e2, e3] at HDC
        clear e1 e2 e3
        go_wp2_with fail
        refine HDC.out.mono ?_
        rintro e wz ⟨qz, cz, rfl, hT, hkp, _⟩
        have hkpm : Kp (mineDT S qd (L.map core).length cd) wg wz := hkp.weak (fun k hk => .inl hk)
        have HPZ := Lib.hid (HPG.out.turnD hT hkpm)
        obtain ⟨hoz, hvz⟩ := keep_id HPG.out HOG.out HVG.out hkpm (fun k hk => .inr hk)
        have HOZ := Lib.hid hoz
        have HVZ := Lib.hid hvz
        clear hT hkp hkpm hoz hvz HDC
        go_wp2_with fail
        exact HN.out _ _ ⟨⟨by kernel_rfl, rfl, rfl, rfl, rfl, rfl⟩, rfl, rfl, rfl⟩ ⟨qe, ce, qz, cz, L', hl2, HPZ.out, HG2.out, HOZ.out, HVZ.out⟩
    · go_upto_region 31 with fail
      obtain ⟨b, hb⟩ : ∃ b : UInt8, (i : Int) = (b.toNat : Int) := ⟨UInt8.ofNat i, by rw [UInt8.toNat_ofNat']; omega⟩
      have HK1 : Hid (Tryd.prog.built 42 [(0, .int .u8 (i : Int))] = some (bysA [b, 0, 0, 0, 0, 0, 0, 0, 0, 0, 0, 0, 0, 0, 0, 0, 0, 0, 0, 0, 0, 0, 0, 0, 0, 0, 0, 0, 0, 0, 0, 0])) := Lib.hid (by rw [hb]; exact keysIa b)
      have HK2 : Hid (Tryd.prog.built 44 [(0, .agg (bysA [b, 0, 0, 0, 0, 0, 0, 0, 0, 0, 0, 0, 0, 0, 0, 0, 0, 0, 0, 0, 0, 0, 0, 0, 0, 0, 0, 0, 0, 0, 0, 0]))] = some (bysA [b, 0, 0, 0, 0, 0, 0, 0, 0, 0, 0, 0, 0, 0, 0, 0, 0, 0, 0, 0, 0, 0, 0, 0, 0, 0, 0, 0, 0, 0, 0, 0, 0, 0, 0, 0, 0, 0, 0, 0, 0, 0, 0, 0, 0, 0, 0, 0, 0, 0, 0, 0, 0, 0, 0, 0, 0, 0, 0, 0, 0, 0, 0, 0])) := Lib.hid (keysI b)
      have hwi : IntKind.u8.wrap (i : Int) = (i : Int) := by rw [IntKind.wrap_u8]; omega
      clear hb
      go_wp2_with (refine l_buildT rfl 42 _ rfl (bysA [b, 0, 0, 0, 0, 0, 0, 0, 0, 0, 0, 0, 0, 0, 0, 0, 0, 0, 0, 0, 0, 0, 0, 0, 0, 0, 0, 0, 0, 0, 0, 0]) (Hid.out ?_) (Hid.out ?_))
      refine Lib.hid ?_
      go_wp2_with (refine l_buildT rfl 44 _ rfl (bysA [b, 0, 0, 0, 0, 0, 0, 0, 0, 0, 0, 0, 0, 0, 0, 0, 0, 0, 0, 0, 0, 0, 0, 0, 0, 0, 0, 0, 0, 0, 0, 0, 0, 0, 0, 0, 0, 0, 0, 0, 0, 0, 0, 0, 0, 0, 0, 0, 0, 0, 0, 0, 0, 0, 0, 0, 0, 0, 0, 0, 0, 0, 0, 0]) (Hid.out ?_) (Hid.out ?_))
      refine Lib.hid ?_
      go_wp2_with fail
      refine (limits_any w).mono ?_
      rintro e wn ⟨rfl, hb⟩
      have HPD := Lib.hid (HP.out.below hb)
      have HOD := Lib.hid (HIO.out.below hb)
      have HVD := Lib.hid ((hb.block v (Array.getElem?_eq_some_iff.1 HV.out).1).trans HV.out)
      clear hb hwi
      have HIM := Lib.hid (createT_any S (S + 2) qa ca n L q2 c2 I (b :: List.replicate 63 0) wn (HS.out.below HPD.out.kept) (by simp) HPD.out.a (by omega) HG.out.srt (Rd.of_ow HOD.out) (apart_id HPD.out HOD.out) HPD.out.size hn1 hn8 HG.out.pl)
      go_wp2_with fail
      refine HIM.out.mono ?_
      rintro e we ⟨gd, qe, ce, rfl, hT, hkp, _⟩
      obtain ⟨⟨⟨pp, ee⟩, L'⟩, hM⟩ : ∃ M, M = makeT L I (some ⟨gd, 0, none⟩) n := ⟨_, rfl⟩
      rw [← hM] at hT ⊢
      dsimp only at hT ⊢
      have HME := Lib.hid hM
      have hkpm : Kp (mineAT S qa L.length ca) wn we := hkp
      have HPE := Lib.hid (HPD.out.turnA hT hkpm)
      obtain ⟨hoe, hve⟩ := keep_id HPD.out HOD.out HVD.out hkpm (fun k hk => .inl hk)
      have HOE := Lib.hid hoe
      have HVE := Lib.hid hve
      clear hT hkp hkpm hoe hve HIM HPD HOD HVD hM
      have hmr := makeT_right L I (some ⟨gd, 0, none⟩) n hr1 hr2
      have hM2 := HME.out.trans hmr
      have HPP : Hid (pp = (putT L I (some ⟨gd, 0, none⟩) n).1.1) := Lib.hid (by rw [← hM2])
      have HEE : Hid (ee = (putT L I (some ⟨gd, 0, none⟩) n).1.2) := Lib.hid (by rw [← hM2])
      have HLL : Hid (L' = (putT L I (some ⟨gd, 0, none⟩) n).2) := Lib.hid (by rw [← hM2])
      have HG2 : Hid (OkT L' n) := Lib.hid (by rw [HLL.out]; exact HG.out.putT I gd)
      have hl2 : L'.length ≤ i + 1 := by rw [HLL.out]; exact Nat.le_trans (putT_len L I _ n) (by omega)
      clear hmr hM2
      have HDC := Lib.hid (docputR_any (S + 1) (S + 2) qd cd n (L.map core) I we HPE.out.d (by rw [List.length_map]; omega) HG.out.srt HPE.out.size hn8 (fun x hx => by obtain ⟨y, hy, rfl⟩ := List.mem_map.1 hx; exact HG.out.st y hy))
      obtain ⟨e1, e2, e3⟩ := made_core HG.out I (some ⟨gd, 0, none⟩) HPP.out HEE.out HLL.out
      rw [e1, e2, e3] at HDC
      clear e1 e2 e3
      go_wp2_with fail
      refine HDC.out.mono ?_
      rintro e wz ⟨qz, cz, rfl, hT, hkp, _⟩
      have hkpm : Kp (mineDT S qd (L.map core).length cd) we wz := hkp.weak (fun k hk => .inl hk)
      have HPZ := Lib.hid (HPE.out.turnD hT hkpm)
      obtain ⟨hoz, hvz⟩ := keep_id HPE.out HOE.out HVE.out hkpm (fun k hk => .inr hk)
      have HOZ := Lib.hid hoz
      have HVZ := Lib.hid hvz
      clear hT hkp hkpm hoz hvz HDC
      go_wp2_with fail
      exact HN.out _ _ ⟨⟨by kernel_rfl, rfl, rfl, rfl, rfl, rfl⟩, rfl, rfl, rfl⟩ ⟨qe, ce, qz, cz, L', hl2, HPZ.out, HG2.out, HOZ.out, HVZ.out⟩
  · rw [decide_eq_false hr]
    by_cases hev : xw.tmod 2 = 0
    · go_upto_region 24 with fail
      go_wp2_with (refine conv_markT rfl 24 _ rfl 5 Tryd.underlying24 Tryd.underlying5 _ 1 1 rfl #[.int .u8 120] (heap_alloc_new _ _) ?_; go_must (intro wm hrm hgm); go_must (refine Hid.out ?_))
      refine Lib.hid ?_
      have hbm : Below w.heap.size w wm := ⟨hgm.os, hgm.tape, hgm.output, Nat.le_trans (Nat.le_of_lt (Array.getElem?_eq_some_iff.1 (heap_alloc_new w (.cells #[.int .u8 120] 5))).1) hgm.size, fun j hj => (hgm.block j (Nat.lt_trans hj (Array.getElem?_eq_some_iff.1 (heap_alloc_new w (.cells #[.int .u8 120] 5))).1) (fun e => by cases e; omega)).trans (Rg.heap_alloc_past w _ j hj)⟩
      have HRM : Hid (Rd wm 1 (.slice (some ⟨w.heap.size, 0, none⟩) 1 1) 1 (bys [120])) := Lib.hid (Rd_of_rowT (l := [120]) hrm rfl (by decide))
      have HBM := Lib.hid hbm
      clear hbm hrm hgm
      go_wp2_with (refine l_buildT rfl 44 _ rfl (bysA K0) keys0 ?_)
      refine (limits_any wm).mono ?_
      rintro e wn ⟨rfl, hb⟩
      have HBN : Hid (Below w.heap.size w wn) := Lib.hid (HBM.out.trans (hb.mono HBM.out.size))
      have HRN := Lib.hid (HRM.out.below hb)
      have HND := Lib.hid (newDir_any (some ⟨w.heap.size, 0, none⟩) 1 [120] K0 wn (HS.out.below (HP.out.kept.trans (HBN.out.mono HP.out.kept.size))) rfl (by decide) (by decide) HRN.out)
      clear hb HBM HRM
      go_wp2_with fail
      refine HND.out.mono ?_
      rintro e wd ⟨gd, rfl, _, _, hb⟩
      have hbd : Below w.heap.size w wd := HBN.out.trans (hb.mono HBN.out.size)
      have HPD := Lib.hid (HP.out.below hbd)
      have HOD := Lib.hid (HIO.out.below hbd)
      have HVD := Lib.hid ((hbd.block v (Array.getElem?_eq_some_iff.1 HV.out).1).trans HV.out)
      clear hb hbd HND HRN HBN
      obtain ⟨⟨⟨pp, ee⟩, L'⟩, hM⟩ : ∃ M, M = makeT L I (some ⟨gd, 0, none⟩) n := ⟨_, rfl⟩
      have HIM := Lib.hid (importT_any S (S + 2) qa ca n L q2 c2 I gd wd HPD.out.a (by omega) HG.out.srt (Rd.of_ow HOD.out) (apart_id HPD.out HOD.out) HPD.out.size hn1 hn8 HG.out.pl)
      rw [← hM] at HIM
      dsimp only at HIM
      have HME := Lib.hid hM
      clear hM
      go_wp2_with fail
      refine HIM.out.mono ?_
      rintro e we ⟨qe, ce, rfl, hT, hkp, _⟩
      have hkpm : Kp (mineAT S qa L.length ca) wd we := hkp
      have HPE := Lib.hid (HPD.out.turnA hT hkpm)
      obtain ⟨hoe, hve⟩ := keep_id HPD.out HOD.out HVD.out hkpm (fun k hk => .inl hk)
      have HOE := Lib.hid hoe
      have HVE := Lib.hid hve
      clear hT hkp hkpm hoe hve HIM HPD HOD HVD
      have hmr := makeT_wrong L I (some ⟨gd, 0, none⟩) n hr
      have hM2 := HME.out.trans hmr
      obtain ⟨⟨rfl, rfl⟩, rfl⟩ : (pp = 0 ∧ ee = 1) ∧ L' = L := by simpa using hM2
      clear hmr hM2
      have HG2 := HG
      have HGE := Lib.hid (getD_any S (S + 2) qe ce n L' q2 c2 I true we HPE.out.a (by omega) HG2.out.srt (Rd.of_ow HOE.out))
      go_wp2_with fail
      refine HGE.out.mono ?_
      rintro e wg ⟨rfl, hb⟩
      have HPG := Lib.hid (HPE.out.below hb)
      have HOG := Lib.hid (HOE.out.below hb)
      have HVG := Lib.hid ((hb.block v (Array.getElem?_eq_some_iff.1 HVE.out).1).trans HVE.out)
      clear hb HGE HPE HOE HVE
      go_wp2_with fail
      exact HC.out _ _ ⟨by kernel_rfl, rfl, rfl, rfl, rfl, rfl⟩ ⟨qe, ce, qd, cd, _, by omega, HPG.out, HG.out⟩
    · go_upto_region 31 with fail
      obtain ⟨b, hb⟩ : ∃ b : UInt8, (i : Int) = (b.toNat : Int) := ⟨UInt8.ofNat i, by rw [UInt8.toNat_ofNat']; omega⟩
      have HK1 : Hid (Tryd.prog.built 42 [(0, .int .u8 (i : Int))] = some (bysA [b, 0, 0, 0, 0, 0, 0, 0, 0, 0, 0, 0, 0, 0, 0, 0, 0, 0, 0, 0, 0, 0, 0, 0, 0, 0, 0, 0, 0, 0, 0, 0])) := Lib.hid (by rw [hb]; exact keysIa b)
      have HK2 : Hid (Tryd.prog.built 44 [(0, .agg (bysA [b, 0, 0, 0, 0, 0, 0, 0, 0, 0, 0, 0, 0, 0, 0, 0, 0, 0, 0, 0, 0, 0, 0, 0, 0, 0, 0, 0, 0, 0, 0, 0]))] = some (bysA [b, 0, 0, 0, 0, 0, 0, 0, 0, 0, 0, 0, 0, 0, 0, 0, 0, 0, 0, 0, 0, 0, 0, 0, 0, 0, 0, 0, 0, 0, 0, 0, 0, 0, 0, 0, 0, 0, 0, 0, 0, 0, 0, 0, 0, 0, 0, 0, 0, 0, 0, 0, 0, 0, 0, 0, 0, 0, 0, 0, 0, 0, 0, 0])) := Lib.hid (keysI b)
      have hwi : IntKind.u8.wrap (i : Int) = (i : Int) := by rw [IntKind.wrap_u8]; omega
      clear hb
      go_wp2_with (refine l_buildT rfl 42 _ rfl (bysA [b, 0, 0, 0, 0, 0, 0, 0, 0, 0, 0, 0, 0, 0, 0, 0, 0, 0, 0, 0, 0, 0, 0, 0, 0, 0, 0, 0, 0, 0, 0, 0]) (Hid.out ?_) (Hid.out ?_))
      refine Lib.hid ?_
      go_wp2_with (refine l_buildT rfl 44 _ rfl (bysA [b, 0, 0, 0, 0, 0, 0, 0, 0, 0, 0, 0, 0, 0, 0, 0, 0, 0, 0, 0, 0, 0, 0, 0, 0, 0, 0, 0, 0, 0, 0, 0, 0, 0, 0, 0, 0, 0, 0, 0, 0, 0, 0, 0, 0, 0, 0, 0, 0, 0, 0, 0, 0, 0, 0, 0, 0, 0, 0, 0, 0, 0, 0, 0]) (Hid.out ?_) (Hid.out ?_))
      refine Lib.hid ?_
      go_wp2_with fail
      refine (limits_any w).mono ?_
      rintro e wn ⟨rfl, hb⟩
      have HPD := Lib.hid (HP.out.below hb)
      have HOD := Lib.hid (HIO.out.below hb)
      have HVD := Lib.hid ((hb.block v (Array.getElem?_eq_some_iff.1 HV.out).1).trans HV.out)
      clear hb hwi
      have HIM := Lib.hid (createT_any S (S + 2) qa ca n L q2 c2 I (b :: List.replicate 63 0) wn (HS.out.below HPD.out.kept) (by simp) HPD.out.a (by omega) HG.out.srt (Rd.of_ow HOD.out) (apart_id HPD.out HOD.out) HPD.out.size hn1 hn8 HG.out.pl)
      go_wp2_with fail
      refine HIM.out.mono ?_
      rintro e we ⟨gd, qe, ce, rfl, hT, hkp, _⟩
      obtain ⟨⟨⟨pp, ee⟩, L'⟩, hM⟩ : ∃ M, M = makeT L I (some ⟨gd, 0, none⟩) n := ⟨_, rfl⟩
      rw [← hM] at hT ⊢
      dsimp only at hT ⊢
      have HME := Lib.hid hM
      have hkpm : Kp (mineAT S qa L.length ca) wn we := hkp
      have HPE := Lib.hid (HPD.out.turnA hT hkpm)
      obtain ⟨hoe, hve⟩ := keep_id HPD.out HOD.out HVD.out hkpm (fun k hk => .inl hk)
      have HOE := Lib.hid hoe
      have HVE := Lib.hid hve
      clear hT hkp hkpm hoe hve HIM HPD HOD HVD hM
      have hmr := makeT_wrong L I (some ⟨gd, 0, none⟩) n hr
      have hM2 := HME.out.trans hmr
      obtain ⟨⟨rfl, rfl⟩, rfl⟩ : (pp = 0 ∧ ee = 1) ∧ L' = L := by simpa using hM2
      clear hmr hM2
      go_wp2_with fail
      exact HC.out _ _ ⟨by kernel_rfl, rfl, rfl, rfl, rfl, rfl⟩ ⟨qe, ce, qd, cd, _, by omega, HPE.out, HG.out⟩
theorem arm12_l (l : List Value) (Q : Exit → Go.Act → World → Prop) (w0 w : World) (n S i B v : Nat) (q2 : Option Addr) (c2 : Nat) (I : List UInt8) (q : Option Addr) (jn c : Nat) (xw xi : Int) (xq : Option Addr) (xn xc : Nat) (xh : Bool)
    (hn1 : 1 ≤ n) (hn8 : n ≤ 8) (hi : i < 30) (hS : Sha.Tabs w0)
    (hst : StQ w0 w S n i B q2 c2 I v #[.int .i64 xw, .int .i64 xi, .slice xq xn xc, .bool xh])
    (hf : FrA l n q jn c S i v q2 c2 I) (h21 : l[21]? = some (.bool (decide (1 ≤ I.length ∧ I.length ≤ 16))))
    (hN : ∀ l w', FrA l n q jn c S i v q2 c2 I → StQ w0 w' S n (i + 1) B q2 c2 I v #[.int .i64 xw, .int .i64 xi, .slice xq xn xc, .bool xh] → Q .normal ⟨l.toArray, []⟩ w')
    (hC : ∀ l w', FrR l n q jn c S i → EndQ w0 w' S n (i + 1) → Q (.exit 1) ⟨l.toArray, []⟩ w') :
    arm12.wp Tryd.prog Q ⟨l.toArray, []⟩ w := by
  obtain ⟨g, he, hg⟩ := lay hf.r.len
  rw [he]
  exact arm12_any g Q w0 w n S i B v q2 c2 I q jn c xw xi xq xn xc xh hn1 hn8 hi hS hst (hg _ _ hf.r.p0) (hg _ _ hf.r.p1) (hg _ _ hf.r.p15) (hg _ _ hf.r.p16) (hg _ _ hf.r.p17) (hg _ _ hf.p18) (hg _ _ hf.p19) (hg _ _ hf.p20) (hg _ _ h21) hN hC
end Ten
end Go.Proofs.YtmkoiddfkanmiaaDoor
/- TenantActs: the round's switch. -/
namespace Go.Proofs.YtmkoiddfkanmiaaDoor
open Go.RowKit Bits Mem Sha Cad
namespace Ten
open Pc
set_option maxRecDepth 100000 in
set_option maxHeartbeats 1000000 in
theorem arms_any (g : Nat → Value) (Q : Exit → Go.Act → World → Prop) (w0 w : World) (n S i B v : Nat) (q2 : Option Addr) (c2 : Nat) (I : List UInt8) (q : Option Addr) (jn c : Nat) (xw xi : Int) (xq : Option Addr) (xn xc : Nat) (xh : Bool)
    (hn1 : 1 ≤ n) (hn8 : n ≤ 8) (hi : i < 30) (hS : Sha.Tabs w0)
    (hst : StQ w0 w S n i B q2 c2 I v #[.int .i64 xw, .int .i64 xi, .slice xq xn xc, .bool xh])
    (h0 : g 0 = .int .i64 n) (h1 : g 1 = .slice q jn c) (h15 : g 15 = .pointer (some ⟨S, 0, none⟩)) (h16 : g 16 = .pointer (some ⟨S + 1, 0, none⟩)) (h17 : g 17 = .int .i64 i)
    (h18 : g 18 = .pointer (some ⟨v, 0, none⟩)) (h19 : g 19 = .slice q2 I.length c2) (h20 : g 20 = .string ⟨I.toArray⟩) (h21 : g 21 = .bool (decide (1 ≤ I.length ∧ I.length ≤ 16)))
    (hN : ∀ l w', FrA l n q jn c S i v q2 c2 I → StQ w0 w' S n (i + 1) B q2 c2 I v #[.int .i64 xw, .int .i64 xi, .slice xq xn xc, .bool xh] → Q .normal ⟨l.toArray, []⟩ w')
    (hC : ∀ l w', FrR l n q jn c S i → EndQ w0 w' S n (i + 1) → Q (.exit 1) ⟨l.toArray, []⟩ w') :
    armsA.wp Tryd.prog Q (fr 415 g) w := by
  have HN := Lib.hid hN
  have HC := Lib.hid hC
  have HS := Lib.hid hS
  have HST := Lib.hid hst
  obtain ⟨qa, ca, qd, cd, L, hll, hp, hok, hio, hv⟩ := hst
  have HP := Lib.hid hp
  have HG := Lib.hid hok
  have HIO := Lib.hid hio
  have HV := Lib.hid hv
  have e0 : w.cell? ⟨v, 0, none⟩ = some (.int .i64 xw) := (cell_of_row _ _ _ _ _ _ hv).trans rfl
  obtain ⟨T, hT, _, eT⟩ := modcad xw 6 (by decide) (by decide)
  have eT' : wrap64 ((IntKind.u64.wrap xw).tmod 6) = (T : Int) := eT
  clear hN hC hS hp hok hio hv eT
  rw [fr415, h0, h1, h15, h16, h17, h18, h19, h20, h21]
  clear h0 h1 h15 h16 h17 h18 h19 h20 h21
  obtain ⟨rb, hrb⟩ : ∃ rb, rb = decide (1 ≤ I.length ∧ I.length ≤ 16) := ⟨_, rfl⟩
  rw [← hrb]
  have HRB := Lib.hid hrb
  clear hrb
  conv => arg 2; whnf
  have hcase : T = 0 ∨ T = 1 ∨ T = 2 ∨ T = 3 ∨ T = 4 ∨ T = 5 := by omega
  rcases hcase with rfl | rfl | rfl | rfl | rfl | rfl
  · go_wp2_with fail
    exact HN.out _ _ ⟨⟨by kernel_rfl, rfl, rfl, rfl, rfl, rfl⟩, rfl, rfl, rfl⟩ ⟨qa, ca, qd, cd, L, by omega, HP.out, HG.out, HIO.out, HV.out⟩
  · go_upto_if 170 with fail
    refine wp_cond (t := true) rfl ?_
    simp only [if_true]
    go_upto_if 170 with fail
    refine wp_cond (t := true) rfl ?_
    simp only [if_true]
    refine arm12_l _ _ w0 w n S i B v q2 c2 I q jn c xw xi xq xn xc xh hn1 hn8 hi HS.out HST.out ⟨⟨by kernel_rfl, rfl, rfl, rfl, rfl, rfl⟩, rfl, rfl, rfl⟩ (by rw [← HRB.out]; rfl) ?_ ?_
    · intro l w' hf hs
      exact HN.out l w' hf hs
    · intro l w' hf hs
      exact HC.out l w' hf hs
  · go_upto_if 170 with fail
    refine wp_cond (t := false) rfl ?_
    simp only [if_false, Bool.false_eq_true]
    go_upto_if 170 with fail
    refine wp_cond (t := true) rfl ?_
    simp only [if_true]
    refine arm12_l _ _ w0 w n S i B v q2 c2 I q jn c xw xi xq xn xc xh hn1 hn8 hi HS.out HST.out ⟨⟨by kernel_rfl, rfl, rfl, rfl, rfl, rfl⟩, rfl, rfl, rfl⟩ (by rw [← HRB.out]; rfl) ?_ ?_
    · intro l w' hf hs
      exact HN.out l w' hf hs
    · intro l w' hf hs
      exact HC.out l w' hf hs
  · go_wp2_with fail
    refine (holdT_any S (S + 2) qa ca (n : Int) L q2 c2 I w HP.out.a (by omega) HG.out.srt (Rd.of_ow HIO.out)).mono ?_
    rintro e wx ⟨rfl, hT, hkp⟩
    have hkpm : Kp (mineAT S qa L.length ca) w wx := hkp
    have HPX := Lib.hid (HP.out.turnA hT hkpm)
    obtain ⟨hox, hvx⟩ := keep_id HP.out HIO.out HV.out hkpm (fun k hk => .inl hk)
    have HOX := Lib.hid hox
    have HVX := Lib.hid hvx
    have HDR := Lib.hid (docturnR_any (S + 1) (S + 2) qd cd (n : Int) (L.map core) I 2 wx HPX.out.d (by rw [List.length_map]; omega) HG.out.srt)
    clear hT hkp hkpm hox hvx
    go_wp2_with fail
    refine HDR.out.mono ?_
    rintro e wy ⟨rfl, hT, hkp⟩
    rw [docTurn_core HG.out] at hT ⊢
    have hkpm : Kp (mineDT S qd (L.map core).length cd) wx wy := hkp
    have HPY := Lib.hid (HPX.out.turnD hT hkpm)
    obtain ⟨hoy, hvy⟩ := keep_id HPX.out HOX.out HVX.out hkpm (fun k hk => .inr hk)
    have HOY := Lib.hid hoy
    have HVY := Lib.hid hvy
    clear hT hkp hkpm hoy hvy
    go_wp2_with fail
    exact HN.out _ _ ⟨⟨by kernel_rfl, rfl, rfl, rfl, rfl, rfl⟩, rfl, rfl, rfl⟩ ⟨qa, ca, qd, cd, _, (by rw [turnT_len]; omega), HPY.out, (HG.out.turnT I 2 (.inr rfl)), HOY.out, HVY.out⟩
  · go_wp2_with fail
    refine (freeT_any S (S + 2) qa ca (n : Int) L q2 c2 I w HP.out.a (by omega) HG.out.srt (Rd.of_ow HIO.out)).mono ?_
    rintro e wx ⟨rfl, hT, hkp⟩
    have hkpm : Kp (mineAT S qa L.length ca) w wx := hkp
    have HPX := Lib.hid (HP.out.turnA hT hkpm)
    obtain ⟨hox, hvx⟩ := keep_id HP.out HIO.out HV.out hkpm (fun k hk => .inl hk)
    have HOX := Lib.hid hox
    have HVX := Lib.hid hvx
    have HDR := Lib.hid (docturnR_any (S + 1) (S + 2) qd cd (n : Int) (L.map core) I 1 wx HPX.out.d (by rw [List.length_map]; omega) HG.out.srt)
    clear hT hkp hkpm hox hvx
    go_wp2_with fail
    refine HDR.out.mono ?_
    rintro e wy ⟨rfl, hT, hkp⟩
    rw [docTurn_core HG.out] at hT ⊢
    have hkpm : Kp (mineDT S qd (L.map core).length cd) wx wy := hkp
    have HPY := Lib.hid (HPX.out.turnD hT hkpm)
    obtain ⟨hoy, hvy⟩ := keep_id HPX.out HOX.out HVX.out hkpm (fun k hk => .inr hk)
    have HOY := Lib.hid hoy
    have HVY := Lib.hid hvy
    clear hT hkp hkpm hoy hvy
    go_wp2_with fail
    exact HN.out _ _ ⟨⟨by kernel_rfl, rfl, rfl, rfl, rfl, rfl⟩, rfl, rfl, rfl⟩ ⟨qa, ca, qd, cd, _, (by rw [turnT_len]; omega), HPY.out, (HG.out.turnT I 1 (.inl rfl)), HOY.out, HVY.out⟩
  · go_wp2_with fail
    refine (delT_any S (S + 2) qa ca (n : Int) L q2 c2 I w HP.out.a (by omega) HG.out.srt (Rd.of_ow HIO.out)).mono ?_
    rintro e wx ⟨rfl, hT, hkp⟩
    have hkpm : Kp (mineAT S qa L.length ca) w wx := hkp
    have HPX := Lib.hid (HP.out.turnA hT hkpm)
    obtain ⟨hox, hvx⟩ := keep_id HP.out HIO.out HV.out hkpm (fun k hk => .inl hk)
    have HOX := Lib.hid hox
    have HVX := Lib.hid hvx
    have HDR := Lib.hid (docdelR_any (S + 1) (S + 2) qd cd (n : Int) (L.map core) I wx HPX.out.d (by rw [List.length_map]; omega) HG.out.srt)
    clear hT hkp hkpm hox hvx
    go_wp2_with fail
    refine HDR.out.mono ?_
    rintro e wy ⟨rfl, hT, hkp⟩
    rw [docDel_core HG.out] at hT ⊢
    have hkpm : Kp (mineDT S qd (L.map core).length cd) wx wy := hkp
    have HPY := Lib.hid (HPX.out.turnD hT hkpm)
    obtain ⟨hoy, hvy⟩ := keep_id HPX.out HOX.out HVX.out hkpm (fun k hk => .inr hk)
    have HOY := Lib.hid hoy
    have HVY := Lib.hid hvy
    clear hT hkp hkpm hoy hvy
    go_wp2_with fail
    exact HN.out _ _ ⟨⟨by kernel_rfl, rfl, rfl, rfl, rfl, rfl⟩, rfl, rfl, rfl⟩ ⟨qa, ca, qd, cd, _, (by rw [delT_len]; omega), HPY.out, (HG.out.delT I), HOY.out, HVY.out⟩
theorem arms_l (l : List Value) (Q : Exit → Go.Act → World → Prop) (w0 w : World) (n S i B v : Nat) (q2 : Option Addr) (c2 : Nat) (I : List UInt8) (q : Option Addr) (jn c : Nat) (xw xi : Int) (xq : Option Addr) (xn xc : Nat) (xh : Bool)
    (hn1 : 1 ≤ n) (hn8 : n ≤ 8) (hi : i < 30) (hS : Sha.Tabs w0)
    (hst : StQ w0 w S n i B q2 c2 I v #[.int .i64 xw, .int .i64 xi, .slice xq xn xc, .bool xh])
    (hf : FrA l n q jn c S i v q2 c2 I) (h21 : l[21]? = some (.bool (decide (1 ≤ I.length ∧ I.length ≤ 16))))
    (hN : ∀ l w', FrA l n q jn c S i v q2 c2 I → StQ w0 w' S n (i + 1) B q2 c2 I v #[.int .i64 xw, .int .i64 xi, .slice xq xn xc, .bool xh] → Q .normal ⟨l.toArray, []⟩ w')
    (hC : ∀ l w', FrR l n q jn c S i → EndQ w0 w' S n (i + 1) → Q (.exit 1) ⟨l.toArray, []⟩ w') :
    armsA.wp Tryd.prog Q ⟨l.toArray, []⟩ w := by
  obtain ⟨g, he, hg⟩ := lay hf.r.len
  rw [he]
  exact arms_any g Q w0 w n S i B v q2 c2 I q jn c xw xi xq xn xc xh hn1 hn8 hi hS hst (hg _ _ hf.r.p0) (hg _ _ hf.r.p1) (hg _ _ hf.r.p15) (hg _ _ hf.r.p16) (hg _ _ hf.r.p17) (hg _ _ hf.p18) (hg _ _ hf.p19) (hg _ _ hf.p20) (hg _ _ h21) hN hC
end Ten
end Go.Proofs.YtmkoiddfkanmiaaDoor
