/- The walk of custumallaw17.CommitChecks. -/
import Derived.Test.YtkembhonfehlbaaDoorCtexts
import Derived.Test.YtkembhonfehlbaaDoorBinds
import Derived.Lib.BufferWrite
namespace Go.Proofs.YtkembhonfehlbaaDoor
open Go.RowKit Bits Mem Sha
namespace Ref
theorem copy_str {w : World} {g : Nat} {cur s : List UInt8} {t : TypeId} (hg : w.heap[g]? = some (.cells (bysA cur) t (0, 0))) (hc : cur.length = 32) (hs : s.length = 32) :
    (Builtin.copy_ #[23, 9] 3 #[.slice (some ⟨g, 0, none⟩) 32 32, .string ⟨s.toArray⟩]).run Tryd.prog w = .ok (.int .i64 32) (w.setRow g (bysA s)) := by
  have hsz : (⟨s.toArray⟩ : ByteArray).size = 32 := hs
  have h := Lib.run_copy_row_string (P := Tryd.prog) w 23 9 3 5 g 0 32 32 ⟨s.toArray⟩ (bysA cur) t Tryd.underlying23 infoU8 hg (by omega) (by rw [bysA_size]; omega)
  rw [h, hsz]
  have e : ((bysA cur).toList.take 0 ++ Lib.byteCells (⟨s.toArray⟩ : ByteArray).data.toList ++ (bysA cur).toList.drop (0 + 32)).toArray = bysA s := by
    have : (bysA cur).toList.drop (0 + 32) = [] := List.drop_eq_nil_of_le (by simp [bysA, bys_length, hc])
    rw [this, List.take_zero, List.nil_append, List.append_nil]
    rfl
  rw [e]
  rfl
theorem keeps_setRow (w : World) (g : Nat) (cs : Array Value) : Rc.Keeps 0 (· ≠ g) w (w.setRow g cs) := by
  have hb : Below 0 w (w.setRow g cs) := Rg.below_setRow (Below.refl _ _) (Nat.zero_le g) cs
  exact ⟨hb.os, hb.tape, hb.output, hb.size, fun k _ hk => setRow_other _ _ _ _ (hk.resolve_left (Nat.not_lt_zero k))⟩
theorem cell_two0 {w : World} {g : Nat} {a b : Value} {t : TypeId} {fr : Nat × Nat} (h : w.heap[g]? = some (.cells #[a, b] t fr)) : w.cell? ⟨g, 0, none⟩ = some a := by
  simp [World.cell?, h]
theorem cell_two1 {w : World} {g : Nat} {a b : Value} {t : TypeId} {fr : Nat × Nat} (h : w.heap[g]? = some (.cells #[a, b] t fr)) : w.cell? ⟨g, 1, none⟩ = some b := by
  simp [World.cell?, h]
set_option maxRecDepth 100000 in
set_option maxHeartbeats 8000000 in
theorem commitChecks_any (b o ix : List UInt8) (n : Int) (q : Option Addr) (c : Nat) (l : List UInt8) (w : World) (hS : Sha.Tabs w) (hT : Ref.Tabs w) (hb : b.length = 32) (ho : o.length = 32) (hix : ix.length = 32) (hl : Rd w 1 (.slice q l.length c) l.length (bys l)) :
    Calls Tryd.prog 5 #[.agg (bysA b), .agg (bysA o), .agg (whatA ix n (.slice q l.length c))] w fun e w' => e = .returned (.bool true) ∧ Below w.heap.size w w' := by
  have HS := Lib.hid hS
  have HT := Lib.hid hT
  have HBL := Lib.hid hb
  have HOL := Lib.hid ho
  have HX := Lib.hid hix
  obtain ⟨wz, hwz⟩ : ∃ wz, wz = ((w.alloc (.cells (bysA b) 22)).alloc (.cells (bysA o) 22)).alloc (.cells (whatA ix n (.slice q l.length c)) 25) := ⟨_, rfl⟩
  have hbz : Below w.heap.size w wz := by rw [hwz]; exact (((Below.refl _ _).alloc (Nat.le_refl _) _).alloc (by simp) _).alloc (by simp <;> omega) _
  have hrb : wz.heap[w.heap.size]? = some (.cells (bysA b) 22 (0, 0)) := by rw [hwz]; exact (Rg.heap_alloc_past _ _ _ (by simp <;> omega)).trans ((Rg.heap_alloc_past _ _ _ (by simp)).trans (Rg.heap_alloc_at w _ _ rfl))
  have hro : wz.heap[w.heap.size + 1]? = some (.cells (bysA o) 22 (0, 0)) := by rw [hwz]; exact (Rg.heap_alloc_past _ _ _ (by simp)).trans (Rg.heap_alloc_at _ _ _ (by simp))
  have hrx : wz.heap[w.heap.size + 1 + 1]? = some (.cells (whatA ix n (.slice q l.length c)) 25 (0, 0)) := by rw [hwz]; exact Rg.heap_alloc_at _ _ _ (by simp)
  have HWZ := Lib.hid hwz
  have HBZ := Lib.hid hbz
  have HRB := Lib.hid hrb
  have HRO := Lib.hid hro
  have HRX := Lib.hid hrx
  have HLZ := Lib.hid (hl.below hbz)
  have HWS : Hid (w.heap.size < wz.heap.size) := Lib.hid (by have := lt_of_heap hrb; omega)
  have HIB : Hid ((Tryd.prog.info? 22).map (·.size) = some (bysA b).size) := Lib.hid (by rw [bysA_size, hb]; exact info32)
  have HIO : Hid ((Tryd.prog.info? 22).map (·.size) = some (bysA o).size) := Lib.hid (by rw [bysA_size, ho]; exact info32)
  clear hS hT hl hb ho hix hwz hbz hrb hro hrx
  go_enter Tryd.func5, Tryd.ntmps5
  go_wp2_with (rw [← HWZ.out]; refine l_load rfl _ _ rfl _ (what_load HRX.out HX.out) ?_)
  refine (value_any ix n q c l wz HX.out HLZ.out).mono ?_
  rintro e w2 ⟨v, rfl, hown, hb2⟩
  obtain ⟨L, hL⟩ : ∃ L, L = l.take 200 := ⟨_, rfl⟩
  have hL2 : L.length ≤ 200 := by rw [hL, List.length_take]; omega
  rw [← hL] at hown
  obtain ⟨q2, c2, rfl⟩ := Ow_form hown
  obtain ⟨M, hM⟩ : ∃ M, M = bound o ix n L := ⟨_, rfl⟩
  have HML : Hid (M.length = 32) := Lib.hid (by rw [hM]; exact bound_length _ _ _ _)
  have HME := Lib.hid hM
  have HV := Lib.hid (Rd.of_ow hown)
  have HOW := Lib.hid hown
  have HL2 := Lib.hid hL2
  have HB2 := Lib.hid (HBZ.out.trans (hb2.mono HBZ.out.size))
  have HRB2 := Lib.hid (Rp.row_le hb2 HRB.out)
  have HRO2 := Lib.hid (Rp.row_le hb2 HRO.out)
  have HRX2 := Lib.hid (Rp.row_le hb2 HRX.out)
  clear hL hL2 hown hM hb2 HLZ HRB HRO HRX HBZ HWZ
  have hc5 := what_version HRX2.out HX.out
  have hg5 := lt_of_heap HRX2.out
  go_wp2_with fail
  refine Rc.region (w2.heap.size) 10 [Rc.F 9 (fun _ => .string ⟨M.toArray⟩) (fun _ _ _ => True)] [] (by kernel_rfl) (Nat.le_refl _) (by kernel_rfl) ?_; intro p; simp only [List.take_succ_cons, List.take_zero, List.take_nil, List.drop_succ_cons, List.drop_zero, List.drop_nil]
  iterate 1 (refine Rc.rK rfl rfl ?_; intro K hK; apply Exists.intro; refine ⟨?_, ?_⟩; (focus (intro x hx;  go_simp; (first | (fail) | ((try go_bits); (try go_simp); (try rfl))))); go_simp; refine hK _ ?_; clear hK K)
  refine Rc.r_str rfl rfl 23 9 _ rfl 5 Tryd.underlying9 Tryd.underlying23 Tryd.underlying5 _ _ (o) rfl (fun x hx => Rd_of_row (Rp.row_le (Rc.undrew hx) HRO2.out) HOL.out (by decide)) ?_; intro K hK; go_simp; refine hK _ ?_; clear hK K
  iterate 2 (refine Rc.rK rfl rfl ?_; intro K hK; apply Exists.intro; refine ⟨?_, ?_⟩; (focus (intro x hx;  go_simp; (first | (fail) | ((try go_bits); (try go_simp); (try rfl))))); go_simp; refine hK _ ?_; clear hK K)
  refine Rc.r_str rfl rfl 23 9 _ rfl 5 Tryd.underlying9 Tryd.underlying23 Tryd.underlying5 _ _ (ix) rfl (fun x hx => what_rd (Rp.row_le (Rc.undrew hx) HRX2.out) HX.out) ?_; intro K hK; go_simp; refine hK _ ?_; clear hK K
  iterate 3 (refine Rc.rK rfl rfl ?_; intro K hK; apply Exists.intro; refine ⟨?_, ?_⟩; (focus (intro x hx; have c0x := Rc.cell_le hx hg5 hc5; go_simp; (first | (fail) | ((try go_bits); (try go_simp); (try rfl))))); go_simp; refine hK _ ?_; clear hK K)
  refine Rc.r_str rfl rfl 23 9 _ rfl 5 Tryd.underlying9 Tryd.underlying23 Tryd.underlying5 _ _ (L) rfl (fun x hx => HV.out.below (Rc.undrew hx)) ?_; intro K hK; go_simp; refine hK _ ?_; clear hK K
  refine Rc.fK rfl rfl rfl rfl ?_ ?_
  · intro x Fs hx hle hg K hK
    go_wp2_with fail
    refine (refbound_any o ix n L x (HT.out.below (HB2.out.trans ((Rc.undrew hx).mono HB2.out.size))) HOL.out HX.out (by have := HL2.out; omega)).mono ?_
    rintro e x' ⟨rfl, hb⟩
    rw [← HME.out]
    go_wp2_with fail
    exact hK Rc.dflt x' hb (fun _ _ _ _ => trivial)
  intro K hK; go_simp; refine hK _ ?_; clear hK K
  refine Rc.done fun x Fs hx hle hg => ?_
  have hrb3 := Rp.row_le (Rc.undrew hx) HRB2.out
  have HRO3 := Lib.hid (Rp.row_le (Rc.undrew hx) HRO2.out)
  have HRX3 := Lib.hid (Rp.row_le (Rc.undrew hx) HRX2.out)
  have HV3 := Lib.hid (HV.out.below (Rc.undrew hx))
  have HOW3 := Lib.hid (HOW.out.below (Rc.undrew hx))
  have HB3 := Lib.hid (HB2.out.trans ((Rc.undrew hx).mono HB2.out.size))
  have HRB3 := Lib.hid hrb3
  have c0 := cell_of_bys hrb3 (k := 0) (by rw [HBL.out]; decide)
  obtain ⟨u, hu⟩ : ∃ u, u = bt b 0 := ⟨_, rfl⟩
  rw [← hu] at c0
  clear hrb3 hu hx hle hg hc5 hg5 HV HRB2 HRO2 HRX2 HB2
  go_wp2_with fail
  refine NoPanic.normal ?_
  cases hu2 : ((u.toNat : Int) % 2 == 0)
  · obtain ⟨B, hB⟩ : ∃ B, B = b := ⟨_, rfl⟩
    obtain ⟨y, hy⟩ : ∃ y, y = x := ⟨_, rfl⟩
    have HRB4 : Hid (y.heap[w.heap.size]? = some (.cells (bysA B) 22 (0, 0))) := Lib.hid (by rw [hy, hB]; exact HRB3.out)
    have HRO4 : Hid (y.heap[w.heap.size + 1]? = some (.cells (bysA o) 22 (0, 0))) := Lib.hid (by rw [hy]; exact HRO3.out)
    have HRX4 : Hid (y.heap[w.heap.size + 1 + 1]? = some (.cells (whatA ix n (.slice q l.length c)) 25 (0, 0))) := Lib.hid (by rw [hy]; exact HRX3.out)
    have HV4 : Hid (Rd y 1 (.slice q2 L.length c2) L.length (bys L)) := Lib.hid (by rw [hy]; exact HV3.out)
    have HB4 : Hid (Below w.heap.size w y) := Lib.hid (by rw [hy]; exact HB3.out)
    have HBBL : Hid (B.length = 32) := Lib.hid (by rw [hB]; exact HBL.out)
    have HIB4 : Hid ((Tryd.prog.info? 22).map (·.size) = some (bysA B).size) := Lib.hid (by rw [bysA_size, HBBL.out]; exact info32)
    rw [← hy] at c0 ⊢
    have c32 := what_version HRX4.out HX.out
    clear hB hy HRB3 HRO3 HRX3 HV3 HB3
    go_wp2_with (first | (refine wpList_load_row rfl 22 _ rfl w.heap.size rfl 22 (bysA B) (0, 0) _ HRB4.out Tryd.underlying22 rfl HIB4.out ?_) | (refine wpList_load_row rfl 22 _ rfl (w.heap.size + 1) rfl 22 (bysA o) (0, 0) _ HRO4.out Tryd.underlying22 rfl HIO.out ?_) | (refine l_load rfl _ _ rfl _ (what_index HRX4.out HX.out) ?_))
    refine (ccheck_any B o ix n q2 c2 L y (HS.out.below HB4.out) HBBL.out HOL.out HX.out HV4.out (by have := HL2.out; omega)).mono ?_
    rintro e w5 ⟨rfl, hb5⟩
    obtain ⟨r, hr⟩ : ∃ r, r = cchk B o ix n L := ⟨_, rfl⟩
    rw [← hr]
    have HRE := Lib.hid hr
    have HRB5 := Lib.hid (Rp.row_le hb5 HRB4.out)
    have HRO5 := Lib.hid (Rp.row_le hb5 HRO4.out)
    have HRX5 := Lib.hid (Rp.row_le hb5 HRX4.out)
    have HV5 := Lib.hid (HV4.out.below hb5)
    have HB5 := Lib.hid (HB4.out.trans (hb5.mono HB4.out.size))
    clear hr hb5 HRB4 HRO4 HRX4 HV4 HB4 c32
    have c32 := what_version HRX5.out HX.out
    go_wp2_with (first | (refine wpList_load_row rfl 22 _ rfl (w.heap.size + 1) rfl 22 (bysA o) (0, 0) _ HRO5.out Tryd.underlying22 rfl HIO.out ?_) | (refine l_load rfl _ _ rfl _ (what_index HRX5.out HX.out) ?_))
    refine (ctexts_any o ix n q2 c2 L w5 (HS.out.below HB5.out) HOL.out HX.out HV5.out (by have := HL2.out; omega)).mono ?_
    rintro e w6 ⟨g6, q61, c61, q62, c62, rfl, hg6, hrow6, hrt6, hru6, hb6⟩
    obtain ⟨T, hT⟩ : ∃ T, T = tin o ix n L := ⟨_, rfl⟩
    obtain ⟨U, hU⟩ : ∃ U, U = tout o ix n L := ⟨_, rfl⟩
    have HSU : Hid (sha U = M) := Lib.hid (by rw [hU, HME.out]; exact sha_tout HOL.out)
    have HUL : Hid (U.length = 96) := Lib.hid (by rw [hU]; exact tout_length _ _ _ _ HOL.out)
    rw [← hT, ← hU] at hrow6
    rw [← hT] at hrt6
    rw [← hU] at hru6
    have HTE := Lib.hid hT
    have HUE := Lib.hid hU
    have HG6 := Lib.hid hrow6
    have HT6 := Lib.hid hrt6
    have HU6 := Lib.hid hru6
    have HRB6 := Lib.hid (Rp.row_le hb6 HRB5.out)
    have HRO6 := Lib.hid (Rp.row_le hb6 HRO5.out)
    have HRX6 := Lib.hid (Rp.row_le hb6 HRX5.out)
    have HV6 := Lib.hid (HV5.out.below hb6)
    have HB6 := Lib.hid (HB5.out.trans (hb6.mono HB5.out.size))
    clear hT hU hg6 hrow6 hrt6 hru6 hb6 HRB5 HRO5 HRX5 HV5 HB5 c32
    have hc6 := what_version HRX6.out HX.out
    have hg6 := lt_of_heap HRX6.out
    go_wp2_with fail
    refine Rc.region (w6.heap.size) 10 [⟨9, [], [], some (fun _ pj => .slice pj.q 2 2), fun _ pj F y => ∃ g, pj.q = some ⟨g, 0, none⟩ ∧ w6.heap.size ≤ g ∧ y.heap[g]? = some (.cells #[.string ⟨T.toArray⟩, .string ⟨U.toArray⟩] 9 (0, 0))⟩] [9] (by kernel_rfl) (Nat.le_refl _) (by kernel_rfl) ?_; intro p; simp only [List.take_succ_cons, List.take_zero, List.take_nil, List.drop_succ_cons, List.drop_zero, List.drop_nil]
    iterate 1 (refine Rc.rK rfl rfl ?_; intro K hK; apply Exists.intro; refine ⟨?_, ?_⟩; (focus (intro x hx;  go_simp; (first | (fail) | ((try go_bits); (try go_simp); (try rfl))))); go_simp; refine hK _ ?_; clear hK K)
    refine Rc.r_str rfl rfl 23 9 _ rfl 5 Tryd.underlying9 Tryd.underlying23 Tryd.underlying5 _ _ (o) rfl (fun x hx => Rd_of_row (Rp.row_le (Rc.undrew hx) HRO6.out) HOL.out (by decide)) ?_; intro K hK; go_simp; refine hK _ ?_; clear hK K
    iterate 2 (refine Rc.rK rfl rfl ?_; intro K hK; apply Exists.intro; refine ⟨?_, ?_⟩; (focus (intro x hx;  go_simp; (first | (fail) | ((try go_bits); (try go_simp); (try rfl))))); go_simp; refine hK _ ?_; clear hK K)
    refine Rc.r_str rfl rfl 23 9 _ rfl 5 Tryd.underlying9 Tryd.underlying23 Tryd.underlying5 _ _ (ix) rfl (fun x hx => what_rd (Rp.row_le (Rc.undrew hx) HRX6.out) HX.out) ?_; intro K hK; go_simp; refine hK _ ?_; clear hK K
    iterate 3 (refine Rc.rK rfl rfl ?_; intro K hK; apply Exists.intro; refine ⟨?_, ?_⟩; (focus (intro x hx; have c0x := Rc.cell_le hx hg6 hc6; go_simp; (first | (fail) | ((try go_bits); (try go_simp); (try rfl))))); go_simp; refine hK _ ?_; clear hK K)
    refine Rc.r_str rfl rfl 23 9 _ rfl 5 Tryd.underlying9 Tryd.underlying23 Tryd.underlying5 _ _ (L) rfl (fun x hx => HV6.out.below (Rc.undrew hx)) ?_; intro K hK; go_simp; refine hK _ ?_; clear hK K
    refine Rc.fK rfl rfl rfl rfl ?_ ?_
    · intro x Fs hx hle hg K hK
      go_wp2_with fail
      refine (texts17_any o ix n L x (HT.out.below (HB6.out.trans ((Rc.undrew hx).mono HB6.out.size))) HOL.out HX.out (by have := HL2.out; omega)).mono ?_
      rintro e x' ⟨g, rfl, hgs, hrow, hb⟩
      rw [← HTE.out, ← HUE.out] at hrow
      have HRW := Lib.hid hrow
      clear hrow
      go_wp2_with fail
      exact hK ⟨some ⟨g, 0, none⟩, 0, undef⟩ x' hb (fun F y hF hy => ⟨g, rfl, Nat.le_trans hle hgs, (hy.block g (lt_of_heap HRW.out) (.inr (hF g hgs (lt_of_heap HRW.out)))).trans HRW.out⟩)
    intro K hK; go_simp; refine hK _ ?_; clear hK K
    refine Rc.done fun x Fs hx hle hg => ?_
    obtain ⟨g7, hgq, hgle, hgrow⟩ : ∃ g, (p 9).q = some ⟨g, 0, none⟩ ∧ w6.heap.size ≤ g ∧ x.heap[g]? = some (.cells #[.string ⟨T.toArray⟩, .string ⟨U.toArray⟩] 9 (0, 0)) := hg.1
    have HG7 := Lib.hid hgrow
    have HRB7 := Lib.hid (Rp.row_le (Rc.undrew hx) HRB6.out)
    have HG67 := Lib.hid (Rp.row_le (Rc.undrew hx) HG6.out)
    have HT7 := Lib.hid (HT6.out.below (Rc.undrew hx))
    have HU7 := Lib.hid (HU6.out.below (Rc.undrew hx))
    have HB7 := Lib.hid (HB6.out.trans ((Rc.undrew hx).mono HB6.out.size))
    rw [hgq]
    clear hgq hgle hgrow hg hx hle hc6 hg6 HG6 HT6 HU6 HRB6 HRO6 HRX6 HV6 HB6
    go_wp2_with fail
    refine NoPanic.normal ?_
    go_wp2_with fail
    refine (binds_any x (HS.out.below HB7.out)).mono ?_
    rintro e w8 ⟨rfl, hb8⟩
    have HRB8 := Lib.hid (Rp.row_le hb8 HRB7.out)
    have HG68 := Lib.hid (Rp.row_le hb8 HG67.out)
    have HG78 := Lib.hid (Rp.row_le hb8 HG7.out)
    have HT8 := Lib.hid (HT7.out.below hb8)
    have HU8 := Lib.hid (HU7.out.below hb8)
    have HB8 := Lib.hid (HB7.out.trans (hb8.mono HB7.out.size))
    clear hb8 HRB7 HG67 HG7 HT7 HU7 HB7
    by_cases hm : B = M
    · obtain rfl : r = 0 := by rw [HRE.out]; unfold cchk; rw [← HME.out, hm]; simp
      subst hm
      go_wp2_with fail
      rw [run_conv_str (P := Tryd.prog) (Rd_of_row HRB8.out HBBL.out (by decide)) 9 23 5 Tryd.underlying9 Tryd.underlying23 Tryd.underlying5]
      go_wp2_with fail
      have d60 := cell_two0 HG68.out
      have d61 := cell_two1 HG68.out
      have d70 := cell_two0 HG78.out
      have d71 := cell_two1 HG78.out
      have hl6 := lt_of_heap HG68.out
      have hl7 := lt_of_heap HG78.out
      refine Rc.region (w8.heap.size) 26 [Rc.F 22 (fun _ => .string ⟨B.toArray⟩) (fun _ _ _ => True)] [] (by kernel_rfl) (Nat.le_refl _) (by kernel_rfl) ?_; intro p; simp only [List.take_succ_cons, List.take_zero, List.take_nil, List.drop_succ_cons, List.drop_zero, List.drop_nil]
      iterate 3 (refine Rc.rK rfl rfl ?_; intro K hK; apply Exists.intro; refine ⟨?_, ?_⟩; (focus (intro x hx; have e60 := Rc.cell_le hx hl6 d60; go_simp; (first | (fail) | ((try go_bits); (try go_simp); (try rfl))))); go_simp; refine hK _ ?_; clear hK K)
      refine Rc.r_str rfl rfl 23 9 _ rfl 5 Tryd.underlying9 Tryd.underlying23 Tryd.underlying5 _ _ (T) rfl (fun x hx => HT8.out.below (Rc.undrew hx)) ?_; intro K hK; go_simp; refine hK _ ?_; clear hK K
      iterate 8 (refine Rc.rK rfl rfl ?_; intro K hK; apply Exists.intro; refine ⟨?_, ?_⟩; (focus (intro x hx; have e61 := Rc.cell_le hx hl6 d61; have e70 := Rc.cell_le hx hl7 d70; go_simp; (first | (fail) | ((try go_bits); (try go_simp); (try rfl))))); go_simp; refine hK _ ?_; clear hK K)
      refine Rc.r_str rfl rfl 23 9 _ rfl 5 Tryd.underlying9 Tryd.underlying23 Tryd.underlying5 _ _ (U) rfl (fun x hx => HU8.out.below (Rc.undrew hx)) ?_; intro K hK; go_simp; refine hK _ ?_; clear hK K
      iterate 9 (refine Rc.rK rfl rfl ?_; intro K hK; apply Exists.intro; refine ⟨?_, ?_⟩; (focus (intro x hx; have e71 := Rc.cell_le hx hl7 d71; go_simp; (first | (fail) | ((try go_bits); (try go_simp); (try rfl))))); go_simp; refine hK _ ?_; clear hK K)
      refine Rc.fK rfl rfl rfl rfl ?_ ?_
      · intro x Fs hx hle hg K hK
        go_wp2_with fail
        refine (sum_any ⟨U.toArray⟩ U (by rfl) x (HT.out.below (HB8.out.trans ((Rc.undrew hx).mono HB8.out.size))) (by have := HUL.out; omega)).mono ?_
        rintro e x' ⟨rfl, hb⟩
        rw [HSU.out]
        go_wp2_with fail
        exact hK Rc.dflt x' hb (fun _ _ _ _ => trivial)
      intro K hK; go_simp; refine hK _ ?_; clear hK K
      iterate 3 (refine Rc.rK rfl rfl ?_; intro K hK; apply Exists.intro; refine ⟨?_, ?_⟩; (focus (intro x hx;  go_simp; (first | (fail) | ((try go_bits); (try go_simp); (try rfl))))); go_simp; refine hK _ ?_; clear hK K)
      refine Rc.done fun x Fs hx hle hg => ?_
      have HB9 := Lib.hid (HB8.out.trans ((Rc.undrew hx).mono HB8.out.size))
      clear hx hle hg
      go_wp2_with fail
      refine NoPanic.normal ?_
      go_wp2_with fail
      go_ret
      exact ⟨rfl, HB9.out⟩
    · obtain rfl : r = 17 := by rw [HRE.out]; unfold cchk; rw [← HME.out, if_neg (by simpa using fun e => hm e.symm)]
      have hne : (B == M) = false := by simpa using hm
      go_wp2_with fail
      rw [run_conv_str (P := Tryd.prog) (Rd_of_row HRB8.out HBBL.out (by decide)) 9 23 5 Tryd.underlying9 Tryd.underlying23 Tryd.underlying5]
      go_wp2_with fail
      have d60 := cell_two0 HG68.out
      have d61 := cell_two1 HG68.out
      have d70 := cell_two0 HG78.out
      have d71 := cell_two1 HG78.out
      have hl6 := lt_of_heap HG68.out
      have hl7 := lt_of_heap HG78.out
      refine Rc.region (w8.heap.size) 26 [Rc.F 22 (fun _ => .string ⟨M.toArray⟩) (fun _ _ _ => True)] [] (by kernel_rfl) (Nat.le_refl _) (by kernel_rfl) ?_; intro p; simp only [List.take_succ_cons, List.take_zero, List.take_nil, List.drop_succ_cons, List.drop_zero, List.drop_nil]
      iterate 3 (refine Rc.rK rfl rfl ?_; intro K hK; apply Exists.intro; refine ⟨?_, ?_⟩; (focus (intro x hx; have e60 := Rc.cell_le hx hl6 d60; go_simp; (first | (fail) | ((try go_bits); (try go_simp); (try rfl))))); go_simp; refine hK _ ?_; clear hK K)
      refine Rc.r_str rfl rfl 23 9 _ rfl 5 Tryd.underlying9 Tryd.underlying23 Tryd.underlying5 _ _ (T) rfl (fun x hx => HT8.out.below (Rc.undrew hx)) ?_; intro K hK; go_simp; refine hK _ ?_; clear hK K
      iterate 8 (refine Rc.rK rfl rfl ?_; intro K hK; apply Exists.intro; refine ⟨?_, ?_⟩; (focus (intro x hx; have e61 := Rc.cell_le hx hl6 d61; have e70 := Rc.cell_le hx hl7 d70; go_simp; (first | (fail) | ((try go_bits); (try go_simp); (try rfl))))); go_simp; refine hK _ ?_; clear hK K)
      refine Rc.r_str rfl rfl 23 9 _ rfl 5 Tryd.underlying9 Tryd.underlying23 Tryd.underlying5 _ _ (U) rfl (fun x hx => HU8.out.below (Rc.undrew hx)) ?_; intro K hK; go_simp; refine hK _ ?_; clear hK K
      iterate 9 (refine Rc.rK rfl rfl ?_; intro K hK; apply Exists.intro; refine ⟨?_, ?_⟩; (focus (intro x hx; have e71 := Rc.cell_le hx hl7 d71; go_simp; (first | (fail) | ((try go_bits); (try go_simp); (try rfl))))); go_simp; refine hK _ ?_; clear hK K)
      refine Rc.fK rfl rfl rfl rfl ?_ ?_
      · intro x Fs hx hle hg K hK
        go_wp2_with fail
        refine (sum_any ⟨U.toArray⟩ U (by rfl) x (HT.out.below (HB8.out.trans ((Rc.undrew hx).mono HB8.out.size))) (by have := HUL.out; omega)).mono ?_
        rintro e x' ⟨rfl, hb⟩
        rw [HSU.out]
        go_wp2_with fail
        exact hK Rc.dflt x' hb (fun _ _ _ _ => trivial)
      intro K hK; go_simp; refine hK _ ?_; clear hK K
      iterate 3 (refine Rc.rK rfl rfl ?_; intro K hK; apply Exists.intro; refine ⟨?_, ?_⟩; (focus (intro x hx;  go_simp; (first | (fail) | ((try go_bits); (try go_simp); (try rfl))))); go_simp; refine hK _ ?_; clear hK K)
      refine Rc.done fun x Fs hx hle hg => ?_
      have HB9 := Lib.hid (HB8.out.trans ((Rc.undrew hx).mono HB8.out.size))
      clear hx hle hg
      go_wp2_with fail
      refine NoPanic.normal ?_
      go_wp2_with fail
      go_ret
      exact ⟨rfl, HB9.out⟩
  · go_wp2_with fail
    rw [copy_str HRB3.out HBL.out HML.out]
    obtain ⟨B, hB⟩ : ∃ B, B = M := ⟨_, rfl⟩
    obtain ⟨y, hy⟩ : ∃ y, y = x.setRow w.heap.size (bysA M) := ⟨_, rfl⟩
    have hne1 : w.heap.size + 1 ≠ w.heap.size := by omega
    have hne2 : w.heap.size + 1 + 1 ≠ w.heap.size := by omega
    have HRB4 : Hid (y.heap[w.heap.size]? = some (.cells (bysA B) 22 (0, 0))) := Lib.hid (by rw [hy, hB]; exact setRow_heap _ _ _ _ _ _ HRB3.out)
    have HRO4 : Hid (y.heap[w.heap.size + 1]? = some (.cells (bysA o) 22 (0, 0))) := Lib.hid (by rw [hy]; exact (setRow_other _ _ _ _ hne1).trans HRO3.out)
    have HRX4 : Hid (y.heap[w.heap.size + 1 + 1]? = some (.cells (whatA ix n (.slice q l.length c)) 25 (0, 0))) := Lib.hid (by rw [hy]; exact (setRow_other _ _ _ _ hne2).trans HRX3.out)
    have HV4 : Hid (Rd y 1 (.slice q2 L.length c2) L.length (bys L)) := Lib.hid (by rw [hy]; exact Rd.of_ow (HOW3.out.keeps (keeps_setRow x w.heap.size (bysA M)) fun k hk => .inr fun e => by have := (HOW3.out.lt k hk).1; have := HWS.out; omega))
    have HB4 : Hid (Below w.heap.size w y) := Lib.hid (by rw [hy]; exact Rg.below_setRow HB3.out (Nat.le_refl _) _)
    have HBBL : Hid (B.length = 32) := Lib.hid (by rw [hB]; exact HML.out)
    have HIB4 : Hid ((Tryd.prog.info? 22).map (·.size) = some (bysA B).size) := Lib.hid (by rw [bysA_size, HBBL.out]; exact info32)
    rw [← hy]
    have c32 := what_version HRX4.out HX.out
    clear hB hy hne1 hne2 c0 HRB3 HRO3 HRX3 HV3 HB3 hu2
    go_wp2_with (first | (refine wpList_load_row rfl 22 _ rfl w.heap.size rfl 22 (bysA B) (0, 0) _ HRB4.out Tryd.underlying22 rfl HIB4.out ?_) | (refine wpList_load_row rfl 22 _ rfl (w.heap.size + 1) rfl 22 (bysA o) (0, 0) _ HRO4.out Tryd.underlying22 rfl HIO.out ?_) | (refine l_load rfl _ _ rfl _ (what_index HRX4.out HX.out) ?_))
    refine (ccheck_any B o ix n q2 c2 L y (HS.out.below HB4.out) HBBL.out HOL.out HX.out HV4.out (by have := HL2.out; omega)).mono ?_
    rintro e w5 ⟨rfl, hb5⟩
    obtain ⟨r, hr⟩ : ∃ r, r = cchk B o ix n L := ⟨_, rfl⟩
    rw [← hr]
    have HRE := Lib.hid hr
    have HRB5 := Lib.hid (Rp.row_le hb5 HRB4.out)
    have HRO5 := Lib.hid (Rp.row_le hb5 HRO4.out)
    have HRX5 := Lib.hid (Rp.row_le hb5 HRX4.out)
    have HV5 := Lib.hid (HV4.out.below hb5)
    have HB5 := Lib.hid (HB4.out.trans (hb5.mono HB4.out.size))
    clear hr hb5 HRB4 HRO4 HRX4 HV4 HB4 c32
    have c32 := what_version HRX5.out HX.out
    go_wp2_with (first | (refine wpList_load_row rfl 22 _ rfl (w.heap.size + 1) rfl 22 (bysA o) (0, 0) _ HRO5.out Tryd.underlying22 rfl HIO.out ?_) | (refine l_load rfl _ _ rfl _ (what_index HRX5.out HX.out) ?_))
    refine (ctexts_any o ix n q2 c2 L w5 (HS.out.below HB5.out) HOL.out HX.out HV5.out (by have := HL2.out; omega)).mono ?_
    rintro e w6 ⟨g6, q61, c61, q62, c62, rfl, hg6, hrow6, hrt6, hru6, hb6⟩
    obtain ⟨T, hT⟩ : ∃ T, T = tin o ix n L := ⟨_, rfl⟩
    obtain ⟨U, hU⟩ : ∃ U, U = tout o ix n L := ⟨_, rfl⟩
    have HSU : Hid (sha U = M) := Lib.hid (by rw [hU, HME.out]; exact sha_tout HOL.out)
    have HUL : Hid (U.length = 96) := Lib.hid (by rw [hU]; exact tout_length _ _ _ _ HOL.out)
    rw [← hT, ← hU] at hrow6
    rw [← hT] at hrt6
    rw [← hU] at hru6
    have HTE := Lib.hid hT
    have HUE := Lib.hid hU
    have HG6 := Lib.hid hrow6
    have HT6 := Lib.hid hrt6
    have HU6 := Lib.hid hru6
    have HRB6 := Lib.hid (Rp.row_le hb6 HRB5.out)
    have HRO6 := Lib.hid (Rp.row_le hb6 HRO5.out)
    have HRX6 := Lib.hid (Rp.row_le hb6 HRX5.out)
    have HV6 := Lib.hid (HV5.out.below hb6)
    have HB6 := Lib.hid (HB5.out.trans (hb6.mono HB5.out.size))
    clear hT hU hg6 hrow6 hrt6 hru6 hb6 HRB5 HRO5 HRX5 HV5 HB5 c32
    have hc6 := what_version HRX6.out HX.out
    have hg6 := lt_of_heap HRX6.out
    go_wp2_with fail
    refine Rc.region (w6.heap.size) 10 [⟨9, [], [], some (fun _ pj => .slice pj.q 2 2), fun _ pj F y => ∃ g, pj.q = some ⟨g, 0, none⟩ ∧ w6.heap.size ≤ g ∧ y.heap[g]? = some (.cells #[.string ⟨T.toArray⟩, .string ⟨U.toArray⟩] 9 (0, 0))⟩] [9] (by kernel_rfl) (Nat.le_refl _) (by kernel_rfl) ?_; intro p; simp only [List.take_succ_cons, List.take_zero, List.take_nil, List.drop_succ_cons, List.drop_zero, List.drop_nil]
    iterate 1 (refine Rc.rK rfl rfl ?_; intro K hK; apply Exists.intro; refine ⟨?_, ?_⟩; (focus (intro x hx;  go_simp; (first | (fail) | ((try go_bits); (try go_simp); (try rfl))))); go_simp; refine hK _ ?_; clear hK K)
    refine Rc.r_str rfl rfl 23 9 _ rfl 5 Tryd.underlying9 Tryd.underlying23 Tryd.underlying5 _ _ (o) rfl (fun x hx => Rd_of_row (Rp.row_le (Rc.undrew hx) HRO6.out) HOL.out (by decide)) ?_; intro K hK; go_simp; refine hK _ ?_; clear hK K
    iterate 2 (refine Rc.rK rfl rfl ?_; intro K hK; apply Exists.intro; refine ⟨?_, ?_⟩; (focus (intro x hx;  go_simp; (first | (fail) | ((try go_bits); (try go_simp); (try rfl))))); go_simp; refine hK _ ?_; clear hK K)
    refine Rc.r_str rfl rfl 23 9 _ rfl 5 Tryd.underlying9 Tryd.underlying23 Tryd.underlying5 _ _ (ix) rfl (fun x hx => what_rd (Rp.row_le (Rc.undrew hx) HRX6.out) HX.out) ?_; intro K hK; go_simp; refine hK _ ?_; clear hK K
    iterate 3 (refine Rc.rK rfl rfl ?_; intro K hK; apply Exists.intro; refine ⟨?_, ?_⟩; (focus (intro x hx; have c0x := Rc.cell_le hx hg6 hc6; go_simp; (first | (fail) | ((try go_bits); (try go_simp); (try rfl))))); go_simp; refine hK _ ?_; clear hK K)
    refine Rc.r_str rfl rfl 23 9 _ rfl 5 Tryd.underlying9 Tryd.underlying23 Tryd.underlying5 _ _ (L) rfl (fun x hx => HV6.out.below (Rc.undrew hx)) ?_; intro K hK; go_simp; refine hK _ ?_; clear hK K
    refine Rc.fK rfl rfl rfl rfl ?_ ?_
    · intro x Fs hx hle hg K hK
      go_wp2_with fail
      refine (texts17_any o ix n L x (HT.out.below (HB6.out.trans ((Rc.undrew hx).mono HB6.out.size))) HOL.out HX.out (by have := HL2.out; omega)).mono ?_
      rintro e x' ⟨g, rfl, hgs, hrow, hb⟩
      rw [← HTE.out, ← HUE.out] at hrow
      have HRW := Lib.hid hrow
      clear hrow
      go_wp2_with fail
      exact hK ⟨some ⟨g, 0, none⟩, 0, undef⟩ x' hb (fun F y hF hy => ⟨g, rfl, Nat.le_trans hle hgs, (hy.block g (lt_of_heap HRW.out) (.inr (hF g hgs (lt_of_heap HRW.out)))).trans HRW.out⟩)
    intro K hK; go_simp; refine hK _ ?_; clear hK K
    refine Rc.done fun x Fs hx hle hg => ?_
    obtain ⟨g7, hgq, hgle, hgrow⟩ : ∃ g, (p 9).q = some ⟨g, 0, none⟩ ∧ w6.heap.size ≤ g ∧ x.heap[g]? = some (.cells #[.string ⟨T.toArray⟩, .string ⟨U.toArray⟩] 9 (0, 0)) := hg.1
    have HG7 := Lib.hid hgrow
    have HRB7 := Lib.hid (Rp.row_le (Rc.undrew hx) HRB6.out)
    have HG67 := Lib.hid (Rp.row_le (Rc.undrew hx) HG6.out)
    have HT7 := Lib.hid (HT6.out.below (Rc.undrew hx))
    have HU7 := Lib.hid (HU6.out.below (Rc.undrew hx))
    have HB7 := Lib.hid (HB6.out.trans ((Rc.undrew hx).mono HB6.out.size))
    rw [hgq]
    clear hgq hgle hgrow hg hx hle hc6 hg6 HG6 HT6 HU6 HRB6 HRO6 HRX6 HV6 HB6
    go_wp2_with fail
    refine NoPanic.normal ?_
    go_wp2_with fail
    refine (binds_any x (HS.out.below HB7.out)).mono ?_
    rintro e w8 ⟨rfl, hb8⟩
    have HRB8 := Lib.hid (Rp.row_le hb8 HRB7.out)
    have HG68 := Lib.hid (Rp.row_le hb8 HG67.out)
    have HG78 := Lib.hid (Rp.row_le hb8 HG7.out)
    have HT8 := Lib.hid (HT7.out.below hb8)
    have HU8 := Lib.hid (HU7.out.below hb8)
    have HB8 := Lib.hid (HB7.out.trans (hb8.mono HB7.out.size))
    clear hb8 HRB7 HG67 HG7 HT7 HU7 HB7
    by_cases hm : B = M
    · obtain rfl : r = 0 := by rw [HRE.out]; unfold cchk; rw [← HME.out, hm]; simp
      subst hm
      go_wp2_with fail
      rw [run_conv_str (P := Tryd.prog) (Rd_of_row HRB8.out HBBL.out (by decide)) 9 23 5 Tryd.underlying9 Tryd.underlying23 Tryd.underlying5]
      go_wp2_with fail
      have d60 := cell_two0 HG68.out
      have d61 := cell_two1 HG68.out
      have d70 := cell_two0 HG78.out
      have d71 := cell_two1 HG78.out
      have hl6 := lt_of_heap HG68.out
      have hl7 := lt_of_heap HG78.out
      refine Rc.region (w8.heap.size) 26 [Rc.F 22 (fun _ => .string ⟨B.toArray⟩) (fun _ _ _ => True)] [] (by kernel_rfl) (Nat.le_refl _) (by kernel_rfl) ?_; intro p; simp only [List.take_succ_cons, List.take_zero, List.take_nil, List.drop_succ_cons, List.drop_zero, List.drop_nil]
      iterate 3 (refine Rc.rK rfl rfl ?_; intro K hK; apply Exists.intro; refine ⟨?_, ?_⟩; (focus (intro x hx; have e60 := Rc.cell_le hx hl6 d60; go_simp; (first | (fail) | ((try go_bits); (try go_simp); (try rfl))))); go_simp; refine hK _ ?_; clear hK K)
      refine Rc.r_str rfl rfl 23 9 _ rfl 5 Tryd.underlying9 Tryd.underlying23 Tryd.underlying5 _ _ (T) rfl (fun x hx => HT8.out.below (Rc.undrew hx)) ?_; intro K hK; go_simp; refine hK _ ?_; clear hK K
      iterate 8 (refine Rc.rK rfl rfl ?_; intro K hK; apply Exists.intro; refine ⟨?_, ?_⟩; (focus (intro x hx; have e61 := Rc.cell_le hx hl6 d61; have e70 := Rc.cell_le hx hl7 d70; go_simp; (first | (fail) | ((try go_bits); (try go_simp); (try rfl))))); go_simp; refine hK _ ?_; clear hK K)
      refine Rc.r_str rfl rfl 23 9 _ rfl 5 Tryd.underlying9 Tryd.underlying23 Tryd.underlying5 _ _ (U) rfl (fun x hx => HU8.out.below (Rc.undrew hx)) ?_; intro K hK; go_simp; refine hK _ ?_; clear hK K
      iterate 9 (refine Rc.rK rfl rfl ?_; intro K hK; apply Exists.intro; refine ⟨?_, ?_⟩; (focus (intro x hx; have e71 := Rc.cell_le hx hl7 d71; go_simp; (first | (fail) | ((try go_bits); (try go_simp); (try rfl))))); go_simp; refine hK _ ?_; clear hK K)
      refine Rc.fK rfl rfl rfl rfl ?_ ?_
      · intro x Fs hx hle hg K hK
        go_wp2_with fail
        refine (sum_any ⟨U.toArray⟩ U (by rfl) x (HT.out.below (HB8.out.trans ((Rc.undrew hx).mono HB8.out.size))) (by have := HUL.out; omega)).mono ?_
        rintro e x' ⟨rfl, hb⟩
        rw [HSU.out]
        go_wp2_with fail
        exact hK Rc.dflt x' hb (fun _ _ _ _ => trivial)
      intro K hK; go_simp; refine hK _ ?_; clear hK K
      iterate 3 (refine Rc.rK rfl rfl ?_; intro K hK; apply Exists.intro; refine ⟨?_, ?_⟩; (focus (intro x hx;  go_simp; (first | (fail) | ((try go_bits); (try go_simp); (try rfl))))); go_simp; refine hK _ ?_; clear hK K)
      refine Rc.done fun x Fs hx hle hg => ?_
      have HB9 := Lib.hid (HB8.out.trans ((Rc.undrew hx).mono HB8.out.size))
      clear hx hle hg
      go_wp2_with fail
      refine NoPanic.normal ?_
      go_wp2_with fail
      go_ret
      exact ⟨rfl, HB9.out⟩
    · obtain rfl : r = 17 := by rw [HRE.out]; unfold cchk; rw [← HME.out, if_neg (by simpa using fun e => hm e.symm)]
      have hne : (B == M) = false := by simpa using hm
      go_wp2_with fail
      rw [run_conv_str (P := Tryd.prog) (Rd_of_row HRB8.out HBBL.out (by decide)) 9 23 5 Tryd.underlying9 Tryd.underlying23 Tryd.underlying5]
      go_wp2_with fail
      have d60 := cell_two0 HG68.out
      have d61 := cell_two1 HG68.out
      have d70 := cell_two0 HG78.out
      have d71 := cell_two1 HG78.out
      have hl6 := lt_of_heap HG68.out
      have hl7 := lt_of_heap HG78.out
      refine Rc.region (w8.heap.size) 26 [Rc.F 22 (fun _ => .string ⟨M.toArray⟩) (fun _ _ _ => True)] [] (by kernel_rfl) (Nat.le_refl _) (by kernel_rfl) ?_; intro p; simp only [List.take_succ_cons, List.take_zero, List.take_nil, List.drop_succ_cons, List.drop_zero, List.drop_nil]
      iterate 3 (refine Rc.rK rfl rfl ?_; intro K hK; apply Exists.intro; refine ⟨?_, ?_⟩; (focus (intro x hx; have e60 := Rc.cell_le hx hl6 d60; go_simp; (first | (fail) | ((try go_bits); (try go_simp); (try rfl))))); go_simp; refine hK _ ?_; clear hK K)
      refine Rc.r_str rfl rfl 23 9 _ rfl 5 Tryd.underlying9 Tryd.underlying23 Tryd.underlying5 _ _ (T) rfl (fun x hx => HT8.out.below (Rc.undrew hx)) ?_; intro K hK; go_simp; refine hK _ ?_; clear hK K
      iterate 8 (refine Rc.rK rfl rfl ?_; intro K hK; apply Exists.intro; refine ⟨?_, ?_⟩; (focus (intro x hx; have e61 := Rc.cell_le hx hl6 d61; have e70 := Rc.cell_le hx hl7 d70; go_simp; (first | (fail) | ((try go_bits); (try go_simp); (try rfl))))); go_simp; refine hK _ ?_; clear hK K)
      refine Rc.r_str rfl rfl 23 9 _ rfl 5 Tryd.underlying9 Tryd.underlying23 Tryd.underlying5 _ _ (U) rfl (fun x hx => HU8.out.below (Rc.undrew hx)) ?_; intro K hK; go_simp; refine hK _ ?_; clear hK K
      iterate 9 (refine Rc.rK rfl rfl ?_; intro K hK; apply Exists.intro; refine ⟨?_, ?_⟩; (focus (intro x hx; have e71 := Rc.cell_le hx hl7 d71; go_simp; (first | (fail) | ((try go_bits); (try go_simp); (try rfl))))); go_simp; refine hK _ ?_; clear hK K)
      refine Rc.fK rfl rfl rfl rfl ?_ ?_
      · intro x Fs hx hle hg K hK
        go_wp2_with fail
        refine (sum_any ⟨U.toArray⟩ U (by rfl) x (HT.out.below (HB8.out.trans ((Rc.undrew hx).mono HB8.out.size))) (by have := HUL.out; omega)).mono ?_
        rintro e x' ⟨rfl, hb⟩
        rw [HSU.out]
        go_wp2_with fail
        exact hK Rc.dflt x' hb (fun _ _ _ _ => trivial)
      intro K hK; go_simp; refine hK _ ?_; clear hK K
      iterate 3 (refine Rc.rK rfl rfl ?_; intro K hK; apply Exists.intro; refine ⟨?_, ?_⟩; (focus (intro x hx;  go_simp; (first | (fail) | ((try go_bits); (try go_simp); (try rfl))))); go_simp; refine hK _ ?_; clear hK K)
      refine Rc.done fun x Fs hx hle hg => ?_
      have HB9 := Lib.hid (HB8.out.trans ((Rc.undrew hx).mono HB8.out.size))
      clear hx hle hg
      go_wp2_with fail
      refine NoPanic.normal ?_
      go_wp2_with fail
      go_ret
      exact ⟨rfl, HB9.out⟩
end Ref
end Go.Proofs.YtkembhonfehlbaaDoor
