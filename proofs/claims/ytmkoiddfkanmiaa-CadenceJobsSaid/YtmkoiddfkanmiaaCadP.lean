/- The walk of CadenceApart. -/
import Derived.Test.YtmkoiddfkanmiaaCadO
import Derived.Test.YtmkoiddfkanmiaaCadH
import Derived.Test.YtmkoiddfkanmiaaOpenJ
namespace Go.Proofs.Ytmkoiddfkanmiaa
open Go.RowKit Bits Mem Sha
namespace Cad
theorem addD_none (id : List UInt8) (p a : Int) : (addD [] id p a).1 = 1 ∧ (addD [] id p a).2 = [] ∨ (addD [] id p a).1 = 0 ∧ (addD [] id p a).2 = [⟨id, p, a⟩] := by
  unfold addD
  split
  · exact .inl ⟨rfl, rfl⟩
  · split
    · rename_i h; cases h
    · exact .inr ⟨rfl, by simp [place]⟩
/-- A job's cells, in memory. -/
theorem job_cells {w : World} {b off c : Nat} {J : List Job} {k : Nat} {x : Job} (h : Rd w 4 (.slice (some ⟨b, off, none⟩) J.length c) J.length (jobs J)) (hx : J[k]? = some x) :
    w.cell? ⟨b, off + k * 4, none⟩ = some (.int .i64 x.what) ∧ w.cell? ⟨b, off + k * 4 + 1, none⟩ = some (.string ⟨x.id.toArray⟩) ∧ w.cell? ⟨b, off + k * 4 + 2, none⟩ = some (.int .i64 x.period) ∧ w.cell? ⟨b, off + k * 4 + 3, none⟩ = some (.int .i64 x.age) ∧ b < w.heap.size := by
  obtain ⟨b', off', he, hb, _, _, hc⟩ := Rd_lt h (by have := (List.getElem?_eq_some_iff.1 hx).1; omega)
  cases he
  have hh : ∀ j, j < 4 → ∀ u, (jobA x).toList[j]? = some u → w.cell? ⟨b, off + k * 4 + j, none⟩ = some u := fun j hj u hu => by
    rw [Nat.add_assoc]
    exact hc _ u (by rw [jobs_get J k x hx j hj]; exact hu)
  exact ⟨hh 0 (by decide) _ rfl, hh 1 (by decide) _ rfl, hh 2 (by decide) _ rfl, hh 3 (by decide) _ rfl, hb⟩
theorem mem_take_up {D : List (List UInt8)} {m : List UInt8} {k : Nat} (h : true = decide (m ∈ D.take k)) : true = decide (m ∈ D.take (k + 1)) := by
  have h1 : m ∈ D.take k := by simpa using h.symm
  symm
  rw [decide_eq_true_iff, List.take_add_one]
  exact List.mem_append_left _ h1
theorem mem_take_new {D : List (List UInt8)} {m : List UInt8} {k : Nat} (h : D[k]? = some m) : true = decide (m ∈ D.take (k + 1)) := by
  symm
  rw [decide_eq_true_iff, List.take_add_one, h]
  exact List.mem_append_right _ (by simp)
theorem mem_take_not {D : List (List UInt8)} {m t : List UInt8} {k : Nat} (h : D[k]? = some t) (hne : ¬ t = m) (h0 : false = decide (m ∈ D.take k)) : false = decide (m ∈ D.take (k + 1)) := by
  have h1 : ¬ m ∈ D.take k := by simpa using h0.symm
  symm
  rw [decide_eq_false_iff_not, List.take_add_one, h, List.mem_append]
  rintro (h2 | h2)
  · exact h1 h2
  · simp at h2; exact hne h2.symm
/-- Two schedules that lie apart. -/
structure Two (w0 w : World) (B : Nat) (na nb : Int) (qa : Option Addr) (ca : Nat) (La : List One) (qb : Option Addr) (cb : Nat) (Lb : List One) : Prop where
  a : SchedAt w B (B + 2) qa ca na La
  b : SchedAt w (B + 1) (B + 2) qb cb nb Lb
  sep : ∀ k, (Value.slice qa La.length ca).ownBlock = some k → (Value.slice qb Lb.length cb).ownBlock ≠ some k
  kept : Below B w0 w
theorem Two.size {w0 w : World} {B : Nat} {na nb : Int} {qa qb : Option Addr} {ca cb : Nat} {La Lb : List One} (h : Two w0 w B na nb qa ca La qb cb Lb) : B + 2 ≤ w.heap.size := by
  have := (Array.getElem?_eq_some_iff.1 h.b.1).1
  omega
theorem SchedAt.kp {w w' : World} {sb base : Nat} {q : Option Addr} {c : Nat} {now : Int} {L : List One} {S : Nat → Prop} (h : SchedAt w sb base q c now L) (hk : Kp S w w') (h1 : ¬ S sb) (h2 : ∀ k, (Value.slice q L.length c).ownBlock = some k → ¬ S k) : SchedAt w' sb base q c now L :=
  ⟨(hk.block sb (Array.getElem?_eq_some_iff.1 h.1).1 h1).trans h.1, h.2.1, h.2.2.kp hk h2⟩
theorem Two.below {w0 w w' : World} {B : Nat} {na nb : Int} {qa qb : Option Addr} {ca cb : Nat} {La Lb : List One} (h : Two w0 w B na nb qa ca La qb cb Lb) (hb : Below w.heap.size w w') : Two w0 w' B na nb qa ca La qb cb Lb :=
  ⟨h.a.below hb, h.b.below hb, h.sep, h.kept.trans (hb.mono (by have := h.size; omega))⟩
theorem Two.turnA {w0 w w' : World} {B : Nat} {na nb na' : Int} {qa qb qa' : Option Addr} {ca cb ca' : Nat} {La Lb La' : List One} (h : Two w0 w B na nb qa ca La qb cb Lb)
    (h1 : SchedAt w' B (B + 2) qa' ca' na' La') (hk : Kp (fun k => k = B ∨ (Value.slice qa La.length ca).ownBlock = some k) w w') (hg : Grew w qa ca La.length qa' La'.length ca') : Two w0 w' B na' nb qa' ca' La' qb cb Lb := by
  have hs := h.size
  refine ⟨h1, h.b.kp hk ?_ ?_, ?_, h.kept.trans (hk.below (by omega) ?_)⟩
  · rintro (e | e)
    · omega
    · have := (h.a.2.2.lt _ e).1; omega
  · rintro k hb (e | e)
    · have := (h.b.2.2.lt _ hb).1; omega
    · exact h.sep k e hb
  · intro k e hb
    rcases hg k e with e' | e'
    · exact h.sep k e' hb
    · have := (h.b.2.2.lt _ hb).2; omega
  · rintro k (e | e)
    · omega
    · have := (h.a.2.2.lt _ e).1; omega
theorem Two.turnB {w0 w w' : World} {B : Nat} {na nb nb' : Int} {qa qb qb' : Option Addr} {ca cb cb' : Nat} {La Lb Lb' : List One} (h : Two w0 w B na nb qa ca La qb cb Lb)
    (h1 : SchedAt w' (B + 1) (B + 2) qb' cb' nb' Lb') (hk : Kp (fun k => k = B + 1 ∨ (Value.slice qb Lb.length cb).ownBlock = some k) w w') (hg : Grew w qb cb Lb.length qb' Lb'.length cb') : Two w0 w' B na nb' qa ca La qb' cb' Lb' := by
  have hs := h.size
  refine ⟨h.a.kp hk ?_ ?_, h1, ?_, h.kept.trans (hk.below (by omega) ?_)⟩
  · rintro (e | e)
    · omega
    · have := (h.b.2.2.lt _ e).1; omega
  · rintro k hb (e | e)
    · have := (h.a.2.2.lt _ hb).1; omega
    · exact h.sep k hb e
  · intro k ha e
    rcases hg k e with e' | e'
    · exact h.sep k ha e'
    · have := (h.a.2.2.lt _ ha).2; omega
  · rintro k (e | e)
    · omega
    · have := (h.b.2.2.lt _ e).1; omega
set_option maxRecDepth 100000 in
set_option maxHeartbeats 4000000 in
theorem apart_any (p a : Int) (q : Option Addr) (c : Nat) (J : List Job) (w : World) (hJ : Rd w 4 (.slice q J.length c) J.length (jobs J)) (hok : ∀ j ∈ J, j.ok) (ha : a ≤ 9223372036854775807) :
    Calls Try.prog 4 #[.int .i64 p, .int .i64 a, .slice q J.length c] w fun e w' => e = .returned (.bool true) ∧ Below w.heap.size w w' := by
  obtain ⟨w1, hw1⟩ : ∃ w1, w1 = w.alloc (.cells #[.int .i64 (5 : Nat), .slice none 0 0] 53) := ⟨_, rfl⟩
  obtain ⟨w2, hw2⟩ : ∃ w2, w2 = w1.alloc (.cells #[.int .i64 (5 : Nat), .slice none 0 0] 53) := ⟨_, rfl⟩
  obtain ⟨B, hB⟩ : ∃ B, B = w.heap.size := ⟨_, rfl⟩
  have hs1 : w1.heap.size = B + 1 := by rw [hw1, hB]; exact Array.size_push _
  have hs2 : w2.heap.size = B + 2 := by rw [hw2]; exact (Array.size_push _).trans (by omega)
  have hb1 : Below w.heap.size w w1 := by rw [hw1]; exact (Below.refl _ _).alloc (Nat.le_refl _) _
  have hb12 : Below w1.heap.size w1 w2 := by rw [hw2]; exact (Below.refl _ _).alloc (Nat.le_refl _) _
  have HA2 : Hid (SchedAt w2 B (B + 2) none 0 5 []) := Lib.hid ⟨(hb12.block B (by omega)).trans (by rw [hw1, hB]; exact heap_alloc_new w _), by omega, Ow.nil _ _ _ _⟩
  have HB2 : Hid (SchedAt w2 (B + 1) (B + 2) none 0 5 []) := Lib.hid ⟨by rw [hw2, ← hs1]; exact heap_alloc_new w1 _, by omega, Ow.nil _ _ _ _⟩
  have HK2 : Hid (Below B w w2) := Lib.hid (by rw [hB]; exact hb1.trans (hb12.mono (by omega)))
  have HW1 := Lib.hid hw1
  have HW2 := Lib.hid hw2
  have HJ := Lib.hid hJ
  have HOK := Lib.hid hok
  have HBE := Lib.hid hB
  have HS1 := Lib.hid hs1
  clear hw1 hw2 hb1 hb12 hJ hok hB hs1
  go_enter Try.func4, Try.ntmps4
  go_wp2_with fail
  refine (newCad_any 5 w).mono ?_
  rintro e w1' ⟨rfl, hw⟩
  obtain rfl : w1' = w1 := hw.trans HW1.out.symm
  rw [← HBE.out]
  clear hw
  go_wp2_with fail
  refine (newCad_any 5 w1').mono ?_
  rintro e w2' ⟨rfl, hw⟩
  obtain rfl : w2' = w2 := hw.trans HW2.out.symm
  rw [HS1.out]
  clear hw
  go_wp2_with fail
  refine (add_any B (B + 2) none 0 5 p a [] [109] w2' HA2.out (by decide) Good.nil.srt (by omega)).mono ?_
  rintro e w3 ⟨qa, ca, rfl, hsa, hka, hga⟩
  obtain ⟨er, her⟩ : ∃ er, er = (addD [] [109] p a).1 := ⟨_, rfl⟩
  obtain ⟨La, hLa⟩ : ∃ La, La = (addD [] [109] p a).2 := ⟨_, rfl⟩
  rw [← her]
  rw [← hLa] at hsa hga
  have HT3 : Hid (Two w w3 B 5 5 qa ca La none 0 []) := Lib.hid ((⟨HA2.out, HB2.out, (fun k h => by cases h), HK2.out⟩ : Two w w2' B 5 5 none 0 [] none 0 []).turnA hsa hka hga)
  have hs3 := HT3.out.size
  have HER := Lib.hid her
  have HLA := Lib.hid hLa
  clear hsa hka hga her hLa
  go_wp2_with fail
  refine (add_any (B + 1) (B + 2) none 0 5 p a [] [109] w3 HT3.out.b (by decide) Good.nil.srt (by omega)).mono ?_
  rintro e w4 ⟨qb, cb, rfl, hsb, hkb, hgb⟩
  rw [← HER.out]
  rw [← HLA.out] at hsb hgb
  have HT4 : Hid (Two w w4 B 5 5 qa ca La qb cb La) := Lib.hid (HT3.out.turnB hsb hkb hgb)
  clear hsb hkb hgb
  go_wp2_with fail
  refine (beatsCad_any w4).mono ?_
  rintro e w5 ⟨rfl, hb5⟩
  have HT5 := Lib.hid (HT4.out.below hb5)
  clear hb5
  have hl1 : La.length ≤ 1 := by rw [HLA.out]; rcases addD_none [109] p a with ⟨_, h⟩ | ⟨_, h⟩ <;> rw [h] <;> simp
  have HGA : Hid (Good La) := Lib.hid (by rw [HLA.out]; exact Good.nil.addD [109] p a ha)
  have HON : Hid (only [109] La = La) := Lib.hid (by rw [HLA.out]; exact only_first [109] p a)
  go_wp2_with fail
  go_loopw [13] (fun iv wr => ∃ (i : Nat) (qa : Option Addr) (ca : Nat) (La : List One) (qb : Option Addr) (cb : Nat) (Lb : List One), i ≤ 40 ∧ iv = .int .i64 i ∧ La.length ≤ 1 ∧ Lb.length ≤ i + 1 ∧ Hid (Two w wr B (5 + (i : Int)) (5 + (i : Int)) qa ca La qb cb Lb) ∧ Hid (Good La) ∧ Hid (Good Lb) ∧ Hid (only [109] Lb = La)) (fun iv _ => 40 - (intOf iv).toNat)
  case atStart => exact ⟨0, qa, ca, La, qb, cb, La, by decide, rfl, hl1, by omega, HT5, HGA, HGA, HON⟩
  case round =>
    clear HT3 HT4 HT5 HGA HON hl1 HLA HER HA2 HB2 HK2 HW1 HW2 hs2 hs3
    obtain ⟨i, qa, ca, La, qb, cb, Lb, hi, rfl, hl1, hlb, HT, HGA, HGB, HON⟩ := hrel
    by_cases hlt : i < 40
    · have hltI : (i : Int) < 40 := by omega
      by_cases hj : i < J.length
      · have hjI : (i : Int) < (J.length : Int) := by omega
        obtain ⟨x, hx⟩ : ∃ x, J[i]? = some x := ⟨_, List.getElem?_eq_getElem hj⟩
        have HRJ := Lib.hid (HJ.out.below (HBE.out ▸ HT.out.kept))
        obtain ⟨b, off, rfl, hb, _, _, _⟩ := Rd_lt HRJ.out (by omega)
        obtain ⟨j0, j1, j2, j3, _⟩ := job_cells HRJ.out hx
        obtain ⟨xw, xi, xp, xa⟩ := x
        by_cases hm : xi = [109]
        · subst hm
          go_wp2_with fail
          refine (tick_any B (B + 2) qa ca (5 + (i : Int)) La wr HT.out.a (by omega) (by omega) (by omega) HGA.out.each).mono ?_
          rintro e wa ⟨qo, co, rfl, hsa, hra, hka⟩
          have HTa : Hid (Two w wa B (5 + (i : Int) + 1) (5 + (i : Int)) qa ca (La.map tick1) qb cb Lb) := Lib.hid (HT.out.turnA hsa hka (fun k hk => .inl (by simpa using hk)))
          have hla : (dues La).length ≤ 1 := by have := dues_len La; omega
          obtain ⟨da, hda⟩ : ∃ da, da = (dues La).length := ⟨_, rfl⟩
          rw [← hda] at hla ⊢
          have HDA := Lib.hid hda
          clear hsa hra hka hda
          go_wp2_with fail
          refine (tick_any (B + 1) (B + 2) qb cb (5 + (i : Int)) Lb wa HTa.out.b (by omega) (by omega) (by omega) HGB.out.each).mono ?_
          rintro e wb ⟨qp, cp, rfl, hsb, hrb, hkb⟩
          have HTb : Hid (Two w wb B (5 + (i : Int) + 1) (5 + (i : Int) + 1) qa ca (La.map tick1) qb cb (List.map tick1 Lb)) := Lib.hid (HTa.out.turnB hsb hkb (fun k hk => .inl (by simpa using hk)))
          obtain ⟨D, hD⟩ : ∃ D, D = dues Lb := ⟨_, rfl⟩
          rw [← hD] at hrb ⊢
          have hdl : D.length ≤ 100 := by rw [hD]; have := dues_len Lb; omega
          have HD := Lib.hid hD
          have HRB := Lib.hid hrb
          clear hsb hrb hkb hD
          go_wp2_with fail
          go_loopw [18, 19] (fun fv kv wr2 => ∃ (k : Nat) (f : Bool), k ≤ D.length ∧ kv = .int .i64 k ∧ fv = .bool f ∧ wr2 = wb ∧ Hid (f = decide ([109] ∈ D.take k))) (fun _ kv _ => D.length - (intOf kv).toNat)
          case atStart => exact ⟨0, false, Nat.zero_le _, rfl, rfl, rfl, Lib.hid (by simp)⟩
          case round =>
            obtain ⟨k, f, hk, rfl, rfl, rfl, HF⟩ := hrel
            by_cases hkl : k < D.length
            · have hkI : (k : Int) < (D.length : Int) := by omega
              cases f with
              | true =>
                go_wp2_with fail
                exact ⟨⟨k + 1, true, by omega, by go_num, rfl, trivial, Lib.hid (mem_take_up HF.out)⟩, by simp [intOf]; omega⟩
              | false =>
                obtain ⟨t, ht⟩ : ∃ t, D[k]? = some t := ⟨_, List.getElem?_eq_getElem hkl⟩
                obtain ⟨b2, off2, rfl, hb2, _, _, hc2⟩ := Rd_lt HRB.out (by omega)
                have hck := hc2 k _ (by unfold strsC; rw [List.getElem?_map, ht]; rfl)
                clear hc2
                by_cases hm2 : t = [109]
                · subst hm2
                  have HT2 := Lib.hid ht
                  clear ht
                  go_wp2_with fail
                  exact ⟨⟨k + 1, true, by omega, by go_num, rfl, trivial, Lib.hid (mem_take_new HT2.out)⟩, by simp [intOf]; omega⟩
                · have HT2 := Lib.hid ht
                  have HM2 := Lib.hid hm2
                  have hmB : (t == [109]) = false := by rw [beq_eq_false_iff_ne]; exact hm2
                  clear ht
                  go_wp2_with fail
                  exact ⟨⟨k + 1, false, by omega, by go_num, rfl, trivial, Lib.hid (mem_take_not HT2.out HM2.out HF.out)⟩, by simp [intOf]; omega⟩
            · have hkI : ¬ (k : Int) < (D.length : Int) := by omega
              have hfd : (f = true ∧ da = 1) ∨ (f = false ∧ da = 0) := by
                have h1 : f = decide (1 ≤ da) := by
                  rw [HF.out, List.take_of_length_le (by omega), HD.out, HDA.out, ← HON.out]
                  exact decide_eq_decide.2 (only_dues [109] _)
                by_cases h2 : 1 ≤ da
                · exact .inl ⟨by rw [h1]; simpa using h2, by omega⟩
                · exact .inr ⟨by rw [h1]; simpa using h2, by omega⟩
              have HONT : Hid (only [109] (List.map tick1 Lb) = List.map tick1 La) := Lib.hid (by rw [only_tick, HON.out])
              have HGAT := Lib.hid HGA.out.ticked
              have HGBT := Lib.hid HGB.out.ticked
              have HTE : Hid (Two w wr B (5 + ((i + 1 : Nat) : Int)) (5 + ((i + 1 : Nat) : Int)) qa ca (La.map tick1) qb cb (List.map tick1 Lb)) := Lib.hid (by rw [show (5 + ((i + 1 : Nat) : Int)) = 5 + (i : Int) + 1 by omega]; exact HTb.out)
              have hlaT : (La.map tick1).length ≤ 1 := by rw [List.length_map]; exact hl1
              have hlbT : (List.map tick1 Lb).length ≤ (i + 1) + 1 := by rw [List.length_map]; omega
              rcases hfd with ⟨rfl, rfl⟩ | ⟨rfl, rfl⟩
              · go_wp2_with fail
                exact ⟨⟨i + 1, qa, ca, List.map tick1 La, qb, cb, List.map tick1 Lb, by omega, by go_num, hlaT, hlbT, HTE, HGAT, HGBT, HONT⟩, by simp [intOf]; omega⟩
              · go_wp2_with fail
                exact ⟨⟨i + 1, qa, ca, List.map tick1 La, qb, cb, List.map tick1 Lb, by omega, by go_num, hlaT, hlbT, HTE, HGAT, HGBT, HONT⟩, by simp [intOf]; omega⟩
        · obtain ⟨o0, o2, o3⟩ := HOK.out _ (List.mem_of_getElem? hx)
          have hmB : (xi == [109]) = false := by rw [beq_eq_false_iff_ne]; exact hm
          go_wp2_with fail
          refine Rc.region (wr.heap.size) 16 [] [] (by kernel_rfl) (Nat.le_refl _) (by kernel_rfl) ?_; intro p; simp only [List.take, List.drop]
          iterate 16 (refine Rc.rK rfl rfl ?_; intro K hK; apply Exists.intro; refine ⟨?_, ?_⟩; (focus (intro x hx; have e1 := Rc.cell_le hx hb j1; have e2 := Rc.cell_le hx hb j2; have e3 := Rc.cell_le hx hb j3; go_simp; (first | (fail) | ((try go_bits); (try go_simp); (try rfl))))); go_simp; refine hK _ ?_; clear hK K)
          refine Rc.done fun wz Fs hx2 hle hg => ?_
          have HTZ := Lib.hid (HT.out.below (Rc.undrew hx2))
          have hsz := HTZ.out.size
          have HRZ := Lib.hid (HJ.out.below (HBE.out ▸ HTZ.out.kept))
          have HM := Lib.hid hm
          have HX := Lib.hid hx
          have hbz : b < wz.heap.size := Nat.lt_of_lt_of_le hb (Rc.undrew hx2).size
          clear hx2 hle hg j0 j1 j2 j3 hm hx
          go_wp2_with fail
          refine (add_any (B + 1) (B + 2) qb cb (5 + (i : Int)) xp xa Lb xi wz HTZ.out.b (by omega) HGB.out.srt (by omega)).mono ?_
          rintro e wy ⟨qb1, cb1, rfl, hsb, hkb, hgb⟩
          obtain ⟨Lb1, hLb1⟩ : ∃ Lb1, Lb1 = (addD Lb xi xp xa).2 := ⟨_, rfl⟩
          rw [← hLb1] at hsb hgb
          have HTY : Hid (Two w wy B (5 + (i : Int)) (5 + (i : Int)) qa ca La qb1 cb1 Lb1) := Lib.hid (HTZ.out.turnB hsb hkb hgb)
          have HG1 : Hid (Good Lb1) := Lib.hid (by rw [hLb1]; exact HGB.out.addD xi xp xa o3.2)
          have HO1 : Hid (only [109] Lb1 = La) := Lib.hid (by rw [hLb1, only_add HM.out]; exact HON.out)
          have hlb1 : Lb1.length ≤ i + 2 := by rw [hLb1]; have := addD_length Lb xi xp xa; omega
          have hsy := HTY.out.size
          have HRY := Lib.hid (HJ.out.below (HBE.out ▸ HTY.out.kept))
          obtain ⟨j0, j1, j2, j3, hby⟩ := job_cells HRY.out HX.out
          clear hsb hkb hgb hLb1
          go_wp2_with fail
          refine NoPanic.normal ?_
          by_cases hmod : xw.tmod 3 = 0
          · go_wp2_with fail
            refine (rem_any (B + 1) (B + 2) qb1 cb1 (5 + (i : Int)) Lb1 xi wy HTY.out.b (by omega) HG1.out.srt).mono ?_
            rintro e wx ⟨rfl, hsb, hkb⟩
            obtain ⟨Lb2, hLb2⟩ : ∃ Lb2, Lb2 = (remD Lb1 xi).2 := ⟨_, rfl⟩
            rw [← hLb2] at hsb
            have HTX : Hid (Two w wx B (5 + (i : Int)) (5 + (i : Int)) qa ca La qb1 cb1 Lb2) := Lib.hid (HTY.out.turnB hsb hkb (fun k hk => .inl (by rw [← hk]; cases qb1 <;> rfl)))
            have HG2 : Hid (Good Lb2) := Lib.hid (by rw [hLb2]; exact HG1.out.remD xi)
            have HO2 : Hid (only [109] Lb2 = La) := Lib.hid (by rw [hLb2, only_rem HM.out]; exact HO1.out)
            have hlb2 : Lb2.length ≤ i + 2 := by rw [hLb2]; have := remD_length Lb1 xi; omega
            clear hsb hkb hLb2 hlb1
            clear HON
            have HON := HO2
            go_wp2_with fail
            refine (tick_any B (B + 2) qa ca (5 + (i : Int)) La wx HTX.out.a (by omega) (by omega) (by omega) HGA.out.each).mono ?_
            rintro e wa ⟨qo, co, rfl, hsa, hra, hka⟩
            have HTa : Hid (Two w wa B (5 + (i : Int) + 1) (5 + (i : Int)) qa ca (La.map tick1) qb1 cb1 Lb2) := Lib.hid (HTX.out.turnA hsa hka (fun k hk => .inl (by simpa using hk)))
            have hla : (dues La).length ≤ 1 := by have := dues_len La; omega
            obtain ⟨da, hda⟩ : ∃ da, da = (dues La).length := ⟨_, rfl⟩
            rw [← hda] at hla ⊢
            have HDA := Lib.hid hda
            clear hsa hra hka hda
            go_wp2_with fail
            refine (tick_any (B + 1) (B + 2) qb1 cb1 (5 + (i : Int)) Lb2 wa HTa.out.b (by omega) (by omega) (by omega) HG2.out.each).mono ?_
            rintro e wb ⟨qp, cp, rfl, hsb, hrb, hkb⟩
            have HTb : Hid (Two w wb B (5 + (i : Int) + 1) (5 + (i : Int) + 1) qa ca (La.map tick1) qb1 cb1 (List.map tick1 Lb2)) := Lib.hid (HTa.out.turnB hsb hkb (fun k hk => .inl (by simpa using hk)))
            obtain ⟨D, hD⟩ : ∃ D, D = dues Lb2 := ⟨_, rfl⟩
            rw [← hD] at hrb ⊢
            have hdl : D.length ≤ 100 := by rw [hD]; have := dues_len Lb2; omega
            have HD := Lib.hid hD
            have HRB := Lib.hid hrb
            clear hsb hrb hkb hD
            go_wp2_with fail
            go_loopw [18, 19] (fun fv kv wr2 => ∃ (k : Nat) (f : Bool), k ≤ D.length ∧ kv = .int .i64 k ∧ fv = .bool f ∧ wr2 = wb ∧ Hid (f = decide ([109] ∈ D.take k))) (fun _ kv _ => D.length - (intOf kv).toNat)
            case atStart => exact ⟨0, false, Nat.zero_le _, rfl, rfl, rfl, Lib.hid (by simp)⟩
            case round =>
              obtain ⟨k, f, hk, rfl, rfl, rfl, HF⟩ := hrel
              by_cases hkl : k < D.length
              · have hkI : (k : Int) < (D.length : Int) := by omega
                cases f with
                | true =>
                  go_wp2_with fail
                  exact ⟨⟨k + 1, true, by omega, by go_num, rfl, trivial, Lib.hid (mem_take_up HF.out)⟩, by simp [intOf]; omega⟩
                | false =>
                  obtain ⟨t, ht⟩ : ∃ t, D[k]? = some t := ⟨_, List.getElem?_eq_getElem hkl⟩
                  obtain ⟨b2, off2, rfl, hb2, _, _, hc2⟩ := Rd_lt HRB.out (by omega)
                  have hck := hc2 k _ (by unfold strsC; rw [List.getElem?_map, ht]; rfl)
                  clear hc2
                  by_cases hm2 : t = [109]
                  · subst hm2
                    have HT2 := Lib.hid ht
                    clear ht
                    go_wp2_with fail
                    exact ⟨⟨k + 1, true, by omega, by go_num, rfl, trivial, Lib.hid (mem_take_new HT2.out)⟩, by simp [intOf]; omega⟩
                  · have HT2 := Lib.hid ht
                    have HM2 := Lib.hid hm2
                    have hmB : (t == [109]) = false := by rw [beq_eq_false_iff_ne]; exact hm2
                    clear ht
                    go_wp2_with fail
                    exact ⟨⟨k + 1, false, by omega, by go_num, rfl, trivial, Lib.hid (mem_take_not HT2.out HM2.out HF.out)⟩, by simp [intOf]; omega⟩
              · have hkI : ¬ (k : Int) < (D.length : Int) := by omega
                have hfd : (f = true ∧ da = 1) ∨ (f = false ∧ da = 0) := by
                  have h1 : f = decide (1 ≤ da) := by
                    rw [HF.out, List.take_of_length_le (by omega), HD.out, HDA.out, ← HON.out]
                    exact decide_eq_decide.2 (only_dues [109] _)
                  by_cases h2 : 1 ≤ da
                  · exact .inl ⟨by rw [h1]; simpa using h2, by omega⟩
                  · exact .inr ⟨by rw [h1]; simpa using h2, by omega⟩
                have HONT : Hid (only [109] (List.map tick1 Lb2) = List.map tick1 La) := Lib.hid (by rw [only_tick, HON.out])
                have HGAT := Lib.hid HGA.out.ticked
                have HGBT := Lib.hid HG2.out.ticked
                have HTE : Hid (Two w wr B (5 + ((i + 1 : Nat) : Int)) (5 + ((i + 1 : Nat) : Int)) qa ca (La.map tick1) qb1 cb1 (List.map tick1 Lb2)) := Lib.hid (by rw [show (5 + ((i + 1 : Nat) : Int)) = 5 + (i : Int) + 1 by omega]; exact HTb.out)
                have hlaT : (La.map tick1).length ≤ 1 := by rw [List.length_map]; exact hl1
                have hlbT : (List.map tick1 Lb2).length ≤ (i + 1) + 1 := by rw [List.length_map]; omega
                rcases hfd with ⟨rfl, rfl⟩ | ⟨rfl, rfl⟩
                · go_wp2_with fail
                  exact ⟨⟨i + 1, qa, ca, List.map tick1 La, qb1, cb1, List.map tick1 Lb2, by omega, by go_num, hlaT, hlbT, HTE, HGAT, HGBT, HONT⟩, by simp [intOf]; omega⟩
                · go_wp2_with fail
                  exact ⟨⟨i + 1, qa, ca, List.map tick1 La, qb1, cb1, List.map tick1 Lb2, by omega, by go_num, hlaT, hlbT, HTE, HGAT, HGBT, HONT⟩, by simp [intOf]; omega⟩
          · clear HON
            have HON := HO1
            go_wp2_with fail
            refine (tick_any B (B + 2) qa ca (5 + (i : Int)) La wy HTY.out.a (by omega) (by omega) (by omega) HGA.out.each).mono ?_
            rintro e wa ⟨qo, co, rfl, hsa, hra, hka⟩
            have HTa : Hid (Two w wa B (5 + (i : Int) + 1) (5 + (i : Int)) qa ca (La.map tick1) qb1 cb1 Lb1) := Lib.hid (HTY.out.turnA hsa hka (fun k hk => .inl (by simpa using hk)))
            have hla : (dues La).length ≤ 1 := by have := dues_len La; omega
            obtain ⟨da, hda⟩ : ∃ da, da = (dues La).length := ⟨_, rfl⟩
            rw [← hda] at hla ⊢
            have HDA := Lib.hid hda
            clear hsa hra hka hda
            go_wp2_with fail
            refine (tick_any (B + 1) (B + 2) qb1 cb1 (5 + (i : Int)) Lb1 wa HTa.out.b (by omega) (by omega) (by omega) HG1.out.each).mono ?_
            rintro e wb ⟨qp, cp, rfl, hsb, hrb, hkb⟩
            have HTb : Hid (Two w wb B (5 + (i : Int) + 1) (5 + (i : Int) + 1) qa ca (La.map tick1) qb1 cb1 (List.map tick1 Lb1)) := Lib.hid (HTa.out.turnB hsb hkb (fun k hk => .inl (by simpa using hk)))
            obtain ⟨D, hD⟩ : ∃ D, D = dues Lb1 := ⟨_, rfl⟩
            rw [← hD] at hrb ⊢
            have hdl : D.length ≤ 100 := by rw [hD]; have := dues_len Lb1; omega
            have HD := Lib.hid hD
            have HRB := Lib.hid hrb
            clear hsb hrb hkb hD
            go_wp2_with fail
            go_loopw [18, 19] (fun fv kv wr2 => ∃ (k : Nat) (f : Bool), k ≤ D.length ∧ kv = .int .i64 k ∧ fv = .bool f ∧ wr2 = wb ∧ Hid (f = decide ([109] ∈ D.take k))) (fun _ kv _ => D.length - (intOf kv).toNat)
            case atStart => exact ⟨0, false, Nat.zero_le _, rfl, rfl, rfl, Lib.hid (by simp)⟩
            case round =>
              obtain ⟨k, f, hk, rfl, rfl, rfl, HF⟩ := hrel
              by_cases hkl : k < D.length
              · have hkI : (k : Int) < (D.length : Int) := by omega
                cases f with
                | true =>
                  go_wp2_with fail
                  exact ⟨⟨k + 1, true, by omega, by go_num, rfl, trivial, Lib.hid (mem_take_up HF.out)⟩, by simp [intOf]; omega⟩
                | false =>
                  obtain ⟨t, ht⟩ : ∃ t, D[k]? = some t := ⟨_, List.getElem?_eq_getElem hkl⟩
                  obtain ⟨b2, off2, rfl, hb2, _, _, hc2⟩ := Rd_lt HRB.out (by omega)
                  have hck := hc2 k _ (by unfold strsC; rw [List.getElem?_map, ht]; rfl)
                  clear hc2
                  by_cases hm2 : t = [109]
                  · subst hm2
                    have HT2 := Lib.hid ht
                    clear ht
                    go_wp2_with fail
                    exact ⟨⟨k + 1, true, by omega, by go_num, rfl, trivial, Lib.hid (mem_take_new HT2.out)⟩, by simp [intOf]; omega⟩
                  · have HT2 := Lib.hid ht
                    have HM2 := Lib.hid hm2
                    have hmB : (t == [109]) = false := by rw [beq_eq_false_iff_ne]; exact hm2
                    clear ht
                    go_wp2_with fail
                    exact ⟨⟨k + 1, false, by omega, by go_num, rfl, trivial, Lib.hid (mem_take_not HT2.out HM2.out HF.out)⟩, by simp [intOf]; omega⟩
              · have hkI : ¬ (k : Int) < (D.length : Int) := by omega
                have hfd : (f = true ∧ da = 1) ∨ (f = false ∧ da = 0) := by
                  have h1 : f = decide (1 ≤ da) := by
                    rw [HF.out, List.take_of_length_le (by omega), HD.out, HDA.out, ← HON.out]
                    exact decide_eq_decide.2 (only_dues [109] _)
                  by_cases h2 : 1 ≤ da
                  · exact .inl ⟨by rw [h1]; simpa using h2, by omega⟩
                  · exact .inr ⟨by rw [h1]; simpa using h2, by omega⟩
                have HONT : Hid (only [109] (List.map tick1 Lb1) = List.map tick1 La) := Lib.hid (by rw [only_tick, HON.out])
                have HGAT := Lib.hid HGA.out.ticked
                have HGBT := Lib.hid HG1.out.ticked
                have HTE : Hid (Two w wr B (5 + ((i + 1 : Nat) : Int)) (5 + ((i + 1 : Nat) : Int)) qa ca (La.map tick1) qb1 cb1 (List.map tick1 Lb1)) := Lib.hid (by rw [show (5 + ((i + 1 : Nat) : Int)) = 5 + (i : Int) + 1 by omega]; exact HTb.out)
                have hlaT : (La.map tick1).length ≤ 1 := by rw [List.length_map]; exact hl1
                have hlbT : (List.map tick1 Lb1).length ≤ (i + 1) + 1 := by rw [List.length_map]; omega
                rcases hfd with ⟨rfl, rfl⟩ | ⟨rfl, rfl⟩
                · go_wp2_with fail
                  exact ⟨⟨i + 1, qa, ca, List.map tick1 La, qb1, cb1, List.map tick1 Lb1, by omega, by go_num, hlaT, hlbT, HTE, HGAT, HGBT, HONT⟩, by simp [intOf]; omega⟩
                · go_wp2_with fail
                  exact ⟨⟨i + 1, qa, ca, List.map tick1 La, qb1, cb1, List.map tick1 Lb1, by omega, by go_num, hlaT, hlbT, HTE, HGAT, HGBT, HONT⟩, by simp [intOf]; omega⟩
      · have hjI : ¬ (i : Int) < (J.length : Int) := by omega
        go_wp2_with fail
        refine (tick_any B (B + 2) qa ca (5 + (i : Int)) La wr HT.out.a (by omega) (by omega) (by omega) HGA.out.each).mono ?_
        rintro e wa ⟨qo, co, rfl, hsa, hra, hka⟩
        have HTa : Hid (Two w wa B (5 + (i : Int) + 1) (5 + (i : Int)) qa ca (La.map tick1) qb cb Lb) := Lib.hid (HT.out.turnA hsa hka (fun k hk => .inl (by simpa using hk)))
        have hla : (dues La).length ≤ 1 := by have := dues_len La; omega
        obtain ⟨da, hda⟩ : ∃ da, da = (dues La).length := ⟨_, rfl⟩
        rw [← hda] at hla ⊢
        have HDA := Lib.hid hda
        clear hsa hra hka hda
        go_wp2_with fail
        refine (tick_any (B + 1) (B + 2) qb cb (5 + (i : Int)) Lb wa HTa.out.b (by omega) (by omega) (by omega) HGB.out.each).mono ?_
        rintro e wb ⟨qp, cp, rfl, hsb, hrb, hkb⟩
        have HTb : Hid (Two w wb B (5 + (i : Int) + 1) (5 + (i : Int) + 1) qa ca (La.map tick1) qb cb (List.map tick1 Lb)) := Lib.hid (HTa.out.turnB hsb hkb (fun k hk => .inl (by simpa using hk)))
        obtain ⟨D, hD⟩ : ∃ D, D = dues Lb := ⟨_, rfl⟩
        rw [← hD] at hrb ⊢
        have hdl : D.length ≤ 100 := by rw [hD]; have := dues_len Lb; omega
        have HD := Lib.hid hD
        have HRB := Lib.hid hrb
        clear hsb hrb hkb hD
        go_wp2_with fail
        go_loopw [18, 19] (fun fv kv wr2 => ∃ (k : Nat) (f : Bool), k ≤ D.length ∧ kv = .int .i64 k ∧ fv = .bool f ∧ wr2 = wb ∧ Hid (f = decide ([109] ∈ D.take k))) (fun _ kv _ => D.length - (intOf kv).toNat)
        case atStart => exact ⟨0, false, Nat.zero_le _, rfl, rfl, rfl, Lib.hid (by simp)⟩
        case round =>
          obtain ⟨k, f, hk, rfl, rfl, rfl, HF⟩ := hrel
          by_cases hkl : k < D.length
          · have hkI : (k : Int) < (D.length : Int) := by omega
            cases f with
            | true =>
              go_wp2_with fail
              exact ⟨⟨k + 1, true, by omega, by go_num, rfl, trivial, Lib.hid (mem_take_up HF.out)⟩, by simp [intOf]; omega⟩
            | false =>
              obtain ⟨t, ht⟩ : ∃ t, D[k]? = some t := ⟨_, List.getElem?_eq_getElem hkl⟩
              obtain ⟨b2, off2, rfl, hb2, _, _, hc2⟩ := Rd_lt HRB.out (by omega)
              have hck := hc2 k _ (by unfold strsC; rw [List.getElem?_map, ht]; rfl)
              clear hc2
              by_cases hm2 : t = [109]
              · subst hm2
                have HT2 := Lib.hid ht
                clear ht
                go_wp2_with fail
                exact ⟨⟨k + 1, true, by omega, by go_num, rfl, trivial, Lib.hid (mem_take_new HT2.out)⟩, by simp [intOf]; omega⟩
              · have HT2 := Lib.hid ht
                have HM2 := Lib.hid hm2
                have hmB : (t == [109]) = false := by rw [beq_eq_false_iff_ne]; exact hm2
                clear ht
                go_wp2_with fail
                exact ⟨⟨k + 1, false, by omega, by go_num, rfl, trivial, Lib.hid (mem_take_not HT2.out HM2.out HF.out)⟩, by simp [intOf]; omega⟩
          · have hkI : ¬ (k : Int) < (D.length : Int) := by omega
            have hfd : (f = true ∧ da = 1) ∨ (f = false ∧ da = 0) := by
              have h1 : f = decide (1 ≤ da) := by
                rw [HF.out, List.take_of_length_le (by omega), HD.out, HDA.out, ← HON.out]
                exact decide_eq_decide.2 (only_dues [109] _)
              by_cases h2 : 1 ≤ da
              · exact .inl ⟨by rw [h1]; simpa using h2, by omega⟩
              · exact .inr ⟨by rw [h1]; simpa using h2, by omega⟩
            have HONT : Hid (only [109] (List.map tick1 Lb) = List.map tick1 La) := Lib.hid (by rw [only_tick, HON.out])
            have HGAT := Lib.hid HGA.out.ticked
            have HGBT := Lib.hid HGB.out.ticked
            have HTE : Hid (Two w wr B (5 + ((i + 1 : Nat) : Int)) (5 + ((i + 1 : Nat) : Int)) qa ca (La.map tick1) qb cb (List.map tick1 Lb)) := Lib.hid (by rw [show (5 + ((i + 1 : Nat) : Int)) = 5 + (i : Int) + 1 by omega]; exact HTb.out)
            have hlaT : (La.map tick1).length ≤ 1 := by rw [List.length_map]; exact hl1
            have hlbT : (List.map tick1 Lb).length ≤ (i + 1) + 1 := by rw [List.length_map]; omega
            rcases hfd with ⟨rfl, rfl⟩ | ⟨rfl, rfl⟩
            · go_wp2_with fail
              exact ⟨⟨i + 1, qa, ca, List.map tick1 La, qb, cb, List.map tick1 Lb, by omega, by go_num, hlaT, hlbT, HTE, HGAT, HGBT, HONT⟩, by simp [intOf]; omega⟩
            · go_wp2_with fail
              exact ⟨⟨i + 1, qa, ca, List.map tick1 La, qb, cb, List.map tick1 Lb, by omega, by go_num, hlaT, hlbT, HTE, HGAT, HGBT, HONT⟩, by simp [intOf]; omega⟩
    · obtain rfl : i = 40 := by omega
      have HBZ : Hid (Below w.heap.size w wr) := Lib.hid (HBE.out ▸ HT.out.kept)
      go_wp2_with fail
      go_ret
      exact ⟨rfl, HBZ.out⟩
end Cad
end Go.Proofs.Ytmkoiddfkanmiaa
