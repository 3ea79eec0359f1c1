/- The walk of ExtractFinds. -/
import Derived.Test.YtmkoiddfkanmiaaDoorFindD
import Derived.Test.YtmkoiddfkanmiaaDoorGFindE
import Derived.Test.YtmkoiddfkanmiaaDoorFew
namespace Go.Proofs.YtmkoiddfkanmiaaDoor
open Go.RowKit Bits Mem Sha
namespace Fnd
theorem few_le (L : List (List UInt8)) (m s : Nat) : ∀ t ∈ Ref.few L m s, t.length ≤ s := by
  intro t ht
  unfold Ref.few at ht
  obtain ⟨x, _, rfl⟩ := List.mem_map.1 ht
  rw [List.length_take]
  omega
theorem ownP_form {w : World} {base : Nat} {v : Value} {L : List (List UInt8)} (h : OwnP w base v L) : ∃ q c, v = .slice q L.length c := by
  obtain ⟨vs, h1, _⟩ := h
  obtain ⟨q, c, e⟩ := Ow_form h1
  exact ⟨q, c, e⟩
theorem raw_below {w w' : World} {v : Value} {L : List (List UInt8)} (h : Ref.RawParts w v L) (hb : Below w.heap.size w w') : Ref.RawParts w' v L := by
  obtain ⟨vs, h1, h2⟩ := h
  refine ⟨vs, h1.below hb, fun i hi => ?_⟩
  obtain ⟨q, c, e, hr⟩ := h2 i hi
  exact ⟨q, c, e, hr.below hb⟩
set_option maxRecDepth 100000 in
set_option maxHeartbeats 2000000 in
theorem extractFinds_any (qa : Option Addr) (ca : Nat) (L1 : List (List UInt8)) (qb : Option Addr) (cb : Nat) (L2 : List (List UInt8)) (w : World) (hS : Sha.Tabs w) (hR : Ref.Tabs w) (h1 : Ref.RawParts w (.slice qa L1.length ca) L1) (h2 : Ref.RawParts w (.slice qb L2.length cb) L2) :
    Calls Tryd.prog 3 #[.slice qa L1.length ca, .slice qb L2.length cb] w fun e w' => e = .returned (.bool true) ∧ Below w.heap.size w w' := by
  have HS := Lib.hid hS
  have HR := Lib.hid hR
  have H2 := Lib.hid h2
  have HF1 := Lib.hid (Ref.few_any qa ca L1 8 50 w h1 (by decide) (by decide) (by decide) (by decide))
  clear hS hR h1 h2
  go_enter Tryd.func3, Tryd.ntmps3
  go_wp2_with fail
  refine HF1.out.mono ?_
  rintro e w1 ⟨v1, rfl, ho1, hb1⟩
  obtain ⟨q1, c1, rfl⟩ := ownP_form ho1
  have HO1 := Lib.hid ho1
  have HB1 := Lib.hid hb1
  have HF2 := Lib.hid (Ref.few_any qb cb L2 8 50 w1 (raw_below H2.out hb1) (by decide) (by decide) (by decide) (by decide))
  clear ho1 hb1 HF1
  go_wp2_with fail
  refine HF2.out.mono ?_
  rintro e w2 ⟨v2, rfl, ho2, hb2⟩
  obtain ⟨q2, c2, rfl⟩ := ownP_form ho2
  have hU1 : (Ref.few L1 8 50).length ≤ 8 := by rw [Ref.few_length]; omega
  have hV1 : (Ref.few L2 8 50).length ≤ 8 := by rw [Ref.few_length]; omega
  have hU2 := few_le L1 8 50
  have hV2 := few_le L2 8 50
  have hp1 : Parts w2 (.slice q1 (Ref.few L1 8 50).length c1) (Ref.few L1 8 50) := (Ref.OwnP.parts HO1.out).below hb2
  have hp2 : Parts w2 (.slice q2 (Ref.few L2 8 50).length c2) (Ref.few L2 8 50) := Ref.OwnP.parts ho2
  simp only [show ((8 : Int).toNat) = 8 from rfl, show ((50 : Int).toNat) = 50 from rfl]
  obtain ⟨U, hU⟩ : ∃ U, U = Ref.few L1 8 50 := ⟨_, rfl⟩
  obtain ⟨V, hV⟩ : ∃ V, V = Ref.few L2 8 50 := ⟨_, rfl⟩
  rw [← hU] at hU1 hU2 hp1 ⊢
  rw [← hV] at hV1 hV2 hp2 ⊢
  have HB2 := Lib.hid (HB1.out.trans (hb2.mono HB1.out.size))
  have HP1 := Lib.hid hp1
  have HP2 := Lib.hid hp2
  have HU2 := Lib.hid hU2
  have HV2 := Lib.hid hV2
  clear hU hV hU2 hV2 hp1 hp2 ho2 hb2 HF2 HO1 HB1
  have HEF := Lib.hid (efind_any q1 c1 U q2 c2 V w2 (HS.out.below HB2.out) HP1.out HP2.out (by omega) (by omega) (fun t ht => by have := HU2.out t ht; omega) (fun t ht => by have := HV2.out t ht; omega))
  obtain ⟨⟨X, Y, b⟩, hF⟩ : ∃ z, z = findP V U := ⟨_, rfl⟩
  rw [← hF] at HEF
  dsimp only at HEF
  have HF := Lib.hid hF
  clear hF
  go_wp2_with fail
  refine HEF.out.mono ?_
  rintro e w3 ⟨qx, cx, qy, cy, rfl, hx, hy, hb3⟩
  have HP1' := Lib.hid (HP1.out.below hb3)
  have HP2' := Lib.hid (HP2.out.below hb3)
  have HB3 := Lib.hid (HB2.out.trans (hb3.mono HB2.out.size))
  have HX := Lib.hid (Rd.of_ow hx)
  have HY := Lib.hid (Rd.of_ow hy)
  have HT1 := Lib.hid (texts_any q1 c1 U w3 HP1'.out (by omega))
  clear hx hy hb3 HEF HP1 HP2 HB2
  go_wp2_with fail
  refine HT1.out.mono ?_
  rintro e w4 ⟨q4, c4, rfl, ho4, hb4⟩
  have HB4 := Lib.hid (HB3.out.trans (hb4.mono HB3.out.size))
  have HX4 := Lib.hid (HX.out.below hb4)
  have HY4 := Lib.hid (HY.out.below hb4)
  have HR4 := Lib.hid (Rd.of_ow ho4)
  have HT2 := Lib.hid (texts_any q2 c2 V w4 (HP2'.out.below hb4) (by omega))
  clear ho4 hb4 HT1 HP1' HP2' HX HY HB3
  go_wp2_with fail
  refine HT2.out.mono ?_
  rintro e w5 ⟨q5, c5, rfl, ho5, hb5⟩
  have HB5 := Lib.hid (HB4.out.trans (hb5.mono HB4.out.size))
  have HX5 := Lib.hid (HX4.out.below hb5)
  have HY5 := Lib.hid (HY4.out.below hb5)
  have hrf := reffind_any q4 c4 U q5 c5 V w5 (HR.out.below HB5.out) (HR4.out.below hb5) (Rd.of_ow ho5) (by omega) (by omega) (fun t ht => by have := HU2.out t ht; omega) (fun t ht => by have := HV2.out t ht; omega)
  rw [← HF.out] at hrf
  dsimp only at hrf
  have HRF := Lib.hid hrf
  clear hrf ho5 hb5 HT2 HX4 HY4 HB4 HR4
  go_wp2_with fail
  refine HRF.out.mono ?_
  rintro e w6 ⟨rfl, hb6⟩
  have HB6 := Lib.hid (HB5.out.trans (hb6.mono HB5.out.size))
  have HX6 := Lib.hid (HX5.out.below hb6)
  have HY6 := Lib.hid (HY5.out.below hb6)
  clear hb6 HRF HX5 HY5 HB5
  go_wp2_with fail
  refine (finds_any w6 (HS.out.below HB6.out)).mono ?_
  rintro e w7 ⟨rfl, hb7⟩
  have HB7 := Lib.hid (HB6.out.trans (hb7.mono HB6.out.size))
  have HC0 : Hid ((convert 24 9 (.slice qx X.length cx)).run Tryd.prog w7 = .ok (.string ⟨X.toArray⟩) w7) := Lib.hid (run_conv_str (P := Tryd.prog) (HX6.out.below hb7) 9 24 5 Tryd.underlying9 Tryd.underlying24 Tryd.underlying5)
  have HC1 : Hid ((convert 24 9 (.slice qy Y.length cy)).run Tryd.prog w7 = .ok (.string ⟨Y.toArray⟩) w7) := Lib.hid (run_conv_str (P := Tryd.prog) (HY6.out.below hb7) 9 24 5 Tryd.underlying9 Tryd.underlying24 Tryd.underlying5)
  clear hb7
  go_wp2_with fail
  rw [HC0.out]
  go_wp2_with fail
  rw [HC1.out]
  go_wp2_with fail
  go_ret
  exact ⟨rfl, HB7.out⟩
end Fnd
end Go.Proofs.YtmkoiddfkanmiaaDoor
