/- The walk of custumallaw16.fill. -/
import Derived.Test.YtkembhonfehlbaaDoorRfcS
namespace Go.Proofs.YtkembhonfehlbaaDoor
open Go.RowKit Bits Mem Sha
namespace Mem
theorem Kp.of_grown {w w' : World} {row : Option Nat} (h : w.grownBy w' row) : Kp (fun k => row = some k) w w' :=
  ⟨h.os, h.tape, h.output, h.size, fun k hk hn => h.block k hk (fun e => hn e.symm)⟩
theorem Kp.cell {S : Nat → Prop} {w w' : World} (h : Kp S w w') {b o : Nat} (hb : b < w.heap.size) (hn : ¬ S b) : w'.cell? ⟨b, o, none⟩ = w.cell? ⟨b, o, none⟩ := by
  have := h.block b hb hn
  unfold World.cell?
  rw [this]
theorem Kp.weak {S T : Nat → Prop} {w w' : World} (h : Kp S w w') (hT : ∀ k, S k → T k) : Kp T w w' := ⟨h.os, h.tape, h.output, h.size, fun k hk hn => h.block k hk (fun hs => hn (hT k hs))⟩
end Mem
namespace Ref
theorem Ow_set16 {w : World} {base g n cap j : Nat} {e : TypeId} {l : List UInt8} (h : Ow w base e 1 (.slice (some ⟨g, 0, none⟩) n cap) n (bys l)) (hj : j < n) (x : UInt8) :
    w.cell? ⟨g, j, none⟩ = some (.int .u8 ((bt l j).toNat : Int)) ∧ w.frozen? ⟨g, j, none⟩ = false ∧ base ≤ g ∧
      Ow (w.setCell ⟨g, j, none⟩ (.int .u8 (x.toNat : Int))) base e 1 (.slice (some ⟨g, 0, none⟩) n cap) n (bys (l.set j x)) := by
  obtain ⟨h1, h2⟩ := h
  rw [bys_length, Nat.mul_one] at h1
  rcases h2 with ⟨hv, _⟩ | ⟨g', cap', cur, fz, hv, hb, hg, hf, hnc, hcm, hcs, ht⟩
  · cases hv
  · cases hv
    rw [Nat.mul_one] at hcs ht
    have hc : cur[j]? = some (.int .u8 ((bt l j).toNat : Int)) := by
      have := bys_get l j (by omega)
      rw [← ht, List.getElem?_take, if_pos hj] at this
      simpa [bt] using this
    refine ⟨by rw [cell_of_row w _ j _ _ _ hg]; exact hc, ?_, hb, by rw [bys_length, List.length_set]; omega, .inr ⟨g, cap, cur.setIfInBounds j (.int .u8 (x.toNat : Int)), fz, rfl, hb, ?_, ?_, hnc, hcm, by simpa using hcs, ?_⟩⟩
    · have := hf j (by omega)
      simp only [World.frozen?, hg]
      simpa using this
    · rw [setCell_eq_setRow w g j cur e fz _ hg]
      exact setRow_heap w g cur _ e fz hg
    · intro i hi
      rw [Array.size_setIfInBounds] at hi
      exact hf i hi
    · rw [Nat.mul_one, Array.toList_setIfInBounds, List.take_set, ht]
      simp [bys, List.map_set]
theorem u8_xor16 (a b : UInt8) : bits .xor .u8 (a.toNat : Int) (b.toNat : Int) = ((a.toNat ^^^ b.toNat : Nat) : Int) := by
  have h1 := a.toNat_lt
  have h2 := b.toNat_lt
  show IntKind.u8.wrap ((BitVec.ofInt 8 (a.toNat : Int) ^^^ BitVec.ofInt 8 (b.toNat : Int)).toNat : Int) = _
  have e : (BitVec.ofInt 8 (a.toNat : Int) ^^^ BitVec.ofInt 8 (b.toNat : Int)).toNat = a.toNat ^^^ b.toNat := by
    rw [BitVec.toNat_xor, BitVec.ofInt_natCast, BitVec.ofInt_natCast, BitVec.toNat_ofNat, BitVec.toNat_ofNat, Nat.mod_eq_of_lt (by omega), Nat.mod_eq_of_lt (by omega)]
  have h3 : a.toNat ^^^ b.toNat < 2 ^ 8 := Nat.xor_lt_two_pow (by omega) (by omega)
  rw [e, IntKind.wrap_u8']
  omega
@[go_sem] theorem u8_xor33 (a : UInt8) : bits .xor .u8 (a.toNat : Int) (33 : Int) = ((a.toNat ^^^ 33 : Nat) : Int) := u8_xor16 a 33
theorem Ow_pos16 {w : World} {base n : Nat} {e : TypeId} {v : Value} {xs : List Value} (h : Ow w base e 1 v n xs) (h0 : 0 < n) : ∃ g c, v = .slice (some ⟨g, 0, none⟩) n c := by
  rcases h.2 with ⟨_, hn⟩ | ⟨g, cap, cur, fz, hv, _⟩
  · omega
  · exact ⟨g, cap, hv⟩
/-- Parts that lie between B1 and B2. -/
structure InOK (w : World) (B1 B2 : Nat) (v : Value) (N : List (List UInt8)) (vs : List Value) : Prop where
  own : OwnV w B1 v N vs
  low : ∀ k, v.ownBlock = some k → k < B2
  lows : ∀ x ∈ vs, ∀ k, x.ownBlock = some k → k < B2
theorem InOK.kp {S : Nat → Prop} {w w' : World} {B1 B2 : Nat} {v : Value} {N : List (List UInt8)} {vs : List Value} (h : InOK w B1 B2 v N vs) (hk : Kp S w w') (hS : ∀ k, S k → k < B1 ∨ B2 ≤ k) : InOK w' B1 B2 v N vs := by
  obtain ⟨⟨h1, h2, h3⟩, h4, h5⟩ := h
  refine ⟨⟨h1.kp hk (fun k hk' hs => ?_), fun i x hx => ?_, h3⟩, h4, h5⟩
  · have := h4 k hk'; have := (h1.lt k hk').1; have := hS k hs; omega
  · obtain ⟨l, hl, ho⟩ := h2 i x hx
    refine ⟨l, hl, ho.kp hk (fun k hk' hs => ?_)⟩
    have := h5 x (List.mem_of_getElem? hx) k hk'; have := (ho.lt k hk').1; have := hS k hs; omega
theorem InOK.set {w : World} {B1 B2 : Nat} {v : Value} {L : List (List UInt8)} {vs : List Value} (h : InOK w B1 B2 v L vs) {i k g cap : Nat} {l : List UInt8} (hv : vs[i]? = some (.slice (some ⟨g, 0, none⟩) l.length cap)) (hL : L[i]? = some l) (hk : k < l.length) (x : UInt8) :
    w.cell? ⟨g, k, none⟩ = some (.int .u8 ((bt l k).toNat : Int)) ∧ w.frozen? ⟨g, k, none⟩ = false ∧ B1 ≤ g ∧ g < B2 ∧ InOK (w.setCell ⟨g, k, none⟩ (.int .u8 (x.toNat : Int))) B1 B2 v (L.set i (l.set k x)) vs := by
  obtain ⟨⟨h1, h2, h3⟩, h4, h5⟩ := h
  obtain ⟨l', hl', ho⟩ := h2 i _ hv
  obtain rfl : l = l' := Option.some.inj (hL.symm.trans hl')
  obtain ⟨hc, hf, hb, ho'⟩ := Ow_set16 ho hk x
  have hg := grown_setCell w g k (.int .u8 (x.toNat : Int))
  refine ⟨hc, hf, hb, h5 _ (List.mem_of_getElem? hv) g rfl, ⟨?_, fun j y hy => ?_, h3⟩, h4, h5⟩
  · rw [List.length_set]
    exact h1.kept hg (Ow_apart' ho h1 (by decide))
  · by_cases hij : j = i
    · subst hij
      obtain rfl := Option.some.inj (hy.symm.trans hv)
      refine ⟨l.set k x, ?_, by rw [List.length_set]; exact ho'⟩
      rw [List.getElem?_set_self (List.getElem?_eq_some_iff.1 hL).1]
    · obtain ⟨m, hm, hom⟩ := h2 j y hy
      refine ⟨m, by rw [List.getElem?_set_ne (fun e => hij e.symm)]; exact hm, hom.kept hg (.inr (h3 i j _ y g (fun e => hij e.symm) hv hy rfl))⟩
theorem LogAt.kp {S : Nat → Prop} {w w' : World} {lb base : Nat} {q : Option Addr} {c : Nat} {D : List (List UInt8)} (h : LogAt w lb base q c D) (hk : Kp S w w') (h1 : ¬ S lb) (h2 : ∀ k, (Value.slice q D.length c).ownBlock = some k → ¬ S k) : LogAt w' lb base q c D :=
  ⟨(hk.block lb (lt_of_heap h.1) h1).trans h.1, h.2.1, h.2.2.kp hk h2⟩
theorem RawParts.below16 {w w' : World} {v : Value} {L : List (List UInt8)} (h : RawParts w v L) (hb : Below w.heap.size w w') : RawParts w' v L := by
  obtain ⟨vs, h1, h2⟩ := h
  exact ⟨vs, h1.below hb, fun i hi => let ⟨q, c, e, hr⟩ := h2 i hi; ⟨q, c, e, hr.below hb⟩⟩
theorem InOK.load {w : World} {B1 B2 : Nat} {qv : Option Addr} {n cv k : Nat} {N : List (List UInt8)} {vs : List Value} {x : List UInt8} (h : InOK w B1 B2 (.slice qv n cv) N vs) (hn : n = N.length) (hk : N[k]? = some x) :
    ∃ b o qe ce, qv = some ⟨b, o, none⟩ ∧ b < w.heap.size ∧ vs[k]? = some (.slice qe x.length ce) ∧ w.cell? ⟨b, o + k, none⟩ = some (.slice qe x.length ce) ∧ Ow w B1 5 1 (.slice qe x.length ce) x.length (bys x) := by
  obtain ⟨⟨h1, h2, h3⟩, h4, h5⟩ := h
  have hkl : k < N.length := (List.getElem?_eq_some_iff.1 hk).1
  have hvl : vs.length = N.length := by have := h1.1; omega
  obtain ⟨ve, hve⟩ : ∃ ve, vs[k]? = some ve := ⟨_, List.getElem?_eq_getElem (by omega)⟩
  obtain ⟨l, hl, ho⟩ := h2 k ve hve
  obtain rfl : x = l := Option.some.inj (hk.symm.trans hl)
  obtain ⟨qe, ce, rfl⟩ := Ow_form ho
  rw [← hn] at h1
  obtain ⟨b, o, hqv, hb, _, _, hcell⟩ := Rd_lt (Rd.of_ow h1) (by omega)
  exact ⟨b, o, qe, ce, hqv, hb, hve, hcell k _ hve, ho⟩
set_option maxRecDepth 100000 in
set_option maxHeartbeats 8000000 in
theorem fill_any (q : Option Addr) (c : Nat) (L : List (List UInt8)) (w : World) (hS : Sha.Tabs w) (hp : RawParts w (.slice q L.length c) L) :
    Calls Tryd.prog 22 #[.slice q L.length c] w fun e w' => ∃ lb base lq lc qw cw, e = .returned (.tuple #[.pointer (some ⟨lb, 0, none⟩), .slice qw (few L 20 60).length cw]) ∧
      w.heap.size ≤ lb ∧ lb < base ∧ base ≤ w'.heap.size ∧ LogAt w' lb base lq lc ((few L 20 60).map leafS) ∧ Ow w' base 9 1 (.slice qw (few L 20 60).length cw) (few L 20 60).length (strs (few L 20 60)) ∧ Below w.heap.size w w' := by
  obtain ⟨i0, hi, hz0, hz1, hz2⟩ := parts3 infoStr16
  have HS := Lib.hid hS
  have HP := Lib.hid hp
  clear hS hp
  go_enter Tryd.func22, Tryd.ntmps22
  go_wp2_with fail
  obtain ⟨lb, hlb⟩ : ∃ lb, lb = w.heap.size := ⟨_, rfl⟩
  obtain ⟨w1, hw1⟩ : ∃ w1, w1 = w.alloc (.cells #[.slice none 0 0] 87) := ⟨_, rfl⟩
  have hb1 : Below w.heap.size w w1 := by rw [hw1]; exact (Below.refl _ _).alloc (Nat.le_refl _) _
  have hr1 : w1.heap[lb]? = some (.cells #[.slice none 0 0] 87 (0, 0)) := by rw [hw1]; exact Rg.heap_alloc_at w _ _ hlb
  rw [← hw1, ← hlb]
  refine (few_any q c L 20 60 w1 (RawParts.below16 HP.out hb1) (by decide) (by decide) (by decide) (by decide)).mono ?_
  rintro e w3 ⟨v, rfl, ⟨vs, hO⟩, hb3⟩
  obtain ⟨N, hN⟩ : ∃ N, N = few L (20 : Int).toNat (60 : Int).toNat := ⟨_, rfl⟩
  rw [← hN] at hO
  obtain ⟨qv, cv, rfl⟩ := Ow_form hO.1
  obtain ⟨B2, hB2⟩ : ∃ B2, B2 = w3.heap.size := ⟨_, rfl⟩
  have hlb1 : lb < w1.heap.size := lt_of_heap hr1
  have hB12 : w1.heap.size ≤ B2 := by rw [hB2]; exact hb3.size
  have HI3 : Hid (InOK w3 w1.heap.size B2 (.slice qv N.length cv) N vs) := Lib.hid ⟨hO, fun k hk => by rw [hB2]; exact (hO.1.lt k hk).2, fun x hx k hk => by
    obtain ⟨i, hi, hxi⟩ := List.getElem_of_mem hx
    obtain ⟨l, _, ho⟩ := hO.2.1 i x (by rw [← hxi]; exact List.getElem?_eq_getElem hi)
    rw [hB2]
    exact (ho.lt k hk).2⟩
  have HL3 : Hid (LogAt w3 lb B2 none 0 []) := Lib.hid ⟨Rp.row_le hb3 hr1, (by intro x h; cases h), Ow.nil _ _ _ _⟩
  have HB3 : Hid (Below w.heap.size w w3) := Lib.hid (hb1.trans (hb3.mono hb1.size))
  have hN20 : N.length ≤ 20 := by rw [hN, few_length]; show min 20 _ ≤ 20; omega
  have hN60 : ∀ x ∈ N, x.length ≤ 60 := fun x hx => by
    rw [hN] at hx
    obtain ⟨y, _, rfl⟩ := List.mem_map.1 hx
    rw [List.length_take]
    show min 60 _ ≤ 60
    omega
  have HN60 := Lib.hid hN60
  have HNE := Lib.hid hN
  have HLB := Lib.hid (And.intro hlb hlb1)
  have HB2E := Lib.hid hB2
  have hT0 : (2 : Nat) < lb ∧ (3 : Nat) < lb := by rw [hlb]; exact ⟨HS.out.lt1, by obtain ⟨_, _, h⟩ := HS.out.rounds; exact lt_of_heap h⟩
  have HT0 := Lib.hid hT0
  clear hN hO hb3 hb1 hr1 hw1 hN60 hlb hB2 hT0
  go_wp2_with fail
  go_loopw [5, 7] (fun sv iv wr => ∃ (k : Nat) (N' : List (List UInt8)) (qw lq : Option Addr) (cw lc : Nat), k ≤ N.length ∧ iv = .int .i64 k ∧ sv = .slice qw k cw ∧ N'.length = N.length ∧ B2 ≤ wr.heap.size ∧ Hid (Ow wr B2 9 1 (.slice qw k cw) k (strs (N.take k))) ∧ Hid (LogAt wr lb B2 lq lc ((N.take k).map leafS)) ∧
    Hid (InOK wr w1.heap.size B2 (.slice qv N.length cv) N' vs) ∧ Hid (∀ j, k ≤ j → N'[j]? = N[j]?) ∧ Hid (Below w.heap.size w wr)) (fun _ iv _ => N.length - (intOf iv).toNat)
  case atStart => exact ⟨0, N, none, none, 0, 0, Nat.zero_le _, rfl, rfl, rfl, Nat.le_of_eq HB2E.out, Lib.hid (Ow.nil _ _ _ _), HL3, HI3, Lib.hid (fun _ _ => rfl), HB3⟩
  case round =>
    obtain ⟨k, N', qw, lq, cw, lc, hk, rfl, rfl, hNl, hsz, HO, HL, HI, HE, HB⟩ := hrel
    by_cases hlt : k < N.length
    · have hkI : (k : Int) < N.length := by omega
      have hk20 : (k : Int) < 20 := by omega
      obtain ⟨x, hx⟩ : ∃ x, N[k]? = some x := ⟨_, List.getElem?_eq_getElem hlt⟩
      obtain ⟨b, o, qe, ce, hqv, hb, hve, cE, hoe⟩ := HI.out.load hNl.symm ((HE.out k (Nat.le_refl _)).trans hx)
      subst hqv
      have hxl : x.length ≤ 60 := HN60.out x (List.mem_of_getElem? hx)
      have HX := Lib.hid hx
      have HVE := Lib.hid hve
      have HOE := Lib.hid hoe
      have HTK : Hid (N.take (k + 1) = N.take k ++ [x]) := Lib.hid (by rw [List.take_add_one, hx]; rfl)
      have hlit := Rd_lit wr #[.string ⟨x.toArray⟩] 9 1 1 rfl (by decide)
      have HLIT := Lib.hid hlit
      have hal : Below wr.heap.size wr (wr.alloc (.cells #[.string ⟨x.toArray⟩] 9)) := (Below.refl _ _).alloc (Nat.le_refl _) _
      have hbB : b < B2 := HI.out.low b rfl
      clear hx hve hoe hlit
      go_wp2_with fail
      rw [run_conv_str (P := Tryd.prog) (Rd.of_ow HOE.out) 9 23 5 Tryd.underlying9 Tryd.underlying23 Tryd.underlying5]
      go_wp2_with (at_builtin; go_must (refine app_ow rfl _ _ 37 37 rfl B2 9 i0 (.string ⟨#[]⟩) 1 16 Tryd.underlying37 hi hz0 hz1 hz2 (by rfl) _ k _ rfl (HO.out.alloc _) _ 1 _ rfl (Rd.src Tryd.underlying37 HLIT.out (strs_one [x])) (by unfold maxLen; omega) (by omega) (by simp; omega) ?_); go_must (intro v4 w4 how4 hg4); go_must (obtain ⟨q4, c4, rfl⟩ := Ow_form how4); go_must (have hkp4 : Kp (fun j => (Value.slice qw k cw).ownBlock = some j) wr w4 := (Kp.of_below (S := fun j => (Value.slice qw k cw).ownBlock = some j) hal).trans (Kp.of_grown hg4) (fun _ _ h => h)); go_must (have cE4 : w4.cell? ⟨b, o + k, none⟩ = some (.slice qe x.length ce) := (hkp4.cell hb (fun e => by have := (HO.out.lt b e).1; omega)).trans cE))
      have hal4 := hal
      have HO4 : Hid (Ow w4 B2 9 1 (.slice q4 (k + 1) c4) (k + 1) (strs (N.take (k + 1)))) := Lib.hid (by rw [HTK.out, strs_append]; exact how4)
      have HL4 : Hid (LogAt w4 lb B2 lq lc ((N.take k).map leafS)) := Lib.hid (HL.out.kp hkp4 (fun e => by have := (HO.out.lt lb e).1; have := HLB.out.2; omega) (fun j hj e => by
        rcases Ow_apart' HL.out.2.2 HO.out (by decide) with h | h
        · rw [h] at e; cases e
        · exact h (e.trans hj.symm)))
      have HI4 : Hid (InOK w4 w1.heap.size B2 (.slice (some ⟨b, o, none⟩) N.length cv) N' vs) := Lib.hid (HI.out.kp hkp4 (fun j hj => .inr (HO.out.lt j hj).1))
      have HB4 : Hid (Below w.heap.size w w4) := Lib.hid (HB.out.trans (hkp4.below HB.out.size (fun j hj => by have := (HO.out.lt j hj).1; have := HLB.out; omega)))
      have hsz4 : B2 ≤ w4.heap.size := Nat.le_trans hsz hkp4.size
      have HOE4 : Hid (Ow w4 w1.heap.size 5 1 (.slice qe x.length ce) x.length (bys x)) := Lib.hid (HOE.out.kp hkp4 (fun j hj e => by have := HI.out.lows _ (List.mem_of_getElem? HVE.out) j hj; have := (HO.out.lt j e).1; omega))
      have hD20 : ((N.take k).map leafS).length ≤ 1000 := by rw [List.length_map, List.length_take]; omega
      have hdl : ((N.take k).map leafS).length = k := by rw [List.length_map, List.length_take]; omega
      clear how4 hg4 hkp4 hal hal4
      have hlq : (Value.slice qe x.length ce).ownBlock = none ∨ (Value.slice qe x.length ce).ownBlock ≠ (Value.slice lq ((N.take k).map leafS).length lc).ownBlock := by
        cases hq : (Value.slice qe x.length ce).ownBlock with
        | none => exact .inl rfl
        | some j =>
          refine .inr fun e => ?_
          have h1 := HI.out.lows _ (List.mem_of_getElem? HVE.out) j hq
          have h2 := (HL4.out.2.2.lt j e.symm).1
          omega
      refine (logadd_any lb B2 lq lc _ qe ce x w4 (HS.out.below HB4.out) HL4.out hsz4 (by have := HT0.out; have := HLB.out; omega) hD20 (Rd.of_ow HOE4.out) hlq (by omega)).mono ?_
      rintro e w5 ⟨lq', lc', rfl, hL5, hK5, _⟩
      have HL5 : Hid (LogAt w5 lb B2 lq' lc' ((N.take (k + 1)).map leafS)) := Lib.hid (by rw [HTK.out, List.map_append]; exact hL5)
      have HO5 : Hid (Ow w5 B2 9 1 (.slice q4 (k + 1) c4) (k + 1) (strs (N.take (k + 1)))) := Lib.hid (HO4.out.kp hK5 (fun j hj e => by
        rcases e with e | e
        · have := (HO4.out.lt j hj).1; have := HLB.out.2; omega
        · rcases Ow_apart' HO4.out HL4.out.2.2 (by decide) with h | h
          · rw [h] at e; cases e
          · exact h (e.trans hj.symm)))
      have HI5 : Hid (InOK w5 w1.heap.size B2 (.slice (some ⟨b, o, none⟩) N.length cv) N' vs) := Lib.hid (HI4.out.kp hK5 (fun j hj => by
        rcases hj with e | e
        · exact .inl (by have := HLB.out.2; omega)
        · exact .inr (HL4.out.2.2.lt j e).1))
      have HB5 : Hid (Below w.heap.size w w5) := Lib.hid (HB4.out.trans (hK5.below HB4.out.size (fun j hj => by
        rcases hj with e | e
        · have := HLB.out.1; omega
        · have := (HL4.out.2.2.lt j e).1; have := HLB.out; omega)))
      have hsz5 : B2 ≤ w5.heap.size := Nat.le_trans hsz4 hK5.size
      clear hL5 hK5 hlq HO4 HL4 HI4 HB4 HOE4 HOE cE4 cE HO HL HI HB
      go_wp2_with fail
      go_loopw [8] (fun t wi => ∃ (j : Nat) (N2 : List (List UInt8)) (y : List UInt8), j ≤ x.length ∧ t = .int .i64 j ∧ y.length = x.length ∧ N2.length = N.length ∧ N2[k]? = some y ∧ B2 ≤ wi.heap.size ∧ Hid (∀ m, k < m → N2[m]? = N[m]?) ∧ Hid (InOK wi w1.heap.size B2 (.slice (some ⟨b, o, none⟩) N.length cv) N2 vs) ∧
        Hid (Ow wi B2 9 1 (.slice q4 (k + 1) c4) (k + 1) (strs (N.take (k + 1)))) ∧ Hid (LogAt wi lb B2 lq' lc' ((N.take (k + 1)).map leafS)) ∧ Hid (Below w.heap.size w wi)) (fun t _ => x.length - (intOf t).toNat)
      case atStart => exact ⟨0, N', x, Nat.zero_le _, rfl, rfl, hNl, (HE.out k (Nat.le_refl _)).trans HX.out, hsz5, Lib.hid (fun m hm => HE.out m (by omega)), HI5, HO5, HL5, HB5⟩
      case round =>
        obtain ⟨j, N2, y, hj, rfl, hy, hN2, hNy, hs2, HNM, HI2, HO2, HL2, HBB⟩ := hrel
        obtain ⟨b', o', qe', ce', hqv, hb2, hve, cE, hoe⟩ := HI2.out.load hN2.symm hNy
        cases hqv
        obtain ⟨hq1, hq2, hq3⟩ := Value.slice.inj (Option.some.inj (hve.symm.trans HVE.out))
        subst hq1 hq3
        rw [hy] at cE
        have HNY := Lib.hid hNy
        have HN2 := Lib.hid hN2
        have HY := Lib.hid hy
        have HVE2 := Lib.hid hve
        clear hNy hN2 hq2 hve
        by_cases hjl : j < x.length
        · obtain ⟨g, c', hqe⟩ := Ow_pos16 hoe (by omega)
          obtain ⟨hq1, hq2, hq3⟩ := Value.slice.inj hqe
          subst hq1 hq3
          obtain ⟨z, hz⟩ : ∃ z, z = bt y j := ⟨_, rfl⟩
          obtain ⟨c0, f0, hg1, hg2, hI3⟩ := HI2.out.set HVE2.out HNY.out (show j < y.length by omega) (z ^^^ 33)
          rw [← hz] at c0
          have HI3' := Lib.hid hI3
          have HG := Lib.hid (And.intro hg1 hg2)
          have hjI : (j : Int) < x.length := by omega
          clear hI3 hz hg1 hg2 hoe hqe hq2 hy
          go_wp2_with fail
          have hkp : Kp (fun m => some g = some m) wr (wr.setCell ⟨g, j, none⟩ (.int .u8 ((z ^^^ 33).toNat : Int))) := Kp.of_grown (grown_setCell _ _ _ _)
          rw [UInt8.toNat_xor] at hkp HI3'
          have HKP := Lib.hid hkp
          clear hkp
          refine ⟨⟨j + 1, N2.set k (y.set j (z ^^^ 33)), y.set j (z ^^^ 33), by omega, by go_num, by rw [List.length_set]; exact HY.out, by rw [List.length_set]; exact HN2.out, ?_, Nat.le_trans hs2 HKP.out.size, Lib.hid ?_, HI3', Lib.hid (HO2.out.kp HKP.out ?_), Lib.hid (HL2.out.kp HKP.out ?_ ?_), Lib.hid ?_⟩, by simp [intOf]; omega⟩
          · rw [List.getElem?_set_self (List.getElem?_eq_some_iff.1 HNY.out).1]
          · intro m hm
            rw [List.getElem?_set_ne (by omega)]
            exact HNM.out m hm
          · intro m hm e
            cases e
            have := (HO2.out.lt g hm).1; have := HG.out.2; omega
          · intro e
            cases e
            have := HG.out.1; have := HLB.out.2; omega
          · intro m hm e
            cases e
            have := (HL2.out.2.2.lt g hm).1; have := HG.out.2; omega
          · refine HBB.out.trans (HKP.out.below HBB.out.size (fun m hm => ?_))
            cases hm
            have := HG.out.1; have := HLB.out; omega
        · obtain rfl : j = x.length := by omega
          clear hjl hoe hy
          go_wp2_with fail
          refine ⟨⟨k + 1, N2, q4, lq', c4, lc', by omega, by go_num, rfl, HN2.out, hs2, HO2, HL2, HI2, Lib.hid (fun m hm => HNM.out m (by omega)), HBB⟩, by simp [intOf]; omega⟩
    · obtain rfl : k = N.length := by omega
      have htk : N.take N.length = N := List.take_length
      rw [htk] at HO HL
      have HFE : Hid (few L 20 60 = N) := Lib.hid HNE.out.symm
      clear htk
      go_wp2_with fail
      go_ret2
      rw [HFE.out]
      exact ⟨lb, B2, lq, lc, qw, cw, rfl, Nat.le_of_eq HLB.out.1.symm, by have := HLB.out.2; omega, hsz, HL.out, HO.out, HB.out⟩
end Ref
end Go.Proofs.YtkembhonfehlbaaDoor
