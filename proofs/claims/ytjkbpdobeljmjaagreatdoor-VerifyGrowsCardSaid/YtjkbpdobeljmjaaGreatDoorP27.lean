/- A part of the proof. Plain; no condition. -/
import Derived.Test.YtjkbpdobeljmjaaGreatDoorP7
import Derived.Test.YtjkbpdobeljmjaaGreatDoorP20
/- append(s, make([]byte, m)...): as if a string of m noughts were appended. Conditions: the bounds that append has in the model. -/
namespace Go.Proofs.YtjkbpdobeljmjaaGreatDoor
set_option linter.unusedVariables false
set_option linter.unusedSimpArgs false
open Go.RowKit Mem
namespace Apm
def nul (m : Nat) : ByteArray := ⟨(List.replicate m (0 : UInt8)).toArray⟩
theorem nul_size (m : Nat) : (nul m).size = m := by simp [nul, ByteArray.size]
theorem byteCells_nul (m : Nat) : byteCells (nul m) = List.replicate m (.int .u8 0) := by simp [byteCells, nul]
theorem zeroCells_one (m : Nat) : Builtin.zeroCells #[.int .u8 0] m = (List.replicate m (Value.int .u8 0)).toArray := by
  unfold Builtin.zeroCells
  apply Array.ext
  · simp
  · intro i h1 h2
    simp [Nat.mod_one]
set_option maxRecDepth 100000 in
set_option maxHeartbeats 1000000 in
theorem run_app_make {P : Program} {w : World} {t tn ts e ty : TypeId} {k : IntKind} {i : TypeInfo} (ht : P.underlying t = some (.slice e)) (hk : P.underlying tn = some (.int k)) (hts : P.underlying ts = some .string)
    (hi : P.info? e = some i) (hz : i.zero = some (.int .u8 0)) (hsize : i.size = 1) (hby : i.bytes = 1) (p : Option Addr) (n c m : Nat) (hm : n + m ≤ 100000000) (olds : Array Value) (hold : (Builtin.firstCells 1 n (.slice p n c)).run P w.drew = .ok olds w.drew) :
    (Builtin.append_ #[t, tn] ty #[.slice p n c, .int .i64 (m : Int)]).run P w = (Builtin.append_ #[t, ts] ty #[.slice p n c, .string (nul m)]).run P w := by
  have hs := Src.ofString (P := P) w hts (nul m)
  have h1 : (Builtin.lenOf (.string (nul m))).run P w = .ok m w := by have := hs.len w; rwa [nul_size] at this
  have h2 := hs.cells
  have h3 := hs.cellsD
  rw [nul_size, byteCells_nul] at h2 h3
  have w1 : IntKind.i64.wrap (m : Int) = (m : Int) := by rw [IntKind.wrap_i64]; omega
  have w2 : ¬ ((m : Int) < 0) := by omega
  have w3 : ¬ ((281474976710656 : Int) < (m : Int)) := by omega
  have hzc := zeroCells_one m
  have ha0 : (asInt (.int .i64 0)).run P w = .ok 0 w := rfl
  have w0 : IntKind.i64.wrap 0 = 0 := by rw [IntKind.wrap_i64]; omega
  have hz0 : Builtin.zeroCells #[.int .u8 0] 0 = #[] := by rw [zeroCells_one]; rfl
  have ha : (asInt (.int .i64 (m : Int))).run P w = .ok (m : Int) w := rfl
  by_cases hr : n + m ≤ c
  · by_cases h0 : m = 0
    · subst h0
      rw [Nat.add_zero] at hr
      simp [Builtin.append_, run_underlying ht, run_underlying hk, run_underlying hts, sizeOf, typeInfo, zeroValue, hi, hz, hsize, hby, h1, h2, h3, w1, w2, w3, hr, hzc, Value.cells, ha, ha0, w0, hz0]
    · simp [Builtin.append_, run_underlying ht, run_underlying hk, run_underlying hts, sizeOf, typeInfo, zeroValue, hi, hz, hsize, hby, h1, h2, h3, w1, w2, w3, hr, hzc, h0, Value.cells, ha, ha0, w0, hz0]
  · have h63 : ¬ (9223372036854775807 < ((n : Int) + (m : Int))) := by omega
    have hf := growslice_fits (need := n + m) (old := c) (bytes := 1) (by omega) (by omega)
    have h48 : ¬ (281474976710656 < Builtin.nextslicecap (n + m) c) := by omega
    by_cases h0 : m = 0
    · subst h0
      rw [Nat.add_zero] at hr h48
      have h630 : ¬ (9223372036854775807 < (n : Int)) := by omega
      simp [Builtin.append_, run_underlying ht, run_underlying hk, run_underlying hts, sizeOf, typeInfo, zeroValue, hi, hz, hsize, hby, h1, h2, h3, w1, w2, w3, hr, hzc, Value.cells, ha, ha0, w0, hz0, h630, h48, Question.forced, hold]
    · simp [Builtin.append_, run_underlying ht, run_underlying hk, run_underlying hts, sizeOf, typeInfo, zeroValue, hi, hz, hsize, hby, h1, h2, h3, w1, w2, w3, hr, hzc, h0, Value.cells, ha, ha0, w0, hz0, h63, h48, Question.forced, hold]
end Apm
namespace Ab
section
variable {c : Ctx} {σ : S} {w : World} {a : Act} {Γ : Env}
theorem append_src_ok (hc : c.Ok) (hw : WT c.gt σ w) {t tx ty : TypeId} {i : TI} {κs : List K} (hi : c.t t = some i) (hsl : i.sl = some κs.length) (hk0 : 0 < κs.length) (hzz : kle i.slz κs = true) {v x : Value} {lo hi' lo' hi2 : Nat}
    (hv : OW σ v κs lo hi') {m : Nat} {news : List Value} (hsrc : Src c.P κs.length tx x m news w) (hm1 : lo' ≤ m) (hm2 : m ≤ hi2) (hnews : ∀ (a b : Nat) (κ : K), a < m → κs[b]? = some κ → ∃ u, news[a * κs.length + b]? = some u ∧ KT σ u κ)
    (hlim : hi' + hi2 ≤ 100000000) : Yl c σ w (Builtin.append_ #[t, tx] ty #[v, x]) (.ow κs (lo + lo') (hi' + hi2)) := by
  obtain ⟨e, ie, z, hu, hie, hes, hiz, hzk, hzl, hby⟩ := (hc.t hi).sl _ hsl
  have hzk' : CT σ z.cells.toList κs := kle_ok hzz (hzk.mono (fun b x hb => by simp [nil0] at hb))
  have hzs : z.cells.size = κs.length := by have := hzk'.1; simpa using this
  rw [← hes] at hsrc
  have hnl := hsrc.newsLen
  rw [hes] at hnl
  have grow : ∀ (q : Option Addr) (n cap : Nat) (olds : List Value), v = .slice q n cap → (Builtin.firstCells ie.size n (.slice q n cap)).run c.P w.drew = .ok olds.toArray w.drew → cap < n + m → lo ≤ n → n ≤ hi' → olds.length = n * κs.length →
      (∀ (a b : Nat) (κ : K), a < n → κs[b]? = some κ → ∃ u, olds[a * κs.length + b]? = some u ∧ KT σ u κ) → Yl c σ w (Builtin.append_ #[t, tx] ty #[v, x]) (.ow κs (lo + lo') (hi' + hi2)) := by
    intro q n cap olds e1 hold hcap hn1 hn2 hol holds
    subst e1
    have hfit : (n + m) * ie.bytes ≤ 140737488355328 := by
      have := Nat.mul_le_mul (show n + m ≤ 100000000 by omega) hby
      omega
    have hr := run_append_grow_src (P := c.P) w t tx ty e ie z hu hie hiz q n cap olds hold x m news hsrc hcap (by omega) (growslice_fits hcap hfit)
    have hge := grownCap_ge w (n + m) cap e
    have hgm := grownCap_le_maxLen w (n + m) cap e (by unfold maxLen; omega)
    obtain ⟨G, hG⟩ : ∃ G, G = grownCap w (n + m) cap e := ⟨_, rfl⟩
    rw [← hG] at hr hge hgm
    have hC : CT σ ((olds ++ news).toArray ++ Builtin.zeroCells z.cells (G - (n + m))).toList (List.replicate G κs).flatten := by
      have hzc : (Builtin.zeroCells z.cells (G - (n + m))).toList.length = (G - (n + m)) * κs.length := by simp [Builtin.zeroCells, hzs]
      refine ⟨?_, fun j κ hj => ?_⟩
      · rw [Array.toList_append, List.length_append, hzc]
        simp only [List.length_append, hol, hnl, List.length_flatten, List.map_replicate, List.sum_replicate_nat]
        rw [← Nat.add_mul, ← Nat.add_mul]
        congr 1
        omega
      · have hjl : j < G * κs.length := by
          have := (List.getElem?_eq_some_iff.1 hj).1
          simpa using this
        have hq : j / κs.length < G := (Nat.div_lt_iff_lt_mul hk0).2 hjl
        have hr' : j % κs.length < κs.length := Nat.mod_lt _ hk0
        have e3 : j / κs.length * κs.length + j % κs.length = j := Nat.div_add_mod' ..
        have hκ : κs[j % κs.length]? = some κ := by
          have h2 := flat_get (κs := κs) G (j / κs.length) (j % κs.length) _ hq (List.getElem?_eq_getElem hr')
          rw [e3, hj] at h2
          rw [List.getElem?_eq_getElem hr']
          exact h2.symm
        rw [Array.toList_append, List.getElem?_append]
        by_cases hlt : j < (n + m) * κs.length
        · rw [if_pos (by simp [hol, hnl, ← Nat.add_mul]; exact hlt)]
          show ∃ v, (olds ++ news)[j]? = some v ∧ KT σ v κ
          rw [List.getElem?_append, hol]
          by_cases hlt2 : j < n * κs.length
          · rw [if_pos hlt2]
            have := holds (j / κs.length) (j % κs.length) κ ((Nat.div_lt_iff_lt_mul hk0).2 hlt2) hκ
            rwa [e3] at this
          · rw [if_neg hlt2]
            have hq2 : n ≤ j / κs.length := (Nat.le_div_iff_mul_le hk0).2 (by omega)
            have hq3 : j / κs.length < n + m := (Nat.div_lt_iff_lt_mul hk0).2 hlt
            have := hnews (j / κs.length - n) (j % κs.length) κ (by omega) hκ
            rwa [show (j / κs.length - n) * κs.length + j % κs.length = j - n * κs.length by rw [Nat.sub_mul]; have := Nat.mul_le_mul_right κs.length hq2; omega] at this
        · rw [if_neg (by simp [hol, hnl, ← Nat.add_mul]; omega)]
          obtain ⟨u, hu1, hu2⟩ := hzk'.2 _ κ hκ
          refine ⟨u, ?_, hu2⟩
          have hlen : (olds ++ news).toArray.toList.length = (n + m) * κs.length := by simp [hol, hnl, Nat.add_mul]
          rw [hlen]
          have hjz : j - (n + m) * κs.length < (G - (n + m)) * κs.length := by rw [Nat.sub_mul]; omega
          have hmod : (j - (n + m) * κs.length) % κs.length = j % κs.length := by
            have e6 : j - (n + m) * κs.length + (n + m) * κs.length = j := Nat.sub_add_cancel (by omega)
            conv => rhs; rw [← e6]
            exact (Nat.add_mul_mod_self_right _ _ _).symm
          have hu1' : z.cells[j % κs.length]? = some u := by simpa using hu1
          obtain ⟨hlt3, h3⟩ := Array.getElem?_eq_some_iff.1 hu1'
          simp [Builtin.zeroCells, hzs, hjz, hmod]
          rw [getElem!_pos z.cells (j % κs.length) hlt3]
          exact h3
    obtain ⟨g1, g2⟩ := Go1.alloc (hw.drew) _ e _ hC
    refine ⟨_, _, hr, _, ⟨g1.same, g1.os, g1.tape, g1.output, g1.size, g1.kept⟩, g2, .inr ⟨w.heap.size, n + m, G, (List.replicate G κs).flatten, rfl, by omega, by omega, hge, hgm, by unfold more; exact if_pos rfl, by simp, fun i j κ h1 h2 => flat_get G i j κ h1 h2⟩⟩
  rcases hv with ⟨rfl, rfl⟩ | ⟨b, len, cap, l, rfl, h1, h2, h3, h4, hb, h5, h6⟩
  · by_cases hm0 : m = 0
    · subst hm0
      have hn : news = [] := List.eq_nil_of_length_eq_zero (by simpa using hnl)
      subst hn
      have hcs := hsrc.cells
      refine ⟨.slice none 0 0, w, ?_, .stay hw (.inl ⟨rfl, by omega⟩)⟩
      rcases hsrc.kind with ⟨e', hk⟩ | hk <;> simp [Builtin.append_, run_underlying hu, run_underlying hk, sizeOf, typeInfo, hie, hsrc.len, hcs]
    · exact grow none 0 0 [] rfl (run_firstCells_none w.drew ie.size 0 0 0) (by omega) (Nat.le_refl _) (Nat.zero_le _) (by simp) (fun a b κ ha => by omega)
  · obtain ⟨C, t', f, hh, hf, hC⟩ := hw.blk b true l hb
    obtain rfl : f = (0, 0) := hf rfl
    have hCl := hC.1
    simp only [Array.length_toList] at hCl
    by_cases hroom : len + m ≤ cap
    · have hfit : len * κs.length + news.length ≤ C.size := by
        rw [hnl, ← Nat.add_mul, hCl, h5]
        exact Nat.mul_le_mul_right _ hroom
      have hr := run_append_room_src (P := c.P) w t tx ty e ie hu hie b 0 len cap x m news hsrc hroom
        (fun j hj => by
          rw [cell_of_row w b _ C t' (0, 0) hh, hes]
          have : 0 + len * κs.length + j < C.size := by omega
          rw [Array.getElem?_eq_getElem this]; rfl)
        (fun j hj => frozen_of_row _ _ _ _ _ hh)
      rw [hes, Nat.zero_add] at hr
      obtain ⟨C', k2, k3, k4, k5⟩ := Mem.setCells_block b t' (0, 0) news (len * κs.length) w C hh
      have hC' : CT σ C'.toList l := by
        refine ⟨by simp [k3, hCl], fun j κ hj => ?_⟩
        have hjl := (List.getElem?_eq_some_iff.1 hj).1
        have e4 := k4 j
        rw [Array.getElem?_toList]
        rw [e4]
        by_cases hin : len * κs.length ≤ j ∧ j < len * κs.length + news.length ∧ j < C.size
        · rw [if_pos hin]
          have hr' : j % κs.length < κs.length := Nat.mod_lt _ hk0
          have e3 : j / κs.length * κs.length + j % κs.length = j := Nat.div_add_mod' ..
          have hq2 : len ≤ j / κs.length := (Nat.le_div_iff_mul_le hk0).2 hin.1
          have hq3 : j / κs.length < len + m := (Nat.div_lt_iff_lt_mul hk0).2 (by rw [Nat.add_mul, ← hnl]; exact hin.2.1)
          have hκ : κs[j % κs.length]? = some κ := by
            have h7 := h6 (j / κs.length) (j % κs.length) _ (by omega) (List.getElem?_eq_getElem hr')
            rw [e3, hj] at h7
            rw [List.getElem?_eq_getElem hr']
            exact h7.symm
          have := hnews (j / κs.length - len) (j % κs.length) κ (by omega) hκ
          rwa [show (j / κs.length - len) * κs.length + j % κs.length = j - len * κs.length by rw [Nat.sub_mul]; have := Nat.mul_le_mul_right κs.length hq2; omega] at this
        · rw [if_neg hin]
          obtain ⟨u, hu1, hu2⟩ := hC.2 j κ hj
          exact ⟨u, by simpa using hu1, hu2⟩
      have hne : ∀ k, k ≠ b → (w.setCells b (len * κs.length) news).heap[k]? = w.heap[k]? ∨ w.heap.size ≤ k := fun k hk => by
        rcases Nat.lt_or_ge k w.heap.size with h | h
        · exact .inl (k5.block k h (fun e => hk (by cases e; rfl)))
        · exact .inr h
      refine ⟨_, _, hr, σ, ⟨fun _ _ => rfl, k5.os, k5.tape, k5.output, k5.size, fun k hk hn => k5.block k hk (fun e => hn l (by cases e; exact hb))⟩, ⟨hw.tab, fun g D hg => ?_, fun k mm l' hk => ?_⟩, .inr ⟨b, len + m, cap, l, rfl, by omega, by omega, hroom, h4, hb, h5, h6⟩⟩
      · obtain ⟨⟨l', hl⟩, t2, f2, hh2⟩ := hw.fx g D hg
        refine ⟨⟨l', hl⟩, t2, f2, ?_⟩
        rcases hne g (fun e => by rw [e, hb] at hl; cases hl) with h | h
        · rw [h]; exact hh2
        · have := hw.lt hl; omega
      · obtain ⟨D, t2, f2, hh2, q1, q2⟩ := hw.blk k mm l' hk
        by_cases hkb : k = b
        · subst hkb
          rw [hb] at hk
          cases hk
          exact ⟨C', t', (0, 0), k2, fun _ => rfl, hC'⟩
        · refine ⟨D, t2, f2, ?_, q1, q2⟩
          rcases hne k hkb with h | h
          · rw [h]; exact hh2
          · have := hw.lt hk; omega
    · have hle : len * κs.length ≤ C.toList.length := by simp only [Array.length_toList]; rw [hCl, h5]; exact Nat.mul_le_mul_right _ h3
      refine grow (some ⟨b, 0, none⟩) len cap (C.toList.take (len * κs.length)) rfl ?_ (by omega) h1 h2 (by rw [List.length_take]; omega) (fun a d κ ha hd => ?_)
      · refine run_firstCells_some w.drew ie.size len ⟨b, 0, none⟩ len cap _ (by rw [List.length_take, hes]; omega) (fun j u hj => ?_)
        rw [al_add, Nat.zero_add, World.cell?_drew, cell_of_row w b _ _ _ _ hh]
        rw [List.getElem?_take] at hj
        split at hj
        · simpa using hj
        · cases hj
      · have hdl := (List.getElem?_eq_some_iff.1 hd).1
        obtain ⟨u, hu1, hu2⟩ := hC.2 _ κ (h6 a d κ (by omega) hd)
        refine ⟨u, ?_, hu2⟩
        have : a * κs.length + d < len * κs.length := by
          have := Nat.mul_le_mul_right κs.length (show a + 1 ≤ len by omega)
          rw [Nat.succ_mul] at this
          omega
        rw [List.getElem?_take, if_pos this]
        exact hu1
end
end Ab
end Go.Proofs.YtjkbpdobeljmjaaGreatDoor

