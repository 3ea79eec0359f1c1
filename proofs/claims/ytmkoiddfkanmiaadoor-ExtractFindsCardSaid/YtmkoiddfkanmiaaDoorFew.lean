/- The walks of custumalref01.Few and custumalref01.All. Conditions: counts and lengths that fit. -/
import Derived.Test.YtmkoiddfkanmiaaDoorSt
import Derived.Test.YtmkoiddfkanmiaaDoorShaF
namespace Go.Proofs.YtmkoiddfkanmiaaDoor
open Go.RowKit Bits Mem Sha
namespace Ref
theorem OwnP.parts {w : World} {base : Nat} {v : Value} {L : List (List UInt8)} (h : OwnP w base v L) : Parts w v L := h.cells
/-- A slice of bytes that came in: what it reads as; an empty one may point anywhere. -/
def Raw (w : World) (q : Option Addr) (n c : Nat) (l : List UInt8) : Prop := Rd w 1 (.slice q n c) n (bys l) ∨ (n = 0 ∧ c = 0 ∧ l = [])
theorem Raw.below {w w' : World} {q : Option Addr} {n c : Nat} {l : List UInt8} (h : Raw w q n c l) (hb : Below w.heap.size w w') : Raw w' q n c l := h.imp (fun h => h.below hb) id
theorem Raw.cap {w : World} {q : Option Addr} {n c : Nat} {l : List UInt8} (h : Raw w q n c l) : n ≤ c ∧ c ≤ maxLen := by
  rcases h with h | ⟨rfl, rfl, rfl⟩
  · exact Rd_cap h
  · exact ⟨Nat.le_refl _, Nat.zero_le _⟩
theorem Raw.src {P : Program} {t e' : TypeId} {w : World} {q : Option Addr} {n c k : Nat} {l : List UInt8} (hk : P.underlying t = some (.slice e')) (h : Raw w q n c l) (hkn : k ≤ n) : Src P 1 t (.slice q k c) k (bys (l.take k)) w := by
  rcases h with h | ⟨rfl, rfl, rfl⟩
  · exact Rd.src hk (Rd_take h hkn) (bys_one _)
  · obtain rfl : k = 0 := by omega
    cases q with
    | none => exact Src.ofNil w hk 0
    | some a => exact Src.ofSlice w hk a 0 0 [] rfl (fun j u hu => by simp at hu) (fun u hu => by simp at hu)
/-- A slice of such slices. -/
def RawParts (w : World) (v : Value) (L : List (List UInt8)) : Prop :=
  ∃ vs : List Value, Rd w 1 v L.length vs ∧ ∀ i, i < L.length → ∃ q c, vs[i]? = some (.slice q (L.getD i []).length c) ∧ Raw w q (L.getD i []).length c (L.getD i [])
/-- No more than some parts, of no more than some bytes each. -/
def few (L : List (List UInt8)) (m s : Nat) : List (List UInt8) := (L.take m).map (·.take s)
theorem few_length (L : List (List UInt8)) (m s : Nat) : (few L m s).length = min m L.length := by simp [few]
theorem few_succ (L : List (List UInt8)) (k s : Nat) (h : k < L.length) : few L (k + 1) s = few L k s ++ [(L.getD k []).take s] := by
  unfold few; rw [List.take_succ_eq_append_getElem h, List.map_append]; simp [List.getD, h]
theorem flat_le (s : Nat) : ∀ (M : List (List UInt8)), (∀ x ∈ M, x.length ≤ s) → M.flatten.length ≤ M.length * s
  | [], _ => by simp
  | x :: M, h => by
    have h1 := flat_le s M (fun y hy => h y (List.mem_cons_of_mem _ hy))
    have h2 := h x List.mem_cons_self
    rw [List.flatten_cons, List.length_append, List.length_cons, Nat.add_mul]
    omega
theorem few_flat (L : List (List UInt8)) (m s : Nat) : (few L m s).flatten.length ≤ m * s := by
  refine Nat.le_trans (flat_le s _ (fun x hx => ?_)) (Nat.mul_le_mul_right s (by rw [few_length]; exact Nat.min_le_left _ _))
  unfold few at hx
  obtain ⟨y, _, rfl⟩ := List.mem_map.1 hx
  rw [List.length_take]; exact Nat.min_le_left _ _
theorem info28 : (Tryd.prog.info? 24).map (fun i => (i.zero, i.size, i.bytes)) = some (some (.slice none 0 0), 1, 24) := by kernel_rfl
theorem parts3 {t : TypeId} {z : Value} {s b : Nat} (h : (Tryd.prog.info? t).map (fun i => (i.zero, i.size, i.bytes)) = some (some z, s, b)) : ∃ i0, Tryd.prog.info? t = some i0 ∧ i0.zero = some z ∧ i0.size = s ∧ i0.bytes = b := by
  obtain ⟨i0, h1, h2⟩ := Option.map_eq_some_iff.1 h
  simp only [Prod.mk.injEq] at h2
  exact ⟨i0, h1, h2.1, h2.2.1, h2.2.2⟩
set_option maxRecDepth 100000 in
set_option maxHeartbeats 4000000 in
theorem few_any (q : Option Addr) (c : Nat) (L : List (List UInt8)) (most size : Int) (w : World) (hp : RawParts w (.slice q L.length c) L) (h0 : 0 ≤ most) (h1 : most ≤ 1000) (h2 : 0 ≤ size) (h3 : size ≤ 1000000) :
    Calls Tryd.prog 7 #[.slice q L.length c, .int .i64 most, .int .i64 size] w fun e w' => ∃ v, e = .returned v ∧ OwnP w' w.heap.size v (few L most.toNat size.toNat) ∧ Below w.heap.size w w' := by
  obtain ⟨m, rfl⟩ := Int.eq_ofNat_of_zero_le h0
  obtain ⟨s, rfl⟩ := Int.eq_ofNat_of_zero_le h2
  simp only [Int.toNat_natCast]
  clear h0 h2
  have hm : m ≤ 1000 := by omega
  have hs : s ≤ 1000000 := by omega
  obtain ⟨i0, hi, hz0, hz1, hz2⟩ := parts3 info1
  obtain ⟨i1, hj, hy0, hy1, hy2⟩ := parts3 info28
  have HP := Lib.hid hp; clear hp
  go_enter Tryd.func7, Tryd.ntmps7
  go_wp2_with fail
  go_loopw [7, 8] (fun v i wr => ∃ (k : Nat) (q : Option Addr) (c : Nat), k ≤ L.length ∧ k ≤ m ∧ i = .int .i64 k ∧ v = .slice q k c ∧ OwnP wr w.heap.size (.slice q k c) (few L k s) ∧ Below w.heap.size w wr) (fun _ i _ => m - (intOf i).toNat)
  case atStart => exact ⟨0, none, 0, Nat.zero_le _, Nat.zero_le _, rfl, rfl, OwnP.nil _ _, Below.refl _ _⟩
  case round =>
    obtain ⟨k, qo, co, hk1, hk2, rfl, rfl, hown, hbe⟩ := hrel
    obtain ⟨vs, hv0, hv2⟩ := HP.out
    have hcc := Rd_cap hv0
    by_cases hlt : k < L.length
    · by_cases hlm : k < m
      · obtain ⟨b, off, rfl, hbl, hnc, hcm, hcell⟩ := Rd_lt (hv0.below hbe) (by omega)
        obtain ⟨qk, ck, hvk, hrdk0⟩ := hv2 k hlt
        have hck := hcell k _ hvk
        have hrdk := hrdk0.below hbe
        have hcap := Raw.cap hrdk
        have hfs := few_succ L k s hlt
        have hfl := few_length L k s
        rw [Nat.min_eq_left hk1] at hfl
        obtain ⟨X, hX⟩ : ∃ X, X = L.getD k [] := ⟨_, rfl⟩
        rw [← hX] at hck hrdk hcap hfs
        have HFS := Lib.hid hfs
        have HRD := Lib.hid hrdk
        have HFL := Lib.hid hfl
        have hmin : (if s < X.length then (s : Int) else (X.length : Int)) = ((min X.length s : Nat) : Int) := by split <;> omega
        clear hfs hX hv0 hv2 hcell hvk hrdk0 hrdk hfl
        go_wp2_with fail
        refine Rp.region 16 [(0, true), (2, true), (3, true), (4, true), (5, true), (6, true), (7, true), (8, true), (9, true), (10, true), (11, true), (12, true), (13, true), (1, false), (14, false), (15, false)] (by kernel_rfl) (by kernel_rfl) ?_; simp only [Rp.pick, Rp.nth, List.drop_succ_cons, List.drop_zero]
        repeat (refine Rp.stepK rfl ?_; intro K hK; apply Exists.intro; refine ⟨?_, ?_⟩; (focus (intro x hx; have c0x := Rp.cell_le hx hck; go_simp; (first | (fail) | ((try go_bits); (try go_simp); (try rfl))))); go_simp; refine hK _ ?_; clear hK K)
        refine Rp.s_cut rfl 24 _ _ rfl 5 i0 Tryd.underlying24 hi qk X.length ck (min X.length s) rfl rfl (by omega) ?_
        intro K hK; go_simp; refine hK _ ?_; clear hK K
        refine Rp.stepF fun K hK => ?_
        go_wp2
        refine hK _ _ ((Below.refl _ _).alloc (Nat.le_refl _) _) ?_; clear hK K
        refine Rp.stepF fun K hK => ?_
        have hw1 : Below wr.heap.size wr (wr.alloc (.cells #[] 5)) := (Below.refl _ _).alloc (Nat.le_refl _) _
        have ho : Ow ((wr.alloc (.cells #[] 5)).drewN 1) wr.heap.size 5 1 (.slice (some ⟨wr.heap.size, 0, none⟩) 0 0) 0 [] := Ow.lit wr #[] 5 1 0 wr.heap.size (Nat.le_refl _) (Nat.zero_le _) rfl
        refine app_empty rfl _ _ 24 24 rfl wr.heap.size 5 i0 (.int .u8 0) 1 1 Tryd.underlying24 hi hz0 hz1 hz2 rfl _ rfl ho _ _ _ rfl (Raw.src Tryd.underlying24 (w := (wr.alloc (.cells #[] 5)).drewN 1) (HRD.out.below (Rg.below_drewN hw1 1)) (Nat.min_le_left X.length s)) (by unfold maxLen; omega) (by omega) (by simp) ?_
        intro v2 w2 how2 hb2
        have hb02 : Below wr.heap.size wr w2 := (Rg.below_drewN hw1 1).trans (hb2.mono (by simp))
        obtain ⟨q2, c2, rfl⟩ := Ow_form how2
        refine hK _ _ hb2 ?_; clear hK K
        go_simp
        refine Rp.stepF fun K hK => ?_
        go_wp2
        refine hK _ _ ((Below.refl _ _).alloc (Nat.le_refl _) _) ?_; clear hK K
        refine Rp.done ?_
        obtain ⟨vo, hov⟩ := hown
        have hov2 := hov.1.below hb02
        have HOV := Lib.hid hov
        have hx2 : Ow w2 w.heap.size 5 1 (.slice q2 (min X.length s) c2) (min X.length s) (bys (X.take s)) := by
          have := how2.base_le hbe.size
          rwa [take_min] at this
        have hlen : (min X.length s) = (X.take s).length := by rw [List.length_take, Nat.min_comm]
        have HX2 : Hid (Ow w2 w.heap.size 5 1 (.slice q2 (min X.length s) c2) (X.take s).length (bys (X.take s))) := Lib.hid (by rw [← hlen]; exact hx2)
        have HF2 : Hid (∀ b, (Value.slice q2 (min X.length s) c2).ownBlock = some b → wr.heap.size ≤ b) := Lib.hid (fun b hb => (how2.lt b hb).1)
        rw [HFL.out] at hov2
        have hsz2 := hb02.size
        have hszr := hbe.size
        clear hov how2 hx2 hlen ho hw1 hck hmin
        go_wp2_with (at_builtin; go_must (refine app_ow rfl _ _ 22 22 rfl w.heap.size 24 i1 (.slice none 0 0) 1 24 Tryd.underlying22 hj hy0 hy1 hy2 rfl _ _ _ rfl (hov2.alloc _) _ _ _ rfl (Rd.src Tryd.underlying22 (Rd_lit w2 #[.slice q2 (min X.length s) c2] 24 1 1 rfl (by decide)) (fun u hu => by simp at hu; subst hu; rfl)) (by unfold maxLen; omega) (by omega) (by simp; omega) ?_); go_must (intro v3 w3 how3 hg3); go_must (obtain ⟨q3, c3, rfl⟩ := Ow_form how3))
        refine NoPanic.normal ?_
        have HO3 := Lib.hid how3
        have hg4 : (w2.alloc (.cells #[.slice q2 (min X.length s) c2] 24)).grownBy w3 (Value.slice qo k co).ownBlock := hg3
        have HG3 := Lib.hid hg4
        clear how3 hg3 hg4
        go_wp2
        have hb2a : Below wr.heap.size wr (w2.alloc (.cells #[.slice q2 (min X.length s) c2] 24)) := hb02.alloc hsz2 _
        refine ⟨⟨k + 1, q3, c3, by omega, by omega, by go_num, rfl, ?_, ?_⟩, by simp [intOf]; omega⟩
        · rw [HFS.out]
          exact ⟨_, OwnV.push HOV.out hb2a (HX2.out.alloc _) HF2.out HG3.out (by rw [HFL.out]; exact HO3.out)⟩
        · exact (hbe.trans (hb2a.mono hszr)).grown HG3.out (by simp; omega) (fun j hj => (hov2.lt j hj).1)
      · obtain rfl : k = m := by omega
        clear hv0 hv2
        go_wp2_with fail
        go_ret
        exact ⟨_, rfl, hown, hbe⟩
    · obtain rfl : k = L.length := by omega
      have HE : Hid (few L L.length s = few L m s) := Lib.hid (by unfold few; rw [List.take_of_length_le (Nat.le_refl _), List.take_of_length_le hk2])
      rw [HE.out] at hown
      clear hv0 hv2
      go_wp2_with fail
      go_ret
      exact ⟨_, rfl, hown, hbe⟩
theorem flatten_len (L : List (List UInt8)) (k : Nat) (h : k < L.length) : ((L.take k).flatten).length + (L.getD k []).length ≤ L.flatten.length := flatten_take_le L k h
end Ref
end Go.Proofs.YtmkoiddfkanmiaaDoor
