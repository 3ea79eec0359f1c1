/- The walks of custumallaw01.sums and of Sha2Sums. -/
import Derived.Test.YtmonkggoilhngaaGreatDoorGFew
import Derived.Test.YtmonkggoilhngaaGreatDoorGRef
import Derived.Test.YtmonkggoilhngaaGreatDoorGShaA
import Derived.Lib.SlBytesConst
import Derived.Laws.CopyOwn
namespace Go.Proofs.YtmonkggoilhngaaGreatDoor
open Go.RowKit Bits Mem Sha
namespace Ref
theorem Rd_of_row {w : World} {g n : Nat} {l : List UInt8} {t : TypeId} {f : Nat × Nat} (h : w.heap[g]? = some (.cells (bysA l) t f)) (hn : l.length = n) (hm : n ≤ maxLen) : Rd w 1 (.slice (some ⟨g, 0, none⟩) n n) n (bys l) := by
  subst hn
  refine ⟨by rw [bys_length]; omega, .inr ⟨g, 0, l.length, rfl, lt_of_heap h, Nat.le_refl _, hm, fun j u hu => ?_⟩⟩
  rw [Nat.zero_add, cell_of_row w g j _ _ _ h]
  simpa [bysA] using hu
theorem cell_of_bys {w : World} {g k : Nat} {l : List UInt8} {t : TypeId} {f : Nat × Nat} (h : w.heap[g]? = some (.cells (bysA l) t f)) (hk : k < l.length) : w.cell? ⟨g, k, none⟩ = some (.int .u8 ((bt l k).toNat : Int)) := by
  rw [cell_of_row w g k _ _ _ h]
  have := bys_get l k hk
  simpa [bysA, bt] using this
theorem Parts.lit2 (w : World) (a b : List UInt8) (x y : Value) (hx : ∃ q c, x = .slice q a.length c ∧ Rd w 1 (.slice q a.length c) a.length (bys a)) (hy : ∃ q c, y = .slice q b.length c ∧ Rd w 1 (.slice q b.length c) b.length (bys b)) :
    Parts (w.alloc (.cells #[x, y] 23)) (.slice (some ⟨w.heap.size, 0, none⟩) 2 2) [a, b] := by
  have hb : Below w.heap.size w (w.alloc (.cells #[x, y] 23)) := (Below.refl _ _).alloc (Nat.le_refl _) _
  refine ⟨[x, y], Rd_lit w #[x, y] 23 1 2 rfl (by decide), fun i hi => ?_⟩
  obtain ⟨q, c, rfl, hx⟩ := hx
  obtain ⟨q', c', rfl, hy⟩ := hy
  match i, hi with
  | 0, _ => exact ⟨q, c, rfl, hx.below hb⟩
  | 1, _ => exact ⟨q', c', rfl, hy.below hb⟩
end Ref
end Go.Proofs.YtmonkggoilhngaaGreatDoor
/- The walk of custumallaw01.Sha2Sizes. -/
namespace Go.Proofs.YtmonkggoilhngaaGreatDoor
open Go.RowKit Bits Mem Sha
namespace Ref
theorem HashAt.below {w w' : World} {hb : Nat} {all : List UInt8} (h : HashAt w hb all) (hbl : Below w.heap.size w w') : HashAt w' hb all := by
  obtain ⟨p, c, t, h1, h2, h3⟩ := h
  exact ⟨p, c, t, Rg.below_row hbl (lt_of_heap h1) h1, h2.below hbl, h3⟩
theorem HashAt.lt {w : World} {hb : Nat} {all : List UInt8} (h : HashAt w hb all) : hb < w.heap.size := by
  obtain ⟨p, c, t, h1, _⟩ := h
  exact lt_of_heap h1
theorem HashAt.other {w w' : World} {hb f : Nat} {all all' : List UInt8} (h : HashAt w hb all) (h' : HashAt w f all') (hne : hb ≠ f) (hg : w.grownBy w' (some f)) : HashAt w' hb all := by
  obtain ⟨p, c, t, h1, h2, h3⟩ := h
  obtain ⟨p', c', t', g1, _, _⟩ := h'
  refine ⟨p, c, t, (hg.block hb (lt_of_heap h1) (by simpa using hne)).trans h1, ?_, h3⟩
  refine ⟨h2.1, ?_⟩
  rcases h2.2 with hn | ⟨b, off, cap, hv, hb, hnc, hcm, hc⟩
  · exact .inl hn
  · refine .inr ⟨b, off, cap, hv, Nat.lt_of_lt_of_le hb hg.size, hnc, hcm, fun j u hu => ?_⟩
    have hcu := hc j u hu
    by_cases hbf : b = f
    · subst hbf
      rw [cell_of_row w b _ _ _ _ g1] at hcu
      have hm := Array.mem_of_getElem? hcu
      have hu8 : ∃ x : UInt8, u = .int .u8 (x.toNat : Int) := by
        have := List.mem_of_getElem? hu
        simp only [bys, List.mem_map] at this
        obtain ⟨x, _, rfl⟩ := this
        exact ⟨x, rfl⟩
      obtain ⟨x, rfl⟩ := hu8
      simp [cells] at hm
    · exact hg.cell hcu (by simpa using hbf)
theorem made_bys (n : Nat) : (madeCells (Value.int .u8 0).cells (n * 1)).toList = bys (List.replicate n 0) := by
  apply List.ext_getElem?
  intro i
  unfold madeCells
  by_cases hi : i < n
  · simp [bys, hi, Value.cells, Nat.mod_one]
  · simp [bys, hi]
theorem Parts.lit1 (w : World) (a : List UInt8) (x : Value) (hx : ∃ q c, x = .slice q a.length c ∧ Rd w 1 (.slice q a.length c) a.length (bys a)) :
    Parts (w.alloc (.cells #[x] 23)) (.slice (some ⟨w.heap.size, 0, none⟩) 1 1) [a] := by
  have hb : Below w.heap.size w (w.alloc (.cells #[x] 23)) := (Below.refl _ _).alloc (Nat.le_refl _) _
  refine ⟨[x], Rd_lit w #[x] 23 1 1 rfl (by decide), fun i hi => ?_⟩
  obtain ⟨q, c, rfl, hx⟩ := hx
  match i, hi with
  | 0, _ => exact ⟨q, c, rfl, hx.below hb⟩
end Ref
end Go.Proofs.YtmonkggoilhngaaGreatDoor
/- Marks by a key, as plain functions on lists. -/
namespace Go.Proofs.YtmonkggoilhngaaGreatDoor
namespace Sha
def macKey (k : List UInt8) : List UInt8 := if 64 < k.length then sha k else k
def fill (k : List UInt8) : List UInt8 := k ++ List.replicate (64 - k.length) 0
def padk (k : List UInt8) (b : UInt8) : List UInt8 := (fill k).map (· ^^^ b)
def hmac (k m : List UInt8) : List UInt8 := sha (padk (macKey k) 0x5C ++ sha (padk (macKey k) 0x36 ++ m))
theorem macKey_length (k : List UInt8) : (macKey k).length ≤ 64 := by
  unfold macKey; split
  · rw [sha_length]; decide
  · omega
theorem fill_length (k : List UInt8) (h : k.length ≤ 64) : (fill k).length = 64 := by
  unfold fill; rw [List.length_append, List.length_replicate]; omega
theorem padk_length (k : List UInt8) (b : UInt8) (h : k.length ≤ 64) : (padk k b).length = 64 := by
  unfold padk; rw [List.length_map, fill_length k h]
theorem hmac_length (k m : List UInt8) : (hmac k m).length = 32 := sha_length _
def padi (k : List UInt8) (b : UInt8) (i : Nat) : List UInt8 := ((fill k).take i).map (· ^^^ b) ++ (fill k).drop i
theorem padi_zero (k : List UInt8) (b : UInt8) : padi k b 0 = fill k := by simp [padi]
theorem padi_full (k : List UInt8) (b : UInt8) (h : k.length ≤ 64) : padi k b 64 = padk k b := by
  unfold padi padk
  rw [List.take_of_length_le (by rw [fill_length k h]; exact Nat.le_refl _), List.drop_of_length_le (by rw [fill_length k h]; exact Nat.le_refl _), List.append_nil]
theorem padi_length (k : List UInt8) (b : UInt8) (i : Nat) (h : k.length ≤ 64) : (padi k b i).length = 64 := by
  have := fill_length k h
  unfold padi; rw [List.length_append, List.length_map, List.length_take, List.length_drop]; omega
theorem padi_at (k : List UInt8) (b : UInt8) (i : Nat) (h : k.length ≤ 64) (hi : i < 64) : bt (padi k b i) i = bt (fill k) i := by
  have := fill_length k h
  unfold padi bt
  simp only [List.getD_eq_getElem?_getD]
  rw [List.getElem?_append_right (by rw [List.length_map, List.length_take]; omega), List.length_map, List.length_take, List.getElem?_drop]
  congr 2
  omega
theorem padi_succ (k : List UInt8) (b : UInt8) (i : Nat) (h : k.length ≤ 64) (hi : i < 64) : (padi k b i).set i (bt (fill k) i ^^^ b) = padi k b (i + 1) := by
  have hl := fill_length k h
  unfold padi
  have h1 : ((fill k).take i).length = i := by rw [List.length_take]; omega
  rw [List.set_append_right _ _ (by rw [List.length_map, h1]; exact Nat.le_refl _), List.length_map, h1, Nat.sub_self, List.take_succ_eq_append_getElem (by omega), List.map_append, List.append_assoc]
  congr 1
  rw [show (fill k).drop i = (fill k)[i] :: (fill k).drop (i + 1) from List.drop_eq_getElem_cons (by omega), List.set_cons_zero]
  have hb : bt (fill k) i = (fill k)[i] := by simp [bt, List.getD, hl, hi]
  rw [hb]; rfl
end Sha
end Go.Proofs.YtmonkggoilhngaaGreatDoor
/- The walks of package hmac. -/
namespace Go.Proofs.YtmonkggoilhngaaGreatDoor
open Go.RowKit Bits Mem Sha
namespace Ref
@[go_sem] theorem u8_xor (a b : UInt8) : bits .xor .u8 (a.toNat : Int) (b.toNat : Int) = ((a.toNat ^^^ b.toNat : Nat) : Int) := by
  have h1 := a.toNat_lt
  have h2 := b.toNat_lt
  show IntKind.u8.wrap ((BitVec.ofInt 8 (a.toNat : Int) ^^^ BitVec.ofInt 8 (b.toNat : Int)).toNat : Int) = _
  have e : (BitVec.ofInt 8 (a.toNat : Int) ^^^ BitVec.ofInt 8 (b.toNat : Int)).toNat = a.toNat ^^^ b.toNat := by
    rw [BitVec.toNat_xor, BitVec.ofInt_natCast, BitVec.ofInt_natCast, BitVec.toNat_ofNat, BitVec.toNat_ofNat, Nat.mod_eq_of_lt (by omega), Nat.mod_eq_of_lt (by omega)]
  have h3 : a.toNat ^^^ b.toNat < 2 ^ 8 := Nat.xor_lt_two_pow (by omega) (by omega)
  rw [e, IntKind.wrap_u8']
  omega
theorem bysA_set (l : List UInt8) (i : Nat) (x : UInt8) : (bysA l).setIfInBounds i (.int .u8 (x.toNat : Int)) = bysA (l.set i x) := by
  simp [bysA, bys, List.map_set]
theorem own_row {w : World} {base n : Nat} {g : Nat} {e : TypeId} {xs : List Value} (h : w.ownsRow base e 1 (.slice (some ⟨g, 0, none⟩) n n) n xs) : w.heap[g]? = some (.cells xs.toArray e (0, 0)) := by
  obtain ⟨hl, h⟩ := h
  rcases h with ⟨hv, _⟩ | ⟨g', cap, cur, hv, _, hg, _, _, hcs, ht⟩
  · cases hv
  · cases hv
    rw [hg]
    have : cur.toList = xs := by rw [← ht, List.take_of_length_le (by simp; omega)]
    rw [← this]
theorem infoU8 : (Tryz.prog.info? 5).map (·.size) = some 1 := by kernel_rfl
theorem run_copy_in {P : Program} {w : World} (T ty e : TypeId) (hu : P.underlying T = some (.slice e)) (hsz : (P.info? e).map (·.size) = some 1)
    (g dLen dCap : Nat) (q : Option Addr) (n c : Nat) (l : List UInt8) (cur : List Value) (t : TypeId)
    (hg : w.heap[g]? = some (.cells cur.toArray t (0, 0))) (hrd : Rd w 1 (.slice q n c) n (bys l)) (hle : n ≤ dLen) (hfit : n ≤ cur.length) :
    (Builtin.copy_ #[T, T] ty #[.slice (some ⟨g, 0, none⟩) dLen dCap, .slice q n c]).run P w = .ok (.int .i64 (n : Int)) (w.setRow g (bys l ++ cur.drop n).toArray) := by
  have hn := hrd.1
  rw [Nat.mul_one] at hn
  rcases Nat.eq_zero_or_pos n with h0 | h0
  · subst h0
    have hl : bys l = [] := List.eq_nil_of_length_eq_zero hn
    rw [run_copy_none (P := P) w T T ty e _ q dLen dCap 0 c hu hsz (by simp), hl]
    simp only [List.nil_append, List.drop_zero]
    rw [Rg.setRow_self hg]
    rfl
  · obtain ⟨b', off, hq, _, _, _, hcell⟩ := Rd_lt hrd h0
    subst hq
    have hm : (bys l).length = Nat.min n dLen := by rw [hn]; exact (Nat.min_eq_left hle).symm
    have := run_copy_row (P := P) w T T ty e g 0 dLen dCap ⟨b', off, none⟩ n c cur.toArray t (bys l) hu hsz hg hm (fun j v hj => by rw [addr_add]; exact hcell j v hj) (by rw [hn]; simpa using hfit) (bys_one l)
    rw [this, hn]
    simp [goInt]
theorem fill_row (l : List UInt8) : bys l ++ (bys (List.replicate 64 0)).drop l.length = bys (fill l) := by
  unfold fill
  rw [bys_append]
  congr 1
  unfold bys
  rw [← List.map_drop, List.drop_replicate]
set_option maxRecDepth 100000 in
set_option maxHeartbeats 4000000 in
theorem pad_any (q : Option Addr) (n c : Nat) (l : List UInt8) (b : UInt8) (w : World) (hn : l.length = n) (hl : Rd w 1 (.slice q n c) n (bys l)) (h64 : l.length ≤ 64) :
    Calls Tryz.prog 132 #[.slice q n c, .int .u8 (b.toNat : Int)] w fun e w' => ∃ g, e = .returned (.slice (some ⟨g, 0, none⟩) 64 64) ∧ w.heap.size ≤ g ∧ w'.heap[g]? = some (.cells (bysA (padk l b)) 5 (0, 0)) ∧ Below w.heap.size w w' := by
  obtain ⟨i0, hi, hz0, hz1, hz2⟩ := parts3 info1
  subst hn
  have HL := Lib.hid hl; clear hl
  go_enter Tryz.func132, Tryz.ntmps132
  go_wp2_with (refine wpList_make_full _ rfl _ _ 23 rfl w.heap.size 5 i0 (.int .u8 0) 1 Tryz.underlying23 hi hz0 hz1 .i64 .i64 _ _ 64 rfl rfl rfl rfl (by rw [hz2]; omega) (by unfold maxLen; omega) (Nat.le_refl _) ?_; go_must (intro w1 hown hg1))
  have hrow1 := own_row hown
  rw [made_bys] at hrow1
  have hb1 : Below w.heap.size w w1 := below_of_grown hg1 (Nat.le_refl _) (fun k hk => by cases hk)
  have hl1 := HL.out.below hb1
  have HR1 := Lib.hid hrow1
  clear hown hg1 hrow1
  have hrun := run_copy_in (P := Tryz.prog) 23 3 5 Tryz.underlying23 infoU8 w.heap.size 64 64 q l.length c l (bys (List.replicate 64 0)) 5 HR1.out hl1 h64 (by rw [bys_length, List.length_replicate]; omega)
  rw [fill_row] at hrun
  rw [hrun]
  go_wp2_with fail
  clear hrun
  have HB2 : Hid (Below w.heap.size w (w1.setRow w.heap.size (bys (fill l)).toArray)) := Lib.hid (Rg.below_setRow hb1 (Nat.le_refl _) _)
  have HR2 : Hid ((w1.setRow w.heap.size (bys (fill l)).toArray).heap[w.heap.size]? = some (.cells (bysA (padi l b 0)) 5 (0, 0))) := Lib.hid (by rw [padi_zero]; exact setRow_heap _ _ _ _ _ _ HR1.out)
  obtain ⟨w2, hw2⟩ : ∃ w2, w2 = w1.setRow w.heap.size (bys (fill l)).toArray := ⟨_, rfl⟩
  obtain ⟨g, hg⟩ : ∃ g, g = w.heap.size := ⟨_, rfl⟩
  have HGE : Hid (w.heap.size ≤ g) := Lib.hid (by omega)
  rw [← hw2, ← hg] at HR2
  rw [← hw2] at HB2
  rw [← hw2, ← hg]
  clear hl1 hb1 HR1 HL hw2 hg
  go_loopw [13] (fun i wr => ∃ k : Nat, k ≤ 64 ∧ i = .int .i64 k ∧ wr.heap[g]? = some (.cells (bysA (padi l b k)) 5 (0, 0)) ∧ Below w.heap.size w wr) (fun i _ => 64 - (intOf i).toNat)
  case atStart => exact ⟨0, by omega, rfl, HR2.out, HB2.out⟩
  case round =>
    obtain ⟨k, hk, rfl, hrow, hb⟩ := hrel
    have hlen := padi_length l b k h64
    by_cases hlt : k < 64
    · have c0 := Ref.cell_of_bys hrow (k := k) (by omega)
      rw [padi_at l b k h64 hlt] at c0
      have hset := padi_succ l b k h64 hlt
      obtain ⟨x, hx⟩ : ∃ x, x = bt (fill l) k := ⟨_, rfl⟩
      rw [← hx] at c0 hset
      have f0 : wr.frozen? ⟨g, k, none⟩ = false := frozen_of_row _ _ _ _ _ hrow
      have q1 : (k : Int) < 64 := by omega
      have HROW := Lib.hid hrow
      have HSET := Lib.hid hset
      clear hrow hset hx hlen
      go_wp2
      refine ⟨⟨k + 1, by omega, by go_num, ?_, ?_⟩, by simp [intOf]; omega⟩
      · rw [heap_setCell_same _ _ _ _ _ _ HROW.out, ← HSET.out, ← bysA_set, UInt8.toNat_xor]
      · exact hb.setCell HGE.out _
    · obtain rfl : k = 64 := by omega
      rw [padi_full l b h64] at hrow
      clear hlen
      have HROW := Lib.hid hrow
      clear hrow
      go_wp2
      go_ret
      exact ⟨g, rfl, HGE.out, HROW.out, hb⟩
end Ref
end Go.Proofs.YtmonkggoilhngaaGreatDoor
/- The walk of hmac.Of. Conditions: a message that is not too long. -/
namespace Go.Proofs.YtmonkggoilhngaaGreatDoor
open Go.RowKit Bits Mem Sha
namespace Ref
theorem z32 : (#[.int .u8 0, .int .u8 0, .int .u8 0, .int .u8 0, .int .u8 0, .int .u8 0, .int .u8 0, .int .u8 0, .int .u8 0, .int .u8 0, .int .u8 0, .int .u8 0, .int .u8 0, .int .u8 0, .int .u8 0, .int .u8 0, .int .u8 0, .int .u8 0, .int .u8 0, .int .u8 0, .int .u8 0, .int .u8 0, .int .u8 0, .int .u8 0, .int .u8 0, .int .u8 0, .int .u8 0, .int .u8 0, .int .u8 0, .int .u8 0, .int .u8 0, .int .u8 0] : Array Value) = bysA zeros32 := rfl
set_option maxRecDepth 100000 in
set_option maxHeartbeats 400000 in
theorem of_any (q : Option Addr) (c : Nat) (l : List UInt8) (pq : Option Addr) (pc : Nat) (L : List (List UInt8)) (w : World) (hS : Sha.Tabs w) (hl : Rd w 1 (.slice q l.length c) l.length (bys l)) (hp : Parts w (.slice pq L.length pc) L) (hsz : L.flatten.length ≤ 35184372088832) (hkz : l.length ≤ 35184372088832) :
    Calls Tryz.prog 110 #[.slice q l.length c, .slice pq L.length pc] w fun e w' => e = .returned (.agg (bysA (hmac l L.flatten))) ∧ Below w.heap.size w w' := by
  have HS := Lib.hid hS
  have HL := Lib.hid hl
  have HP := Lib.hid hp
  clear hS hl hp
  by_cases h64 : 64 < l.length
  · go_enter Tryz.func110, Tryz.ntmps110
    go_wp2_with fail
    rw [z32]
    obtain ⟨wz, hwz⟩ : ∃ wz, wz = w.alloc (.cells (bysA zeros32) 22) := ⟨_, rfl⟩
    have hws : wz.heap.size = w.heap.size + 1 := by rw [hwz]; simp
    have hw1 : Below w.heap.size w wz := by rw [hwz]; exact (Below.refl _ _).alloc (Nat.le_refl _) _
    have hrz0 : wz.heap[w.heap.size]? = some (.cells (bysA zeros32) 22 (0, 0)) := by rw [hwz]; exact Rg.heap_alloc_at w _ _ rfl
    rw [← hwz, ← hws]
    clear hwz hws
    have hw2 : Below wz.heap.size wz (wz.alloc (.cells #[.slice q l.length c] 23)) := (Below.refl _ _).alloc (Nat.le_refl _) _
    refine (parts_any _ _ [l] _ (HS.out.below (hw1.trans (hw2.mono hw1.size))) (Parts.lit1 wz l _ ⟨_, _, rfl, HL.out.below hw1⟩) (by simp; omega)).mono ?_
    rintro e w1 ⟨rfl, hb1⟩
    have hF : [l].flatten = l := by simp
    rw [hF]
    have h13 : Below wz.heap.size wz w1 := hw2.trans (hb1.mono hw2.size)
    have hrz := Rp.row_le h13 hrz0
    have HB1 := Lib.hid (hw1.trans (h13.mono hw1.size))
    have HRZ := Lib.hid hrz
    have HLs := Lib.hid (sha_length l)
    have HI : Hid ((Tryz.prog.info? 22).map (·.size) = some (bysA (sha l)).size) := Lib.hid (by rw [bysA_size, sha_length]; exact info32)
    clear hF hb1 hrz hw1 hw2 h13 hrz0
    go_wp2_with (refine Rg.store_row_new rfl 22 _ _ rfl w1.heap.size rfl rfl 22 _ (bysA (sha l)) rfl HI.out (by rw [bysA_size, HLs.out]; rfl) (bysA_one _) ?_)
    have hrow := Rg.heap_alloc_at w1 (.cells (bysA (sha l)) 22) w1.heap.size rfl
    have hba : Below w1.heap.size w1 (w1.alloc (.cells (bysA (sha l)) 22)) := (Below.refl _ _).alloc (Nat.le_refl _) _
    have HBA := Lib.hid (HB1.out.trans (hba.mono HB1.out.size))
    have HRA := Lib.hid (Rp.row_le hba HRZ.out)
    have hkl : macKey l = sha l := by unfold macKey; rw [if_pos h64]
    have HKEY : Hid (Rd (w1.alloc (.cells (bysA (sha l)) 22)) 1 (.slice (some ⟨w1.heap.size, 0, none⟩) 32 32) 32 (bys (macKey l))) := Lib.hid (by rw [hkl]; exact Rd_of_row hrow HLs.out (by decide))
    have HKN : Hid ((macKey l).length = 32) := Lib.hid (by rw [hkl, HLs.out])
    obtain ⟨wa, hwa⟩ : ∃ wa, wa = w1.alloc (.cells (bysA (sha l)) 22) := ⟨_, rfl⟩
    rw [← hwa] at HKEY HRA HBA ⊢
    clear hkl hrow hba hwa HB1 HRZ
    have hKl := macKey_length l
    obtain ⟨k, hk⟩ : ∃ k, k = macKey l := ⟨_, rfl⟩
    rw [← hk] at HKEY hKl HKN
    have HKE := Lib.hid hk
    clear hk
    go_wp2_with fail
    refine (new_any _ (HS.out.below HBA.out)).mono ?_
    rintro e w2 ⟨hb, rfl, hh, hge, hb2⟩
    have HGE : Hid (w.heap.size < hb) := Lib.hid (Nat.lt_of_lt_of_le (lt_of_heap HRA.out) hge)
    have HHH := Lib.hid hh
    have HB2 := Lib.hid (HBA.out.trans (hb2.mono HBA.out.size))
    have HR2 := Lib.hid (Rp.row_le hb2 HRA.out)
    have HNE : Hid (∀ j, Value.ownBlock (.slice (some ⟨w1.heap.size, 0, none⟩) 32 32) = some j → j ≠ hb) := Lib.hid (fun j hj => by have := Rd_own_lt HKEY.out hj; omega)
    have HK2 := Lib.hid (HKEY.out.below hb2)
    clear hh hge hb2
    go_wp2_with fail
    refine (pad_any _ _ _ k 54 _ HKN.out HK2.out hKl).mono ?_
    rintro e w3 ⟨gp, rfl, hgp, hrowp, hb3⟩
    have hpl := padk_length k 54 hKl
    have hrp := Rd_of_row hrowp hpl (by decide)
    have hlt := HashAt.lt HHH.out
    have hh3 := HashAt.below HHH.out hb3
    have hne3 : (Value.slice (some ⟨gp, 0, none⟩) 64 64).ownBlock ≠ some hb := fun e => by
      have e' : gp = hb := by simpa [Value.ownBlock] using e
      omega
    have HB3 := Lib.hid (HB2.out.trans (hb3.mono HB2.out.size))
    have HR3 := Lib.hid (Rp.row_le hb3 HR2.out)
    have HK3 := Lib.hid (HK2.out.below hb3)
    obtain ⟨p1, hp1⟩ : ∃ p1, p1 = padk k 54 := ⟨_, rfl⟩
    rw [← hp1] at hrp hpl
    have HP1 := Lib.hid hp1
    have hw := write_any hb [] p1 (some ⟨gp, 0, none⟩) 64 w3 (HS.out.below HB3.out) hh3 (by rw [hpl]; exact hrp) (by rw [hpl]; exact hne3) (by rw [hpl]; simp)
    rw [hpl, List.nil_append] at hw
    have HPL := Lib.hid hpl
    clear hp1 hb3 hrowp HR2 HB2 HHH HK2 hpl hrp hh3 hne3 hlt
    go_wp2_with fail
    refine hw.mono ?_
    clear hw
    rintro e w4 ⟨rfl, hh4, hg4⟩
    have hltb := lt_of_heap HR3.out
    have HB4 := Lib.hid (HB3.out.grown hg4 HB3.out.size (fun j hj => by have e' : hb = j := Option.some.inj hj; have := HGE.out; omega))
    have HR4 := Lib.hid ((hg4.block _ hltb (by intro e; have e' : w.heap.size = hb := Option.some.inj e; have := HGE.out; omega)).trans HR3.out)
    have HK4 := Lib.hid (HK3.out.kept hg4 (.inr (fun e => HNE.out hb e rfl)))
    have HH4 := Lib.hid hh4
    have hL : L.length ≤ 9223372036854775807 := by
      obtain ⟨vs, h1, _⟩ := HP.out
      rcases h1.2 with ⟨_, h0⟩ | ⟨_, _, cap, _, _, hnc, hcm, _⟩
      · omega
      · unfold maxLen at hcm; omega
    clear hh4 hg4 hltb HB3 HR3 HK3 hgp HRA HBA HKEY
    go_wp2_with fail
    go_loopw [24] (fun i wr => ∃ j : Nat, j ≤ L.length ∧ i = .int .i64 j ∧ HashAt wr hb (p1 ++ (L.take j).flatten) ∧ Below w.heap.size w wr ∧ wr.heap[w.heap.size]? = some (.cells (bysA zeros32) 22 (0, 0)) ∧ Rd wr 1 (.slice (some ⟨w1.heap.size, 0, none⟩) 32 32) 32 (bys k)) (fun i _ => L.length - (intOf i).toNat)
    case atStart => exact ⟨0, Nat.zero_le _, rfl, by simpa using HH4.out, HB4.out, HR4.out, HK4.out⟩
    case round =>
      obtain ⟨j, hj, rfl, hhk, hbk, hrk, hkk⟩ := hrel
      have HTK := Lib.hid (HS.out.below hbk)
      have HHK := Lib.hid hhk
      have HRK := Lib.hid hrk
      have HKK := Lib.hid hkk
      clear hhk hrk hkk
      by_cases hlt : j < L.length
      · obtain ⟨vs, hv0, hv2⟩ := HP.out
        have hv1 := hv0.below hbk
        obtain ⟨b, off, rfl, hbl, hnc, hcm, hcell⟩ := Rd_lt hv1 (by omega)
        obtain ⟨qk, ck, hvk, hrdk0⟩ := hv2 j hlt
        have hck := hcell j _ hvk
        have hrdk := hrdk0.below hbk
        have hqk : (Value.slice qk (L.getD j []).length ck).ownBlock ≠ some hb := fun e => by have := Rd_own_lt hrdk0 e; have := HGE.out; omega
        clear hv0 hrdk0
        have hlen := flatten_take_le L j hlt
        have hfs := flatten_take_succ L j hlt
        obtain ⟨X, hX⟩ : ∃ X, X = L.getD j [] := ⟨_, rfl⟩
        obtain ⟨Y, hY⟩ : ∃ Y, Y = (L.take j).flatten := ⟨_, rfl⟩
        rw [← hX, ← hY] at hlen hfs
        rw [← hX] at hck hrdk hqk
        rw [← hY] at HHK
        have HFS := Lib.hid hfs
        have HX := Lib.hid hX
        have HRDK := Lib.hid hrdk
        have hlY : (p1 ++ Y).length + X.length ≤ 70368744177664 := by rw [List.length_append, HPL.out]; omega
        clear hfs hX hY hcell hv1 hv2 hvk hrdk
        go_wp2_with (go_at_call 49; go_must (refine (write_any hb (p1 ++ Y) X qk ck _ HTK.out HHK.out HRDK.out hqk hlY).mono ?_); rintro e w5 ⟨rfl, hh5, hg5⟩)
        have hlw : w.heap.size < wr.heap.size := lt_of_heap HRK.out
        refine ⟨⟨j + 1, by omega, rfl, ?_, ?_, ?_, ?_⟩, by simp [intOf]; omega⟩
        · rw [HFS.out, ← List.append_assoc]; exact hh5
        · exact hbk.grown hg5 hbk.size (fun i hi => by have e' : hb = i := Option.some.inj hi; have := HGE.out; omega)
        · exact (hg5.block _ hlw (by intro e; have e' : w.heap.size = hb := Option.some.inj e; have := HGE.out; omega)).trans HRK.out
        · exact HKK.out.kept hg5 (.inr (fun e => HNE.out hb e rfl))
      · obtain rfl : j = L.length := by omega
        have HTAKE : Hid ((L.take L.length).flatten = L.flatten) := Lib.hid (by rw [List.take_of_length_le (Nat.le_refl _)])
        rw [HTAKE.out] at HHK
        obtain ⟨A, hA⟩ : ∃ A, A = p1 ++ L.flatten := ⟨_, rfl⟩
        have hAl : A.length ≤ 70368744177664 := by rw [hA, List.length_append, HPL.out]; omega
        rw [← hA] at HHK
        have HA := Lib.hid hA
        have HLA := Lib.hid (sha_length A)
        have HI9 : Hid ((Tryz.prog.info? 22).map (·.size) = some (bysA (sha A)).size) := Lib.hid (by rw [bysA_size, sha_length]; exact info32)
        clear hA
        go_wp2_with fail
        refine (sum_some hb A _ HTK.out HHK.out hAl).mono ?_
        rintro e w6 ⟨rfl, hb6⟩
        have HB6 := Lib.hid (hbk.trans (hb6.mono hbk.size))
        have HR6 := Lib.hid (Rp.row_le hb6 HRK.out)
        have HK6 := Lib.hid (HKK.out.below hb6)
        clear hb6
        go_wp2_with (refine Rg.store_row_new rfl 22 _ _ rfl w6.heap.size rfl rfl 22 _ (bysA (sha A)) rfl HI9.out (by rw [bysA_size, HLA.out]; rfl) (bysA_one _) ?_)
        have hrow9 := Rg.heap_alloc_at w6 (.cells (bysA (sha A)) 22) w6.heap.size rfl
        have hba9 : Below w6.heap.size w6 (w6.alloc (.cells (bysA (sha A)) 22)) := (Below.refl _ _).alloc (Nat.le_refl _) _
        refine Rp.region 5 [(0, true), (2, true), (1, false), (3, false), (4, false)] (by kernel_rfl) (by kernel_rfl) ?_; simp only [Rp.pick, Rp.nth, List.drop_succ_cons, List.drop_zero]
        obtain ⟨wd, hwd⟩ : ∃ wd, wd = (w6.alloc (.cells (bysA (sha A)) 22)).drew := ⟨_, rfl⟩
        have hbd : Below w6.heap.size w6 wd := by rw [hwd]; exact hba9.drew
        have HBD := Lib.hid (HB6.out.trans (hbd.mono HB6.out.size))
        have HRD := Lib.hid (Rp.row_le hbd HR6.out)
        have HKD := Lib.hid (HK6.out.below hbd)
        have HR9 : Hid (wd.heap[w6.heap.size]? = some (.cells (bysA (sha A)) 22)) := Lib.hid (by rw [hwd]; exact hrow9)
        rw [← hwd]
        clear hwd hbd hba9 hrow9
        repeat (refine Rp.stepK rfl ?_; intro K hK; apply Exists.intro; refine ⟨?_, ?_⟩; (focus (intro x hx;  go_simp; (first | (fail) | ((try go_bits); (try go_simp); (try rfl))))); go_simp; refine hK _ ?_; clear hK K)
        refine Rp.stepF fun K hK => ?_; go_wp2_with fail; refine (pad_any _ _ _ k 92 _ HKN.out HKD.out hKl).mono ?_; rintro e w7 ⟨g7, rfl, hg7, hrow7, hb7⟩; go_wp2_with fail; refine hK _ _ hb7 ?_; clear hK K
        have hpl2 := padk_length k 92 hKl
        have HR7 := Lib.hid (Rd_of_row hrow7 hpl2 (by decide))
        have HRZ7 := Lib.hid (Rp.row_le hb7 HRD.out)
        have HS9 := Lib.hid (Rd_of_row (Rp.row_le hb7 HR9.out) HLA.out (by decide))
        have HB7 := Lib.hid (HBD.out.trans (hb7.mono HBD.out.size))
        obtain ⟨p2, hp2⟩ : ∃ p2, p2 = padk k 92 := ⟨_, rfl⟩
        rw [← hp2] at HR7 hpl2
        have HP2 := Lib.hid hp2
        have HPL2 := Lib.hid hpl2
        clear hp2 hb7 hrow7 hg7 hpl2
        go_simp
        refine Rp.stepF fun K hK => ?_
        go_wp2_with fail
        refine hK _ _ ((Below.refl _ _).alloc (Nat.le_refl _) _) ?_; clear hK K
        have hparts : Parts (w7.alloc (.cells #[.slice (some ⟨g7, 0, none⟩) 64 64, .slice (some ⟨w6.heap.size, 0, none⟩) 32 32] 23)) (.slice (some ⟨w7.heap.size, 0, none⟩) 2 2) [p2, sha A] :=
          Parts.lit2 w7 p2 (sha A) _ _ ⟨_, _, by rw [HPL2.out], by rw [HPL2.out]; exact HR7.out⟩ ⟨_, _, by rw [HLA.out], by rw [HLA.out]; exact HS9.out⟩
        have hb8 : Below w7.heap.size w7 (w7.alloc (.cells #[.slice (some ⟨g7, 0, none⟩) 64 64, .slice (some ⟨w6.heap.size, 0, none⟩) 32 32] 23)) := (Below.refl _ _).alloc (Nat.le_refl _) _
        refine Rp.stepF fun K hK => ?_; go_wp2_with fail; refine (parts_any _ _ [p2, sha A] _ (HS.out.below (HB7.out.trans (hb8.mono HB7.out.size))) hparts (by simp [HPL2.out, HLA.out])).mono ?_; rintro e w9 ⟨rfl, hb9⟩; go_wp2_with fail; refine hK _ _ hb9 ?_; clear hK K
        have hb10 : Below w7.heap.size w7 w9 := hb8.trans (hb9.mono hb8.size)
        have HB9 := Lib.hid (HB7.out.trans (hb10.mono HB7.out.size))
        have HRZ9 := Lib.hid (Rp.row_le hb10 HRZ7.out)
        have hres : sha (p2 ++ sha A) = hmac l L.flatten := by
          unfold hmac
          rw [← HKE.out, HP2.out, HA.out, HP1.out]
        rw [hres]
        have HM := Lib.hid (hmac_length l L.flatten)
        have HIM : Hid ((Tryz.prog.info? 22).map (·.size) = some (bysA (hmac l L.flatten)).size) := Lib.hid (by rw [bysA_size, HM.out]; exact info32)
        clear hres hb8 hb9 hb10 hparts
        obtain ⟨R, hR⟩ : ∃ R, R = hmac l L.flatten := ⟨_, rfl⟩
        rw [← hR] at HM HIM ⊢
        have HRR := Lib.hid hR
        clear hR
        go_simp
        refine Rp.done ?_
        go_wp2_with (refine Rg.store_row rfl 22 _ _ rfl w.heap.size rfl 22 (bysA zeros32) (bysA R) rfl HRZ9.out HIM.out (by rw [bysA_size, bysA_size, HM.out]; rfl) (bysA_one _) ?_)
        refine NoPanic.normal ?_
        go_wp2_with fail
        refine bodyPost_ret (v := .agg (bysA R)) (results_cell_row (P := Tryz.prog) rfl _ _ w.heap.size 22 (bysA R) (0, 0) _ rfl (setRow_heap _ _ _ _ 22 _ HRZ9.out) Tryz.underlying22 rfl HIM.out) rfl ⟨by rw [HRR.out], ?_⟩
        exact Rg.below_setRow HB9.out (Nat.le_refl _) _
  · go_enter Tryz.func110, Tryz.ntmps110
    have h64' : ¬ (64 < (l.length : Int)) := by omega
    go_wp2_with fail
    rw [z32]
    have HBA : Hid (Below w.heap.size w (w.alloc (.cells (bysA zeros32) 22))) := Lib.hid ((Below.refl _ _).alloc (Nat.le_refl _) _)
    have HRA : Hid ((w.alloc (.cells (bysA zeros32) 22)).heap[w.heap.size]? = some (.cells (bysA zeros32) 22 (0, 0))) := Lib.hid (Rg.heap_alloc_at w _ _ rfl)
    have hkl : macKey l = l := by unfold macKey; rw [if_neg h64]
    have HKEY : Hid (Rd (w.alloc (.cells (bysA zeros32) 22)) 1 (.slice q l.length c) l.length (bys (macKey l))) := Lib.hid (by rw [hkl]; exact HL.out.below HBA.out)
    have HKN : Hid ((macKey l).length = l.length) := Lib.hid (by rw [hkl])
    obtain ⟨wa, hwa⟩ : ∃ wa, wa = w.alloc (.cells (bysA zeros32) 22) := ⟨_, rfl⟩
    rw [← hwa] at HKEY HRA HBA ⊢
    clear hkl hwa
    have hKl := macKey_length l
    obtain ⟨k, hk⟩ : ∃ k, k = macKey l := ⟨_, rfl⟩
    rw [← hk] at HKEY hKl HKN
    have HKE := Lib.hid hk
    clear hk
    go_wp2_with fail
    refine (new_any _ (HS.out.below HBA.out)).mono ?_
    rintro e w2 ⟨hb, rfl, hh, hge, hb2⟩
    have HGE : Hid (w.heap.size < hb) := Lib.hid (Nat.lt_of_lt_of_le (lt_of_heap HRA.out) hge)
    have HHH := Lib.hid hh
    have HB2 := Lib.hid (HBA.out.trans (hb2.mono HBA.out.size))
    have HR2 := Lib.hid (Rp.row_le hb2 HRA.out)
    have HNE : Hid (∀ j, Value.ownBlock (.slice q l.length c) = some j → j ≠ hb) := Lib.hid (fun j hj => by have := Rd_own_lt HKEY.out hj; omega)
    have HK2 := Lib.hid (HKEY.out.below hb2)
    clear hh hge hb2
    go_wp2_with fail
    refine (pad_any _ _ _ k 54 _ HKN.out HK2.out hKl).mono ?_
    rintro e w3 ⟨gp, rfl, hgp, hrowp, hb3⟩
    have hpl := padk_length k 54 hKl
    have hrp := Rd_of_row hrowp hpl (by decide)
    have hlt := HashAt.lt HHH.out
    have hh3 := HashAt.below HHH.out hb3
    have hne3 : (Value.slice (some ⟨gp, 0, none⟩) 64 64).ownBlock ≠ some hb := fun e => by
      have e' : gp = hb := by simpa [Value.ownBlock] using e
      omega
    have HB3 := Lib.hid (HB2.out.trans (hb3.mono HB2.out.size))
    have HR3 := Lib.hid (Rp.row_le hb3 HR2.out)
    have HK3 := Lib.hid (HK2.out.below hb3)
    obtain ⟨p1, hp1⟩ : ∃ p1, p1 = padk k 54 := ⟨_, rfl⟩
    rw [← hp1] at hrp hpl
    have HP1 := Lib.hid hp1
    have hw := write_any hb [] p1 (some ⟨gp, 0, none⟩) 64 w3 (HS.out.below HB3.out) hh3 (by rw [hpl]; exact hrp) (by rw [hpl]; exact hne3) (by rw [hpl]; simp)
    rw [hpl, List.nil_append] at hw
    have HPL := Lib.hid hpl
    clear hp1 hb3 hrowp HR2 HB2 HHH HK2 hpl hrp hh3 hne3 hlt
    go_wp2_with fail
    refine hw.mono ?_
    clear hw
    rintro e w4 ⟨rfl, hh4, hg4⟩
    have hltb := lt_of_heap HR3.out
    have HB4 := Lib.hid (HB3.out.grown hg4 HB3.out.size (fun j hj => by have e' : hb = j := Option.some.inj hj; have := HGE.out; omega))
    have HR4 := Lib.hid ((hg4.block _ hltb (by intro e; have e' : w.heap.size = hb := Option.some.inj e; have := HGE.out; omega)).trans HR3.out)
    have HK4 := Lib.hid (HK3.out.kept hg4 (.inr (fun e => HNE.out hb e rfl)))
    have HH4 := Lib.hid hh4
    have hL : L.length ≤ 9223372036854775807 := by
      obtain ⟨vs, h1, _⟩ := HP.out
      rcases h1.2 with ⟨_, h0⟩ | ⟨_, _, cap, _, _, hnc, hcm, _⟩
      · omega
      · unfold maxLen at hcm; omega
    clear hh4 hg4 hltb HB3 HR3 HK3 hgp HRA HBA HKEY
    go_wp2_with fail
    go_loopw [24] (fun i wr => ∃ j : Nat, j ≤ L.length ∧ i = .int .i64 j ∧ HashAt wr hb (p1 ++ (L.take j).flatten) ∧ Below w.heap.size w wr ∧ wr.heap[w.heap.size]? = some (.cells (bysA zeros32) 22 (0, 0)) ∧ Rd wr 1 (.slice q l.length c) l.length (bys k)) (fun i _ => L.length - (intOf i).toNat)
    case atStart => exact ⟨0, Nat.zero_le _, rfl, by simpa using HH4.out, HB4.out, HR4.out, HK4.out⟩
    case round =>
      obtain ⟨j, hj, rfl, hhk, hbk, hrk, hkk⟩ := hrel
      have HTK := Lib.hid (HS.out.below hbk)
      have HHK := Lib.hid hhk
      have HRK := Lib.hid hrk
      have HKK := Lib.hid hkk
      clear hhk hrk hkk
      by_cases hlt : j < L.length
      · obtain ⟨vs, hv0, hv2⟩ := HP.out
        have hv1 := hv0.below hbk
        obtain ⟨b, off, rfl, hbl, hnc, hcm, hcell⟩ := Rd_lt hv1 (by omega)
        obtain ⟨qk, ck, hvk, hrdk0⟩ := hv2 j hlt
        have hck := hcell j _ hvk
        have hrdk := hrdk0.below hbk
        have hqk : (Value.slice qk (L.getD j []).length ck).ownBlock ≠ some hb := fun e => by have := Rd_own_lt hrdk0 e; have := HGE.out; omega
        clear hv0 hrdk0
        have hlen := flatten_take_le L j hlt
        have hfs := flatten_take_succ L j hlt
        obtain ⟨X, hX⟩ : ∃ X, X = L.getD j [] := ⟨_, rfl⟩
        obtain ⟨Y, hY⟩ : ∃ Y, Y = (L.take j).flatten := ⟨_, rfl⟩
        rw [← hX, ← hY] at hlen hfs
        rw [← hX] at hck hrdk hqk
        rw [← hY] at HHK
        have HFS := Lib.hid hfs
        have HX := Lib.hid hX
        have HRDK := Lib.hid hrdk
        have hlY : (p1 ++ Y).length + X.length ≤ 70368744177664 := by rw [List.length_append, HPL.out]; omega
        clear hfs hX hY hcell hv1 hv2 hvk hrdk
        go_wp2_with (go_at_call 49; go_must (refine (write_any hb (p1 ++ Y) X qk ck _ HTK.out HHK.out HRDK.out hqk hlY).mono ?_); rintro e w5 ⟨rfl, hh5, hg5⟩)
        have hlw : w.heap.size < wr.heap.size := lt_of_heap HRK.out
        refine ⟨⟨j + 1, by omega, rfl, ?_, ?_, ?_, ?_⟩, by simp [intOf]; omega⟩
        · rw [HFS.out, ← List.append_assoc]; exact hh5
        · exact hbk.grown hg5 hbk.size (fun i hi => by have e' : hb = i := Option.some.inj hi; have := HGE.out; omega)
        · exact (hg5.block _ hlw (by intro e; have e' : w.heap.size = hb := Option.some.inj e; have := HGE.out; omega)).trans HRK.out
        · exact HKK.out.kept hg5 (.inr (fun e => HNE.out hb e rfl))
      · obtain rfl : j = L.length := by omega
        have HTAKE : Hid ((L.take L.length).flatten = L.flatten) := Lib.hid (by rw [List.take_of_length_le (Nat.le_refl _)])
        rw [HTAKE.out] at HHK
        obtain ⟨A, hA⟩ : ∃ A, A = p1 ++ L.flatten := ⟨_, rfl⟩
        have hAl : A.length ≤ 70368744177664 := by rw [hA, List.length_append, HPL.out]; omega
        rw [← hA] at HHK
        have HA := Lib.hid hA
        have HLA := Lib.hid (sha_length A)
        have HI9 : Hid ((Tryz.prog.info? 22).map (·.size) = some (bysA (sha A)).size) := Lib.hid (by rw [bysA_size, sha_length]; exact info32)
        clear hA
        go_wp2_with fail
        refine (sum_some hb A _ HTK.out HHK.out hAl).mono ?_
        rintro e w6 ⟨rfl, hb6⟩
        have HB6 := Lib.hid (hbk.trans (hb6.mono hbk.size))
        have HR6 := Lib.hid (Rp.row_le hb6 HRK.out)
        have HK6 := Lib.hid (HKK.out.below hb6)
        clear hb6
        go_wp2_with (refine Rg.store_row_new rfl 22 _ _ rfl w6.heap.size rfl rfl 22 _ (bysA (sha A)) rfl HI9.out (by rw [bysA_size, HLA.out]; rfl) (bysA_one _) ?_)
        have hrow9 := Rg.heap_alloc_at w6 (.cells (bysA (sha A)) 22) w6.heap.size rfl
        have hba9 : Below w6.heap.size w6 (w6.alloc (.cells (bysA (sha A)) 22)) := (Below.refl _ _).alloc (Nat.le_refl _) _
        refine Rp.region 5 [(0, true), (2, true), (1, false), (3, false), (4, false)] (by kernel_rfl) (by kernel_rfl) ?_; simp only [Rp.pick, Rp.nth, List.drop_succ_cons, List.drop_zero]
        obtain ⟨wd, hwd⟩ : ∃ wd, wd = (w6.alloc (.cells (bysA (sha A)) 22)).drew := ⟨_, rfl⟩
        have hbd : Below w6.heap.size w6 wd := by rw [hwd]; exact hba9.drew
        have HBD := Lib.hid (HB6.out.trans (hbd.mono HB6.out.size))
        have HRD := Lib.hid (Rp.row_le hbd HR6.out)
        have HKD := Lib.hid (HK6.out.below hbd)
        have HR9 : Hid (wd.heap[w6.heap.size]? = some (.cells (bysA (sha A)) 22)) := Lib.hid (by rw [hwd]; exact hrow9)
        rw [← hwd]
        clear hwd hbd hba9 hrow9
        repeat (refine Rp.stepK rfl ?_; intro K hK; apply Exists.intro; refine ⟨?_, ?_⟩; (focus (intro x hx;  go_simp; (first | (fail) | ((try go_bits); (try go_simp); (try rfl))))); go_simp; refine hK _ ?_; clear hK K)
        refine Rp.stepF fun K hK => ?_; go_wp2_with fail; refine (pad_any _ _ _ k 92 _ HKN.out HKD.out hKl).mono ?_; rintro e w7 ⟨g7, rfl, hg7, hrow7, hb7⟩; go_wp2_with fail; refine hK _ _ hb7 ?_; clear hK K
        have hpl2 := padk_length k 92 hKl
        have HR7 := Lib.hid (Rd_of_row hrow7 hpl2 (by decide))
        have HRZ7 := Lib.hid (Rp.row_le hb7 HRD.out)
        have HS9 := Lib.hid (Rd_of_row (Rp.row_le hb7 HR9.out) HLA.out (by decide))
        have HB7 := Lib.hid (HBD.out.trans (hb7.mono HBD.out.size))
        obtain ⟨p2, hp2⟩ : ∃ p2, p2 = padk k 92 := ⟨_, rfl⟩
        rw [← hp2] at HR7 hpl2
        have HP2 := Lib.hid hp2
        have HPL2 := Lib.hid hpl2
        clear hp2 hb7 hrow7 hg7 hpl2
        go_simp
        refine Rp.stepF fun K hK => ?_
        go_wp2_with fail
        refine hK _ _ ((Below.refl _ _).alloc (Nat.le_refl _) _) ?_; clear hK K
        have hparts : Parts (w7.alloc (.cells #[.slice (some ⟨g7, 0, none⟩) 64 64, .slice (some ⟨w6.heap.size, 0, none⟩) 32 32] 23)) (.slice (some ⟨w7.heap.size, 0, none⟩) 2 2) [p2, sha A] :=
          Parts.lit2 w7 p2 (sha A) _ _ ⟨_, _, by rw [HPL2.out], by rw [HPL2.out]; exact HR7.out⟩ ⟨_, _, by rw [HLA.out], by rw [HLA.out]; exact HS9.out⟩
        have hb8 : Below w7.heap.size w7 (w7.alloc (.cells #[.slice (some ⟨g7, 0, none⟩) 64 64, .slice (some ⟨w6.heap.size, 0, none⟩) 32 32] 23)) := (Below.refl _ _).alloc (Nat.le_refl _) _
        refine Rp.stepF fun K hK => ?_; go_wp2_with fail; refine (parts_any _ _ [p2, sha A] _ (HS.out.below (HB7.out.trans (hb8.mono HB7.out.size))) hparts (by simp [HPL2.out, HLA.out])).mono ?_; rintro e w9 ⟨rfl, hb9⟩; go_wp2_with fail; refine hK _ _ hb9 ?_; clear hK K
        have hb10 : Below w7.heap.size w7 w9 := hb8.trans (hb9.mono hb8.size)
        have HB9 := Lib.hid (HB7.out.trans (hb10.mono HB7.out.size))
        have HRZ9 := Lib.hid (Rp.row_le hb10 HRZ7.out)
        have hres : sha (p2 ++ sha A) = hmac l L.flatten := by
          unfold hmac
          rw [← HKE.out, HP2.out, HA.out, HP1.out]
        rw [hres]
        have HM := Lib.hid (hmac_length l L.flatten)
        have HIM : Hid ((Tryz.prog.info? 22).map (·.size) = some (bysA (hmac l L.flatten)).size) := Lib.hid (by rw [bysA_size, HM.out]; exact info32)
        clear hres hb8 hb9 hb10 hparts
        obtain ⟨R, hR⟩ : ∃ R, R = hmac l L.flatten := ⟨_, rfl⟩
        rw [← hR] at HM HIM ⊢
        have HRR := Lib.hid hR
        clear hR
        go_simp
        refine Rp.done ?_
        go_wp2_with (refine Rg.store_row rfl 22 _ _ rfl w.heap.size rfl 22 (bysA zeros32) (bysA R) rfl HRZ9.out HIM.out (by rw [bysA_size, bysA_size, HM.out]; rfl) (bysA_one _) ?_)
        refine NoPanic.normal ?_
        go_wp2_with fail
        refine bodyPost_ret (v := .agg (bysA R)) (results_cell_row (P := Tryz.prog) rfl _ _ w.heap.size 22 (bysA R) (0, 0) _ rfl (setRow_heap _ _ _ _ 22 _ HRZ9.out) Tryz.underlying22 rfl HIM.out) rfl ⟨by rw [HRR.out], ?_⟩
        exact Rg.below_setRow HB9.out (Nat.le_refl _) _
end Ref
end Go.Proofs.YtmonkggoilhngaaGreatDoor
