/- Slices of [32]byte: cut, read. -/
import Derived.Test.YtmonkggoilhngaaGreatDoorGConcW
import Derived.Test.YtmonkggoilhngaaGreatDoorGShaD
import Derived.Test.YtmonkggoilhngaaGreatDoorGPerm
import Derived.Test.YtmonkggoilhngaaGreatDoorGSlM
import Derived.Test.YtmonkggoilhngaaGreatDoorGCadA
import Derived.Test.YtmonkggoilhngaaGreatDoorConE
import Derived.Test.YtmonkggoilhngaaGreatDoorGTenA
namespace Go.Proofs.YtmonkggoilhngaaGreatDoor
open Go.RowKit Bits Mem Sha
namespace Ref
def All32 (L : List (List UInt8)) : Prop := ∀ x ∈ L, x.length = 32
section
variable {L M : List (List UInt8)}
theorem All32.flat : ∀ {L : List (List UInt8)}, All32 L → L.flatten.length = L.length * 32
  | [], _ => rfl
  | x :: L, h => by
    have h1 := h x (by simp)
    have h2 := All32.flat (L := L) (fun y hy => h y (by simp [hy]))
    simp only [List.flatten_cons, List.length_append, List.length_cons, h1, h2]; omega
theorem All32.take (h : All32 L) (k : Nat) : All32 (L.take k) := fun x hx => h x (List.mem_of_mem_take hx)
theorem All32.getD (h : All32 L) {k : Nat} (hk : k < L.length) : (L.getD k []).length = 32 := by
  have : L.getD k [] = L[k] := by simp [List.getD, hk]
  rw [this]; exact h _ (List.getElem_mem hk)
theorem All32.append (h : All32 L) (h' : All32 M) : All32 (L ++ M) := fun x hx => by
  rcases List.mem_append.1 hx with hx | hx
  · exact h x hx
  · exact h' x hx
theorem All32.one {x : List UInt8} (h : x.length = 32) : All32 [x] := fun y hy => by simp at hy; rw [hy]; exact h
theorem flat_get : ∀ {L : List (List UInt8)} (k : Nat), All32 L → k < L.length → ∀ j, j < 32 → L.flatten[k * 32 + j]? = (L.getD k [])[j]?
  | x :: L, 0, h, _, j, hj => by
    have := h x (by simp)
    simp only [List.flatten_cons, Nat.zero_mul, Nat.zero_add, List.getD_cons_zero]
    rw [List.getElem?_append_left (by omega)]
  | x :: L, k + 1, h, hk, j, hj => by
    have h1 := h x (by simp)
    have h2 := flat_get (L := L) k (fun y hy => h y (by simp [hy])) (by simpa using hk) j hj
    simp only [List.flatten_cons, List.getD_cons_succ]
    rw [List.getElem?_append_right (by omega), ← h2]
    congr 1
    omega
theorem flat_take : ∀ {L : List (List UInt8)} (k : Nat), All32 L → (L.take k).flatten = L.flatten.take (k * 32)
  | [], _, _ => by simp
  | x :: L, 0, _ => by simp
  | x :: L, k + 1, h => by
    have h1 := h x (by simp)
    have h2 := flat_take (L := L) k (fun y hy => h y (by simp [hy]))
    simp only [List.take_succ_cons, List.flatten_cons, h2]
    have e : List.take ((k + 1) * 32) x = x := List.take_of_length_le (by omega)
    rw [List.take_append, e, h1, show (k + 1) * 32 - 32 = k * 32 by omega]
def RdL (w : World) (v : Value) (L : List (List UInt8)) : Prop := All32 L ∧ Rd w 32 v L.length (bys L.flatten)
variable {w w' : World} {v : Value} {base : Nat}
theorem RdL.below (h : RdL w v L) (hb : Below w.heap.size w w') : RdL w' v L := ⟨h.1, h.2.below hb⟩
theorem RdL.cut {q : Option Addr} {c k : Nat} (h : RdL w (.slice q L.length c) L) (hk : k ≤ L.length) : Rd w 32 (.slice q k c) k (bys (L.take k).flatten) := by
  obtain ⟨h1, h2⟩ := h.2
  have hf := h.1.flat
  refine ⟨by rw [bys_length, (h.1.take k).flat, List.length_take]; omega, ?_⟩
  rcases h2 with ⟨hv, h0⟩ | ⟨b, off, cap, hv, hb, hnc, hcm, hc⟩
  · injection hv with hq hl hcc
    exact .inl ⟨by rw [show k = 0 by omega, hq, hcc], by omega⟩
  · injection hv with hq hl hcc
    subst hq hcc
    refine .inr ⟨b, off, c, rfl, hb, by omega, hcm, fun j u hu => hc j u ?_⟩
    rw [← hu]
    have hj := (List.getElem?_eq_some_iff.1 hu).1
    rw [bys_length, (h.1.take k).flat, List.length_take] at hj
    rw [flat_take k h.1]
    simp only [bys, List.getElem?_map, List.getElem?_take]
    rw [if_pos (by omega)]
theorem RdL.load {q : Option Addr} {c k : Nat} (h : RdL w (.slice q L.length c) L) (hk : k < L.length) :
    ∃ b off, q = some ⟨b, off, none⟩ ∧ b < w.heap.size ∧ L.length ≤ c ∧ c ≤ maxLen ∧ ∀ x, Below w.heap.size w x → (Instr.loadAt 22 (.pointer (some ⟨b, off + k * 32, none⟩))).run Tryz.prog x = .ok (.agg (bysA (L.getD k []))) x := by
  obtain ⟨b, off, rfl, hb, hnc, hcm, hc⟩ := Rd_lt h.2 (by omega)
  refine ⟨b, off, rfl, hb, hnc, hcm, fun x hx => ?_⟩
  have hl := h.1.getD hk
  refine run_loadAt_mid x b (off + k * 32) _ (bys (L.getD k [])) _ (fun j u hu => ?_) Tryz.underlying22 rfl (by rw [bys_length, hl]; exact info32)
  have hj := (List.getElem?_eq_some_iff.1 hu).1
  rw [bys_length, hl] at hj
  rw [Nat.add_assoc]
  refine (hx.cell (p := ⟨b, off + (k * 32 + j), none⟩) hb).trans (hc (k * 32 + j) u ?_)
  rw [← hu]
  simp only [bys, List.getElem?_map]
  rw [flat_get k h.1 hk j hj]
end
end Ref
end Go.Proofs.YtmonkggoilhngaaGreatDoor
/- The walk of a directory's New: what it yields lies in new blocks. -/
namespace Go.Proofs.YtmonkggoilhngaaGreatDoor
open Go.RowKit Bits Mem Sha
namespace Rc
section
variable {P : Program} {ops : Array Oper} {Q : Exit → Act → World → Prop} {B : Nat} {w : World} {spec : List Sp} {fin : List Nat} {tail : List Oper} {p : Nat → Par} {j : Nat} {o : Oper} {r : List Oper} {a : Act}
end
end Rc
namespace Ten
theorem z32T : (#[.int .u8 0, .int .u8 0, .int .u8 0, .int .u8 0, .int .u8 0, .int .u8 0, .int .u8 0, .int .u8 0, .int .u8 0, .int .u8 0, .int .u8 0, .int .u8 0, .int .u8 0, .int .u8 0, .int .u8 0, .int .u8 0, .int .u8 0, .int .u8 0, .int .u8 0, .int .u8 0, .int .u8 0, .int .u8 0, .int .u8 0, .int .u8 0, .int .u8 0, .int .u8 0, .int .u8 0, .int .u8 0, .int .u8 0, .int .u8 0, .int .u8 0, .int .u8 0] : Array Value) = bysA zeros32 := rfl
def nodeS (a b : List UInt8) : List UInt8 := sha (1 :: (a ++ b))
def leafS (l : List UInt8) : List UInt8 := sha (0 :: l)
theorem lit2T (w : World) (a b : List UInt8) (x y : Value) (hx : ∃ q c, x = .slice q a.length c ∧ Rd w 1 (.slice q a.length c) a.length (bys a)) (hy : ∃ q c, y = .slice q b.length c ∧ Rd w 1 (.slice q b.length c) b.length (bys b)) :
    Parts (w.alloc (.cells #[x, y] 23)) (.slice (some ⟨w.heap.size, 0, none⟩) 2 2) [a, b] := by
  have hb : Below w.heap.size w (w.alloc (.cells #[x, y] 23)) := (Below.refl _ _).alloc (Nat.le_refl _) _
  refine ⟨[x, y], Rd_lit w #[x, y] 23 1 2 rfl (by decide), fun i hi => ?_⟩
  obtain ⟨q, c, rfl, hx⟩ := hx
  obtain ⟨q', c', rfl, hy⟩ := hy
  match i, hi with
  | 0, _ => exact ⟨q, c, rfl, hx.below hb⟩
  | 1, _ => exact ⟨q', c', rfl, hy.below hb⟩
theorem infoU8T : (Tryz.prog.info? 5).map (fun i => (i.zero, i.size, i.bytes)) = some (some (.int .u8 0), 1, 1) := by kernel_rfl
set_option maxRecDepth 100000 in
set_option maxHeartbeats 1000000 in
theorem clone_any (q : Option Addr) (c : Nat) (l : List UInt8) (w : World) (hl : Rd w 1 (.slice q l.length c) l.length (bys l)) (h : l.length ≤ 1100000) :
    Calls Tryz.prog 22 #[.slice q l.length c] w fun e w' => ∃ q' c', e = .returned (.slice q' l.length c') ∧ Ow w' w.heap.size 5 1 (.slice q' l.length c') l.length (bys l) ∧ Below w.heap.size w w' := by
  obtain ⟨i0, hi0, hz0, hz1, hz2⟩ := parts3M infoU8T
  have HL := Lib.hid hl
  clear hl
  cases q with
  | none =>
    obtain ⟨hl0, hc0⟩ : l = [] ∧ c = 0 := by
      rcases HL.out.2 with ⟨hv, h0⟩ | ⟨b, off, cap, hv, _⟩
      · injection hv with _ h1 h2; exact ⟨List.eq_nil_of_length_eq_zero h1, h2⟩
      · cases hv
    subst hl0 hc0
    have he : ∀ w : World, (binOp .eql 23 (.slice none 0 0) (.slice none 0 0)).run Tryz.prog w = .ok (.bool true) w := fun _ => rfl
    go_enter Tryz.func22, Tryz.ntmps22
    go_wp2_with fail
    go_ret
    exact ⟨none, 0, rfl, Ow.nil _ _ _ _, Below.refl _ _⟩
  | some a =>
    obtain ⟨wl, hwl⟩ : ∃ wl, wl = w.alloc (.cells #[] 5) := ⟨_, rfl⟩
    have hbl : Below w.heap.size w wl := by rw [hwl]; exact (Below.refl _ _).alloc (Nat.le_refl _) _
    have HO0 : Hid (Ow wl w.heap.size 5 1 (.slice (some ⟨w.heap.size, 0, none⟩) 0 0) 0 []) := Lib.hid (by rw [hwl]; exact Ow.lit w #[] 5 1 0 w.heap.size (Nat.le_refl _) (Nat.zero_le _) rfl)
    have HLL := Lib.hid (HL.out.below hbl)
    have HBL := Lib.hid hbl
    have HWL := Lib.hid hwl
    have hsz := hbl.size
    have he : ∀ w : World, (binOp .eql 23 (.slice (some a) l.length c) (.slice none 0 0)).run Tryz.prog w = .ok (.bool false) w := fun _ => rfl
    clear hbl hwl
    go_enter Tryz.func22, Tryz.ntmps22
    go_wp2_with (at_builtin; go_must (rw [← HWL.out]); go_must (refine app_ow3 rfl _ _ 23 23 rfl w.heap.size 5 i0 (.int .u8 0) 1 1 Tryz.underlying23 hi0 hz0 hz1 hz2 (by rfl) _ 0 _ rfl HO0.out l.length _ rfl (Rd.src Tryz.underlying23 HLL.out (bys_one _)) (by unfold maxLen; omega) (by omega) hsz ?_); go_must (intro v4 w4 how4 hg4 hn4); go_must (obtain ⟨q4, c4, rfl⟩ := Ow_form how4); go_must (refine Hid.out ?_))
    refine Lib.hid ?_
    rw [Nat.zero_add] at how4 hn4
    rw [List.nil_append] at how4
    have HO := Lib.hid how4
    have HB : Hid (Below w.heap.size w w4) := Lib.hid (HBL.out.grown hg4 HBL.out.size (fun k hk => by cases hk; exact Nat.le_refl _))
    clear how4 hg4 hn4
    go_wp2_with fail
    go_ret
    exact ⟨q4, c4, rfl, HO.out, HB.out⟩
end Ten
end Go.Proofs.YtmonkggoilhngaaGreatDoor
