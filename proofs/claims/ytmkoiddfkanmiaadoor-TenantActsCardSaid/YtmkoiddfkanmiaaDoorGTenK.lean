/- The document's table: Find, State, miss, Get. -/
import Derived.Test.YtmkoiddfkanmiaaDoorTenF
import Derived.Test.YtmkoiddfkanmiaaDoorGCadJ
import Derived.Test.YtmkoiddfkanmiaaDoorGTenA
import Derived.Test.YtmkoiddfkanmiaaDoorSlD
import Derived.Test.YtmkoiddfkanmiaaDoorGTenH
namespace Go.Proofs.YtmkoiddfkanmiaaDoor
open Go.RowKit Bits Mem Sha Cad
namespace Ten
/-- The document's table in memory. -/
def DocAtT (w : World) (db base : Nat) (q : Option Addr) (c : Nat) (pl : Int) (L : List One) : Prop :=
  w.heap[db]? = some (.cells #[.int .i64 pl, .slice q L.length c] 62 (0, 0)) ∧ db < base ∧ Ow w base 72 3 (.slice q L.length c) L.length (ones L)
theorem DocAtT.cells {w : World} {sb base : Nat} {q : Option Addr} {c : Nat} {pl : Int} {L : List One} (h : DocAtT w sb base q c pl L) : w.cell? ⟨sb, 0, none⟩ = some (.int .i64 pl) ∧ w.cell? ⟨sb, 1, none⟩ = some (.slice q L.length c) ∧ w.frozen? ⟨sb, 0, none⟩ = false ∧ w.frozen? ⟨sb, 1, none⟩ = false :=
  ⟨(cell_of_row _ _ _ _ _ _ h.1).trans rfl, (cell_of_row _ _ _ _ _ _ h.1).trans rfl, by simp [World.frozen?, h.1], by simp [World.frozen?, h.1]⟩
theorem DocAtT.below {w w' : World} {sb base : Nat} {q : Option Addr} {c : Nat} {pl : Int} {L : List One} (h : DocAtT w sb base q c pl L) (hb : Below w.heap.size w w') : DocAtT w' sb base q c pl L :=
  ⟨(hb.block sb (Array.getElem?_eq_some_iff.1 h.1).1).trans h.1, h.2.1, h.2.2.below hb⟩
theorem DocAtT.at {w x : World} {sb base : Nat} {q : Option Addr} {c : Nat} {pl : Int} {L : List One} (h : DocAtT w sb base q c pl L) (hr : x.heap[sb]? = w.heap[sb]?) (hx : ∀ k, (Value.slice q L.length c).ownBlock = some k → x.heap[k]? = w.heap[k]?) : DocAtT x sb base q c pl L :=
  ⟨hr.trans h.1, h.2.1, h.2.2.atM hx⟩
set_option maxRecDepth 100000 in
set_option maxHeartbeats 2000000 in
theorem findR_any (db base : Nat) (q : Option Addr) (c : Nat) (pl : Int) (L : List One) (id : List UInt8) (w : World) (h : DocAtT w db base q c pl L) (hl : L.length ≤ 1000000) (hm : Srt L) :
    Calls Tryd.prog 33 #[.pointer (some ⟨db, 0, none⟩), .string ⟨id.toArray⟩] w fun e w' => e = .returned (.int .i64 (findD L id)) ∧ w' = w := by
  have HH := Lib.hid h
  have HM := Lib.hid hm
  obtain ⟨c0, c1, _, _⟩ := h.cells
  clear h hm
  go_enter Tryd.func33, Tryd.ntmps33
  go_wp2_with fail
  go_loopw [5] (fun iv wr => ∃ i : Nat, iv = .int .i64 i ∧ i ≤ L.length ∧ wr = w ∧ Hid (∀ k x, k < i → L[k]? = some x → ¬ x.id = id)) (fun iv _ => L.length - (intOf iv).toNat)
  case atStart => exact ⟨0, rfl, Nat.zero_le _, rfl, Lib.hid (fun k x h => by omega)⟩
  case round =>
    obtain ⟨i, rfl, hi, rfl, HI⟩ := hrel
    by_cases hlt : i < L.length
    · have hltI : (i : Int) < (L.length : Int) := by omega
      obtain ⟨x, hx⟩ : ∃ x, L[i]? = some x := ⟨_, List.getElem?_eq_getElem hlt⟩
      obtain ⟨g, rfl⟩ := HH.out.2.2.some_of_lt (by omega)
      obtain ⟨r0, _, _, _, _⟩ := row_cellsE HH.out.2.2 rfl hx
      have HX := Lib.hid hx
      by_cases he : x.id = id
      · have heB : (x.id == id) = true := by rw [beq_iff_eq]; exact he
        have HF := Lib.hid (findD_at HM.out hx he).1
        clear hx he
        go_wp2_with fail
        go_ret
        exact ⟨by rw [HF.out]; rfl, rfl⟩
      · have heB : (x.id == id) = false := by rw [beq_eq_false_iff_ne]; exact he
        have HE := Lib.hid he
        clear hx he
        go_wp2_with fail
        refine ⟨⟨i + 1, by go_num, by omega, trivial, Lib.hid (fun k y hk hy => ?_)⟩, by simp [intOf]; omega⟩
        by_cases hki : k = i
        · subst hki
          have : some x = some y := HX.out.symm.trans hy
          cases this
          exact HE.out
        · exact HI.out k y (by omega) hy
    · have hltI : ¬ (i : Int) < (L.length : Int) := by omega
      have HF : Hid (findD L id = -1) := Lib.hid (findD_none (fun k x hx => HI.out k x (by have := (List.getElem?_eq_some_iff.1 hx).1; omega) hx)).1
      go_wp2_with fail
      go_ret
      exact ⟨by rw [HF.out]; rfl, rfl⟩
/-- The state of one, by the document. -/
def stateC (C : List One) (id : List UInt8) : Int := match (if has C id then C[place C id]? else none) with
  | some x => x.period
  | none => 0
def missC (C : List One) (id : List UInt8) : Int := if stateC C id = 0 then 10 else if stateC C id = 3 then 9 else 0
def getC (C : List One) (id : List UInt8) (held : Bool) : Int := if missC C id = 0 then (if stateC C id = 2 ∧ held = false then 12 else 0) else missC C id
theorem stateC_none {C : List One} {id : List UInt8} (h : has C id = false) : stateC C id = 0 := by unfold stateC; rw [if_neg (by rw [h]; decide)]
theorem stateC_some {C : List One} {id : List UInt8} {x : One} (h : has C id = true) (hx : C[place C id]? = some x) : stateC C id = x.period := by unfold stateC; rw [if_pos h, hx]
set_option maxRecDepth 100000 in
set_option maxHeartbeats 2000000 in
theorem stateR_any (db base : Nat) (q : Option Addr) (c : Nat) (pl : Int) (L : List One) (id : List UInt8) (w : World) (h : DocAtT w db base q c pl L) (hl : L.length ≤ 1000000) (hm : Srt L) :
    Calls Tryd.prog 32 #[.pointer (some ⟨db, 0, none⟩), .string ⟨id.toArray⟩] w fun e w' => e = .returned (.int .i64 (stateC L id)) ∧ w' = w := by
  have HF := Lib.hid (findR_any db base q c pl L id w h hl hm)
  have HH := Lib.hid h
  obtain ⟨c0, c1, _, _⟩ := h.cells
  clear h hm
  cases hf : has L id with
  | false =>
    have HV := Lib.hid (stateC_none hf)
    have hfd : findD L id = -1 := by unfold findD; rw [if_neg (by rw [hf]; decide)]
    have HFD := Lib.hid hfd
    clear hf hfd
    go_enter Tryd.func32, Tryd.ntmps32
    go_wp2_with fail
    refine HF.out.mono ?_
    rintro e w2 ⟨rfl, hw⟩
    obtain rfl : w = w2 := hw.symm
    clear hw
    rw [HFD.out]
    go_wp2_with fail
    go_ret
    exact ⟨by rw [HV.out]; rfl, rfl⟩
  | true =>
    obtain ⟨x, hx, _⟩ := has_some hf
    have HV := Lib.hid (stateC_some hf hx)
    have hfd : findD L id = (place L id : Int) := by unfold findD; rw [if_pos hf]
    obtain ⟨k, hk⟩ : ∃ k, k = place L id := ⟨_, rfl⟩
    rw [← hk] at hfd hx
    have HFD := Lib.hid hfd
    have hkl := (List.getElem?_eq_some_iff.1 hx).1
    have hkI : ¬ ((k : Int) < 0) := by omega
    have hkL : (k : Int) < (L.length : Int) := by omega
    obtain ⟨g, rfl⟩ := HH.out.2.2.some_of_lt (by omega)
    obtain ⟨_, r1, _, _, _⟩ := row_cellsE HH.out.2.2 rfl hx
    clear hf hfd hk hx
    go_enter Tryd.func32, Tryd.ntmps32
    go_wp2_with fail
    refine HF.out.mono ?_
    rintro e w2 ⟨rfl, hw⟩
    obtain rfl : w = w2 := hw.symm
    clear hw
    rw [HFD.out]
    go_wp2_with fail
    go_ret
    exact ⟨by rw [HV.out]; rfl, rfl⟩
set_option maxRecDepth 100000 in
set_option maxHeartbeats 2000000 in
theorem missR_any (db base : Nat) (q : Option Addr) (c : Nat) (pl : Int) (L : List One) (id : List UInt8) (w : World) (h : DocAtT w db base q c pl L) (hl : L.length ≤ 1000000) (hm : Srt L) :
    Calls Tryd.prog 49 #[.pointer (some ⟨db, 0, none⟩), .string ⟨id.toArray⟩] w fun e w' => e = .returned (.int .i64 (missC L id)) ∧ w' = w := by
  have HF := Lib.hid (stateR_any db base q c pl L id w h hl hm)
  clear h hm
  have HV : Hid (missC L id = if stateC L id = 0 then 10 else if stateC L id = 3 then 9 else 0) := Lib.hid rfl
  obtain ⟨s, hs⟩ : ∃ s, s = stateC L id := ⟨_, rfl⟩
  rw [← hs] at HF HV
  clear hs
  by_cases h0 : s = 0
  · subst h0
    go_enter Tryd.func49, Tryd.ntmps49
    go_wp2_with fail
    refine HF.out.mono ?_
    rintro e w2 ⟨rfl, hw⟩
    obtain rfl : w = w2 := hw.symm
    clear hw
    go_wp2_with fail
    go_ret
    exact ⟨by rw [HV.out]; rfl, rfl⟩
  · have h0B : (s == 0) = false := by rw [beq_eq_false_iff_ne]; exact h0
    by_cases h3 : s = 3
    · subst h3
      go_enter Tryd.func49, Tryd.ntmps49
      go_wp2_with fail
      refine HF.out.mono ?_
      rintro e w2 ⟨rfl, hw⟩
      obtain rfl : w = w2 := hw.symm
      clear hw
      go_wp2_with fail
      go_ret
      exact ⟨by rw [HV.out]; rfl, rfl⟩
    · have h3B : (s == 3) = false := by rw [beq_eq_false_iff_ne]; exact h3
      rw [if_neg h0, if_neg h3] at HV
      go_enter Tryd.func49, Tryd.ntmps49
      go_wp2_with fail
      refine HF.out.mono ?_
      rintro e w2 ⟨rfl, hw⟩
      obtain rfl : w = w2 := hw.symm
      clear hw
      go_wp2_with fail
      go_ret
      exact ⟨by rw [HV.out]; rfl, rfl⟩
set_option maxRecDepth 100000 in
set_option maxHeartbeats 2000000 in
theorem getR_any (db base : Nat) (q : Option Addr) (c : Nat) (pl : Int) (L : List One) (id : List UInt8) (held : Bool) (w : World) (h : DocAtT w db base q c pl L) (hl : L.length ≤ 1000000) (hm : Srt L) :
    Calls Tryd.prog 31 #[.pointer (some ⟨db, 0, none⟩), .string ⟨id.toArray⟩, .bool held] w fun e w' => e = .returned (.int .i64 (getC L id held)) ∧ w' = w := by
  have HF := Lib.hid (stateR_any db base q c pl L id w h hl hm)
  have HG := Lib.hid (missR_any db base q c pl L id w h hl hm)
  clear h hm
  have HV : Hid (getC L id held = if missC L id = 0 then (if stateC L id = 2 ∧ held = false then 12 else 0) else missC L id) := Lib.hid rfl
  obtain ⟨s, hs⟩ : ∃ s, s = stateC L id := ⟨_, rfl⟩
  obtain ⟨m, hm⟩ : ∃ m, m = missC L id := ⟨_, rfl⟩
  rw [← hs] at HF HV
  rw [← hm] at HG HV
  clear hs hm
  by_cases h0 : m = 0
  · subst h0
    rw [if_pos rfl] at HV
    by_cases h2 : s = 2
    · subst h2
      cases held <;>
      · go_enter Tryd.func31, Tryd.ntmps31
        go_wp2_with fail
        refine HG.out.mono ?_
        rintro e w2 ⟨rfl, hw⟩
        obtain rfl : w = w2 := hw.symm
        clear hw
        go_wp2_with fail
        refine HF.out.mono ?_
        rintro e w2 ⟨rfl, hw⟩
        obtain rfl : w = w2 := hw.symm
        clear hw
        go_wp2_with fail
        go_ret
        exact ⟨by rw [HV.out]; rfl, rfl⟩
    · have h2B : (s == 2) = false := by rw [beq_eq_false_iff_ne]; exact h2
      rw [if_neg (fun e => h2 e.1)] at HV
      go_enter Tryd.func31, Tryd.ntmps31
      go_wp2_with fail
      refine HG.out.mono ?_
      rintro e w2 ⟨rfl, hw⟩
      obtain rfl : w = w2 := hw.symm
      clear hw
      go_wp2_with fail
      refine HF.out.mono ?_
      rintro e w2 ⟨rfl, hw⟩
      obtain rfl : w = w2 := hw.symm
      clear hw
      go_wp2_with fail
      go_ret
      exact ⟨by rw [HV.out]; rfl, rfl⟩
  · have h0B : (m == 0) = false := by rw [beq_eq_false_iff_ne]; exact h0
    rw [if_neg h0] at HV
    go_enter Tryd.func31, Tryd.ntmps31
    go_wp2_with fail
    refine HG.out.mono ?_
    rintro e w2 ⟨rfl, hw⟩
    obtain rfl : w = w2 := hw.symm
    clear hw
    go_wp2_with fail
    go_ret
    exact ⟨by rw [HV.out]; rfl, rfl⟩
end Ten
end Go.Proofs.YtmkoiddfkanmiaaDoor
/- The document's table: Free. -/
namespace Go.Proofs.YtmkoiddfkanmiaaDoor
open Go.RowKit Bits Mem Sha Cad
namespace Ten
/-- Does one of these have the place? -/
def heldC (C : List One) (p : Nat) : Bool := C.any fun x => decide (x.period < 3 ∧ x.age = (p : Int))
def usedC (C : List One) (n : Nat) : List Bool := (List.range n).map (heldC C)
theorem usedC_length (C : List One) (n : Nat) : (usedC C n).length = n := by simp [usedC]
theorem usedC_at (C : List One) (n p : Nat) (hp : p < n) : (usedC C n)[p]? = some (heldC C p) := by
  unfold usedC
  rw [List.getElem?_map, List.getElem?_range hp]
  rfl
theorem heldC_succ {C : List One} {k : Nat} {x : One} (hx : C[k]? = some x) (p : Nat) : heldC (C.take (k + 1)) p = (heldC (C.take k) p || decide (x.period < 3 ∧ x.age = (p : Int))) := by
  unfold heldC
  rw [List.take_add_one, hx, List.any_append]
  simp
theorem usedC_core (L : List Ten) (n : Nat) (hs : ∀ x ∈ L, x.state ≤ 3) : usedC (L.map core) n = usedT L n := by
  unfold usedC usedT
  refine List.map_congr_left fun p _ => ?_
  unfold heldC
  rw [List.any_map]
  rw [Bool.eq_iff_iff, List.any_eq_true, List.any_eq_true]
  constructor
  · rintro ⟨x, hx, h⟩
    have h := of_decide_eq_true h
    exact ⟨x, hx, decide_eq_true ⟨fun e => by have := h.1; simp only [core] at this; omega, h.2⟩⟩
  · rintro ⟨x, hx, h⟩
    have h := of_decide_eq_true h
    have := hs x hx
    exact ⟨x, hx, decide_eq_true ⟨by show x.state < 3; have := h.1; omega, h.2⟩⟩
set_option maxRecDepth 100000 in
set_option maxHeartbeats 2000000 in
theorem freeR_any (db base : Nat) (q : Option Addr) (c n : Nat) (L : List One) (w : World) (h : DocAtT w db base q c n L) (hl : L.length ≤ 1000000) (hn : n ≤ 8) :
    Calls Tryd.prog 48 #[.pointer (some ⟨db, 0, none⟩)] w fun e w' => e = .returned (.int .i64 (firstFree (usedC L n))) ∧ w' = w := by
  have HH := Lib.hid h
  obtain ⟨c0, c1, _, _⟩ := h.cells
  clear h
  go_enter Tryd.func48, Tryd.ntmps48
  go_wp2_with fail
  go_loopw [3] (fun pv wr => ∃ p : Nat, p ≤ n ∧ pv = .int .i64 p ∧ wr = w ∧ Hid (∀ j, j < p → (usedC L n)[j]? = some true)) (fun pv _ => n - (intOf pv).toNat)
  case atStart => exact ⟨0, Nat.zero_le _, rfl, rfl, Lib.hid (fun j h => by omega)⟩
  case round =>
    obtain ⟨p, hp, rfl, rfl, HP⟩ := hrel
    by_cases hlt : p < n
    · have hltI : (p : Int) < (n : Int) := by omega
      go_wp2_with fail
      go_loopw [4, 5] (fun uv iv wr2 => ∃ i : Nat, i ≤ L.length ∧ uv = .bool (heldC (L.take i) p) ∧ iv = .int .i64 i ∧ wr2 = wr) (fun _ iv _ => L.length - (intOf iv).toNat)
      case atStart => exact ⟨0, Nat.zero_le _, rfl, rfl, rfl⟩
      case round =>
        obtain ⟨i, hi, rfl, rfl, rfl⟩ := hrel
        by_cases hli : i < L.length
        · have hliI : (i : Int) < (L.length : Int) := by omega
          obtain ⟨x, hx⟩ : ∃ x, L[i]? = some x := ⟨_, List.getElem?_eq_getElem hli⟩
          obtain ⟨g, rfl⟩ := HH.out.2.2.some_of_lt (by omega)
          obtain ⟨_, r1, r2, _, _⟩ := row_cellsE HH.out.2.2 rfl hx
          have HSU := Lib.hid (heldC_succ hx p)
          obtain ⟨b, hb⟩ : ∃ b, b = heldC (L.take i) p := ⟨_, rfl⟩
          rw [← hb] at HSU ⊢
          obtain ⟨xi, xs, xp⟩ := x
          have r1 : wr.cell? ⟨g, i * 3 + 1, none⟩ = some (.int .i64 xs) := r1
          have r2 : wr.cell? ⟨g, i * 3 + 2, none⟩ = some (.int .i64 xp) := r2
          clear hx hb
          cases b with
          | true =>
            go_wp2_with fail
            exact ⟨⟨i + 1, by omega, by rw [HSU.out]; rfl, by go_num, trivial⟩, by simp [intOf]; omega⟩
          | false =>
            by_cases h3 : xs < 3
            · have hB : Hid (heldC (L.take (i + 1)) p = decide (xp = (p : Int))) := Lib.hid (by rw [HSU.out]; simp [h3])
              by_cases he : xp = (p : Int)
              · have heB : (xp == (p : Int)) = true := by rw [beq_iff_eq]; exact he
                have HE := Lib.hid (hB.out.trans (decide_eq_true he))
                clear he
                go_wp2_with fail
                exact ⟨⟨i + 1, by omega, by rw [HE.out], by go_num, trivial⟩, by simp [intOf]; omega⟩
              · have heB : (xp == (p : Int)) = false := by rw [beq_eq_false_iff_ne]; exact he
                have HE := Lib.hid (hB.out.trans (decide_eq_false he))
                clear he
                go_wp2_with fail
                exact ⟨⟨i + 1, by omega, by rw [HE.out], by go_num, trivial⟩, by simp [intOf]; omega⟩
            · have HE : Hid (heldC (L.take (i + 1)) p = false) := Lib.hid (by rw [HSU.out]; simp [h3])
              go_wp2_with fail
              exact ⟨⟨i + 1, by omega, by rw [HE.out], by go_num, trivial⟩, by simp [intOf]; omega⟩
        · have hliI : ¬ (i : Int) < (L.length : Int) := by omega
          obtain rfl : i = L.length := by omega
          rw [List.take_length]
          have HU := Lib.hid (usedC_at L n p hlt)
          obtain ⟨b, hb⟩ : ∃ b, b = heldC L p := ⟨_, rfl⟩
          rw [← hb] at HU ⊢
          clear hb
          cases b with
          | true =>
            go_wp2_with fail
            refine ⟨⟨p + 1, by omega, by go_num, trivial, Lib.hid (fun j hj => ?_)⟩, by simp [intOf]; omega⟩
            by_cases hjp : j = p
            · subst hjp; exact HU.out
            · exact HP.out j (by omega)
          | false =>
            have HF := Lib.hid (firstFree_some HU.out HP.out)
            go_wp2_with fail
            go_ret
            exact ⟨by rw [HF.out]; rfl, rfl⟩
    · have hltI : ¬ (p : Int) < (n : Int) := by omega
      have HF := Lib.hid (firstFree_none (U := usedC L n) (fun j hj => HP.out j (by rw [usedC_length] at hj; omega)))
      go_wp2_with fail
      go_ret
      exact ⟨by rw [HF.out]; rfl, rfl⟩
end Ten
end Go.Proofs.YtmkoiddfkanmiaaDoor
/- s[k:] of any row, and what it reads. -/
namespace Go.Proofs.YtmkoiddfkanmiaaDoor
open Go.RowKit Bits Mem Sha
namespace Mem
/-- s[k:], and how it reads. -/
theorem low_any {P : Program} (t e : TypeId) (i : TypeInfo) (ht : P.underlying t = some (.slice e)) (hi : P.info? e = some i) (q : Option Addr) (n c k : Nat) (hk : k ≤ n) (hn : n ≤ c) (hq : q = none → c = 0) (hp : ∀ a, q = some a → a.spot = none) :
    ∃ q', (∀ x, (Instr.slice t (.slice q n c) (some (.int .i64 (k : Int))) none none).run P x = .ok (.slice q' (n - k) (c - k)) x) ∧ ∀ y xs, Rd y i.size (.slice q n c) n xs → Rd y i.size (.slice q' (n - k) (c - k)) (n - k) (xs.drop (k * i.size)) := by
  have h3 : (k : Int) ≤ (n : Int) := by omega
  cases q with
  | none =>
    have := hq rfl
    subst this
    obtain rfl : n = 0 := by omega
    obtain rfl : k = 0 := by omega
    refine ⟨none, fun x => ?_, fun y xs h => by simpa using h⟩
    simp [Instr.slice, Instr.sliceBounds, Instr.sliceBound, asIntOf, Sem.run_bind, run_underlying ht, sizeOf, typeInfo, hi]
  | some a =>
    obtain ⟨b, off, sp⟩ := a
    have := hp _ rfl
    simp at this
    subst this
    by_cases h6 : c = k
    · have : n = k := by omega
      subst this
      subst h6
      refine ⟨some ⟨b, off, none⟩, fun x => ?_, fun y xs h => ?_⟩
      · simp [Instr.slice, Instr.sliceBounds, Instr.sliceBound, asIntOf, Sem.run_bind, run_underlying ht, sizeOf, typeInfo, hi]
      · have hx := h.1
        rcases h.2 with ⟨hv, _⟩ | ⟨b', off', cap, hv, hb, _, hcm, _⟩
        · cases hv
        · cases hv
          exact ⟨by simp; omega, .inr ⟨_, _, _, rfl, hb, by omega, by omega, fun j u hu => by rw [List.drop_eq_nil_of_le (by omega)] at hu; simp at hu⟩⟩
    · refine ⟨some ⟨b, off + k * i.size, none⟩, fun x => ?_, fun y xs h => ?_⟩
      · have e : (if k * i.size = 0 then (⟨b, off, none⟩ : Addr) else ⟨b, off + k * i.size, none⟩) = ⟨b, off + k * i.size, none⟩ := by
          split
          · rename_i h; rw [h]; rfl
          · rfl
        have h7 : k ≤ n := hk
        simp [Instr.slice, Instr.sliceBounds, Instr.sliceBound, asIntOf, Sem.run_bind, run_underlying ht, sizeOf, typeInfo, hi, h6, h7, Addr.add, e]
      · have hx := h.1
        rcases h.2 with ⟨hv, _⟩ | ⟨b', off', cap, hv, hb, _, hcm, hc⟩
        · cases hv
        · cases hv
          refine ⟨by rw [List.length_drop, hx, Nat.sub_mul], .inr ⟨_, _, _, rfl, hb, by omega, by omega, fun j u hu => ?_⟩⟩
          rw [List.getElem?_drop] at hu
          rw [Nat.add_assoc]
          exact hc _ u hu
/-- s[:k] reads as the first k. -/
theorem Rd.cut {w : World} {s n k c : Nat} {q : Option Addr} {xs : List Value} (h : Rd w s (.slice q n c) n xs) (hk : k ≤ n) : Rd w s (.slice q k c) k (xs.take (k * s)) := by
  have hx := h.1
  have hks : k * s ≤ n * s := Nat.mul_le_mul_right _ hk
  refine ⟨by rw [List.length_take]; omega, ?_⟩
  rcases h.2 with ⟨hv, h0⟩ | ⟨b', off', cap, hv, hb, hnc, hcm, hc⟩
  · cases hv
    obtain rfl : k = 0 := by omega
    exact .inl ⟨rfl, rfl⟩
  · cases hv
    exact .inr ⟨_, _, _, rfl, hb, by omega, hcm, fun j u hu => hc j u (by rw [List.getElem?_take] at hu; split at hu; exact hu; cases hu)⟩
theorem Rd.form {w : World} {s n c : Nat} {q : Option Addr} {xs : List Value} (h : Rd w s (.slice q n c) n xs) : n ≤ c ∧ c ≤ maxLen ∧ (q = none → c = 0) ∧ ∀ a, q = some a → a.spot = none := by
  rcases h.2 with ⟨hv, h0⟩ | ⟨b', off', cap, hv, hb, hnc, hcm, hc⟩
  · cases hv; exact ⟨Nat.le_refl _, by unfold maxLen; omega, (fun _ => rfl), (fun a h => by cases h)⟩
  · cases hv; exact ⟨hnc, hcm, (fun h => by cases h), (fun a h => by cases h; rfl)⟩
end Mem
namespace Rc
theorem r_sl {P : Program} {ops : Array Oper} {Q : Exit → Act → World → Prop} {B : Nat} {w : World} {spec : List Sp} {fin : List Nat} {tail : List Oper} {p : Nat → Par} {j : Nat} {o : Oper} {r : List Oper} {a : Act} (hl : look spec j = none) (hw : Region.wanted o (yielded ops a.tmps) = true) (t : TypeId) (y z : Operand) (ho : o.op = .slice t y (some z) none none) (e : TypeId) (ht : P.underlying t = some (.slice e))
    (v0 zv v : Value) (hy : a.eval y = v0) (hz : a.eval z = zv) (hrun : ∀ x, (Instr.slice t v0 (some zv) none none).run P x = .ok v x)
    (h : ∀ K : Act → Prop, (∀ a, wpSeq P ops Q B w spec fin tail p (j + 1) r a → K a) → K (a.put o.dst v)) : wpSeq P ops Q B w spec fin tail p j (o :: r) a :=
  r_run _ hl hw (fun x _ => by
    have := hrun x
    simp [execOp, ho, hy, hz, Instr.sliceAt, Sem.run_bind, run_underlying ht, this]) h
end Rc
end Go.Proofs.YtmkoiddfkanmiaaDoor
/- The document's table: DocCreate. -/
namespace Go.Proofs.YtmkoiddfkanmiaaDoor
open Go.RowKit Bits Mem Sha Cad
namespace Ten
theorem infoRefT : (Tryd.prog.info? 72).map (fun i => (i.zero, i.size, i.bytes)) = some (some (.agg #[.string ⟨#[]⟩, .int .i64 0, .int .i64 0]), 3, 32) := by kernel_rfl
def docPut (C : List One) (id : List UInt8) (n : Nat) : (Int × Int) × List One := if has C id then (if stateC C id = 3 then ((0, 9), C) else ((0, 11), C)) else if firstFree (usedC C n) < 0 then ((0, 7), C) else ((firstFree (usedC C n), 0), C.take (place C id) ++ ⟨id, 1, firstFree (usedC C n)⟩ :: C.drop (place C id))
set_option maxRecDepth 100000 in
set_option maxHeartbeats 4000000 in
theorem docputR_any (sb base : Nat) (q : Option Addr) (c n : Nat) (L : List One) (id : List UInt8) (w : World) (h : DocAtT w sb base q c n L) (hl : L.length ≤ 1000000) (hm : Srt L) (hbs : base ≤ w.heap.size) (hn8 : n ≤ 8) (hst : ∀ x ∈ L, 1 ≤ x.period ∧ x.period ≤ 3) :
    Calls Tryd.prog 28 #[.pointer (some ⟨sb, 0, none⟩), .string ⟨id.toArray⟩] w fun e w' => ∃ q' c', e = .returned (.tuple #[.int .i64 (docPut L id n).1.1, .int .i64 (docPut L id n).1.2]) ∧ DocAtT w' sb base q' c' n (docPut L id n).2 ∧ Kp (fun k => k = sb) w w' ∧ GrewT w q c L.length q' (docPut L id n).2.length c' := by
  have HS := Lib.hid (stateR_any sb base q c n L id w h hl hm)
  have HFR := Lib.hid (freeR_any sb base q c n L w h hl hn8)
  have HH := Lib.hid h
  have HM := Lib.hid hm
  obtain ⟨c0, c1, f0, f1⟩ := h.cells
  have hsl := (Array.getElem?_eq_some_iff.1 h.1).1
  have hsb := h.2.1
  clear h hm
  cases hf : has L id with
  | true =>
    obtain ⟨x, hx, _⟩ := has_some hf
    have hsx := stateC_some hf hx
    have hb := hst x (List.mem_of_getElem? hx)
    have HV : Hid (docPut L id n = if stateC L id = 3 then ((0, 9), L) else ((0, 11), L)) := Lib.hid (if_pos hf)
    obtain ⟨s, hs⟩ : ∃ s, s = stateC L id := ⟨_, rfl⟩
    rw [← hs] at HS HV
    have h123 : s = 1 ∨ s = 2 ∨ s = 3 := by rw [hs, hsx]; omega
    clear hf hx hsx hb hs hst
    rcases h123 with rfl | rfl | rfl <;>
    · go_enter Tryd.func28, Tryd.ntmps28
      go_wp2_with fail
      refine HS.out.mono ?_
      rintro e w2 ⟨rfl, hw⟩
      obtain rfl : w = w2 := hw.symm
      clear hw
      go_wp2_with fail
      go_ret2
      exact ⟨q, c, by rw [HV.out]; rfl, by rw [HV.out]; exact HH.out, Kp.of_below (Below.refl _ _), fun k hk => .inl (by rw [HV.out] at hk; exact hk)⟩
  | false =>
    obtain ⟨m, hmp⟩ : ∃ m, m = place L id := ⟨_, rfl⟩
    obtain ⟨pp, hpp⟩ : ∃ pp, pp = firstFree (usedC L n) := ⟨_, rfl⟩
    have hpb := firstFree_lt (usedC L n)
    rw [usedC_length, ← hpp] at hpb
    have HVV : Hid (docPut L id n = if pp < 0 then ((0, 7), L) else ((pp, 0), L.take m ++ ⟨id, 1, pp⟩ :: L.drop m)) := Lib.hid (by unfold docPut; rw [if_neg (by rw [hf]; decide), ← hmp, ← hpp])
    have hs0 := stateC_none hf
    rw [hs0] at HS
    rw [← hpp] at HFR
    have HNP := Lib.hid hmp
    clear hf hmp hpp hs0 hst
    go_enter Tryd.func28, Tryd.ntmps28
    go_wp2_with fail
    refine HS.out.mono ?_
    rintro e w2 ⟨rfl, hw⟩
    obtain rfl : w = w2 := hw.symm
    clear hw
    go_wp2_with fail
    refine HFR.out.mono ?_
    rintro e w2 ⟨rfl, hw⟩
    obtain rfl : w = w2 := hw.symm
    clear hw
    by_cases hneg : pp < 0
    · have HV := Lib.hid (HVV.out.trans (if_pos hneg))
      go_wp2_with fail
      go_ret2
      exact ⟨q, c, by rw [HV.out]; rfl, by rw [HV.out]; exact HH.out, Kp.of_below (Below.refl _ _), fun k hk => .inl (by rw [HV.out] at hk; exact hk)⟩
    have HV := Lib.hid (HVV.out.trans (if_neg hneg))
    clear HVV
    go_wp2_with fail
    go_loopw [8] (fun iv wr => ∃ i : Nat, iv = .int .i64 i ∧ i ≤ L.length ∧ wr = w ∧ Hid (∀ k x, k < i → L[k]? = some x → cmpB x.id id < 0)) (fun iv _ => L.length - (intOf iv).toNat)
    case atStart => exact ⟨0, rfl, Nat.zero_le _, rfl, Lib.hid (fun k x h => by omega)⟩
    case round =>
      obtain ⟨i, rfl, hi, rfl, HI⟩ := hrel
      have hend : (∀ k x, i ≤ k → L[k]? = some x → 0 ≤ cmpB x.id id) → i = m := fun hh => by
        rw [HNP.out]
        exact Stands.place_eq ⟨hi, HI.out, hh⟩
      by_cases hlt : i < L.length
      · have hltI : (i : Int) < (L.length : Int) := by omega
        obtain ⟨x, hx⟩ : ∃ x, L[i]? = some x := ⟨_, List.getElem?_eq_getElem hlt⟩
        obtain ⟨g, rfl⟩ := HH.out.2.2.some_of_lt (by omega)
        obtain ⟨r0, _, _, _, _⟩ := row_cellsE HH.out.2.2 rfl hx
        have hbl := cmpB_less x.id id
        by_cases hc : cmpB x.id id < 0
        · rw [decide_eq_true hc] at hbl
          have HX := Lib.hid hx
          have HC := Lib.hid hc
          clear hx hc hend
          go_wp2_with fail
          refine ⟨⟨i + 1, by go_num, by omega, trivial, Lib.hid (fun k y hk hy => ?_)⟩, by simp [intOf]; omega⟩
          by_cases hki : k = i
          · subst hki
            have : some x = some y := HX.out.symm.trans hy
            cases this
            exact HC.out
          · exact HI.out k y (by omega) hy
        · rw [decide_eq_false hc] at hbl
          have hin : i = m := hend (fun k y hk hy => Int.not_lt.1 fun hl => hc (HM.out.mono id i k x y hk hx hy hl))
          clear hx hc hend
          subst hin
          go_wp2_with fail
          obtain ⟨i0, hi0, hz0, hz1, hz2⟩ := parts3M infoRefT
          have hrd := Rd.of_ow HH.out.2.2
          obtain ⟨hnc, hcm, hqn, hqs⟩ := hrd.form
          obtain ⟨ql, hlow, hlr⟩ := low_any (P := Tryd.prog) 60 72 i0 Tryd.underlying60 hi0 (some ⟨g, 0, none⟩) L.length c i hi hnc hqn hqs
          rw [hz1] at hlr
          have HLOW := Lib.hid hlow
          have HTK : Hid (∀ x, Below wr.heap.size wr x → Rd x 3 (.slice (some ⟨g, 0, none⟩) i c) i (ones (L.take i))) := Lib.hid (fun x hx => by rw [← ones_take]; exact (hrd.below hx).cut hi)
          have HDR : Hid (∀ x, Below wr.heap.size wr x → Rd x 3 (.slice ql (L.length - i) (c - i)) (L.length - i) (ones (L.drop i))) := Lib.hid (fun x hx => by rw [← ones_drop]; exact hlr x _ (hrd.below hx))
          have hic : i ≤ c := by omega
          clear hrd hlow hlr hnc hcm hqn hqs
          refine Rc.region (wr.heap.size) 23 [Rc.F 1 (fun p => .slice p.q 0 0) (fun p F y => OwF F y wr.heap.size 72 3 (.slice p.q 0 0) 0 []), Rc.C 8 [1] [1] (fun p => .slice p.q i p.c) (fun p F y => OwF F y wr.heap.size 72 3 (.slice p.q i p.c) i (ones (L.take i))), Rc.F 12 (fun p => .slice p.q 1 1) (fun p _ y => Rd y 3 (.slice p.q 1 1) 1 (oneA ⟨id, 1, pp⟩).toList), Rc.C 13 [8, 12] [8] (fun p => .slice p.q (i + 1) p.c) (fun p F y => OwF F y wr.heap.size 72 3 (.slice p.q (i + 1) p.c) (i + 1) (ones (L.take i) ++ (oneA ⟨id, 1, pp⟩).toList)), Rc.C 20 [13] [13] (fun p => .slice p.q (i + 1 + (L.length - i)) p.c) (fun p F y => OwF F y wr.heap.size 72 3 (.slice p.q (i + 1 + (L.length - i)) p.c) (i + 1 + (L.length - i)) (ones (L.take i) ++ (oneA ⟨id, 1, pp⟩).toList ++ ones (L.drop i)))] [20] (by kernel_rfl) (Nat.le_refl _) (by kernel_rfl) ?_; intro p; simp only [List.take, List.drop]
          iterate 1 (refine Rc.rK rfl rfl ?_; intro K hK; apply Exists.intro; refine ⟨?_, ?_⟩; (focus (intro x hx;  go_simp; (first | (fail) | ((try go_bits); (try go_simp); (try rfl))))); go_simp; refine hK _ ?_; clear hK K)
          refine Rc.fK rfl rfl rfl rfl ?_ ?_
          · intro x Fs hx hle hg K hK
            go_wp2_with fail
            exact hK ⟨some ⟨x.heap.size, 0, none⟩, 0, undef⟩ _ ((Below.refl _ _).alloc (Nat.le_refl _) _) fun F y hF hy => OwF.fresh (w := x) (Ow.lit x #[] 72 3 0 x.heap.size (Nat.le_refl _) (Nat.zero_le _) rfl) hle hF hy
          intro K hK; go_simp; refine hK _ ?_; clear hK K
          iterate 5 (refine Rc.rK rfl rfl ?_; intro K hK; apply Exists.intro; refine ⟨?_, ?_⟩; (focus (intro x hx; have c1x := Rc.cell_le hx hsl c1; go_simp; (first | (fail) | ((try go_bits); (try go_simp); (try rfl))))); go_simp; refine hK _ ?_; clear hK K)
          refine Rc.r_cut rfl rfl 60 _ _ rfl 72 i0 Tryd.underlying60 hi0 (some ⟨g, 0, none⟩) L.length c i rfl rfl hic ?_
          intro K hK; go_simp; refine hK _ ?_; clear hK K
          refine Rc.cK rfl rfl rfl ?_ ?_
          · intro x Fs hx hle hg K hK
            have HO : Hid (OwF (Fs 1) x wr.heap.size 72 3 (.slice (p 1).q 0 0) 0 []) := Lib.hid hg.1
            have hrl := HTK.out x (Rc.undrew hx)
            refine app_ow3 rfl _ _ 60 60 rfl wr.heap.size 72 i0 (.agg #[.string ⟨#[]⟩, .int .i64 0, .int .i64 0]) 3 32 Tryd.underlying60 hi0 hz0 hz1 hz2 (by rfl) _ 0 [] rfl HO.out.1 i _ rfl (Rd.src Tryd.underlying60 hrl (ones_one _)) (by unfold maxLen; omega) (by omega) hle ?_
            intro v' x' how hg' hor
            obtain ⟨q', c', rfl⟩ := Ow_form how
            rw [Nat.zero_add] at how hor ⊢
            go_wp2_with fail
            exact hK ⟨q', c', undef⟩ x' (HO.out.eff (by simp [Rc.C]) hg') (fun y hy => HO.out.next (by simp [Rc.C]) how hor hy)
          intro K hK; go_simp; refine hK _ ?_; clear hK K
          iterate 3 (refine Rc.rK rfl rfl ?_; intro K hK; apply Exists.intro; refine ⟨?_, ?_⟩; (focus (intro x hx;  go_simp; (first | (fail) | ((try go_bits); (try go_simp); (try rfl))))); go_simp; refine hK _ ?_; clear hK K)
          refine Rc.fK rfl rfl rfl rfl ?_ ?_
          · intro x Fs hx hle hg K hK
            have hlit := Rd_lit x (oneA ⟨id, 1, pp⟩) 72 3 1 rfl (by decide)
            go_wp2_with fail
            exact hK ⟨some ⟨x.heap.size, 0, none⟩, 0, undef⟩ _ ((Below.refl _ _).alloc (Nat.le_refl _) _) fun F y hF hy => hlit.keeps hy (fun k hk => .inr (by cases hk; exact hF _ (Nat.le_refl _) (by simp)))
          intro K hK; go_simp; refine hK _ ?_; clear hK K
          refine Rc.cK rfl rfl rfl ?_ ?_
          · intro x Fs hx hle hg K hK
            have HO : Hid (OwF (Fs 8) x wr.heap.size 72 3 (.slice (p 8).q i (p 8).c) i (ones (L.take i))) := Lib.hid hg.1
            have hrl : Rd x 3 (.slice (p 12).q 1 1) 1 (oneA ⟨id, 1, pp⟩).toList := hg.2.1
            refine app_ow3 rfl _ _ 60 60 rfl wr.heap.size 72 i0 (.agg #[.string ⟨#[]⟩, .int .i64 0, .int .i64 0]) 3 32 Tryd.underlying60 hi0 hz0 hz1 hz2 (by rfl) _ i _ rfl HO.out.1 1 _ rfl (Rd.src Tryd.underlying60 hrl (by intro u hu; rw [oneA_getD] at hu; simp at hu; rcases hu with rfl | rfl | rfl <;> rfl)) (by unfold maxLen; omega) (by omega) hle ?_
            intro v' x' how hg' hor
            obtain ⟨q', c', rfl⟩ := Ow_form how
            go_wp2_with fail
            exact hK ⟨q', c', undef⟩ x' (HO.out.eff (by simp [Rc.C]) hg') (fun y hy => HO.out.next (by simp [Rc.C]) how hor hy)
          intro K hK; go_simp; refine hK _ ?_; clear hK K
          iterate 5 (refine Rc.rK rfl rfl ?_; intro K hK; apply Exists.intro; refine ⟨?_, ?_⟩; (focus (intro x hx; have c1x := Rc.cell_le hx hsl c1; go_simp; (first | (fail) | ((try go_bits); (try go_simp); (try rfl))))); go_simp; refine hK _ ?_; clear hK K)
          refine Rc.r_sl rfl rfl 60 _ _ rfl 72 Tryd.underlying60 _ _ _ rfl rfl HLOW.out ?_
          intro K hK; go_simp; refine hK _ ?_; clear hK K
          refine Rc.cK rfl rfl rfl ?_ ?_
          · intro x Fs hx hle hg K hK
            have HO : Hid (OwF (Fs 13) x wr.heap.size 72 3 (.slice (p 13).q (i + 1) (p 13).c) (i + 1) (ones (L.take i) ++ (oneA ⟨id, 1, pp⟩).toList)) := Lib.hid hg.1
            have hrl := HDR.out x (Rc.undrew hx)
            refine app_ow3 rfl _ _ 60 60 rfl wr.heap.size 72 i0 (.agg #[.string ⟨#[]⟩, .int .i64 0, .int .i64 0]) 3 32 Tryd.underlying60 hi0 hz0 hz1 hz2 (by rfl) _ (i + 1) _ rfl HO.out.1 (L.length - i) _ rfl (Rd.src Tryd.underlying60 hrl (ones_one _)) (by unfold maxLen; omega) (by omega) hle ?_
            intro v' x' how hg' hor
            obtain ⟨q', c', rfl⟩ := Ow_form how
            go_wp2_with fail
            exact hK ⟨q', c', undef⟩ x' (HO.out.eff (by simp [Rc.C]) hg') (fun y hy => HO.out.next (by simp [Rc.C]) how hor hy)
          intro K hK; go_simp; refine hK _ ?_; clear hK K
          iterate 2 (refine Rc.rK rfl rfl ?_; intro K hK; apply Exists.intro; refine ⟨?_, ?_⟩; (focus (intro x hx;  go_simp; (first | (fail) | ((try go_bits); (try go_simp); (try rfl))))); go_simp; refine hK _ ?_; clear hK K)
          refine Rc.done fun x Fs hx hle hg => ?_
          obtain ⟨q2, hq2⟩ : ∃ q2, q2 = (p 20).q := ⟨_, rfl⟩
          obtain ⟨c2, hc2⟩ : ∃ c2, c2 = (p 20).c := ⟨_, rfl⟩
          have hfa : OwF (Fs 20) x wr.heap.size 72 3 (.slice (p 20).q (i + 1 + (L.length - i)) (p 20).c) (i + 1 + (L.length - i)) (ones (L.take i) ++ (oneA ⟨id, 1, pp⟩).toList ++ ones (L.drop i)) := hg.1
          rw [← hq2, ← hc2] at hfa ⊢
          have hbx := Rc.undrew hx
          have hrx := (hbx.block sb hsl).trans HH.out.1
          have f1x : x.frozen? ⟨sb, 1, none⟩ = false := by simp [World.frozen?, hrx]
          have hslx : sb < x.heap.size := (Array.getElem?_eq_some_iff.1 hrx).1
          have d1x : x.cell? ⟨sb, 1, none⟩ = some (.slice (some ⟨g, 0, none⟩) L.length c) := (cell_of_row _ _ _ _ _ _ hrx).trans rfl
          have hln : i + 1 + (L.length - i) = (L.take i ++ ⟨id, 1, pp⟩ :: L.drop i).length := by simp; omega
          have hcells : ones (L.take i) ++ (oneA ⟨id, 1, pp⟩).toList ++ ones (L.drop i) = ones (L.take i ++ ⟨id, 1, pp⟩ :: L.drop i) := by rw [ones_append, ones_cons, List.append_assoc]
          have hfo := hfa.1
          rw [hln, hcells] at hfo
          rw [hln]
          obtain ⟨M, hM⟩ : ∃ M, M = L.take i ++ ⟨id, 1, pp⟩ :: L.drop i := ⟨_, rfl⟩
          rw [← hM] at hfo ⊢
          obtain ⟨w4, hw4⟩ : ∃ w4, w4 = x.setCell ⟨sb, 1, none⟩ (.slice q2 M.length c2) := ⟨_, rfl⟩
          have hr4 : w4.heap[sb]? = some (.cells #[.int .i64 n, .slice q2 M.length c2] 62 (0, 0)) := by
            rw [hw4, setCell_eq_setRow x sb 1 _ _ _ _ hrx]
            exact setRow_heap x sb _ _ _ _ hrx
          have hg4 : x.grownBy w4 (some sb) := by rw [hw4]; exact grown_setCell _ _ _ _
          have ho4 := (hfo.kp (Kp.of_grown hg4) (fun j hj e => by cases e; have := (hfo.lt sb hj).1; omega)).base_le hbs
          have HK4 : Hid (Kp (fun k => k = sb) wr w4) := Lib.hid ((Kp.of_below hbx).trans ((Kp.of_grown hg4).weak (fun k hk => by cases hk; rfl)) (fun _ _ h => h))
          have HS4 : Hid (DocAtT w4 sb base q2 c2 n M) := Lib.hid ⟨hr4, hsb, ho4⟩
          have HGR : Hid (GrewT wr (some ⟨g, 0, none⟩) c L.length q2 M.length c2) := Lib.hid (fun k hk => .inr (hfo.lt k hk).1)
          have HW4 := Lib.hid hw4
          have HME := Lib.hid hM
          clear hq2 hc2 hfa hx hle hg hbx hrx hln hcells hfo hM hw4 hr4 hg4 ho4
          go_wp2_with (rw [← HW4.out])
          refine NoPanic.normal ?_
          go_wp2_with fail
          go_ret2
          exact ⟨q2, c2, by rw [HV.out]; rfl, by rw [HV.out, ← HME.out]; exact HS4.out, HK4.out, by rw [HV.out, ← HME.out]; exact HGR.out⟩
      · have hltI : ¬ (i : Int) < (L.length : Int) := by omega
        have hin : i = m := hend (fun k y hk hy => by have := (List.getElem?_eq_some_iff.1 hy).1; omega)
        clear hend
        subst hin
        go_wp2_with fail
        obtain ⟨i0, hi0, hz0, hz1, hz2⟩ := parts3M infoRefT
        have hrd := Rd.of_ow HH.out.2.2
        obtain ⟨hnc, hcm, hqn, hqs⟩ := hrd.form
        obtain ⟨ql, hlow, hlr⟩ := low_any (P := Tryd.prog) 60 72 i0 Tryd.underlying60 hi0 q L.length c i hi hnc hqn hqs
        rw [hz1] at hlr
        have HLOW := Lib.hid hlow
        have HTK : Hid (∀ x, Below wr.heap.size wr x → Rd x 3 (.slice q i c) i (ones (L.take i))) := Lib.hid (fun x hx => by rw [← ones_take]; exact (hrd.below hx).cut hi)
        have HDR : Hid (∀ x, Below wr.heap.size wr x → Rd x 3 (.slice ql (L.length - i) (c - i)) (L.length - i) (ones (L.drop i))) := Lib.hid (fun x hx => by rw [← ones_drop]; exact hlr x _ (hrd.below hx))
        have hic : i ≤ c := by omega
        clear hrd hlow hlr hnc hcm hqn hqs
        refine Rc.region (wr.heap.size) 23 [Rc.F 1 (fun p => .slice p.q 0 0) (fun p F y => OwF F y wr.heap.size 72 3 (.slice p.q 0 0) 0 []), Rc.C 8 [1] [1] (fun p => .slice p.q i p.c) (fun p F y => OwF F y wr.heap.size 72 3 (.slice p.q i p.c) i (ones (L.take i))), Rc.F 12 (fun p => .slice p.q 1 1) (fun p _ y => Rd y 3 (.slice p.q 1 1) 1 (oneA ⟨id, 1, pp⟩).toList), Rc.C 13 [8, 12] [8] (fun p => .slice p.q (i + 1) p.c) (fun p F y => OwF F y wr.heap.size 72 3 (.slice p.q (i + 1) p.c) (i + 1) (ones (L.take i) ++ (oneA ⟨id, 1, pp⟩).toList)), Rc.C 20 [13] [13] (fun p => .slice p.q (i + 1 + (L.length - i)) p.c) (fun p F y => OwF F y wr.heap.size 72 3 (.slice p.q (i + 1 + (L.length - i)) p.c) (i + 1 + (L.length - i)) (ones (L.take i) ++ (oneA ⟨id, 1, pp⟩).toList ++ ones (L.drop i)))] [20] (by kernel_rfl) (Nat.le_refl _) (by kernel_rfl) ?_; intro p; simp only [List.take, List.drop]
        iterate 1 (refine Rc.rK rfl rfl ?_; intro K hK; apply Exists.intro; refine ⟨?_, ?_⟩; (focus (intro x hx;  go_simp; (first | (fail) | ((try go_bits); (try go_simp); (try rfl))))); go_simp; refine hK _ ?_; clear hK K)
        refine Rc.fK rfl rfl rfl rfl ?_ ?_
        · intro x Fs hx hle hg K hK
          go_wp2_with fail
          exact hK ⟨some ⟨x.heap.size, 0, none⟩, 0, undef⟩ _ ((Below.refl _ _).alloc (Nat.le_refl _) _) fun F y hF hy => OwF.fresh (w := x) (Ow.lit x #[] 72 3 0 x.heap.size (Nat.le_refl _) (Nat.zero_le _) rfl) hle hF hy
        intro K hK; go_simp; refine hK _ ?_; clear hK K
        iterate 5 (refine Rc.rK rfl rfl ?_; intro K hK; apply Exists.intro; refine ⟨?_, ?_⟩; (focus (intro x hx; have c1x := Rc.cell_le hx hsl c1; go_simp; (first | (fail) | ((try go_bits); (try go_simp); (try rfl))))); go_simp; refine hK _ ?_; clear hK K)
        refine Rc.r_cut rfl rfl 60 _ _ rfl 72 i0 Tryd.underlying60 hi0 q L.length c i rfl rfl hic ?_
        intro K hK; go_simp; refine hK _ ?_; clear hK K
        refine Rc.cK rfl rfl rfl ?_ ?_
        · intro x Fs hx hle hg K hK
          have HO : Hid (OwF (Fs 1) x wr.heap.size 72 3 (.slice (p 1).q 0 0) 0 []) := Lib.hid hg.1
          have hrl := HTK.out x (Rc.undrew hx)
          refine app_ow3 rfl _ _ 60 60 rfl wr.heap.size 72 i0 (.agg #[.string ⟨#[]⟩, .int .i64 0, .int .i64 0]) 3 32 Tryd.underlying60 hi0 hz0 hz1 hz2 (by rfl) _ 0 [] rfl HO.out.1 i _ rfl (Rd.src Tryd.underlying60 hrl (ones_one _)) (by unfold maxLen; omega) (by omega) hle ?_
          intro v' x' how hg' hor
          obtain ⟨q', c', rfl⟩ := Ow_form how
          rw [Nat.zero_add] at how hor ⊢
          go_wp2_with fail
          exact hK ⟨q', c', undef⟩ x' (HO.out.eff (by simp [Rc.C]) hg') (fun y hy => HO.out.next (by simp [Rc.C]) how hor hy)
        intro K hK; go_simp; refine hK _ ?_; clear hK K
        iterate 3 (refine Rc.rK rfl rfl ?_; intro K hK; apply Exists.intro; refine ⟨?_, ?_⟩; (focus (intro x hx;  go_simp; (first | (fail) | ((try go_bits); (try go_simp); (try rfl))))); go_simp; refine hK _ ?_; clear hK K)
        refine Rc.fK rfl rfl rfl rfl ?_ ?_
        · intro x Fs hx hle hg K hK
          have hlit := Rd_lit x (oneA ⟨id, 1, pp⟩) 72 3 1 rfl (by decide)
          go_wp2_with fail
          exact hK ⟨some ⟨x.heap.size, 0, none⟩, 0, undef⟩ _ ((Below.refl _ _).alloc (Nat.le_refl _) _) fun F y hF hy => hlit.keeps hy (fun k hk => .inr (by cases hk; exact hF _ (Nat.le_refl _) (by simp)))
        intro K hK; go_simp; refine hK _ ?_; clear hK K
        refine Rc.cK rfl rfl rfl ?_ ?_
        · intro x Fs hx hle hg K hK
          have HO : Hid (OwF (Fs 8) x wr.heap.size 72 3 (.slice (p 8).q i (p 8).c) i (ones (L.take i))) := Lib.hid hg.1
          have hrl : Rd x 3 (.slice (p 12).q 1 1) 1 (oneA ⟨id, 1, pp⟩).toList := hg.2.1
          refine app_ow3 rfl _ _ 60 60 rfl wr.heap.size 72 i0 (.agg #[.string ⟨#[]⟩, .int .i64 0, .int .i64 0]) 3 32 Tryd.underlying60 hi0 hz0 hz1 hz2 (by rfl) _ i _ rfl HO.out.1 1 _ rfl (Rd.src Tryd.underlying60 hrl (by intro u hu; rw [oneA_getD] at hu; simp at hu; rcases hu with rfl | rfl | rfl <;> rfl)) (by unfold maxLen; omega) (by omega) hle ?_
          intro v' x' how hg' hor
          obtain ⟨q', c', rfl⟩ := Ow_form how
          go_wp2_with fail
          exact hK ⟨q', c', undef⟩ x' (HO.out.eff (by simp [Rc.C]) hg') (fun y hy => HO.out.next (by simp [Rc.C]) how hor hy)
        intro K hK; go_simp; refine hK _ ?_; clear hK K
        iterate 5 (refine Rc.rK rfl rfl ?_; intro K hK; apply Exists.intro; refine ⟨?_, ?_⟩; (focus (intro x hx; have c1x := Rc.cell_le hx hsl c1; go_simp; (first | (fail) | ((try go_bits); (try go_simp); (try rfl))))); go_simp; refine hK _ ?_; clear hK K)
        refine Rc.r_sl rfl rfl 60 _ _ rfl 72 Tryd.underlying60 _ _ _ rfl rfl HLOW.out ?_
        intro K hK; go_simp; refine hK _ ?_; clear hK K
        refine Rc.cK rfl rfl rfl ?_ ?_
        · intro x Fs hx hle hg K hK
          have HO : Hid (OwF (Fs 13) x wr.heap.size 72 3 (.slice (p 13).q (i + 1) (p 13).c) (i + 1) (ones (L.take i) ++ (oneA ⟨id, 1, pp⟩).toList)) := Lib.hid hg.1
          have hrl := HDR.out x (Rc.undrew hx)
          refine app_ow3 rfl _ _ 60 60 rfl wr.heap.size 72 i0 (.agg #[.string ⟨#[]⟩, .int .i64 0, .int .i64 0]) 3 32 Tryd.underlying60 hi0 hz0 hz1 hz2 (by rfl) _ (i + 1) _ rfl HO.out.1 (L.length - i) _ rfl (Rd.src Tryd.underlying60 hrl (ones_one _)) (by unfold maxLen; omega) (by omega) hle ?_
          intro v' x' how hg' hor
          obtain ⟨q', c', rfl⟩ := Ow_form how
          go_wp2_with fail
          exact hK ⟨q', c', undef⟩ x' (HO.out.eff (by simp [Rc.C]) hg') (fun y hy => HO.out.next (by simp [Rc.C]) how hor hy)
        intro K hK; go_simp; refine hK _ ?_; clear hK K
        iterate 2 (refine Rc.rK rfl rfl ?_; intro K hK; apply Exists.intro; refine ⟨?_, ?_⟩; (focus (intro x hx;  go_simp; (first | (fail) | ((try go_bits); (try go_simp); (try rfl))))); go_simp; refine hK _ ?_; clear hK K)
        refine Rc.done fun x Fs hx hle hg => ?_
        obtain ⟨q2, hq2⟩ : ∃ q2, q2 = (p 20).q := ⟨_, rfl⟩
        obtain ⟨c2, hc2⟩ : ∃ c2, c2 = (p 20).c := ⟨_, rfl⟩
        have hfa : OwF (Fs 20) x wr.heap.size 72 3 (.slice (p 20).q (i + 1 + (L.length - i)) (p 20).c) (i + 1 + (L.length - i)) (ones (L.take i) ++ (oneA ⟨id, 1, pp⟩).toList ++ ones (L.drop i)) := hg.1
        rw [← hq2, ← hc2] at hfa ⊢
        have hbx := Rc.undrew hx
        have hrx := (hbx.block sb hsl).trans HH.out.1
        have f1x : x.frozen? ⟨sb, 1, none⟩ = false := by simp [World.frozen?, hrx]
        have hslx : sb < x.heap.size := (Array.getElem?_eq_some_iff.1 hrx).1
        have d1x : x.cell? ⟨sb, 1, none⟩ = some (.slice q L.length c) := (cell_of_row _ _ _ _ _ _ hrx).trans rfl
        have hln : i + 1 + (L.length - i) = (L.take i ++ ⟨id, 1, pp⟩ :: L.drop i).length := by simp; omega
        have hcells : ones (L.take i) ++ (oneA ⟨id, 1, pp⟩).toList ++ ones (L.drop i) = ones (L.take i ++ ⟨id, 1, pp⟩ :: L.drop i) := by rw [ones_append, ones_cons, List.append_assoc]
        have hfo := hfa.1
        rw [hln, hcells] at hfo
        rw [hln]
        obtain ⟨M, hM⟩ : ∃ M, M = L.take i ++ ⟨id, 1, pp⟩ :: L.drop i := ⟨_, rfl⟩
        rw [← hM] at hfo ⊢
        obtain ⟨w4, hw4⟩ : ∃ w4, w4 = x.setCell ⟨sb, 1, none⟩ (.slice q2 M.length c2) := ⟨_, rfl⟩
        have hr4 : w4.heap[sb]? = some (.cells #[.int .i64 n, .slice q2 M.length c2] 62 (0, 0)) := by
          rw [hw4, setCell_eq_setRow x sb 1 _ _ _ _ hrx]
          exact setRow_heap x sb _ _ _ _ hrx
        have hg4 : x.grownBy w4 (some sb) := by rw [hw4]; exact grown_setCell _ _ _ _
        have ho4 := (hfo.kp (Kp.of_grown hg4) (fun j hj e => by cases e; have := (hfo.lt sb hj).1; omega)).base_le hbs
        have HK4 : Hid (Kp (fun k => k = sb) wr w4) := Lib.hid ((Kp.of_below hbx).trans ((Kp.of_grown hg4).weak (fun k hk => by cases hk; rfl)) (fun _ _ h => h))
        have HS4 : Hid (DocAtT w4 sb base q2 c2 n M) := Lib.hid ⟨hr4, hsb, ho4⟩
        have HGR : Hid (GrewT wr q c L.length q2 M.length c2) := Lib.hid (fun k hk => .inr (hfo.lt k hk).1)
        have HW4 := Lib.hid hw4
        have HME := Lib.hid hM
        clear hq2 hc2 hfa hx hle hg hbx hrx hln hcells hfo hM hw4 hr4 hg4 ho4
        go_wp2_with (rw [← HW4.out])
        refine NoPanic.normal ?_
        go_wp2_with fail
        go_ret2
        exact ⟨q2, c2, by rw [HV.out]; rfl, by rw [HV.out, ← HME.out]; exact HS4.out, HK4.out, by rw [HV.out, ← HME.out]; exact HGR.out⟩
end Ten
end Go.Proofs.YtmkoiddfkanmiaaDoor
/- The document's table: DocTurn, DocDelete. -/
namespace Go.Proofs.YtmkoiddfkanmiaaDoor
open Go.RowKit Bits Mem Sha Cad
namespace Ten
theorem ones_set (L : List One) (k : Nat) (x y : One) (hx : L[k]? = some x) (j : Nat) (hj : j < 3) (v : Value) (h : (oneA y).toList = (oneA x).toList.set j v) : (ones L).set (k * 3 + j) v = ones (L.set k y) := by
  have hk := (List.getElem?_eq_some_iff.1 hx).1
  apply List.ext_getElem?
  intro i
  have hl := ones_length L
  have hl2 := ones_length (L.set k y)
  rw [List.length_set] at hl2
  rw [List.getElem?_set]
  by_cases hi : i < L.length * 3
  · obtain ⟨a, r, hr, rfl⟩ : ∃ a r, r < 3 ∧ i = a * 3 + r := ⟨i / 3, i % 3, Nat.mod_lt _ (by decide), by omega⟩
    have ha : a < L.length := by omega
    by_cases hak : a = k
    · subst hak
      rw [ones_get (L.set a y) a y (by rw [List.getElem?_set_self hk]) r hr, h, List.getElem?_set]
      by_cases hrj : r = j
      · subst hrj
        rw [if_pos rfl, if_pos (by omega), if_pos rfl, if_pos (by show r < 3; omega)]
      · rw [if_neg (by omega), if_neg (fun e => hrj e.symm), ones_get L a x hx r hr]
    · obtain ⟨z, hz⟩ : ∃ z, L[a]? = some z := ⟨_, List.getElem?_eq_getElem ha⟩
      rw [if_neg (by omega), ones_get L a z hz r hr, ones_get _ a z (by rw [List.getElem?_set_ne (fun e => hak e.symm)]; exact hz) r hr]
  · rw [if_neg (by omega), List.getElem?_eq_none (by omega), List.getElem?_eq_none (by omega)]
def setC (C : List One) (id : List UInt8) (st : Int) : List One := match C[place C id]? with
  | some x => C.set (place C id) { x with period := st }
  | none => C
def ageC (C : List One) (id : List UInt8) : Int := match C[place C id]? with
  | some x => x.age
  | none => 0
def docTurn (C : List One) (id : List UInt8) (st : Int) : Int × List One := if missC C id = 0 then (if stateC C id = st then (12, C) else (0, setC C id st)) else (missC C id, C)
def docDel (C : List One) (id : List UInt8) : (Int × Int) × List One := if missC C id = 0 then ((ageC C id, 0), setC C id 3) else ((0, missC C id), C)
theorem setC_some {C : List One} {id : List UInt8} {x : One} (hx : C[place C id]? = some x) (st : Int) : setC C id st = C.set (place C id) { x with period := st } := by unfold setC; rw [hx]
theorem ageC_some {C : List One} {id : List UInt8} {x : One} (hx : C[place C id]? = some x) : ageC C id = x.age := by unfold ageC; rw [hx]
theorem missC_has {C : List One} {id : List UInt8} (h : missC C id = 0) : has C id = true := by
  cases hf : has C id with
  | true => rfl
  | false =>
    unfold missC at h
    rw [stateC_none hf, if_pos rfl] at h
    exact absurd h (by decide)
set_option maxRecDepth 100000 in
set_option maxHeartbeats 2000000 in
theorem docturnR_any (db base : Nat) (q : Option Addr) (c : Nat) (pl : Int) (L : List One) (id : List UInt8) (st : Int) (w : World) (h : DocAtT w db base q c pl L) (hl : L.length ≤ 1000000) (hm : Srt L) :
    Calls Tryd.prog 29 #[.pointer (some ⟨db, 0, none⟩), .string ⟨id.toArray⟩, .int .i64 st] w fun e w' => e = .returned (.int .i64 (docTurn L id st).1) ∧ DocAtT w' db base q c pl (docTurn L id st).2 ∧ Kp (fun k => k = db ∨ (Value.slice q L.length c).ownBlock = some k) w w' := by
  have HG := Lib.hid (missR_any db base q c pl L id w h hl hm)
  have HF := Lib.hid (findR_any db base q c pl L id w h hl hm)
  have HH := Lib.hid h
  obtain ⟨c0, c1, _, _⟩ := h.cells
  have hsl := (Array.getElem?_eq_some_iff.1 h.1).1
  have hsb := h.2.1
  clear h hm
  by_cases h0 : missC L id = 0
  · have HV0 : Hid (docTurn L id st = if stateC L id = st then (12, L) else (0, setC L id st)) := Lib.hid (if_pos h0)
    obtain ⟨x, hx, _⟩ := has_some (missC_has h0)
    have hsx := stateC_some (missC_has h0) hx
    have hst := setC_some hx st
    have hag := ageC_some hx
    have hfd : findD L id = (place L id : Int) := by unfold findD; rw [if_pos (missC_has h0)]
    rw [h0] at HG
    obtain ⟨k, hk⟩ : ∃ k, k = place L id := ⟨_, rfl⟩
    rw [← hk] at hfd hx hst
    have HFD := Lib.hid hfd
    have hkl := (List.getElem?_eq_some_iff.1 hx).1
    have hkL : (k : Int) < (L.length : Int) := by omega
    obtain ⟨g, rfl⟩ := HH.out.2.2.some_of_lt (by omega)
    obtain ⟨_, r1, r2, _, _⟩ := row_cellsE HH.out.2.2 rfl hx
    have fr1 := HH.out.2.2.free (j := k * 3 + 1) (by omega)
    have ho := HH.out.2.2.set (.int .i64 st) (j := k * 3 + 1) (by omega)
    rw [ones_set L k x { x with period := st } hx 1 (by decide) (.int .i64 st) rfl] at ho
    obtain ⟨w3, hw3⟩ : ∃ w3, w3 = w.setCell ⟨g, k * 3 + 1, none⟩ (.int .i64 st) := ⟨_, rfl⟩
    have hg3 : w.grownBy w3 (some g) := by rw [hw3]; exact grown_setCell _ _ _ _
    rw [← hw3] at ho
    have hr3 : w3.heap[db]? = w.heap[db]? := (Kp.of_grown hg3).block db hsl (fun e => by have := (HH.out.2.2.lt g rfl).1; cases e; omega)
    have HS3 : Hid (DocAtT w3 db base (some ⟨g, 0, none⟩) c pl (L.set k { x with period := st })) := Lib.hid ⟨by rw [List.length_set]; exact hr3.trans HH.out.1, hsb, by rw [List.length_set]; exact ho⟩
    have HK3 : Hid (Kp (fun k => k = db ∨ (Value.slice (some ⟨g, 0, none⟩) L.length c).ownBlock = some k) w w3) := Lib.hid ((Kp.of_grown hg3).weak (fun k hk => .inr hk))
    have HW3 := Lib.hid hw3
    have d0 := HS3.out.cells.1
    have d1 := HS3.out.cells.2.1
    rw [List.length_set] at d1
    obtain ⟨_, _, d2, _, _⟩ := row_cellsE (k := k) (x := { x with period := st }) (by have := HS3.out.2.2; rw [List.length_set] at this; exact this) (by rw [List.length_set]) (by rw [List.getElem?_set_self hkl])
    have HST := Lib.hid hst
    have HAG := Lib.hid hag
    have HSX := Lib.hid hsx
    have hlt := (HH.out.2.2.lt g rfl).2
    have hgl3 := Nat.lt_of_lt_of_le hlt (Kp.of_grown hg3).size
    have hsl3 := Nat.lt_of_lt_of_le hsl (Kp.of_grown hg3).size
    rw [hsx] at HV0
    obtain ⟨xi, xs, xa⟩ := x
    have r1 : w.cell? ⟨g, k * 3 + 1, none⟩ = some (.int .i64 xs) := r1
    by_cases h2 : xs = st
    · have HV : Hid (docTurn L id st = (12, L)) := Lib.hid (HV0.out.trans (if_pos h2))
      have h2B : (xs == st) = true := by rw [beq_iff_eq]; exact h2
      clear hx hsx hst hag hfd hk h0 ho hw3 hg3 hr3 d0 d1 d2 h2 r2
      go_enter Tryd.func29, Tryd.ntmps29
      go_wp2_with fail
      refine HG.out.mono ?_
      rintro e w2 ⟨rfl, hw⟩
      obtain rfl : w = w2 := hw.symm
      clear hw
      go_wp2_with fail
      refine HF.out.mono ?_
      rintro e w2 ⟨rfl, hw⟩
      obtain rfl : w = w2 := hw.symm
      clear hw
      rw [HFD.out]
      go_wp2_with fail
      go_ret
      exact ⟨by rw [HV.out]; rfl, by rw [HV.out]; exact HH.out, Kp.of_below (Below.refl _ _)⟩
    · have HV : Hid (docTurn L id st = (0, L.set k ⟨xi, st, xa⟩)) := Lib.hid (HV0.out.trans ((if_neg h2).trans (by rw [hst])))
      have h2B : (xs == st) = false := by rw [beq_eq_false_iff_ne]; exact h2
      clear hx hsx hst hag hfd hk h0 ho hw3 hg3 hr3 d0 d1 d2 h2 r2
      go_enter Tryd.func29, Tryd.ntmps29
      go_wp2_with fail
      refine HG.out.mono ?_
      rintro e w2 ⟨rfl, hw⟩
      obtain rfl : w = w2 := hw.symm
      clear hw
      go_wp2_with fail
      refine HF.out.mono ?_
      rintro e w2 ⟨rfl, hw⟩
      obtain rfl : w = w2 := hw.symm
      clear hw
      rw [HFD.out]
      go_wp2_with (rw [← HW3.out])
      go_ret
      exact ⟨by rw [HV.out]; rfl, by rw [HV.out]; exact HS3.out, HK3.out⟩
  · have HV : Hid (docTurn L id st = (missC L id, L)) := Lib.hid (if_neg h0)
    obtain ⟨m, hm⟩ : ∃ m, m = missC L id := ⟨_, rfl⟩
    rw [← hm] at HV HG h0
    clear hm HF
    have h0B : (m == 0) = false := by rw [beq_eq_false_iff_ne]; exact h0
    go_enter Tryd.func29, Tryd.ntmps29
    go_wp2_with fail
    refine HG.out.mono ?_
    rintro e w2 ⟨rfl, hw⟩
    obtain rfl : w = w2 := hw.symm
    clear hw
    go_wp2_with fail
    go_ret
    exact ⟨by rw [HV.out]; rfl, by rw [HV.out]; exact HH.out, Kp.of_below (Below.refl _ _)⟩
set_option maxRecDepth 100000 in
set_option maxHeartbeats 2000000 in
theorem docdelR_any (db base : Nat) (q : Option Addr) (c : Nat) (pl : Int) (L : List One) (id : List UInt8) (w : World) (h : DocAtT w db base q c pl L) (hl : L.length ≤ 1000000) (hm : Srt L) :
    Calls Tryd.prog 30 #[.pointer (some ⟨db, 0, none⟩), .string ⟨id.toArray⟩] w fun e w' => e = .returned (.tuple #[.int .i64 (docDel L id).1.1, .int .i64 (docDel L id).1.2]) ∧ DocAtT w' db base q c pl (docDel L id).2 ∧ Kp (fun k => k = db ∨ (Value.slice q L.length c).ownBlock = some k) w w' := by
  have HG := Lib.hid (missR_any db base q c pl L id w h hl hm)
  have HF := Lib.hid (findR_any db base q c pl L id w h hl hm)
  have HH := Lib.hid h
  obtain ⟨c0, c1, _, _⟩ := h.cells
  have hsl := (Array.getElem?_eq_some_iff.1 h.1).1
  have hsb := h.2.1
  clear h hm
  by_cases h0 : missC L id = 0
  · have HV0 : Hid (docDel L id = ((ageC L id, 0), setC L id 3)) := Lib.hid (if_pos h0)
    obtain ⟨x, hx, _⟩ := has_some (missC_has h0)
    have hsx := stateC_some (missC_has h0) hx
    have hst := setC_some hx 3
    have hag := ageC_some hx
    have hfd : findD L id = (place L id : Int) := by unfold findD; rw [if_pos (missC_has h0)]
    rw [h0] at HG
    obtain ⟨k, hk⟩ : ∃ k, k = place L id := ⟨_, rfl⟩
    rw [← hk] at hfd hx hst
    have HFD := Lib.hid hfd
    have hkl := (List.getElem?_eq_some_iff.1 hx).1
    have hkL : (k : Int) < (L.length : Int) := by omega
    obtain ⟨g, rfl⟩ := HH.out.2.2.some_of_lt (by omega)
    obtain ⟨_, r1, r2, _, _⟩ := row_cellsE HH.out.2.2 rfl hx
    have fr1 := HH.out.2.2.free (j := k * 3 + 1) (by omega)
    have ho := HH.out.2.2.set (.int .i64 3) (j := k * 3 + 1) (by omega)
    rw [ones_set L k x { x with period := 3 } hx 1 (by decide) (.int .i64 3) rfl] at ho
    obtain ⟨w3, hw3⟩ : ∃ w3, w3 = w.setCell ⟨g, k * 3 + 1, none⟩ (.int .i64 3) := ⟨_, rfl⟩
    have hg3 : w.grownBy w3 (some g) := by rw [hw3]; exact grown_setCell _ _ _ _
    rw [← hw3] at ho
    have hr3 : w3.heap[db]? = w.heap[db]? := (Kp.of_grown hg3).block db hsl (fun e => by have := (HH.out.2.2.lt g rfl).1; cases e; omega)
    have HS3 : Hid (DocAtT w3 db base (some ⟨g, 0, none⟩) c pl (L.set k { x with period := 3 })) := Lib.hid ⟨by rw [List.length_set]; exact hr3.trans HH.out.1, hsb, by rw [List.length_set]; exact ho⟩
    have HK3 : Hid (Kp (fun k => k = db ∨ (Value.slice (some ⟨g, 0, none⟩) L.length c).ownBlock = some k) w w3) := Lib.hid ((Kp.of_grown hg3).weak (fun k hk => .inr hk))
    have HW3 := Lib.hid hw3
    have d0 := HS3.out.cells.1
    have d1 := HS3.out.cells.2.1
    rw [List.length_set] at d1
    obtain ⟨_, _, d2, _, _⟩ := row_cellsE (k := k) (x := { x with period := 3 }) (by have := HS3.out.2.2; rw [List.length_set] at this; exact this) (by rw [List.length_set]) (by rw [List.getElem?_set_self hkl])
    have HST := Lib.hid hst
    have HAG := Lib.hid hag
    have HSX := Lib.hid hsx
    have hlt := (HH.out.2.2.lt g rfl).2
    have hgl3 := Nat.lt_of_lt_of_le hlt (Kp.of_grown hg3).size
    have hsl3 := Nat.lt_of_lt_of_le hsl (Kp.of_grown hg3).size
    obtain ⟨xi, xs, xa⟩ := x
    have r1 : w.cell? ⟨g, k * 3 + 1, none⟩ = some (.int .i64 xs) := r1
    have d2 : w3.cell? ⟨g, k * 3 + 2, none⟩ = some (.int .i64 xa) := d2
    have HV : Hid (docDel L id = ((xa, 0), L.set k ⟨xi, 3, xa⟩)) := Lib.hid (HV0.out.trans (by rw [hst, hag]))
    clear hx hsx hst hag hfd hk h0 ho hw3 hg3 hr3 r2
    go_enter Tryd.func30, Tryd.ntmps30
    go_wp2_with fail
    refine HG.out.mono ?_
    rintro e w2 ⟨rfl, hw⟩
    obtain rfl : w = w2 := hw.symm
    clear hw
    go_wp2_with fail
    refine HF.out.mono ?_
    rintro e w2 ⟨rfl, hw⟩
    obtain rfl : w = w2 := hw.symm
    clear hw
    rw [HFD.out]
    go_wp2_with (rw [← HW3.out])
    go_ret2
    exact ⟨by rw [HV.out]; rfl, by rw [HV.out]; exact HS3.out, HK3.out⟩
  · have HV : Hid (docDel L id = ((0, missC L id), L)) := Lib.hid (if_neg h0)
    obtain ⟨m, hm⟩ : ∃ m, m = missC L id := ⟨_, rfl⟩
    rw [← hm] at HV HG h0
    clear hm HF
    have h0B : (m == 0) = false := by rw [beq_eq_false_iff_ne]; exact h0
    go_enter Tryd.func30, Tryd.ntmps30
    go_wp2_with fail
    refine HG.out.mono ?_
    rintro e w2 ⟨rfl, hw⟩
    obtain rfl : w = w2 := hw.symm
    clear hw
    go_wp2_with fail
    go_ret2
    exact ⟨by rw [HV.out]; rfl, by rw [HV.out]; exact HH.out, Kp.of_below (Below.refl _ _)⟩
end Ten
end Go.Proofs.YtmkoiddfkanmiaaDoor
/- A table and the document's: what both answer is the same (plain), and how they lie side by side. -/
namespace Go.Proofs.YtmkoiddfkanmiaaDoor
open Go.RowKit Bits Mem Sha Cad
namespace Mem
theorem Ow.typedT {w : World} {B s n : Nat} {e : TypeId} {v : Value} {xs : List Value} (h : Ow w B e s v n xs) {k : Nat} (hk : v.ownBlock = some k) : ∃ cur fz, w.heap[k]? = some (.cells cur e fz) := by
  rcases h.2 with ⟨rfl, _⟩ | ⟨g, cap, cur, fz, rfl, hb, hg, _⟩
  · cases hk
  · cases hk; exact ⟨cur, fz, hg⟩
theorem ne_typedT {w : World} {i j : Nat} {c1 c2 : Array Value} {t1 t2 : TypeId} {f1 f2 : Nat × Nat} (h1 : w.heap[i]? = some (.cells c1 t1 f1)) (h2 : w.heap[j]? = some (.cells c2 t2 f2)) (ht : t1 ≠ t2) : i ≠ j := by
  intro e
  subst e
  rw [h1] at h2
  cases h2
  exact ht rfl
end Mem
namespace Ten
theorem theT_mem {L : List Ten} {id : List UInt8} {x : Ten} (h : theT L id = some x) : has (L.map core) id = true ∧ L[place (L.map core) id]? = some x := by
  unfold theT at h
  cases hf : has (L.map core) id with
  | false => rw [if_neg (by rw [hf]; decide)] at h; cases h
  | true => rw [if_pos hf] at h; exact ⟨rfl, h⟩
theorem theT_has {L : List Ten} {id : List UInt8} (h : theT L id = none) : has (L.map core) id = false := by
  cases hf : has (L.map core) id with
  | false => rfl
  | true =>
    obtain ⟨x, hx, _⟩ := has_ten hf
    rw [theT_some hf hx] at h
    cases h
theorem stateC_core (L : List Ten) (id : List UInt8) : stateC (L.map core) id = stateT L id := by
  unfold stateC stateT theT
  cases has (L.map core) id
  · rfl
  · simp only [if_true, List.getElem?_map]
    cases L[place (L.map core) id]? <;> rfl
/-- What a table holds is in order. -/
structure OkT (L : List Ten) (n : Nat) : Prop where
  srt : Srt (L.map core)
  st : ∀ x ∈ L, 1 ≤ x.state ∧ x.state ≤ 3
  pl : ∀ x ∈ L, ¬ x.state = 3 → 0 ≤ x.place ∧ x.place < n
  dir : ∀ x ∈ L, ¬ x.state = 3 → ∃ g : Nat, x.dir = some ⟨g, 0, none⟩
theorem missC_core {L : List Ten} {n : Nat} (h : OkT L n) (id : List UInt8) : missC (L.map core) id = missT L id := by
  unfold missC missT
  rw [stateC_core]
  unfold stateT
  cases ht : theT L id with
  | none => rfl
  | some x =>
    have hx := h.st x (List.mem_of_getElem? (theT_mem ht).2)
    show (if x.state = 0 then (10 : Int) else _) = _
    rw [if_neg (by omega)]
theorem getC_core {L : List Ten} {n : Nat} (h : OkT L n) (id : List UInt8) (held : Bool) : getC (L.map core) id held = (getT L id held).2 := by
  unfold getC
  rw [missC_core h, stateC_core]
  unfold missT stateT getT
  cases ht : theT L id with
  | none => rfl
  | some x =>
    show (if (if x.state = 3 then (9 : Int) else 0) = 0 then _ else _) = _
    by_cases h3 : x.state = 3
    · simp [h3]
    · by_cases h2 : x.state = 2 ∧ held = false
      · simp only [if_neg h3, if_true, if_pos h2]
      · simp only [if_neg h3, if_true, if_neg h2]
theorem get_nil {L : List Ten} {n : Nat} (h : OkT L n) (id : List UInt8) (held : Bool) : (∃ g : Nat, (getT L id held).1 = some ⟨g, 0, none⟩ ∧ (getT L id held).2 = 0) ∨ ((getT L id held).1 = none ∧ ¬ (getT L id held).2 = 0) := by
  unfold getT
  cases ht : theT L id with
  | none => exact .inr ⟨rfl, by show ¬ (10 : Int) = 0; decide⟩
  | some x =>
    by_cases h3 : x.state = 3
    · right; simp only [if_pos h3]; exact ⟨trivial, by decide⟩
    · by_cases h2 : x.state = 2 ∧ held = false
      · right; simp only [if_neg h3, if_pos h2]; exact ⟨trivial, by decide⟩
      · obtain ⟨g, hg⟩ := h.dir x (List.mem_of_getElem? (theT_mem ht).2) h3
        left; simp only [if_neg h3, if_neg h2]; exact ⟨g, hg, trivial⟩
theorem place_core {L : List Ten} (id : List UInt8) : (placeT L id).2 = missT L id ∧ (missT L id = 0 → (placeT L id).1 = ageC (L.map core) id) := by
  unfold placeT missT
  cases ht : theT L id with
  | none => exact ⟨rfl, fun h => absurd h (by decide)⟩
  | some x =>
    have hx := (theT_mem ht).2
    have ha : ageC (L.map core) id = x.place := by unfold ageC; rw [List.getElem?_map, hx]; rfl
    by_cases h3 : x.state = 3
    · simp only [if_pos h3]; exact ⟨trivial, fun h => absurd h (by decide)⟩
    · simp only [if_neg h3]; exact ⟨trivial, fun _ => ha.symm⟩
theorem setC_core {L : List Ten} {id : List UInt8} {x y : Ten} (hx : L[place (L.map core) id]? = some x) (st : Int) (hy : core y = { core x with period := st }) : setC (L.map core) id st = (L.set (place (L.map core) id) y).map core := by
  have : (L.map core)[place (L.map core) id]? = some (core x) := by rw [List.getElem?_map, hx]; rfl
  rw [setC_some this, List.map_set, hy]
theorem docTurn_core {L : List Ten} {n : Nat} (h : OkT L n) (id : List UInt8) (st : Int) : docTurn (L.map core) id st = ((turnT L id st).1, (turnT L id st).2.map core) := by
  unfold docTurn
  rw [missC_core h, stateC_core]
  unfold missT stateT turnT
  cases ht : theT L id with
  | none => rfl
  | some x =>
    have hx := (theT_mem ht).2
    by_cases h3 : x.state = 3
    · simp only [if_pos h3]; rfl
    · by_cases h2 : x.state = st
      · simp only [if_neg h3, if_pos h2, if_true]
      · simp only [if_neg h3, if_neg h2, if_true]
        rw [setC_core hx st (y := { x with state := st }) rfl]
theorem docDel_core {L : List Ten} {n : Nat} (h : OkT L n) (id : List UInt8) : docDel (L.map core) id = ((delT L id).1, (delT L id).2.map core) := by
  unfold docDel
  rw [missC_core h]
  unfold missT delT
  cases ht : theT L id with
  | none => rfl
  | some x =>
    have hx := (theT_mem ht).2
    by_cases h3 : x.state = 3
    · simp only [if_pos h3]; rfl
    · have ha : ageC (L.map core) id = x.place := by unfold ageC; rw [List.getElem?_map, hx]; rfl
      simp only [if_neg h3, if_true]
      rw [setC_core hx 3 (y := { x with state := 3, dir := none }) rfl, ha]
theorem docPut_core {L : List Ten} {n : Nat} (h : OkT L n) (id : List UInt8) (d : Option Addr) : docPut (L.map core) id n = ((putT L id d n).1, (putT L id d n).2.map core) := by
  unfold docPut
  rw [stateC_core, usedC_core L n (fun x hx => (h.st x hx).2)]
  unfold stateT putT
  cases ht : theT L id with
  | none =>
    rw [theT_has ht]
    show (if firstFree (usedT L n) < 0 then _ else _) = _
    by_cases hf : firstFree (usedT L n) < 0
    · simp only [if_pos hf]
    · simp only [if_neg hf]
      rw [List.map_append, List.map_cons, List.map_take, List.map_drop]
      rfl
  | some x =>
    rw [(theT_mem ht).1]
    show (if x.state = 3 then _ else _) = _
    by_cases h3 : x.state = 3
    · simp only [if_pos h3]
    · simp only [if_neg h3]
theorem OkT.set {L : List Ten} {n k : Nat} {x y : Ten} (h : OkT L n) (hx : L[k]? = some x) (h1 : y.id = x.id) (h2 : 1 ≤ y.state ∧ y.state ≤ 3) (h3 : ¬ y.state = 3 → ¬ x.state = 3 ∧ y.place = x.place ∧ y.dir = x.dir) : OkT (L.set k y) n := by
  have hm := List.mem_of_getElem? hx
  have hk := (List.getElem?_eq_some_iff.1 hx).1
  have hall : ∀ z ∈ L.set k y, z ∈ L ∨ z = y := fun z hz => List.mem_or_eq_of_mem_set hz
  refine ⟨?_, fun z hz => ?_, fun z hz hs => ?_, fun z hz hs => ?_⟩
  · have hat : ∀ (i : Nat) (u : One), ((L.set k y).map core)[i]? = some u → ∃ v, (L.map core)[i]? = some v ∧ v.id = u.id := by
      intro i u hu
      rw [List.getElem?_map] at hu
      obtain ⟨z, hz, rfl⟩ := Option.map_eq_some_iff.1 hu
      by_cases hik : i = k
      · subst hik
        rw [List.getElem?_set_self hk] at hz
        cases hz
        exact ⟨core x, by rw [List.getElem?_map, hx]; rfl, h1.symm⟩
      · rw [List.getElem?_set_ne (fun e => hik e.symm)] at hz
        exact ⟨core z, by rw [List.getElem?_map, hz]; rfl, rfl⟩
    intro i j u v hij hu hv
    obtain ⟨u', hu', eu⟩ := hat i u hu
    obtain ⟨v', hv', ev⟩ := hat j v hv
    rw [← eu, ← ev]
    exact h.srt i j u' v' hij hu' hv'
  · rcases hall z hz with hz | rfl
    · exact h.st z hz
    · exact h2
  · rcases hall z hz with hz | rfl
    · exact h.pl z hz hs
    · obtain ⟨e1, e2, _⟩ := h3 hs
      rw [e2]
      exact h.pl x hm e1
  · rcases hall z hz with hz | rfl
    · exact h.dir z hz hs
    · obtain ⟨e1, _, e3⟩ := h3 hs
      rw [e3]
      exact h.dir x hm e1
theorem OkT.turnT {L : List Ten} {n : Nat} (h : OkT L n) (id : List UInt8) (st : Int) (hs : st = 1 ∨ st = 2) : OkT (turnT L id st).2 n := by
  unfold Ten.turnT
  cases ht : theT L id with
  | none => exact h
  | some x =>
    have hx := (theT_mem ht).2
    by_cases h3 : x.state = 3
    · simp only [if_pos h3]; exact h
    · by_cases h2 : x.state = st
      · simp only [if_neg h3, if_pos h2]; exact h
      · simp only [if_neg h3, if_neg h2]
        exact h.set hx rfl (by show 1 ≤ st ∧ st ≤ 3; omega) (fun _ => ⟨h3, rfl, rfl⟩)
theorem OkT.delT {L : List Ten} {n : Nat} (h : OkT L n) (id : List UInt8) : OkT (delT L id).2 n := by
  unfold Ten.delT
  cases ht : theT L id with
  | none => exact h
  | some x =>
    have hx := (theT_mem ht).2
    by_cases h3 : x.state = 3
    · simp only [if_pos h3]; exact h
    · simp only [if_neg h3]
      exact h.set hx rfl ⟨by show (1 : Int) ≤ 3; decide, by show (3 : Int) ≤ 3; decide⟩ (fun e => absurd rfl e)
theorem OkT.putT {L : List Ten} {n : Nat} (h : OkT L n) (id : List UInt8) (g : Nat) : OkT (putT L id (some ⟨g, 0, none⟩) n).2 n := by
  unfold Ten.putT
  cases ht : theT L id with
  | some x =>
    by_cases h3 : x.state = 3
    · simp only [if_pos h3]; exact h
    · simp only [if_neg h3]; exact h
  | none =>
    have hf := theT_has ht
    have hb := firstFree_lt (usedT L n)
    rw [usedT_length] at hb
    by_cases hn : firstFree (usedT L n) < 0
    · simp only [if_pos hn]; exact h
    · simp only [if_neg hn]
      have hall : ∀ z ∈ L.take (place (L.map core) id) ++ (⟨id, 1, firstFree (usedT L n), some ⟨g, 0, none⟩⟩ : Ten) :: L.drop (place (L.map core) id), z ∈ L ∨ z = ⟨id, 1, firstFree (usedT L n), some ⟨g, 0, none⟩⟩ := by
        intro z hz
        rw [List.mem_append, List.mem_cons] at hz
        rcases hz with hz | hz | hz
        · exact .inl (List.mem_of_mem_take hz)
        · exact .inr hz
        · exact .inl (List.mem_of_mem_drop hz)
      refine ⟨?_, fun z hz => ?_, fun z hz hs => ?_, fun z hz hs => ?_⟩
      · rw [List.map_append, List.map_cons, List.map_take, List.map_drop]
        exact h.srt.insert (z := core ⟨id, 1, firstFree (usedT L n), some ⟨g, 0, none⟩⟩) (h.srt.mono id).stands hf
      · rcases hall z hz with hz | rfl
        · exact h.st z hz
        · exact ⟨by show (1 : Int) ≤ 1; decide, by show (1 : Int) ≤ 3; decide⟩
      · rcases hall z hz with hz | rfl
        · exact h.pl z hz hs
        · exact ⟨by show 0 ≤ firstFree (usedT L n); omega, hb.1⟩
      · rcases hall z hz with hz | rfl
        · exact h.dir z hz hs
        · exact ⟨g, rfl⟩
theorem turnT_len (L : List Ten) (id : List UInt8) (st : Int) : (turnT L id st).2.length = L.length := by
  unfold turnT
  cases theT L id with
  | none => rfl
  | some x =>
    by_cases h3 : x.state = 3
    · simp only [if_pos h3]
    · by_cases h2 : x.state = st
      · simp only [if_neg h3, if_pos h2]
      · simp only [if_neg h3, if_neg h2, List.length_set]
theorem delT_len (L : List Ten) (id : List UInt8) : (delT L id).2.length = L.length := by
  unfold delT
  cases theT L id with
  | none => rfl
  | some x =>
    by_cases h3 : x.state = 3
    · simp only [if_pos h3]
    · simp only [if_neg h3, List.length_set]
theorem putT_len (L : List Ten) (id : List UInt8) (d : Option Addr) (n : Nat) : (putT L id d n).2.length ≤ L.length + 1 := by
  unfold putT
  cases theT L id with
  | some x =>
    by_cases h3 : x.state = 3
    · simp only [if_pos h3]; omega
    · simp only [if_neg h3]; omega
  | none =>
    by_cases hn : firstFree (usedT L n) < 0
    · simp only [if_pos hn]; omega
    · simp only [if_neg hn, List.length_append, List.length_cons, List.length_take, List.length_drop]; omega
/-- A new one is there, live, with its directory. -/
theorem put_get {L : List Ten} {n : Nat} (id : List UInt8) (g : Nat) (h : OkT L n) (he : (putT L id (some ⟨g, 0, none⟩) n).1.2 = 0) : getT (putT L id (some ⟨g, 0, none⟩) n).2 id true = (some ⟨g, 0, none⟩, 0) := by
  have hok := h.putT id g
  revert he hok
  unfold Ten.putT
  cases ht : theT L id with
  | some x =>
    by_cases h3 : x.state = 3
    · simp only [if_pos h3]; intro he; exact absurd he (by decide)
    · simp only [if_neg h3]; intro he; exact absurd he (by decide)
  | none =>
    by_cases hn : firstFree (usedT L n) < 0
    · simp only [if_pos hn]; intro he; exact absurd he (by decide)
    · simp only [if_neg hn]
      intro _ hok
      have hpl : place (L.map core) id ≤ L.length := by have := (h.srt.mono id).stands.le; rwa [List.length_map] at this
      have hat : (L.take (place (L.map core) id) ++ (⟨id, 1, firstFree (usedT L n), some ⟨g, 0, none⟩⟩ : Ten) :: L.drop (place (L.map core) id))[place (L.map core) id]? = some ⟨id, 1, firstFree (usedT L n), some ⟨g, 0, none⟩⟩ := by
        rw [List.getElem?_append_right (by rw [List.length_take]; omega), List.length_take, Nat.min_eq_left hpl, Nat.sub_self]
        rfl
      obtain ⟨M, hM⟩ : ∃ M, M = L.take (place (L.map core) id) ++ (⟨id, 1, firstFree (usedT L n), some ⟨g, 0, none⟩⟩ : Ten) :: L.drop (place (L.map core) id) := ⟨_, rfl⟩
      rw [← hM] at hok hat ⊢
      obtain ⟨_, hh, hp⟩ := findD_at hok.srt (k := place (L.map core) id) (x := core ⟨id, 1, firstFree (usedT L n), some ⟨g, 0, none⟩⟩) (id := id) (by rw [List.getElem?_map, hat]; rfl) rfl
      unfold getT
      rw [theT_some hh (by rw [hp]; exact hat)]
      rfl
/-- The two side by side. -/
structure PairT (w0 w : World) (S n : Nat) (qa : Option Addr) (ca : Nat) (L : List Ten) (qd : Option Addr) (cd : Nat) (C : List One) : Prop where
  a : TabAt w S (S + 2) qa ca n L
  d : DocAtT w (S + 1) (S + 2) qd cd n C
  le : w0.heap.size ≤ S
  kept : Below w0.heap.size w0 w
/-- What is the table's, and what is the document's. -/
def mineAT (S : Nat) (qa : Option Addr) (na ca : Nat) : Nat → Prop := fun k => k = S ∨ (Value.slice qa na ca).ownBlock = some k
def mineDT (S : Nat) (qd : Option Addr) (nd cd : Nat) : Nat → Prop := fun k => k = S + 1 ∨ (Value.slice qd nd cd).ownBlock = some k
section
variable {w0 w w' : World} {S n : Nat} {qa qd : Option Addr} {ca cd : Nat} {L : List Ten} {C : List One}
theorem PairT.size (h : PairT w0 w S n qa ca L qd cd C) : S + 2 ≤ w.heap.size := by
  have := (Array.getElem?_eq_some_iff.1 h.d.1).1
  omega
theorem PairT.ltA (h : PairT w0 w S n qa ca L qd cd C) : ∀ k, mineAT S qa L.length ca k → S ≤ k ∧ k < w.heap.size := by
  rintro k (rfl | hk)
  · have := h.size; omega
  · have := h.a.2.2.lt k hk; omega
theorem PairT.ltD (h : PairT w0 w S n qa ca L qd cd C) : ∀ k, mineDT S qd C.length cd k → S ≤ k ∧ k < w.heap.size := by
  rintro k (rfl | hk)
  · have := h.size; omega
  · have := h.d.2.2.lt k hk; omega
theorem PairT.apart (h : PairT w0 w S n qa ca L qd cd C) : ∀ k, mineAT S qa L.length ca k → mineDT S qd C.length cd k → False := by
  rintro k (rfl | hk) (hj | hj)
  · omega
  · have := (h.d.2.2.lt k hj).1; omega
  · have := (h.a.2.2.lt k hk).1; omega
  · obtain ⟨c1, f1, h1⟩ := h.a.2.2.typedT hk
    obtain ⟨c2, f2, h2⟩ := h.d.2.2.typedT hj
    exact ne_typedT h1 h2 (by decide) rfl
theorem PairT.below (h : PairT w0 w S n qa ca L qd cd C) (hb : Below w.heap.size w w') : PairT w0 w' S n qa ca L qd cd C :=
  ⟨h.a.below hb, h.d.below hb, h.le, h.kept.trans (hb.mono (by have := h.size; have := h.le; omega))⟩
theorem PairT.turnA {qa' : Option Addr} {ca' : Nat} {L' : List Ten} (h : PairT w0 w S n qa ca L qd cd C) (h1 : TabAt w' S (S + 2) qa' ca' n L') (hk : Kp (mineAT S qa L.length ca) w w') : PairT w0 w' S n qa' ca' L' qd cd C :=
  ⟨h1, h.d.at (hk.block _ (h.ltD _ (.inl rfl)).2 (fun ha => h.apart _ ha (.inl rfl))) (fun k hd => hk.block k (h.ltD k (.inr hd)).2 (fun ha => h.apart k ha (.inr hd))), h.le, h.kept.trans (hk.below (by have := h.size; have := h.le; omega) (fun k ha => by have := (h.ltA k ha).1; have := h.le; omega))⟩
theorem PairT.turnD {qd' : Option Addr} {cd' : Nat} {C' : List One} (h : PairT w0 w S n qa ca L qd cd C) (h1 : DocAtT w' (S + 1) (S + 2) qd' cd' n C') (hk : Kp (mineDT S qd C.length cd) w w') : PairT w0 w' S n qa ca L qd' cd' C' :=
  ⟨h.a.at (hk.block _ (h.ltA _ (.inl rfl)).2 (fun hd => h.apart _ (.inl rfl) hd)) (fun k ha => hk.block k (h.ltA k (.inr ha)).2 (fun hd => h.apart k (.inr ha) hd)), h1, h.le, h.kept.trans (hk.below (by have := h.size; have := h.le; omega) (fun k ha => by have := (h.ltD k ha).1; have := h.le; omega))⟩
/-- A block of another type is neither's. -/
theorem PairT.free (h : PairT w0 w S n qa ca L qd cd C) {k : Nat} {cs : Array Value} {t : TypeId} {fz : Nat × Nat} (hk : w.heap[k]? = some (.cells cs t fz)) (h1 : t ≠ 106) (h2 : t ≠ 111) (h3 : t ≠ 62) (h4 : t ≠ 72) : ¬ mineAT S qa L.length ca k ∧ ¬ mineDT S qd C.length cd k := by
  refine ⟨?_, ?_⟩
  · rintro (rfl | hj)
    · exact ne_typedT hk h.a.1 h1 rfl
    · obtain ⟨c1, f1, e⟩ := h.a.2.2.typedT hj
      exact ne_typedT hk e h2 rfl
  · rintro (rfl | hj)
    · exact ne_typedT hk h.d.1 h3 rfl
    · obtain ⟨c1, f1, e⟩ := h.d.2.2.typedT hj
      exact ne_typedT hk e h4 rfl
end
end Ten
end Go.Proofs.YtmkoiddfkanmiaaDoor
/- Small laws for TenantActs' Create arm: the keys of round i. -/
namespace Go.Proofs.YtmkoiddfkanmiaaDoor
open Go.RowKit Bits Mem Sha Cad
namespace Ten
theorem keysIa (b : UInt8) : Tryd.prog.built 42 [(0, .int .u8 (b.toNat : Int))] = some (bysA (b :: List.replicate 31 0)) := by kernel_rfl
theorem keysI (b : UInt8) : Tryd.prog.built 44 [(0, .agg (bysA (b :: List.replicate 31 0)))] = some (bysA (b :: List.replicate 63 0)) := by kernel_rfl
theorem u8i (i : Nat) (h : i < 256) : IntKind.u8.wrap (i : Int) = ((UInt8.ofNat i).toNat : Int) := by
  have e : (UInt8.ofNat i).toNat = i := by rw [UInt8.toNat_ofNat']; omega
  rw [e, IntKind.wrap_u8]
  omega
theorem makeT_right (L : List Ten) (id : List UInt8) (d : Option Addr) (n : Nat) (h1 : 1 ≤ id.length) (h2 : id.length ≤ 16) : makeT L id d n = putT L id d n := if_neg (by omega)
theorem makeT_wrong (L : List Ten) (id : List UInt8) (d : Option Addr) (n : Nat) (h : ¬ (1 ≤ id.length ∧ id.length ≤ 16)) : makeT L id d n = ((0, 1), L) := if_pos (by omega)
end Ten
end Go.Proofs.YtmkoiddfkanmiaaDoor
