/- The walks of the schedule's find and get. -/
import Derived.Test.YtmkoiddfkanmiaaCadB
namespace Go.Proofs.Ytmkoiddfkanmiaa
open Go.RowKit Bits Mem Sha
namespace Cad
/-- What find leans on: those that come before an id stand in front. -/
def Mono (L : List One) (id : List UInt8) : Prop := ∀ (i j : Nat) (x y : One), i ≤ j → L[i]? = some x → L[j]? = some y → cmpB y.id id < 0 → cmpB x.id id < 0
theorem SchedAt.cells {w : World} {sb base : Nat} {q : Option Addr} {c : Nat} {now : Int} {L : List One} (h : SchedAt w sb base q c now L) : w.cell? ⟨sb, 0, none⟩ = some (.int .i64 now) ∧ w.cell? ⟨sb, 1, none⟩ = some (.slice q L.length c) ∧ w.frozen? ⟨sb, 0, none⟩ = false ∧ w.frozen? ⟨sb, 1, none⟩ = false :=
  ⟨(cell_of_row _ _ _ _ _ _ h.1).trans rfl, (cell_of_row _ _ _ _ _ _ h.1).trans rfl, by simp [World.frozen?, h.1], by simp [World.frozen?, h.1]⟩
theorem SchedAt.below {w w' : World} {sb base : Nat} {q : Option Addr} {c : Nat} {now : Int} {L : List One} (h : SchedAt w sb base q c now L) (hb : Below w.heap.size w w') : SchedAt w' sb base q c now L :=
  ⟨(hb.block sb (Array.getElem?_eq_some_iff.1 h.1).1).trans h.1, h.2.1, h.2.2.below hb⟩
set_option maxRecDepth 100000 in
set_option maxHeartbeats 1000000 in
theorem find_any (sb base : Nat) (q : Option Addr) (c : Nat) (now : Int) (L : List One) (id : List UInt8) (w : World) (h : SchedAt w sb base q c now L) (hl : L.length ≤ 1000000) (hm : Mono L id) :
    Calls Try.prog 21 #[.pointer (some ⟨sb, 0, none⟩), .string ⟨id.toArray⟩] w fun e w' => ∃ n, Stands L id n ∧ e = .returned (.tuple #[.int .i64 n, .bool (foundAt L id n)]) ∧ Below w.heap.size w w' := by
  have HB := Lib.hid (bsearch_any q c L id w (Rd.of_ow h.2.2) hl hm)
  obtain ⟨c0, c1, _, _⟩ := h.cells
  clear h hm
  go_enter Try.func21, Try.ntmps21
  go_wp2_with fail
  refine HB.out.mono ?_
  rintro e w2 ⟨n, hs, rfl, hb⟩
  obtain ⟨f, hf⟩ : ∃ f, f = foundAt L id n := ⟨_, rfl⟩
  rw [← hf]
  have HS := Lib.hid hs
  have HF := Lib.hid hf
  have HX := Lib.hid hb
  clear hs hf hb
  go_wp2_with fail
  go_ret2
  exact ⟨n, HS.out, by rw [HF.out]; rfl, HX.out⟩
set_option maxRecDepth 100000 in
set_option maxHeartbeats 1000000 in
theorem get_any (sb base : Nat) (q : Option Addr) (c : Nat) (now : Int) (L : List One) (id : List UInt8) (w : World) (h : SchedAt w sb base q c now L) (hl : L.length ≤ 1000000) (hm : Mono L id) :
    Calls Try.prog 23 #[.pointer (some ⟨sb, 0, none⟩), .string ⟨id.toArray⟩] w fun e w' => (∃ n, Stands L id n ∧
      ((foundAt L id n = true ∧ ∃ g, q = some ⟨g, 0, none⟩ ∧ e = .returned (.tuple #[.pointer (some ⟨g, n * 3, none⟩), .int .i64 0])) ∨ (foundAt L id n = false ∧ e = .returned (.tuple #[.pointer none, .int .i64 10])))) ∧ Below w.heap.size w w' := by
  have HB := Lib.hid (find_any sb base q c now L id w h hl hm)
  have HH := Lib.hid h
  clear h hm
  go_enter Try.func23, Try.ntmps23
  go_wp2_with fail
  refine HB.out.mono ?_
  rintro e w2 ⟨n, hs, rfl, hb⟩
  have HS := Lib.hid hs
  have HX := Lib.hid hb
  have H2 := Lib.hid (HH.out.below hb)
  obtain ⟨c0, c1, _, _⟩ := H2.out.cells
  clear hs hb
  cases hf : foundAt L id n with
  | false =>
    have HF := Lib.hid hf
    clear hf
    go_wp2_with fail
    go_ret2
    exact ⟨⟨n, HS.out, .inr ⟨HF.out, rfl⟩⟩, HX.out⟩
  | true =>
    have hn : n < L.length := by
      unfold foundAt at hf
      split at hf
      · rename_i x hx; exact (List.getElem?_eq_some_iff.1 hx).1
      · cases hf
    obtain ⟨g, hg⟩ : ∃ g, q = some ⟨g, 0, none⟩ := by
      rcases H2.out.2.2.2 with ⟨_, h0⟩ | ⟨g, cap, cur, fz, hv, _⟩
      · omega
      · injection hv with h1; exact ⟨g, h1⟩
    subst hg
    have hnI : (n : Int) < (L.length : Int) := by omega
    have HF := Lib.hid hf
    clear hf
    go_wp2_with fail
    go_ret2
    exact ⟨⟨n, HS.out, .inl ⟨HF.out, g, rfl, rfl⟩⟩, HX.out⟩
end Cad
end Go.Proofs.Ytmkoiddfkanmiaa
