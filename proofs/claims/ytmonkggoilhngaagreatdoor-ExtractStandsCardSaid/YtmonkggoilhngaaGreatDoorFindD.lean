/- custumallaw30.texts and the document's Find. -/
import Derived.Test.YtmonkggoilhngaaGreatDoorGFindA
import Derived.Test.YtmonkggoilhngaaGreatDoorRefB
namespace Go.Proofs.YtmonkggoilhngaaGreatDoor
open Go.RowKit Bits Mem Sha Cad
namespace Fnd
theorem infoStrF : (Tryz.prog.info? 9).map (fun i => (i.zero, i.size, i.bytes)) = some (some (.string ⟨#[]⟩), 1, 16) := by kernel_rfl
theorem pick_eq (V : List (List UInt8)) (t : List UInt8) : pick V t = (List.range V.length).find? fun k => (sha (V.getD k []) == sha t) && (V.getD k [] != t) := by
  unfold pick idx
  rw [List.find?_filter]
  congr 1
  funext a
  rw [Bool.decide_and, Bool.decide_eq_true, Bool.decide_eq_true]
theorem pick_some {V : List (List UInt8)} {t : List UInt8} {k : Nat} (hk : k < V.length) (h1 : (V.getD k [] != t) = true) (h2 : (sha (V.getD k []) == sha t) = true) (h3 : ∀ j, j < k → ((sha (V.getD j []) == sha t) && (V.getD j [] != t)) = false) : pick V t = some k := by
  rw [pick_eq, List.find?_eq_some_iff_getElem]
  refine ⟨by rw [h1, h2]; rfl, k, by rw [List.length_range]; exact hk, by rw [List.getElem_range], fun j hj => ?_⟩
  rw [List.getElem_range, h3 j hj]
  decide
theorem pick_none {V : List (List UInt8)} {t : List UInt8} (h3 : ∀ j, j < V.length → ((sha (V.getD j []) == sha t) && (V.getD j [] != t)) = false) : pick V t = none := by
  rw [pick_eq, List.find?_eq_none]
  intro j hj
  rw [h3 j (List.mem_range.1 hj)]
  decide
/-- A text among strings, as it lies. -/
theorem str_at {w : World} {q : Option Addr} {c : Nat} {V : List (List UInt8)} (h : Rd w 1 (.slice q V.length c) V.length (strsC V)) {k : Nat} (hk : k < V.length) :
    ∃ b off, q = some ⟨b, off, none⟩ ∧ b < w.heap.size ∧ w.cell? ⟨b, off + k, none⟩ = some (.string ⟨(V.getD k []).toArray⟩) := by
  obtain ⟨b, off, hq, hb, _, _, hc⟩ := Rd_lt h (by omega)
  exact ⟨b, off, hq, hb, hc k _ (by unfold strsC; rw [List.getElem?_map, List.getD_eq_getElem?_getD, List.getElem?_eq_getElem hk]; rfl)⟩
end Fnd
end Go.Proofs.YtmonkggoilhngaaGreatDoor
