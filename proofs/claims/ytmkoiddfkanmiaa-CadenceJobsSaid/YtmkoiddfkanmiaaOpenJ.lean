/- An argument opened: a slice of Jobs (a number, a string, two numbers). -/
import Derived.Test.YtmkoiddfkanmiaaWrapS
import Derived.Test.YtmkoiddfkanmiaaConcW
import Derived.Deep.Slices
namespace Go.Proofs.Ytmkoiddfkanmiaa
open Go.ChangeShapes Go.WideShapes Go.ChangeAt Go.RowKit Mem
namespace Cad
/-- A call of a schedule. -/
structure Job where
  what : Int
  id : List UInt8
  period : Int
  age : Int
instance : Inhabited Job := ⟨⟨0, [], 0, 0⟩⟩
def jobA (x : Job) : Array Value := #[.int .i64 x.what, .string ⟨x.id.toArray⟩, .int .i64 x.period, .int .i64 x.age]
def jobs (J : List Job) : List Value := J.flatMap fun x => [.int .i64 x.what, .string ⟨x.id.toArray⟩, .int .i64 x.period, .int .i64 x.age]
theorem jobs_length (J : List Job) : (jobs J).length = J.length * 4 := by
  unfold jobs
  induction J with
  | nil => rfl
  | cons x J ih => simp [List.flatMap_cons, ih]; omega
theorem jobs_get : ∀ (J : List Job) (k : Nat) (x : Job), J[k]? = some x → ∀ j, j < 4 → (jobs J)[k * 4 + j]? = (jobA x).toList[j]?
  | [], _, _, h, _, _ => by simp at h
  | y :: L, 0, x, h, j, hj => by
    cases h
    unfold jobs jobA
    rw [List.flatMap_cons, List.getElem?_append_left (by simp; omega)]
    simp
  | y :: L, k + 1, x, h, j, hj => by
    have := jobs_get L k x (by simpa using h) j hj
    rw [← this]
    unfold jobs
    rw [List.flatMap_cons, List.getElem?_append_right (by simp; omega)]
    congr 1
    simp
    omega
def Job.ok (x : Job) : Prop := (-9223372036854775808 ≤ x.what ∧ x.what ≤ 9223372036854775807) ∧ (-9223372036854775808 ≤ x.period ∧ x.period ≤ 9223372036854775807) ∧ (-9223372036854775808 ≤ x.age ∧ x.age ≤ 9223372036854775807)
end Cad
namespace Wrap
section
variable {H : Type} {enc : TypeId × Value → H} {W : World} {base : Nat}
theorem i64_range {n : Int} (h : (Lit.int .i64 n).wf = true) : -9223372036854775808 ≤ n ∧ n ≤ 9223372036854775807 := by
  simp [Lit.wf, IntKind.min, IntKind.max, IntKind.signed, IntKind.bits] at h
  omega
theorem addr_plainJ {a : Addr} (h : a.spot = none) : a = ⟨a.block, a.off, none⟩ := by cases a; simp at h; subst h; rfl
set_option maxRecDepth 100000 in
theorem trod_job {fuel : Nat} {cs : List Value} {x : DataW H × List MemPlace} (h : DataW.trod enc Try.prog W 0 (fun _ => true) true fuel 38 cs = some x) : ∃ j : Cad.Job, cs = (Cad.jobA j).toList ∧ j.ok := by
  obtain ⟨xs, k, _, _, hlen, hxs, hf⟩ := DataW.trod_struct Try.underlying38 h
  have hxs : xs.length = 4 := hxs
  have h4 : cs.length = 4 := by
    have : Try.prog.cellsOf 38 = 4 := by kernel_rfl
    rw [← this]; exact hlen
  have ci : Try.prog.cellsOf 3 = 1 := by kernel_rfl
  have ct : Try.prog.cellsOf 9 = 1 := by kernel_rfl
  obtain ⟨y0, g0⟩ : ∃ y, DataW.trod enc Try.prog W 0 (fun _ => true) true k 3 ((cs.drop 0).take 1) = some y := ⟨_, by rw [← ci]; exact (hf 0 _ rfl).trans (List.getElem?_eq_getElem (by omega))⟩
  obtain ⟨y1, g1⟩ : ∃ y, DataW.trod enc Try.prog W 0 (fun _ => true) true k 9 ((cs.drop 1).take 1) = some y := ⟨_, by rw [← ct]; exact (hf 1 _ rfl).trans (List.getElem?_eq_getElem (by omega))⟩
  obtain ⟨y2, g2⟩ : ∃ y, DataW.trod enc Try.prog W 0 (fun _ => true) true k 3 ((cs.drop 2).take 1) = some y := ⟨_, by rw [← ci]; exact (hf 2 _ rfl).trans (List.getElem?_eq_getElem (by omega))⟩
  obtain ⟨y3, g3⟩ : ∃ y, DataW.trod enc Try.prog W 0 (fun _ => true) true k 3 ((cs.drop 3).take 1) = some y := ⟨_, by rw [← ci]; exact (hf 3 _ rfl).trans (List.getElem?_eq_getElem (by omega))⟩
  obtain ⟨n0, e0, _, w0⟩ := DataW.trod_int Try.underlying3 g0
  obtain ⟨s, e1, _, _⟩ := DataW.trod_string Try.underlying9 g1
  obtain ⟨n2, e2, _, w2⟩ := DataW.trod_int Try.underlying3 g2
  obtain ⟨n3, e3, _, w3⟩ := DataW.trod_int Try.underlying3 g3
  refine ⟨⟨n0, s.data.toList, n2, n3⟩, ?_, i64_range w0, i64_range w2, i64_range w3⟩
  match cs, h4, e0, e1, e2, e3 with
  | [a, b, c, d], _, e0, e1, e2, e3 =>
    simp at e0 e1 e2 e3
    subst e0 e1 e2 e3
    simp [Cad.jobA]
set_option maxRecDepth 100000 in
/-- An argument of type []Job. -/
theorem open_jobs {v : Value} {d : DataW H} {p : List MemPlace} (hv : Value.okWide Try.prog W .any base 36 v) (h : DataW.Trod enc Try.prog W 0 (fun _ => true) true 36 v d p) :
    ∃ q c J, v = .slice q (List.length J) c ∧ Rd W 4 (.slice q J.length c) J.length (Cad.jobs J) ∧ ∀ j ∈ J, Cad.Job.ok j := by
  obtain ⟨fuel, h⟩ := h
  have hok : Cell.okWide Try.prog W .any base 36 v := by
    unfold Value.okWide at hv
    rw [Try.underlying36] at hv
    exact hv
  have hcs : v.cells.toList = [v] := by
    simp only [Cell.okWide, Try.underlying36, Cell.ok] at hok
    cases v <;> first | rfl | exact absurd hok (by simp)
  rw [hcs] at h
  rcases Deep.open_slice Try.underlying36 h with ⟨hc, _⟩ | ⟨a, len, cap, m, n, D, Pl, hc, _, hl, hm, hmm, _, hx⟩
  · have : v = .slice none 0 0 := by simpa using hc
    subst this
    exact ⟨none, 0, [], rfl, Rd.nil _ _, fun _ h => by cases h⟩
  · have hv' : v = .slice (some a) len cap := by simpa using hc
    subst hv'
    simp only [if_true] at hmm
    have hs : a.spot = none ∧ a.block < W.heap.size := by
      simp only [Cell.okWide, Try.underlying36, Cell.ok] at hok
      obtain ⟨_, _, _, h1, row, cells, h2, _⟩ := hok
      refine ⟨h1, ?_⟩
      unfold World.shape? at h2
      rcases Nat.lt_or_ge a.block W.heap.size with h' | h'
      · exact h'
      · rw [Array.getElem?_eq_none h'] at h2; cases h2
    have c4 : Try.prog.cellsOf 38 = 4 := by kernel_rfl
    rw [c4] at hx
    have ha := addr_plainJ hs.1
    have each : ∀ i, i < cap → ∃ j : Cad.Job, j.ok ∧ ∀ r, r < 4 → W.cell? ⟨a.block, a.off + (i * 4 + r), none⟩ = (Cad.jobA j).toList[r]? := by
      intro i hi
      obtain ⟨cs', h1, h2⟩ := hx i (by omega)
      obtain ⟨_, hlen, hcell⟩ := World.cells?_some h1
      obtain ⟨j, rfl, hj⟩ := trod_job h2
      refine ⟨j, hj, fun r hr => ?_⟩
      have := hcell r hr
      rw [Deep.add_add, ha, addr_add] at this
      exact this
    obtain ⟨g, hg⟩ := Deep.choose_lt each
    have hLl : ((List.range len).map g).length = len := by simp
    refine ⟨some ⟨a.block, a.off, none⟩, cap, (List.range len).map g, by rw [hLl, ← ha], ?_, fun y hy => ?_⟩
    · rw [hLl]
      refine ⟨by rw [Cad.jobs_length, hLl], .inr ⟨a.block, a.off, cap, rfl, hs.2, hl, hm, fun j u hu => ?_⟩⟩
      have hj := (List.getElem?_eq_some_iff.1 hu).1
      rw [Cad.jobs_length, hLl] at hj
      have hd : j / 4 < len := by omega
      have e : j = j / 4 * 4 + j % 4 := by omega
      have h1 := (hg (j / 4) (by omega)).2 (j % 4) (Nat.mod_lt _ (by omega))
      rw [← e] at h1
      have h3 := Cad.jobs_get ((List.range len).map g) (j / 4) (g (j / 4)) (by simp [hd]) (j % 4) (Nat.mod_lt _ (by omega))
      rw [← e] at h3
      rw [h1, ← h3, hu]
    · obtain ⟨i, hi, rfl⟩ := List.mem_map.1 hy
      exact (hg i (by have := List.mem_range.1 hi; omega)).1
end
end Wrap
end Go.Proofs.Ytmkoiddfkanmiaa
