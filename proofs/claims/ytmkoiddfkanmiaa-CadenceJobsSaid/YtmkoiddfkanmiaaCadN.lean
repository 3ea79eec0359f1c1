/- The walks of the schedule's Add and Remove, whole: a sorted schedule stays one. -/
import Derived.Test.YtmkoiddfkanmiaaSlD
import Derived.Test.YtmkoiddfkanmiaaCadJ
import Derived.Test.YtmkoiddfkanmiaaCadK
namespace Go.Proofs.Ytmkoiddfkanmiaa
open Go.RowKit Bits Mem Sha
namespace Cad
theorem ones_append (A B : List One) : ones (A ++ B) = ones A ++ ones B := by simp [ones]
theorem ones_cons (x : One) (B : List One) : ones (x :: B) = (oneA x).toList ++ ones B := by simp [ones, oneA]
theorem ones_take : ∀ (L : List One) (n : Nat), (ones L).take (n * 3) = ones (L.take n)
  | [], n => by simp [ones]
  | x :: L, 0 => by simp [ones]
  | x :: L, n + 1 => by
    rw [List.take_succ_cons, ones_cons, ones_cons, ← ones_take L n, List.take_append, List.take_of_length_le (by simp [oneA]; omega)]
    congr 2
    simp [oneA]
    omega
theorem ones_drop : ∀ (L : List One) (n : Nat), (ones L).drop (n * 3) = ones (L.drop n)
  | [], n => by simp [ones]
  | x :: L, 0 => by simp
  | x :: L, n + 1 => by
    rw [List.drop_succ_cons, ones_cons, ← ones_drop L n, List.drop_append, List.drop_eq_nil_of_le (by simp [oneA]; omega), List.nil_append]
    congr 1
    simp [oneA]
    omega
theorem ones_one (L : List One) : ∀ u ∈ ones L, u.oneCell' = true := by
  intro u hu
  simp only [ones, List.mem_flatMap] at hu
  obtain ⟨x, _, hx⟩ := hu
  simp at hx
  rcases hx with rfl | rfl | rfl <;> rfl
theorem Stands.uniq {L : List One} {id : List UInt8} {n m : Nat} (h : Stands L id n) (h' : Stands L id m) : n = m := by
  rcases Nat.lt_trichotomy n m with hlt | rfl | hlt
  · obtain ⟨x, hx⟩ : ∃ x, L[n]? = some x := ⟨_, List.getElem?_eq_getElem (by have := h'.le; omega)⟩
    have := h.high n x (Nat.le_refl _) hx
    have := h'.low n x hlt hx
    omega
  · rfl
  · obtain ⟨x, hx⟩ : ∃ x, L[m]? = some x := ⟨_, List.getElem?_eq_getElem (by have := h.le; omega)⟩
    have := h'.high m x (Nat.le_refl _) hx
    have := h.low m x hlt hx
    omega
/-- Where a slice's block may lie behind a call: where it lay, or in what was made. -/
def Grew (w : World) (q : Option Addr) (c n : Nat) (q' : Option Addr) (n' c' : Nat) : Prop := ∀ k, (Value.slice q' n' c').ownBlock = some k → (Value.slice q n c).ownBlock = some k ∨ w.heap.size ≤ k
set_option maxRecDepth 100000 in
set_option maxHeartbeats 2000000 in
theorem add_new (sb base : Nat) (q : Option Addr) (c : Nat) (now p a : Int) (L : List One) (id : List UInt8) (w : World) (h : SchedAt w sb base q c now L) (hl : L.length ≤ 1000000) (hm : Mono L id) (hf : ∀ n, Stands L id n → foundAt L id n = false) (hbs : base ≤ w.heap.size) (hp1 : 1 ≤ p) (hp2 : p ≤ 1000) (ha : 0 ≤ a) :
    Calls Try.prog 7 #[.pointer (some ⟨sb, 0, none⟩), .string ⟨id.toArray⟩, .int .i64 p, .int .i64 a] w fun e w' => ∃ n q' c', Stands L id n ∧ e = .returned (.int .i64 0) ∧ SchedAt w' sb base q' c' now (L.take n ++ ⟨id, p, a⟩ :: L.drop n) ∧ Kp (fun k => k = sb ∨ (Value.slice q L.length c).ownBlock = some k) w w' ∧ Grew w q c L.length q' (L.length + 1) c' := by
  have HF := Lib.hid (find_any sb base q c now L id w h hl hm)
  have hsl := (Array.getElem?_eq_some_iff.1 h.1).1
  have HH := Lib.hid h
  have HE := Lib.hid hf
  have hsb := h.2.1
  clear h hm hf
  have hn1 : (p < 1) = False := by simp; omega
  have hn2 : (1000 < p) = False := by simp; omega
  have hn3 : (a < 0) = False := by simp; omega
  go_enter Try.func7, Try.ntmps7
  go_wp2_with fail
  refine HF.out.mono ?_
  rintro e w2 ⟨n, hs, rfl, hb⟩
  have hff : foundAt L id n = false := HE.out n hs
  rw [hff]
  have hnl := hs.le
  have HST := Lib.hid hs
  have H2 := Lib.hid (HH.out.below hb)
  obtain ⟨c0, c1, f0, f1⟩ := H2.out.cells
  have HB2 := Lib.hid hb
  have hs2 := hb.size
  have hal : Below w2.heap.size w2 (w2.alloc (.cells (oneA ⟨id, p, a⟩) 58)) := (Below.refl _ _).alloc (Nat.le_refl _) _
  have HAL := Lib.hid hal
  have HO2 := H2.out.2.2
  have HO3 := Lib.hid (HO2.below hal)
  have hown := HO2.lt
  have hs3 : w2.heap.size ≤ (w2.alloc (.cells (oneA ⟨id, p, a⟩) 58)).heap.size := hal.size
  have HI := Lib.hid (insOne_any base w2.heap.size q L.length c n (ones L) (oneA ⟨id, p, a⟩) (w2.alloc (.cells (oneA ⟨id, p, a⟩) 58)) rfl (by intro u hu; rw [oneA_getD] at hu; simp at hu; rcases hu with rfl | rfl | rfl <;> rfl) (ones_one L) (heap_alloc_new w2 _) (fun e => by have := (hown _ e).2; omega) HO3.out hnl hl (by omega))
  clear hs hb hff hal hown HO2
  go_wp2_with fail
  refine HI.out.mono ?_
  rintro e w3 ⟨q', c', rfl, how, hg3, hgr⟩
  have hk23 : Kp (fun k => (Value.slice q L.length c).ownBlock = some k) w2 w3 := (Kp.of_below HAL.out).trans (Kp.of_grown hg3) (fun _ _ h => h)
  have hr3 : w3.heap[sb]? = some (.cells #[.int .i64 now, .slice q L.length c] 53 (0, 0)) := (hk23.block sb (by omega) (fun e => by have := (H2.out.2.2.lt sb e).1; omega)).trans H2.out.1
  have f3 : w3.frozen? ⟨sb, 1, none⟩ = false := by simp [World.frozen?, hr3]
  have hsb3 : sb < w3.heap.size := (Array.getElem?_eq_some_iff.1 hr3).1
  have d3 : w3.cell? ⟨sb, 1, none⟩ = some (.slice q L.length c) := (cell_of_row _ _ _ _ _ _ hr3).trans rfl
  obtain ⟨w4, hw4⟩ : ∃ w4, w4 = w3.setCell ⟨sb, 1, none⟩ (.slice q' (L.length + 1) c') := ⟨_, rfl⟩
  have hr4 : w4.heap[sb]? = some (.cells #[.int .i64 now, .slice q' (L.length + 1) c'] 53 (0, 0)) := by
    rw [hw4, setCell_eq_setRow w3 sb 1 _ _ _ _ hr3]
    exact setRow_heap w3 sb _ _ _ _ hr3
  have hg4 : w3.grownBy w4 (some sb) := by rw [hw4]; exact grown_setCell _ _ _ _
  have HO4 := Lib.hid (how.kp (Kp.of_grown hg4) (fun j hj e => by cases e; have := (how.lt sb hj).1; omega))
  have HK4 : Hid (Kp (fun k => k = sb ∨ (Value.slice q L.length c).ownBlock = some k) w w4) := Lib.hid (((Kp.of_below HB2.out).trans (hk23.weak (fun k hk => Or.inr hk)) (fun _ _ h => h)).trans ((Kp.of_grown hg4).weak (fun k hk => by cases hk; exact Or.inl rfl)) (fun _ _ h => h))
  have hln : (L.take n ++ ⟨id, p, a⟩ :: L.drop n).length = L.length + 1 := by simp; omega
  have hcells : (ones L).take (n * 3) ++ (oneA ⟨id, p, a⟩).toList ++ (ones L).drop (n * 3) = ones (L.take n ++ ⟨id, p, a⟩ :: L.drop n) := by
    rw [ones_take, ones_drop, ones_append, ones_cons, List.append_assoc]
  have HS4 : Hid (SchedAt w4 sb base q' c' now (L.take n ++ ⟨id, p, a⟩ :: L.drop n)) := Lib.hid ⟨by rw [hln]; exact hr4, hsb, by rw [hln, ← hcells]; exact HO4.out⟩
  have HGR : Hid (Grew w q c L.length q' (L.length + 1) c') := Lib.hid (fun k hk => by
    rcases hgr k hk with h | h
    · exact .inl h
    · exact .inr (by omega))
  have HW4 := Lib.hid hw4
  clear how hg3 hk23 hr3 hr4 hg4 hw4 HO4 hln hcells hgr
  go_wp2_with (rw [← HW4.out])
  go_ret
  exact ⟨n, q', c', HST.out, rfl, HS4.out, HK4.out, HGR.out⟩
set_option maxRecDepth 100000 in
set_option maxHeartbeats 2000000 in
theorem remove_any (sb base : Nat) (q : Option Addr) (c : Nat) (now : Int) (L : List One) (id : List UInt8) (w : World) (h : SchedAt w sb base q c now L) (hl : L.length ≤ 1000000) (hm : Mono L id) :
    Calls Try.prog 12 #[.pointer (some ⟨sb, 0, none⟩), .string ⟨id.toArray⟩] w fun e w' => ∃ n, Stands L id n ∧ ((foundAt L id n = true ∧ e = .returned (.int .i64 0) ∧ SchedAt w' sb base q c now (L.take n ++ L.drop (n + 1))) ∨ (foundAt L id n = false ∧ e = .returned (.int .i64 10) ∧ SchedAt w' sb base q c now L)) ∧ Kp (fun k => k = sb ∨ (Value.slice q L.length c).ownBlock = some k) w w' := by
  have HF := Lib.hid (get_any sb base q c now L id w h hl hm)
  have HH := Lib.hid h
  have HM := Lib.hid hm
  have hsb := h.2.1
  clear h hm
  go_enter Try.func12, Try.ntmps12
  go_wp2_with fail
  refine HF.out.mono ?_
  rintro e w2 ⟨⟨n, hs, hor⟩, hb⟩
  have HB2 := Lib.hid hb
  have H2 := Lib.hid (HH.out.below hb)
  have HST := Lib.hid hs
  have hs2 := hb.size
  clear hb hs
  rcases hor with ⟨hf, g, rfl, rfl⟩ | ⟨hf, rfl⟩
  · have HFI := Lib.hid (find_any sb base (some ⟨g, 0, none⟩) c now L id w2 H2.out hl HM.out)
    have hn : n < L.length := by
      unfold foundAt at hf
      split at hf
      · rename_i x hx; exact (List.getElem?_eq_some_iff.1 hx).1
      · cases hf
    have HFD := Lib.hid hf
    clear hf
    go_wp2_with fail
    refine HFI.out.mono ?_
    rintro e w3 ⟨n', hs', rfl, hb3⟩
    obtain rfl : n = n' := HST.out.uniq hs'
    have hff : foundAt L id n = true := HFD.out
    rw [hff]
    have H3 := Lib.hid (H2.out.below hb3)
    obtain ⟨c0, c1, f0, f1⟩ := H3.out.cells
    have HD := Lib.hid (delOne_any base g L.length c n (ones L) w3 (ones_one L) H3.out.2.2 hn hl)
    have HB3 := Lib.hid hb3
    have hs3 := hb3.size
    have hw1 : IntKind.i64.wrap ((n : Int) + 1) = (n : Int) + 1 := by rw [IntKind.wrap_i64]; omega
    clear hb3 hs' hff
    go_wp2_with fail
    refine HD.out.mono ?_
    rintro e w4 ⟨rfl, how, hg4⟩
    have hk34 : Kp (fun k => (Value.slice (some ⟨g, 0, none⟩) L.length c).ownBlock = some k) w3 w4 := Kp.of_grown hg4
    have hr4 : w4.heap[sb]? = some (.cells #[.int .i64 now, .slice (some ⟨g, 0, none⟩) L.length c] 53 (0, 0)) := (hk34.block sb (Array.getElem?_eq_some_iff.1 H3.out.1).1 (fun e => by have := (H3.out.2.2.lt sb e).1; omega)).trans H3.out.1
    have f4 : w4.frozen? ⟨sb, 1, none⟩ = false := by simp [World.frozen?, hr4]
    have d4 : w4.cell? ⟨sb, 1, none⟩ = some (.slice (some ⟨g, 0, none⟩) L.length c) := (cell_of_row _ _ _ _ _ _ hr4).trans rfl
    obtain ⟨w5, hw5⟩ : ∃ w5, w5 = w4.setCell ⟨sb, 1, none⟩ (.slice (some ⟨g, 0, none⟩) (L.length - 1) c) := ⟨_, rfl⟩
    have hr5 : w5.heap[sb]? = some (.cells #[.int .i64 now, .slice (some ⟨g, 0, none⟩) (L.length - 1) c] 53 (0, 0)) := by
      rw [hw5, setCell_eq_setRow w4 sb 1 _ _ _ _ hr4]
      exact setRow_heap w4 sb _ _ _ _ hr4
    have hg5 : w4.grownBy w5 (some sb) := by rw [hw5]; exact grown_setCell _ _ _ _
    have ho5 := how.kp (Kp.of_grown hg5) (fun j hj e => by cases e; have := (how.lt sb hj).1; omega)
    have hln : (L.take n ++ L.drop (n + 1)).length = L.length - 1 := by simp; omega
    have hcells : (ones L).take (n * 3) ++ (ones L).drop ((n + 1) * 3) = ones (L.take n ++ L.drop (n + 1)) := by
      rw [ones_take, ones_drop, ones_append]
    have HS5 : Hid (SchedAt w5 sb base (some ⟨g, 0, none⟩) c now (L.take n ++ L.drop (n + 1))) := Lib.hid ⟨by rw [hln]; exact hr5, hsb, by rw [hln, ← hcells]; exact ho5⟩
    have HK5 : Hid (Kp (fun k => k = sb ∨ (Value.slice (some ⟨g, 0, none⟩) L.length c).ownBlock = some k) w w5) := Lib.hid ((((Kp.of_below HB2.out).trans (Kp.of_below HB3.out) (fun _ _ h => h)).trans (hk34.weak (fun k hk => Or.inr hk)) (fun _ _ h => h)).trans ((Kp.of_grown hg5).weak (fun k hk => by cases hk; exact Or.inl rfl)) (fun _ _ h => h))
    have HW5 := Lib.hid hw5
    clear how hg4 hk34 hr4 hr5 hg5 hw5 ho5 hln hcells
    go_wp2_with (rw [← HW5.out])
    go_ret
    exact ⟨n, HST.out, .inl ⟨HFD.out, rfl, HS5.out⟩, HK5.out⟩
  · have HFD := Lib.hid hf
    clear hf
    go_wp2_with fail
    go_ret
    exact ⟨n, HST.out, .inr ⟨HFD.out, rfl, H2.out⟩, Kp.of_below HB2.out⟩
end Cad
end Go.Proofs.Ytmkoiddfkanmiaa
