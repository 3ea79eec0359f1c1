/- Slices of the call's own within a drawn region that is walked once: what another operation leaves of them. Conditions: the bounds that append has in the model. -/
import Derived.Test.YtmonkggoilhngaaGreatDoorConc
import Derived.Test.YtmonkggoilhngaaGreatDoorGFew
namespace Go.Proofs.YtmonkggoilhngaaGreatDoor
open Go.RowKit
namespace Mem
section
variable {w w' x y : World} {B base size n m : Nat} {e : TypeId} {v v' u : Value} {xs news : List Value} {F : Nat → Prop}
theorem Ow.keeps (h : Ow x base e size v n xs) (hy : Rc.Keeps B F x y) (hF : ∀ k, v.ownBlock = some k → k < B ∨ F k) : Ow y base e size v n xs := by
  refine ⟨h.1, ?_⟩
  rcases h.2 with hn | ⟨g, cap, cur, fz, rfl, hb, hg, rest⟩
  · exact .inl hn
  · refine .inr ⟨g, cap, cur, fz, rfl, hb, ?_, rest⟩
    rw [hy.block g (Array.getElem?_eq_some_iff.1 hg).1 (hF g rfl)]
    exact hg
theorem Rd.keeps (h : Rd x size v n xs) (hy : Rc.Keeps B F x y) (hF : ∀ k, v.ownBlock = some k → k < B ∨ F k) : Rd y size v n xs := by
  refine ⟨h.1, ?_⟩
  rcases h.2 with hn | ⟨b, off, cap, rfl, hlt, hnc, hcm, hc⟩
  · exact .inl hn
  · refine .inr ⟨b, off, cap, rfl, Nat.lt_of_lt_of_le hlt hy.size, hnc, hcm, fun j u hu => ?_⟩
    rw [← hc j u hu]
    unfold World.cell?
    rw [hy.block b hlt (hF b rfl)]
def OwF (F : Nat → Prop) (y : World) (B : Nat) (e : TypeId) (size : Nat) (v : Value) (n : Nat) (xs : List Value) : Prop :=
  Ow y B e size v n xs ∧ ∀ k, v.ownBlock = some k → F k
theorem OwF.fresh (h : Ow x w.heap.size e size v n xs) (hB : B ≤ w.heap.size) {F : Nat → Prop} {y : World} (hF : ∀ k, w.heap.size ≤ k → k < x.heap.size → F k) (hy : Rc.Keeps B F x y) : OwF F y B e size v n xs := by
  have hk : ∀ k, v.ownBlock = some k → F k := fun k hk => hF k (h.lt k hk).1 (h.lt k hk).2
  exact ⟨(h.base_le hB).keeps hy fun k h => .inr (hk k h), hk⟩
theorem OwF.eff {Fs : Nat → Nat → Prop} {i : Nat} {con : List Nat} (h : OwF (Fs i) x B e size v n xs) (hi : i ∈ con) (hg : x.grownBy y v.ownBlock) : Rc.Eff (Rc.used Fs con) x y :=
  ⟨hg.os, hg.tape, hg.output, hg.size, fun k hk hn => hg.block k hk fun he => hn ⟨i, hi, h.2 k he.symm⟩⟩
theorem OwF.next {Fs : Nat → Nat → Prop} {i : Nat} {con : List Nat} (h : OwF (Fs i) w B e size u m news) (hi : i ∈ con) (h' : Ow x B e size v n xs) (ho : ∀ k, v.ownBlock = some k → u.ownBlock = some k ∨ w.heap.size ≤ k)
    {y : World} (hy : Rc.Keeps B (Rc.Foot (Rc.used Fs con) w x) x y) : OwF (Rc.Foot (Rc.used Fs con) w x) y B e size v n xs := by
  have hk : ∀ k, v.ownBlock = some k → Rc.Foot (Rc.used Fs con) w x k := fun k hk => by
    rcases ho k hk with h1 | h1
    · exact .inl ⟨i, hi, h.2 k h1⟩
    · exact .inr ⟨h1, (h'.lt k hk).2⟩
  exact ⟨h'.keeps hy fun k h => .inr (hk k h), hk⟩
theorem run_app_ow3 {w : World} {x : Value} {P : Program} {t tx ty : TypeId} {i : TypeInfo} {z : Value} {bytes : Nat} (ht : P.underlying t = some (.slice e)) (hi : P.info? e = some i) (hz : i.zero = some z)
    (hsize : i.size = size) (hby : i.bytes = bytes) (hzs : z.cells.size = size)
    (hown : Ow w base e size v n xs) (hsrc : Src P size tx x m news w)
    (h63 : n + m ≤ maxLen) (hbytes : (n + m) * bytes ≤ 140737488355328) (hbase : base ≤ w.heap.size) :
    ∃ v' w', (Builtin.append_ #[t, tx] ty #[v, x]).run P w = .ok v' w' ∧ Ow w' base e size v' (n + m) (xs ++ news) ∧ w.grownBy w' v.ownBlock ∧ (∀ k, v'.ownBlock = some k → v.ownBlock = some k ∨ w.heap.size ≤ k) := by
  subst hsize
  subst hby
  have hlen : (xs ++ news).length = (n + m) * i.size := by rw [List.length_append, hown.1, hsrc.newsLen, Nat.add_mul]
  have hsmall : n + m ≤ 9223372036854775807 := by simp only [maxLen] at h63; omega
  have grown : ∀ (p : Option Addr) (old : Nat), old < n + m → v = .slice p n old → (Builtin.firstCells i.size n (.slice p n old)).run P w.drew = .ok xs.toArray w.drew →
      ∃ v' w', (Builtin.append_ #[t, tx] ty #[v, x]).run P w = .ok v' w' ∧ Ow w' base e i.size v' (n + m) (xs ++ news) ∧ w.grownBy w' v.ownBlock ∧ (∀ k, v'.ownBlock = some k → v.ownBlock = some k ∨ w.heap.size ≤ k) := by
    intro p old ho hv hf
    subst hv
    have hr := run_append_grow_src (P := P) w t tx ty e i z ht hi hz p n old xs hf x m news hsrc ho (by omega) (growslice_fits (by omega) hbytes)
    have hge := grownCap_ge w (n + m) old e
    refine ⟨_, _, hr, ⟨hlen, .inr ⟨w.heap.size, _, _, (0, 0), rfl, hbase, heap_alloc_new w.drew _, fun j _ => by simp, hge, grownCap_le_maxLen w (n + m) old e h63, ?_, ?_⟩⟩, ⟨rfl, rfl, rfl, by simp, fun k hk _ => Rg.heap_alloc_past w.drew _ k hk⟩, fun k hk => .inr (by cases hk; exact Nat.le_refl _)⟩
    · simp only [Array.size_append, List.size_toArray, zeroCells_size, hzs, hlen, ← Nat.add_mul]
      congr 1
      omega
    · simp only [Array.toList_append]
      rw [← hlen]
      exact List.take_left
  rcases hown.2 with ⟨rfl, rfl⟩ | ⟨g, cap, cur, fz, rfl, hbg, hg, hfz, hnc, hcm, hcs, htake⟩
  · have hx : xs = [] := List.eq_nil_of_length_eq_zero (by simpa using hown.1)
    subst hx
    by_cases hm : m = 0
    · subst hm
      have hn : news = [] := List.eq_nil_of_length_eq_zero (by simpa using hsrc.newsLen)
      subst hn
      refine ⟨.slice none 0 0, w, ?_, Ow.nil w base e i.size, ⟨rfl, rfl, rfl, Nat.le_refl _, fun _ _ _ => rfl⟩, fun k hk => by cases hk⟩
      have hc := hsrc.cells
      rcases hsrc.kind with ⟨e', hk⟩ | hk <;> simp [Builtin.append_, run_underlying ht, run_underlying hk, sizeOf, typeInfo, hi, hsrc.len, hc]
    · exact grown none 0 (by omega) rfl (run_firstCells_none w.drew i.size 0 0 0)
  · by_cases hroom : n + m ≤ cap
    · have hfit : n * i.size + news.length ≤ cur.size := by rw [hsrc.newsLen, hcs, ← Nat.add_mul]; exact Nat.mul_le_mul_right _ hroom
      have hr := run_append_room_src (P := P) w t tx ty e i ht hi g 0 n cap x m news hsrc hroom
        (fun j hj => by rw [cell_of_row w g _ cur e fz hg]; have : 0 + n * i.size + j < cur.size := by omega
                        rw [Array.getElem?_eq_getElem this]; rfl)
        (fun j hj => by
          have := hfz (0 + n * i.size + j) (by omega)
          unfold World.frozen?; simp only [hg]
          obtain ⟨lo, hi'⟩ := fz
          simp only [Bool.and_eq_false_iff, decide_eq_false_iff_not]
          simp only [not_and] at this
          by_cases h : lo ≤ 0 + n * i.size + j
          · exact .inr (this h)
          · exact .inl h)
      obtain ⟨cur', h2, h3, h4, h5⟩ := setCells_block g e fz news (0 + n * i.size) w cur hg
      refine ⟨_, _, hr, ⟨hlen, .inr ⟨g, cap, cur', fz, rfl, hbg, h2, fun j hj => hfz j (by omega), hroom, hcm, by omega, ?_⟩⟩, h5, fun k hk => .inl hk⟩
      apply List.ext_getElem?
      intro j
      rw [List.getElem?_take]
      have hx : (xs : List Value)[j]? = if j < n * i.size then cur[j]? else none := by
        rw [← htake, List.getElem?_take]; simp
      have hxl := hown.1
      by_cases hj : j < (n + m) * i.size
      · rw [if_pos hj]
        have hj' : j < cur.size := by
          have := Nat.mul_le_mul_right i.size hroom; omega
        have e4 := h4 j
        simp only [Nat.zero_add] at e4
        rw [Array.getElem?_toList, e4]
        rw [← hlen, List.length_append] at hj
        by_cases hjn : n * i.size ≤ j
        · rw [if_pos (by omega), List.getElem?_append_right (by omega), hxl]
        · rw [if_neg (by omega), List.getElem?_append_left (by omega), hx, if_pos (by omega)]
      · rw [if_neg hj, List.getElem?_eq_none (by omega)]
    · refine grown (some ⟨g, 0, none⟩) cap (by omega) rfl ?_
      have hrd := Rd.of_ow hown
      rcases hrd.2 with ⟨hv, _⟩ | ⟨b, off, cap', hv, _, _, _, hc⟩
      · cases hv
      · cases hv
        exact run_firstCells_some w.drew i.size n ⟨g, 0, none⟩ n cap xs hown.1 (fun j u hu => by rw [addr_add]; simpa using hc j u hu)
theorem app_ow3 {P : Program} {ops : Array Oper} {rest : List Oper} {o : Oper} {a : Act} {Q : Exit → Act → World → Prop} {x : Value} (hgd : o.guard = none) (s y : Operand) (t tx : TypeId)
    (ho : o.op = .call { callee := .builtin .append, args := #[s, y], argTypes := #[t, tx] })
    (base : Nat) (e : TypeId) (i : TypeInfo) (z : Value) (size bytes : Nat) (ht : P.underlying t = some (.slice e)) (hi : P.info? e = some i) (hz : i.zero = some z)
    (hsize : i.size = size) (hby : i.bytes = bytes) (hzs : z.cells.size = size)
    (v : Value) (n : Nat) (xs : List Value) (hs : a.eval s = v) (hown : Ow w base e size v n xs)
    (m : Nat) (news : List Value) (hx : a.eval y = x) (hsrc : Src P size tx x m news w)
    (h63 : n + m ≤ maxLen) (hbytes : (n + m) * bytes ≤ 140737488355328) (hbase : base ≤ w.heap.size)
    (h : ∀ v' w', Ow w' base e size v' (n + m) (xs ++ news) → w.grownBy w' v.ownBlock → (∀ k, v'.ownBlock = some k → v.ownBlock = some k ∨ w.heap.size ≤ k) → wpList P ops Q rest (a.put o.dst v') w') : wpList P ops Q (o :: rest) a w := by
  obtain ⟨v', w', hr, h1, h2, h3⟩ := run_app_ow3 (P := P) (ty := o.type) ht hi hz hsize hby hzs hown hsrc h63 hbytes hbase
  refine wpList_plain hgd fun K hK => ?_
  unfold Oper.wp
  simp [execOp, ho, resolve, invoke, builtin, hs, hx, hr, Result.andThen]
  exact hK _ _ (h v' w' h1 h2 h3)
end
end Mem
namespace Rp
end Rp
namespace Rc
section
variable {P : Program} {ops : Array Oper} {Q : Exit → Act → World → Prop} {B : Nat} {w : World} {spec : List Sp} {fin : List Nat} {tail : List Oper} {p : Nat → Par} {j : Nat} {o : Oper} {r : List Oper} {a : Act}
open Mem
theorem undrew {x : World} (h : Below B w.drew x) : Below B w x := ⟨h.os, h.tape, h.output, h.size, h.block⟩
theorem r_load (hl : look spec j = none) (hw : Region.wanted o (yielded ops a.tmps) = true) (ty : TypeId) (y : Operand) (ho : o.op = .load ty y) (v : Value)
    (hrun : ∀ x, Below B w x → (Instr.loadAt ty (a.eval y)).run P x = .ok v x)
    (h : ∀ K : Act → Prop, (∀ a, wpSeq P ops Q B w spec fin tail p (j + 1) r a → K a) → K (a.put o.dst v)) : wpSeq P ops Q B w spec fin tail p j (o :: r) a :=
  r_run _ hl hw (fun x hx => by
    unfold execOp
    simp only [ho, Sem.run_bind, hrun x hx, Result.andThen_ok, Sem.run_pure]) h
end
end Rc
end Go.Proofs.YtmonkggoilhngaaGreatDoor
/- s[k:]. Conditions: k below the length. -/
namespace Go.Proofs.YtmonkggoilhngaaGreatDoor
open Go.RowKit Bits Mem
namespace Rp
variable {P : Program}
theorem run_low (t e : TypeId) (i : TypeInfo) (ht : P.underlying t = some (.slice e)) (hi : P.info? e = some i) (b off n c k : Nat) (hk : k < n) (hn : n ≤ c) (x : World) :
    (Instr.slice t (.slice (some ⟨b, off, none⟩) n c) (some (.int .i64 (k : Int))) none none).run P x = .ok (.slice (some ⟨b, off + k * i.size, none⟩) (n - k) (c - k)) x := by
  have h1 : ¬ c ≤ k := by omega
  have h2 : (k : Int) ≤ (n : Int) := by omega
  have h3 : (n : Int) ≤ (c : Int) := by omega
  have h4 : (k : Int) ≤ (c : Int) := by omega
  have h5 : ¬ c - k = 0 := by omega
  have e : (if k * i.size = 0 then (⟨b, off, none⟩ : Addr) else ⟨b, off + k * i.size, none⟩) = ⟨b, off + k * i.size, none⟩ := by
    split
    · rename_i h; rw [h]; rfl
    · rfl
  have h6 : ¬ c = k := by omega
  have h7 : k ≤ n := Nat.le_of_lt hk
  simp [Instr.slice, Instr.sliceBounds, Instr.sliceBound, asIntOf, Sem.run_bind, run_underlying ht, sizeOf, typeInfo, hi, h6, h7, Addr.add, e]
theorem run_low2 (t e : TypeId) (i : TypeInfo) (ht : P.underlying t = some (.slice e)) (hi : P.info? e = some i) (b off n c k : Nat) (hk : k ≤ n) (hn : n ≤ c) (x : World) :
    ∃ o', (Instr.slice t (.slice (some ⟨b, off, none⟩) n c) (some (.int .i64 (k : Int))) none none).run P x = .ok (.slice (some ⟨b, o', none⟩) (n - k) (c - k)) x ∧ (k < n → o' = off + k * i.size) := by
  rcases Nat.lt_or_ge k n with h | h
  · exact ⟨_, run_low t e i ht hi b off n c k h hn x, fun _ => rfl⟩
  · obtain rfl : k = n := by omega
    have h3 : (k : Int) ≤ (c : Int) := by omega
    by_cases h6 : c = k
    · subst h6
      refine ⟨off, ?_, fun h => absurd h (Nat.lt_irrefl _)⟩
      simp [Instr.slice, Instr.sliceBounds, Instr.sliceBound, asIntOf, Sem.run_bind, run_underlying ht, sizeOf, typeInfo, hi]
    · refine ⟨off + k * i.size, ?_, fun h => absurd h (Nat.lt_irrefl _)⟩
      have e : (if k * i.size = 0 then (⟨b, off, none⟩ : Addr) else ⟨b, off + k * i.size, none⟩) = ⟨b, off + k * i.size, none⟩ := by
        split
        · rename_i h; rw [h]; rfl
        · rfl
      simp [Instr.slice, Instr.sliceBounds, Instr.sliceBound, asIntOf, Sem.run_bind, run_underlying ht, sizeOf, typeInfo, hi, h6, Addr.add, e]
end Rp
namespace Rc
section
variable {P : Program} {ops : Array Oper} {Q : Exit → Act → World → Prop} {B : Nat} {w : World} {spec : List Sp} {fin : List Nat} {tail : List Oper} {p : Nat → Par} {j : Nat} {o : Oper} {r : List Oper} {a : Act}
end
end Rc
end Go.Proofs.YtmonkggoilhngaaGreatDoor
