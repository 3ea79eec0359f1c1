/- A part of the proof. Plain; no condition. -/
import Derived.Test.YtjkbpdobeljmjaaGreatDoorP0
import Derived.Test.YtjkbpdobeljmjaaGreatDoorP2
import Derived.Test.YtjkbpdobeljmjaaGreatDoorP4
import Derived.Test.YtjkbpdobeljmjaaGreatDoorP6
import Derived.Deep.RegionHeld3
import Derived.Lib.SlBytesConst
/- A region that draws its order, walked once in an order of one's own choice: operations that change nothing and give one value in every later world are taken first; the rest stand in one order and may make memory. No condition beyond the Bool on the region's edges, which the kernel reckons. -/
namespace Go.Proofs.YtjkbpdobeljmjaaGreatDoor
namespace Rp
def Le (w w' : World) : Prop := RowKit.Below w.heap.size w w'
section
variable {P : Program} {ops : Array Oper} {md : Region.Mode} {Q : Exit → Act → World → Prop}
def nth : List Oper → Nat → Option Oper
  | [], _ => none
  | o :: _, 0 => some o
  | _ :: l, k + 1 => nth l k
theorem nth_eq : ∀ (l : List Oper) (k : Nat), nth l k = l[k]?
  | [], _ => rfl
  | _ :: _, 0 => rfl
  | _ :: l, k + 1 => by rw [nth, nth_eq l k]; simp
theorem NoPanic_no {Q : Exit → Act → World → Prop} : ∀ c a w, ¬ NoPanic Q (.panic c) a w := fun _ _ _ h => h
def Gives (x : World) (v : Value) : Result Next → Prop
  | .ok (.value u) w' => w' = x ∧ u = v
  | _ => False
@[go_sem] theorem gives_ok {x w' : World} {u v : Value} : Gives x v (.ok (.value u) w') = (w' = x ∧ u = v) := rfl
theorem Gives.eq {x : World} {v : Value} : ∀ {r : Result Next}, Gives x v r → r = .ok (.value v) x
  | .ok (.value _) _, h => by obtain ⟨rfl, rfl⟩ := h; rfl
theorem row_le {w x : World} (hx : Le w x) {g : Nat} {o : Obj} (h : w.heap[g]? = some o) : x.heap[g]? = some o :=
  Rg.below_row hx (Array.getElem?_eq_some_iff.1 h).1 h
end
end Rp
end Go.Proofs.YtjkbpdobeljmjaaGreatDoor

/- A slice of the call's own, its block marked as a string's or not; append onto it from a slice or a string; a string turned into bytes. Conditions: append's bounds in the model. -/
namespace Go.Proofs.YtjkbpdobeljmjaaGreatDoor
open Go.RowKit
namespace Mem
def Ow (w : World) (base : Nat) (e : TypeId) (size : Nat) (v : Value) (n : Nat) (xs : List Value) : Prop :=
  xs.length = n * size ∧
  ((v = .slice none 0 0 ∧ n = 0) ∨
   ∃ g cap cur fz, v = .slice (some ⟨g, 0, none⟩) n cap ∧ base ≤ g ∧ w.heap[g]? = some (.cells cur e fz) ∧ (∀ j, j < cur.size → ¬ (fz.1 ≤ j ∧ j < fz.2)) ∧ n ≤ cap ∧ cap ≤ maxLen ∧ cur.size = cap * size ∧ cur.toList.take (n * size) = xs)
section
variable {w w' : World} {base size n m : Nat} {e : TypeId} {v x : Value} {xs news : List Value}
theorem Ow.of_own (h : w.ownsRow base e size v n xs) : Ow w base e size v n xs := by
  refine ⟨h.1, ?_⟩
  rcases h.2 with hn | ⟨g, cap, cur, hv, hb, hg, hnc, hcm, hcs, ht⟩
  · exact .inl hn
  · exact .inr ⟨g, cap, cur, (0, 0), hv, hb, hg, fun j _ => by simp, hnc, hcm, hcs, ht⟩
theorem Ow.nil (w : World) (base : Nat) (e : TypeId) (size : Nat) : Ow w base e size (.slice none 0 0) 0 [] := ⟨by simp, .inl ⟨rfl, rfl⟩⟩
theorem Ow.lit (w : World) (cs : Array Value) (e : TypeId) (size n base : Nat) (hb : base ≤ w.heap.size) (hm : n ≤ maxLen) (hs : cs.size = n * size) :
    Ow (w.alloc (.cells cs e)) base e size (.slice (some ⟨w.heap.size, 0, none⟩) n n) n cs.toList := Ow.of_own (World.ownsRow_lit w cs n hb hm hs)
theorem Ow.lt (h : Ow w base e size v n xs) : ∀ k, v.ownBlock = some k → base ≤ k ∧ k < w.heap.size := by
  intro k hk
  rcases h.2 with ⟨rfl, _⟩ | ⟨g, cap, cur, fz, rfl, hb, hg, _⟩
  · cases hk
  · cases hk; exact ⟨hb, (Array.getElem?_eq_some_iff.1 hg).1⟩
theorem Ow.kept {row : Option Nat} (h : Ow w base e size v n xs) (hg : w.grownBy w' row) (hne : v.ownBlock = none ∨ v.ownBlock ≠ row) : Ow w' base e size v n xs := by
  refine ⟨h.1, ?_⟩
  rcases h.2 with hn | ⟨g, cap, cur, fz, rfl, hb, hgg, rest⟩
  · exact .inl hn
  · refine .inr ⟨g, cap, cur, fz, rfl, hb, ?_, rest⟩
    rw [hg.block g (Array.getElem?_eq_some_iff.1 hgg).1 (by simpa [Value.ownBlock] using hne)]
    exact hgg
theorem Ow.alloc (h : Ow w base e size v n xs) (o : Obj) : Ow (w.alloc o) base e size v n xs := h.kept (World.grownBy_alloc w o none) (by cases hv : v.ownBlock <;> simp)
theorem Ow.below (h : Ow w base e size v n xs) (hb : Below w.heap.size w w') : Ow w' base e size v n xs :=
  h.kept (row := none) ⟨hb.os, hb.tape, hb.output, hb.size, fun k hk _ => hb.block k hk⟩ (by cases hv : v.ownBlock <;> simp)
theorem Rd.of_ow (h : Ow w base e size v n xs) : Rd w size v n xs := by
  refine ⟨h.1, ?_⟩
  rcases h.2 with hn | ⟨g, cap, cur, fz, rfl, hb, hg, _, hnc, hcm, hcs, htake⟩
  · exact .inl hn
  · refine .inr ⟨g, 0, cap, rfl, (Array.getElem?_eq_some_iff.1 hg).1, hnc, hcm, fun j u hu => ?_⟩
    rw [Nat.zero_add, cell_of_row w g j cur e fz hg]
    rw [← htake, List.getElem?_take] at hu
    split at hu
    · simpa using hu
    · cases hu
theorem setCells_block (g : Nat) (e : TypeId) (fz : Nat × Nat) : ∀ (vs : List Value) (o : Nat) (w : World) (cur : Array Value), w.heap[g]? = some (.cells cur e fz) →
    ∃ cur' : Array Value, (w.setCells g o vs).heap[g]? = some (.cells cur' e fz) ∧ cur'.size = cur.size ∧ (∀ j, cur'[j]? = if o ≤ j ∧ j < o + vs.length ∧ j < cur.size then vs[j - o]? else cur[j]?) ∧ w.grownBy (w.setCells g o vs) (some g)
  | [], o, w, cur, h => ⟨cur, h, rfl, fun j => by rw [if_neg (by simp; omega)], ⟨rfl, rfl, rfl, Nat.le_refl _, fun _ _ _ => rfl⟩⟩
  | u :: r, o, w, cur, h => by
    have h1 : (w.setCell ⟨g, o, none⟩ u).heap[g]? = some (.cells (cur.setIfInBounds o u) e fz) := by
      rw [setCell_eq_setRow w g o cur e fz u h]; exact setRow_heap w g cur _ e fz h
    obtain ⟨cur', h2, h3, h4, h5⟩ := setCells_block g e fz r (o + 1) _ _ h1
    refine ⟨cur', h2, by rw [h3]; simp, fun j => ?_, ⟨h5.os, h5.tape, h5.output, Nat.le_trans (by simp) h5.size, fun k hk hne => (h5.block k (by simpa using hk) hne).trans (heap_setCell_other _ _ _ _ (by intro e'; apply hne; rw [e']))⟩⟩
    rw [h4 j]
    simp only [Array.size_setIfInBounds, List.length_cons]
    by_cases hj : j = o
    · subst hj
      rw [if_neg (by omega)]
      by_cases hs : j < cur.size
      · rw [if_pos (by omega)]; simp [hs]
      · rw [if_neg (by omega)]; simp [hs]
    · by_cases hj2 : o + 1 ≤ j ∧ j < o + 1 + r.length ∧ j < cur.size
      · rw [if_pos hj2, if_pos (by omega), show j - o = (j - (o + 1)) + 1 by omega]; simp
      · rw [if_neg hj2]
        rw [Array.getElem?_setIfInBounds_ne (by omega), if_neg (by omega)]
theorem run_app_ow {P : Program} {t tx ty : TypeId} {i : TypeInfo} {z : Value} {bytes : Nat} (ht : P.underlying t = some (.slice e)) (hi : P.info? e = some i) (hz : i.zero = some z)
    (hsize : i.size = size) (hby : i.bytes = bytes) (hzs : z.cells.size = size)
    (hown : Ow w base e size v n xs) (hsrc : Src P size tx x m news w)
    (h63 : n + m ≤ maxLen) (hbytes : (n + m) * bytes ≤ 140737488355328) (hbase : base ≤ w.heap.size) :
    ∃ v' w', (Builtin.append_ #[t, tx] ty #[v, x]).run P w = .ok v' w' ∧ Ow w' base e size v' (n + m) (xs ++ news) ∧ w.grownBy w' v.ownBlock := by
  subst hsize
  subst hby
  have hlen : (xs ++ news).length = (n + m) * i.size := by rw [List.length_append, hown.1, hsrc.newsLen, Nat.add_mul]
  have hsmall : n + m ≤ 9223372036854775807 := by simp only [maxLen] at h63; omega
  have grown : ∀ (p : Option Addr) (old : Nat), old < n + m → v = .slice p n old → (Builtin.firstCells i.size n (.slice p n old)).run P w.drew = .ok xs.toArray w.drew →
      ∃ v' w', (Builtin.append_ #[t, tx] ty #[v, x]).run P w = .ok v' w' ∧ Ow w' base e i.size v' (n + m) (xs ++ news) ∧ w.grownBy w' v.ownBlock := by
    intro p old ho hv hf
    subst hv
    have hr := run_append_grow_src (P := P) w t tx ty e i z ht hi hz p n old xs hf x m news hsrc ho (by omega) (growslice_fits (by omega) hbytes)
    have hge := grownCap_ge w (n + m) old e
    refine ⟨_, _, hr, ⟨hlen, .inr ⟨w.heap.size, _, _, (0, 0), rfl, hbase, heap_alloc_new w.drew _, fun j _ => by simp, hge, grownCap_le_maxLen w (n + m) old e h63, ?_, ?_⟩⟩, ⟨rfl, rfl, rfl, by simp, fun k hk _ => Rg.heap_alloc_past w.drew _ k hk⟩⟩
    · simp only [Array.size_append, List.size_toArray, zeroCells_size, hzs, hlen, ← Nat.add_mul]
      congr 1
      omega
    · simp only [Array.toList_append]
      rw [← hlen]
      exact List.take_left
  rcases hown.2 with ⟨rfl, rfl⟩ | ⟨g, cap, cur, fz, rfl, hbg, hg, hfz, hnc, hcm, hcs, htake⟩
  · have hx : xs = [] := List.eq_nil_of_length_eq_zero (by simpa using hown.1)
    subst hx
    by_cases hm : m = 0
    · subst hm
      have hn : news = [] := List.eq_nil_of_length_eq_zero (by simpa using hsrc.newsLen)
      subst hn
      refine ⟨.slice none 0 0, w, ?_, Ow.nil w base e i.size, ⟨rfl, rfl, rfl, Nat.le_refl _, fun _ _ _ => rfl⟩⟩
      have hc := hsrc.cells
      rcases hsrc.kind with ⟨e', hk⟩ | hk <;> simp [Builtin.append_, run_underlying ht, run_underlying hk, sizeOf, typeInfo, hi, hsrc.len, hc]
    · exact grown none 0 (by omega) rfl (run_firstCells_none w.drew i.size 0 0 0)
  · by_cases hroom : n + m ≤ cap
    · have hfit : n * i.size + news.length ≤ cur.size := by rw [hsrc.newsLen, hcs, ← Nat.add_mul]; exact Nat.mul_le_mul_right _ hroom
      have hr := run_append_room_src (P := P) w t tx ty e i ht hi g 0 n cap x m news hsrc hroom
        (fun j hj => by rw [cell_of_row w g _ cur e fz hg]; have : 0 + n * i.size + j < cur.size := by omega
                        rw [Array.getElem?_eq_getElem this]; rfl)
        (fun j hj => by
          have := hfz (0 + n * i.size + j) (by omega)
          unfold World.frozen?; simp only [hg]
          obtain ⟨lo, hi'⟩ := fz
          simp only [Bool.and_eq_false_iff, decide_eq_false_iff_not]
          simp only [not_and] at this
          by_cases h : lo ≤ 0 + n * i.size + j
          · exact .inr (this h)
          · exact .inl h)
      obtain ⟨cur', h2, h3, h4, h5⟩ := setCells_block g e fz news (0 + n * i.size) w cur hg
      refine ⟨_, _, hr, ⟨hlen, .inr ⟨g, cap, cur', fz, rfl, hbg, h2, fun j hj => hfz j (by omega), hroom, hcm, by omega, ?_⟩⟩, h5⟩
      apply List.ext_getElem?
      intro j
      rw [List.getElem?_take]
      have hx : (xs : List Value)[j]? = if j < n * i.size then cur[j]? else none := by
        rw [← htake, List.getElem?_take]; simp
      have hxl := hown.1
      by_cases hj : j < (n + m) * i.size
      · rw [if_pos hj]
        have hj' : j < cur.size := by
          have := Nat.mul_le_mul_right i.size hroom; omega
        have e4 := h4 j
        simp only [Nat.zero_add] at e4
        rw [Array.getElem?_toList, e4]
        rw [← hlen, List.length_append] at hj
        by_cases hjn : n * i.size ≤ j
        · rw [if_pos (by omega), List.getElem?_append_right (by omega), hxl]
        · rw [if_neg (by omega), List.getElem?_append_left (by omega), hx, if_pos (by omega)]
      · rw [if_neg hj, List.getElem?_eq_none (by omega)]
    · refine grown (some ⟨g, 0, none⟩) cap (by omega) rfl ?_
      have hrd := Rd.of_ow hown
      rcases hrd.2 with ⟨hv, _⟩ | ⟨b, off, cap', hv, _, _, _, hc⟩
      · cases hv
      · cases hv
        exact run_firstCells_some w.drew i.size n ⟨g, 0, none⟩ n cap xs hown.1 (fun j u hu => by rw [addr_add]; simpa using hc j u hu)
theorem app_ow {P : Program} {ops : Array Oper} {rest : List Oper} {o : Oper} {a : Act} {Q : Exit → Act → World → Prop} (hgd : o.guard = none) (s y : Operand) (t tx : TypeId)
    (ho : o.op = .call { callee := .builtin .append, args := #[s, y], argTypes := #[t, tx] })
    (base : Nat) (e : TypeId) (i : TypeInfo) (z : Value) (size bytes : Nat) (ht : P.underlying t = some (.slice e)) (hi : P.info? e = some i) (hz : i.zero = some z)
    (hsize : i.size = size) (hby : i.bytes = bytes) (hzs : z.cells.size = size)
    (v : Value) (n : Nat) (xs : List Value) (hs : a.eval s = v) (hown : Ow w base e size v n xs)
    (x : Value) (m : Nat) (news : List Value) (hx : a.eval y = x) (hsrc : Src P size tx x m news w)
    (h63 : n + m ≤ maxLen) (hbytes : (n + m) * bytes ≤ 140737488355328) (hbase : base ≤ w.heap.size)
    (h : ∀ v' w', Ow w' base e size v' (n + m) (xs ++ news) → w.grownBy w' v.ownBlock → wpList P ops Q rest (a.put o.dst v') w') : wpList P ops Q (o :: rest) a w := by
  obtain ⟨v', w', hr, h1, h2⟩ := run_app_ow (P := P) (ty := o.type) ht hi hz hsize hby hzs hown hsrc h63 hbytes hbase
  refine wpList_plain hgd fun K hK => ?_
  unfold Oper.wp
  simp [execOp, ho, resolve, invoke, builtin, hs, hx, hr, Result.andThen]
  exact hK _ _ (h v' w' h1 h2)
theorem Ow_form {w : World} {base : Nat} {e : TypeId} {size : Nat} {v : Value} {n : Nat} {xs : List Value} (h : Ow w base e size v n xs) : ∃ p c, v = .slice p n c := by
  rcases h.2 with ⟨rfl, rfl⟩ | ⟨g, cap, _, _, rfl, _⟩
  · exact ⟨_, _, rfl⟩
  · exact ⟨_, _, rfl⟩
end
theorem push_bytes : ∀ (l : List UInt8) (acc : ByteArray), (l.map fun b => (b.toNat : Int)).foldl (fun r n => r.push (UInt8.ofNat n.toNat)) acc = ⟨acc.data ++ l.toArray⟩
  | [], acc => by simp
  | b :: l, acc => by
    rw [List.map_cons, List.foldl_cons, push_bytes l]
    simp [ByteArray.push]
theorem run_conv_str {P : Program} {w : World} {v : Value} {n : Nat} {l : List UInt8} (h : Rd w 1 v n (bys l)) (ts t e : TypeId) (hts : P.underlying ts = some .string) (ht : P.underlying t = some (.slice e)) (he : P.underlying e = some (.int .u8)) :
    (convert t ts v).run P w = .ok (.string ⟨l.toArray⟩) w := by
  have hl : l.length = n := by have := h.1; rw [bys_length] at this; omega
  rcases h.2 with ⟨rfl, rfl⟩ | ⟨b, off, cap, rfl, _, _, _, hc⟩
  · have : l = [] := List.eq_nil_of_length_eq_zero hl
    subst this
    simp [convert, run_underlying hts, run_underlying ht, run_underlying he, Conv.bytesToString]
    rfl
  · have hld : (loadCells ⟨b, off, none⟩ n).run P w = .ok ((l.map fun b => (b.toNat : Int)).map (Value.int .u8)).toArray w := by
      have := run_loadCells_list (P := P) w ⟨b, off, none⟩ (bys l) (fun j u hu => by rw [addr_add]; exact hc j u hu)
      rw [bys_length, hl] at this
      rw [this]; simp [bys]
    have := run_bytesToString (P := P) w ⟨b, off, none⟩ n cap _ hld
    rw [push_bytes] at this
    simp [convert, run_underlying hts, run_underlying ht, run_underlying he, this]
end Mem
end Go.Proofs.YtjkbpdobeljmjaaGreatDoor

/- Steps of a drawn region that only yield: cuts of slices, strings of bytes; own slices of own slices. Conditions: the bounds that append has in the model. -/
namespace Go.Proofs.YtjkbpdobeljmjaaGreatDoor
open Go.RowKit Mem
namespace Rp
section
variable {P : Program} {ops : Array Oper} {Q : Exit → Act → World → Prop} {tail : List Oper} {a : Act} {w : World} {o : Oper} {r : List (Oper × Bool)}
theorem add_zero (p : Addr) : p.add 0 = p := rfl
end
end Rp
namespace Mem
section
variable {w w' : World} {base size n m : Nat} {e : TypeId} {v x : Value} {xs news : List Value}
theorem Rd_cap {q : Option Addr} {c : Nat} (h : Rd w size (.slice q n c) n xs) : n ≤ c ∧ c ≤ maxLen := by
  rcases h.2 with ⟨hv, h0⟩ | ⟨b, off, cap, hv, hb, hnc, hcm, hc⟩
  · cases hv; exact ⟨by omega, by unfold maxLen; omega⟩
  · cases hv; exact ⟨hnc, hcm⟩
theorem Ow.base_le {base' : Nat} (h : Ow w base e size v n xs) (hb : base' ≤ base) : Ow w base' e size v n xs := by
  refine ⟨h.1, ?_⟩
  rcases h.2 with h' | ⟨g, cap, cur, fz, hv, hg, rest⟩
  · exact .inl h'
  · exact .inr ⟨g, cap, cur, fz, hv, by omega, rest⟩
end
end Mem
end Go.Proofs.YtjkbpdobeljmjaaGreatDoor

/- The walks of custumalref01.Few and custumalref01.All. Conditions: counts and lengths that fit. -/
namespace Go.Proofs.YtjkbpdobeljmjaaGreatDoor
open Go.RowKit Bits Mem Sha
namespace Ref
theorem parts3 {t : TypeId} {z : Value} {s b : Nat} (h : (Tryz.prog.info? t).map (fun i => (i.zero, i.size, i.bytes)) = some (some z, s, b)) : ∃ i0, Tryz.prog.info? t = some i0 ∧ i0.zero = some z ∧ i0.size = s ∧ i0.bytes = b := by
  obtain ⟨i0, h1, h2⟩ := Option.map_eq_some_iff.1 h
  simp only [Prod.mk.injEq] at h2
  exact ⟨i0, h1, h2.1, h2.2.1, h2.2.2⟩
end Ref
end Go.Proofs.YtjkbpdobeljmjaaGreatDoor

/- The law for a drawn region with a plan: as Rp.region, and where two operations may come first that both make memory, a walk for each. -/
namespace Go.Proofs.YtjkbpdobeljmjaaGreatDoor
open Go.RowKit Mem
namespace Rp
inductive Plan where
  | done
  | s (i : Nat) (p : Plan)
  | f (i : Nat) (p : Plan)
  | b (i : Nat) (p : Plan) (j : Nat) (q : Plan)
section
variable {P : Program} {md : Region.Mode} {Q : Exit → Act → World → Prop}
def Plan.size : Plan → Nat
  | .done => 0
  | .s _ p => p.size + 1
  | .f _ p => p.size + 1
  | .b _ p _ _ => p.size + 1
variable {l : List Oper} {tail : List Oper} {a : Act} {w : World} {o : Oper} {p q : Plan} {i j : Nat}
end
end Rp
end Go.Proofs.YtjkbpdobeljmjaaGreatDoor

/- A drawn region: operations that look at no memory are taken first, the rest stand in one order and may do anything. -/
namespace Go.Proofs.YtjkbpdobeljmjaaGreatDoor
open Go.RowKit Mem
namespace Rp
section
variable {P : Program} {md : Region.Mode} {Q : Exit → Act → World → Prop} {ops : Array Oper}
def pickN (l : List Oper) : List Nat → List Oper
  | [] => []
  | i :: r => match nth l i with
    | some o => o :: pickN l r
    | none => []
end
end Rp
end Go.Proofs.YtjkbpdobeljmjaaGreatDoor

/- Slices of the call's own within a drawn region that is walked once: what another operation leaves of them. Conditions: the bounds that append has in the model. -/
namespace Go.Proofs.YtjkbpdobeljmjaaGreatDoor
open Go.RowKit
namespace Mem
section
variable {w w' x y : World} {B base size n m : Nat} {e : TypeId} {v v' u : Value} {xs news : List Value} {F : Nat → Prop}
theorem Ow.keeps (h : Ow x base e size v n xs) (hy : Rc.Keeps B F x y) (hF : ∀ k, v.ownBlock = some k → k < B ∨ F k) : Ow y base e size v n xs := by
  refine ⟨h.1, ?_⟩
  rcases h.2 with hn | ⟨g, cap, cur, fz, rfl, hb, hg, rest⟩
  · exact .inl hn
  · refine .inr ⟨g, cap, cur, fz, rfl, hb, ?_, rest⟩
    rw [hy.block g (Array.getElem?_eq_some_iff.1 hg).1 (hF g rfl)]
    exact hg
theorem Rd.keeps (h : Rd x size v n xs) (hy : Rc.Keeps B F x y) (hF : ∀ k, v.ownBlock = some k → k < B ∨ F k) : Rd y size v n xs := by
  refine ⟨h.1, ?_⟩
  rcases h.2 with hn | ⟨b, off, cap, rfl, hlt, hnc, hcm, hc⟩
  · exact .inl hn
  · refine .inr ⟨b, off, cap, rfl, Nat.lt_of_lt_of_le hlt hy.size, hnc, hcm, fun j u hu => ?_⟩
    rw [← hc j u hu]
    unfold World.cell?
    rw [hy.block b hlt (hF b rfl)]
def OwF (F : Nat → Prop) (y : World) (B : Nat) (e : TypeId) (size : Nat) (v : Value) (n : Nat) (xs : List Value) : Prop :=
  Ow y B e size v n xs ∧ ∀ k, v.ownBlock = some k → F k
theorem OwF.fresh (h : Ow x w.heap.size e size v n xs) (hB : B ≤ w.heap.size) {F : Nat → Prop} {y : World} (hF : ∀ k, w.heap.size ≤ k → k < x.heap.size → F k) (hy : Rc.Keeps B F x y) : OwF F y B e size v n xs := by
  have hk : ∀ k, v.ownBlock = some k → F k := fun k hk => hF k (h.lt k hk).1 (h.lt k hk).2
  exact ⟨(h.base_le hB).keeps hy fun k h => .inr (hk k h), hk⟩
theorem OwF.eff {Fs : Nat → Nat → Prop} {i : Nat} {con : List Nat} (h : OwF (Fs i) x B e size v n xs) (hi : i ∈ con) (hg : x.grownBy y v.ownBlock) : Rc.Eff (Rc.used Fs con) x y :=
  ⟨hg.os, hg.tape, hg.output, hg.size, fun k hk hn => hg.block k hk fun he => hn ⟨i, hi, h.2 k he.symm⟩⟩
theorem OwF.next {Fs : Nat → Nat → Prop} {i : Nat} {con : List Nat} (h : OwF (Fs i) w B e size u m news) (hi : i ∈ con) (h' : Ow x B e size v n xs) (ho : ∀ k, v.ownBlock = some k → u.ownBlock = some k ∨ w.heap.size ≤ k)
    {y : World} (hy : Rc.Keeps B (Rc.Foot (Rc.used Fs con) w x) x y) : OwF (Rc.Foot (Rc.used Fs con) w x) y B e size v n xs := by
  have hk : ∀ k, v.ownBlock = some k → Rc.Foot (Rc.used Fs con) w x k := fun k hk => by
    rcases ho k hk with h1 | h1
    · exact .inl ⟨i, hi, h.2 k h1⟩
    · exact .inr ⟨h1, (h'.lt k hk).2⟩
  exact ⟨h'.keeps hy fun k h => .inr (hk k h), hk⟩
theorem run_app_ow3 {w : World} {x : Value} {P : Program} {t tx ty : TypeId} {i : TypeInfo} {z : Value} {bytes : Nat} (ht : P.underlying t = some (.slice e)) (hi : P.info? e = some i) (hz : i.zero = some z)
    (hsize : i.size = size) (hby : i.bytes = bytes) (hzs : z.cells.size = size)
    (hown : Ow w base e size v n xs) (hsrc : Src P size tx x m news w)
    (h63 : n + m ≤ maxLen) (hbytes : (n + m) * bytes ≤ 140737488355328) (hbase : base ≤ w.heap.size) :
    ∃ v' w', (Builtin.append_ #[t, tx] ty #[v, x]).run P w = .ok v' w' ∧ Ow w' base e size v' (n + m) (xs ++ news) ∧ w.grownBy w' v.ownBlock ∧ (∀ k, v'.ownBlock = some k → v.ownBlock = some k ∨ w.heap.size ≤ k) := by
  subst hsize
  subst hby
  have hlen : (xs ++ news).length = (n + m) * i.size := by rw [List.length_append, hown.1, hsrc.newsLen, Nat.add_mul]
  have hsmall : n + m ≤ 9223372036854775807 := by simp only [maxLen] at h63; omega
  have grown : ∀ (p : Option Addr) (old : Nat), old < n + m → v = .slice p n old → (Builtin.firstCells i.size n (.slice p n old)).run P w.drew = .ok xs.toArray w.drew →
      ∃ v' w', (Builtin.append_ #[t, tx] ty #[v, x]).run P w = .ok v' w' ∧ Ow w' base e i.size v' (n + m) (xs ++ news) ∧ w.grownBy w' v.ownBlock ∧ (∀ k, v'.ownBlock = some k → v.ownBlock = some k ∨ w.heap.size ≤ k) := by
    intro p old ho hv hf
    subst hv
    have hr := run_append_grow_src (P := P) w t tx ty e i z ht hi hz p n old xs hf x m news hsrc ho (by omega) (growslice_fits (by omega) hbytes)
    have hge := grownCap_ge w (n + m) old e
    refine ⟨_, _, hr, ⟨hlen, .inr ⟨w.heap.size, _, _, (0, 0), rfl, hbase, heap_alloc_new w.drew _, fun j _ => by simp, hge, grownCap_le_maxLen w (n + m) old e h63, ?_, ?_⟩⟩, ⟨rfl, rfl, rfl, by simp, fun k hk _ => Rg.heap_alloc_past w.drew _ k hk⟩, fun k hk => .inr (by cases hk; exact Nat.le_refl _)⟩
    · simp only [Array.size_append, List.size_toArray, zeroCells_size, hzs, hlen, ← Nat.add_mul]
      congr 1
      omega
    · simp only [Array.toList_append]
      rw [← hlen]
      exact List.take_left
  rcases hown.2 with ⟨rfl, rfl⟩ | ⟨g, cap, cur, fz, rfl, hbg, hg, hfz, hnc, hcm, hcs, htake⟩
  · have hx : xs = [] := List.eq_nil_of_length_eq_zero (by simpa using hown.1)
    subst hx
    by_cases hm : m = 0
    · subst hm
      have hn : news = [] := List.eq_nil_of_length_eq_zero (by simpa using hsrc.newsLen)
      subst hn
      refine ⟨.slice none 0 0, w, ?_, Ow.nil w base e i.size, ⟨rfl, rfl, rfl, Nat.le_refl _, fun _ _ _ => rfl⟩, fun k hk => by cases hk⟩
      have hc := hsrc.cells
      rcases hsrc.kind with ⟨e', hk⟩ | hk <;> simp [Builtin.append_, run_underlying ht, run_underlying hk, sizeOf, typeInfo, hi, hsrc.len, hc]
    · exact grown none 0 (by omega) rfl (run_firstCells_none w.drew i.size 0 0 0)
  · by_cases hroom : n + m ≤ cap
    · have hfit : n * i.size + news.length ≤ cur.size := by rw [hsrc.newsLen, hcs, ← Nat.add_mul]; exact Nat.mul_le_mul_right _ hroom
      have hr := run_append_room_src (P := P) w t tx ty e i ht hi g 0 n cap x m news hsrc hroom
        (fun j hj => by rw [cell_of_row w g _ cur e fz hg]; have : 0 + n * i.size + j < cur.size := by omega
                        rw [Array.getElem?_eq_getElem this]; rfl)
        (fun j hj => by
          have := hfz (0 + n * i.size + j) (by omega)
          unfold World.frozen?; simp only [hg]
          obtain ⟨lo, hi'⟩ := fz
          simp only [Bool.and_eq_false_iff, decide_eq_false_iff_not]
          simp only [not_and] at this
          by_cases h : lo ≤ 0 + n * i.size + j
          · exact .inr (this h)
          · exact .inl h)
      obtain ⟨cur', h2, h3, h4, h5⟩ := setCells_block g e fz news (0 + n * i.size) w cur hg
      refine ⟨_, _, hr, ⟨hlen, .inr ⟨g, cap, cur', fz, rfl, hbg, h2, fun j hj => hfz j (by omega), hroom, hcm, by omega, ?_⟩⟩, h5, fun k hk => .inl hk⟩
      apply List.ext_getElem?
      intro j
      rw [List.getElem?_take]
      have hx : (xs : List Value)[j]? = if j < n * i.size then cur[j]? else none := by
        rw [← htake, List.getElem?_take]; simp
      have hxl := hown.1
      by_cases hj : j < (n + m) * i.size
      · rw [if_pos hj]
        have hj' : j < cur.size := by
          have := Nat.mul_le_mul_right i.size hroom; omega
        have e4 := h4 j
        simp only [Nat.zero_add] at e4
        rw [Array.getElem?_toList, e4]
        rw [← hlen, List.length_append] at hj
        by_cases hjn : n * i.size ≤ j
        · rw [if_pos (by omega), List.getElem?_append_right (by omega), hxl]
        · rw [if_neg (by omega), List.getElem?_append_left (by omega), hx, if_pos (by omega)]
      · rw [if_neg hj, List.getElem?_eq_none (by omega)]
    · refine grown (some ⟨g, 0, none⟩) cap (by omega) rfl ?_
      have hrd := Rd.of_ow hown
      rcases hrd.2 with ⟨hv, _⟩ | ⟨b, off, cap', hv, _, _, _, hc⟩
      · cases hv
      · cases hv
        exact run_firstCells_some w.drew i.size n ⟨g, 0, none⟩ n cap xs hown.1 (fun j u hu => by rw [addr_add]; simpa using hc j u hu)
theorem app_ow3 {P : Program} {ops : Array Oper} {rest : List Oper} {o : Oper} {a : Act} {Q : Exit → Act → World → Prop} {x : Value} (hgd : o.guard = none) (s y : Operand) (t tx : TypeId)
    (ho : o.op = .call { callee := .builtin .append, args := #[s, y], argTypes := #[t, tx] })
    (base : Nat) (e : TypeId) (i : TypeInfo) (z : Value) (size bytes : Nat) (ht : P.underlying t = some (.slice e)) (hi : P.info? e = some i) (hz : i.zero = some z)
    (hsize : i.size = size) (hby : i.bytes = bytes) (hzs : z.cells.size = size)
    (v : Value) (n : Nat) (xs : List Value) (hs : a.eval s = v) (hown : Ow w base e size v n xs)
    (m : Nat) (news : List Value) (hx : a.eval y = x) (hsrc : Src P size tx x m news w)
    (h63 : n + m ≤ maxLen) (hbytes : (n + m) * bytes ≤ 140737488355328) (hbase : base ≤ w.heap.size)
    (h : ∀ v' w', Ow w' base e size v' (n + m) (xs ++ news) → w.grownBy w' v.ownBlock → (∀ k, v'.ownBlock = some k → v.ownBlock = some k ∨ w.heap.size ≤ k) → wpList P ops Q rest (a.put o.dst v') w') : wpList P ops Q (o :: rest) a w := by
  obtain ⟨v', w', hr, h1, h2, h3⟩ := run_app_ow3 (P := P) (ty := o.type) ht hi hz hsize hby hzs hown hsrc h63 hbytes hbase
  refine wpList_plain hgd fun K hK => ?_
  unfold Oper.wp
  simp [execOp, ho, resolve, invoke, builtin, hs, hx, hr, Result.andThen]
  exact hK _ _ (h v' w' h1 h2 h3)
end
end Mem
namespace Rc
section
variable {P : Program} {ops : Array Oper} {Q : Exit → Act → World → Prop} {B : Nat} {w : World} {spec : List Sp} {fin : List Nat} {tail : List Oper} {p : Nat → Par} {j : Nat} {o : Oper} {r : List Oper} {a : Act}
open Mem
theorem undrew {x : World} (h : Below B w.drew x) : Below B w x := ⟨h.os, h.tape, h.output, h.size, h.block⟩
theorem r_load (hl : look spec j = none) (hw : Region.wanted o (yielded ops a.tmps) = true) (ty : TypeId) (y : Operand) (ho : o.op = .load ty y) (v : Value)
    (hrun : ∀ x, Below B w x → (Instr.loadAt ty (a.eval y)).run P x = .ok v x)
    (h : ∀ K : Act → Prop, (∀ a, wpSeq P ops Q B w spec fin tail p (j + 1) r a → K a) → K (a.put o.dst v)) : wpSeq P ops Q B w spec fin tail p j (o :: r) a :=
  r_run _ hl hw (fun x hx => by
    unfold execOp
    simp only [ho, Sem.run_bind, hrun x hx, Result.andThen_ok, Sem.run_pure]) h
end
end Rc
end Go.Proofs.YtjkbpdobeljmjaaGreatDoor

