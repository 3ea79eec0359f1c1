/- A part of the proof. Plain; no condition. -/
import Derived.Test.YtjkbpdobeljmjaaGreatDoorP24
import Derived.Test.YtjkbpdobeljmjaaGreatDoorP1
import Derived.Test.YtjkbpdobeljmjaaGreatDoorP16
/- The walks of the field's sub (exactly) and Rest: it ends. Plain; no condition. -/
namespace Go.Proofs.YtjkbpdobeljmjaaGreatDoor
open Go.RowKit Bits
namespace Fld
def wN (l : List Nat) : Array Value := (l.map fun (x : Nat) => Value.int .u64 (x : Int)).toArray
theorem wN_get (l : List Nat) (j : Nat) (h : j < l.length) : (wN l)[j]? = some (.int .u64 ((l.getD j 0 : Nat) : Int)) := by
  simp [wN, List.getD, h]
theorem wN_size (l : List Nat) : (wN l).size = l.length := by simp [wN]
theorem wN_set (l : List Nat) (j x : Nat) : (wN l).setIfInBounds j (.int .u64 (x : Int)) = wN (l.set j x) := by simp [wN, List.map_set]
theorem wN_one (l : List Nat) : (wN l).all (·.oneCell') = true := by
  rw [Array.all_eq_true_iff_forall_mem]; intro v hv; simp [wN] at hv; obtain ⟨x, _, rfl⟩ := hv; rfl
def sd (x y u : Nat) : Nat := (x + 18446744073709551616 - y - u) % 18446744073709551616
def su (x y u : Nat) : Nat := if x < y + u then 1 else 0
theorem su_le (x y u : Nat) : su x y u ≤ 1 := by unfold su; split <;> decide
def subK (a b : List Nat) : Nat → List Nat × Nat
  | 0 => ([0, 0, 0, 0], 0)
  | k + 1 => ((subK a b k).1.set k (sd (a.getD k 0) (b.getD k 0) (subK a b k).2), su (a.getD k 0) (b.getD k 0) (subK a b k).2)
theorem subK_le (a b : List Nat) : ∀ k, (subK a b k).2 ≤ 1
  | 0 => Nat.zero_le _
  | _ + 1 => su_le _ _ _
theorem subK_length (a b : List Nat) : ∀ k, (subK a b k).1.length = 4
  | 0 => rfl
  | k + 1 => by unfold subK; rw [List.length_set]; exact subK_length a b k
theorem subK_all (a b : List Nat) (ha : a.length = 4) (hb : b.length = 4) : subK a b 4 = subC a b 0 := by
  match a, ha, b, hb with
  | [_, _, _, _], _, [_, _, _, _], _ => rfl
theorem infoE : (Tryz.prog.info? 170).map (·.size) = some 4 := by kernel_rfl
theorem zN : wN [0, 0, 0, 0] = #[.int .u64 0, .int .u64 0, .int .u64 0, .int .u64 0] := rfl
theorem results_cell_slotE {P : Program} {fn : Func} {p q : Tmp} {ty : TypeId} (h : fn.results = #[.cell p ty, .tmp q]) (tmps : Array Value) (w : World) (g : Nat) (t : TypeId) (cs : Array Value) (fr : Nat × Nat) (d : TypeDesc) (v : Value)
    (hp : tmps.getD p undef = .pointer (some ⟨g, 0, none⟩)) (hg : w.heap[g]? = some (.cells cs t fr)) (hq : tmps.getD q undef = v)
    (hu : P.underlying ty = some d) (hd : (match d with | .struct _ | .array _ _ => true | _ => false) = true) (hi : (P.info? ty).map (·.size) = some cs.size) :
    (results fn tmps).run P w = .ok (.tuple #[.agg cs, v]) w := by
  have hp' : tmps[p]?.getD undef = .pointer (some ⟨g, 0, none⟩) := by simpa using hp
  have hq' : tmps[q]?.getD undef = v := by simpa using hq
  simp [results, h, hp', hq', asAddr, run_loadVar_row w g t ty cs fr d hg hu hd hi]
theorem setRow_otherE (w : World) {g g' : Nat} (c : Array Value) (h : g ≠ g') : (w.setRow g c).heap[g']? = w.heap[g']? := by
  unfold World.setRow
  exact (Array.getElem?_modify ..).trans (if_neg h)
theorem grownBy_setRowE (x : World) (g : Nat) (c : Array Value) : x.grownBy (x.setRow g c) (some g) :=
  ⟨rfl, rfl, rfl, by simp, fun k _ hne => setRow_otherE x c (fun e => hne (by rw [e]))⟩
structure SubAt (w : World) (a b D : List Nat) (g : Nat) (wr : World) : Prop where
  ra : wr.heap[g]? = some (.cells (wN a) 170 (0, 0))
  rb : wr.heap[g + 1]? = some (.cells (wN b) 170 (0, 0))
  rz : wr.heap[g + 1 + 1]? = some (.cells (wN [0, 0, 0, 0]) 170 (0, 0))
  rd : wr.heap[g + 1 + 1 + 1]? = some (.cells (wN D) 170 (0, 0))
  be : Below w.heap.size w wr
theorem SubAt.start (w : World) (a b : List Nat) : SubAt w a b [0, 0, 0, 0] w.heap.size ((((w.alloc (.cells (wN a) 170)).alloc (.cells (wN b) 170)).alloc (.cells (wN [0, 0, 0, 0]) 170)).alloc (.cells (wN [0, 0, 0, 0]) 170)) := by
  refine ⟨?_, ?_, ?_, ?_, (((((Below.refl _ _).alloc (Nat.le_refl _) _).alloc (by simp) _).alloc (by simp; omega) _).alloc (by simp; omega) _)⟩
  · exact (Rg.heap_alloc_past _ _ _ (by simp; omega)).trans ((Rg.heap_alloc_past _ _ _ (by simp; omega)).trans ((Rg.heap_alloc_past _ _ _ (by simp)).trans (Rg.heap_alloc_at _ _ _ rfl)))
  · exact (Rg.heap_alloc_past _ _ _ (by simp)).trans ((Rg.heap_alloc_past _ _ _ (by simp)).trans (Rg.heap_alloc_at _ _ _ (by simp)))
  · exact (Rg.heap_alloc_past _ _ _ (by simp)).trans (Rg.heap_alloc_at _ _ _ (by simp))
  · exact Rg.heap_alloc_at _ _ _ (by simp)
set_option maxRecDepth 100000 in
set_option maxHeartbeats 2000000 in
theorem sub_any (a b : List Nat) (w : World) (ha : a.length = 4) (hb : b.length = 4) :
    Calls Tryz.prog 242 #[.agg (wN a), .agg (wN b)] w fun e w' => e = .returned (.tuple #[.agg (wN (subC a b 0).1), .int .u64 (((subC a b 0).2 : Nat) : Int)]) ∧ Below w.heap.size w w' := by
  have HA := Lib.hid ha
  have HB := Lib.hid hb
  have HST := Lib.hid (SubAt.start w a b)
  clear ha hb
  go_enter Tryz.func242, Tryz.ntmps242
  go_wp2_with fail
  rw [← zN]
  obtain ⟨w0, hw0⟩ : ∃ w0, w0 = ((((w.alloc (.cells (wN a) 170)).alloc (.cells (wN b) 170)).alloc (.cells (wN [0, 0, 0, 0]) 170)).alloc (.cells (wN [0, 0, 0, 0]) 170)) := ⟨_, rfl⟩
  rw [← hw0] at HST ⊢
  clear hw0
  go_loopw [7, 9] (fun u i wr => ∃ k : Nat, k ≤ 4 ∧ i = .int .i64 k ∧ u = .int .u64 (((subK a b k).2 : Nat) : Int) ∧ Hid (SubAt w a b (subK a b k).1 w.heap.size wr)) (fun _ i _ => 4 - (intOf i).toNat)
  case atStart => exact ⟨0, by omega, rfl, rfl, HST⟩
  case round =>
    clear HST
    obtain ⟨k, hk, rfl, rfl, HR⟩ := hrel
    by_cases hlt : k < 4
    · have g1 := wN_get a k (by rw [HA.out]; exact hlt)
      have g2 := wN_get b k (by rw [HB.out]; exact hlt)
      have hle := subK_le a b k
      have hD := subK_length a b k
      obtain ⟨D, hDe⟩ : ∃ D, D = (subK a b k).1 := ⟨_, rfl⟩
      obtain ⟨u, hue⟩ : ∃ u, u = (subK a b k).2 := ⟨_, rfl⟩
      obtain ⟨m1, hxe⟩ : ∃ m1, m1 = a.getD k 0 := ⟨_, rfl⟩
      obtain ⟨m2, hye⟩ : ∃ m2, m2 = b.getD k 0 := ⟨_, rfl⟩
      rw [← hue] at hle
      rw [← hDe] at hD HR
      rw [← hxe] at g1
      rw [← hye] at g2
      have HN : Hid (subK a b (k + 1) = (D.set k (sd m1 m2 u), su m1 m2 u)) := Lib.hid (by rw [hDe, hue, hxe, hye]; rfl)
      rw [← hue]
      have hcall : ∀ w : World, (callFunc 179 #[.int .u64 (m1 : Int), .int .u64 (m2 : Int), .int .u64 (u : Int)]).run Tryz.prog w = .ok (.value (.tuple #[.int .u64 ((sd m1 m2 u : Nat) : Int), .int .u64 ((su m1 m2 u : Nat) : Int)])) w := fun w => Ab.sub64_run m1 m2 u hle w
      have hgl := (Array.getElem?_eq_some_iff.1 HR.out.rd).1
      obtain ⟨g, hg⟩ : ∃ g, g = w.heap.size := ⟨_, rfl⟩
      rw [← hg] at HR hgl ⊢
      have hga : (fun j => j < wr.heap.size ∧ j ≠ g + 1 + 1 + 1) g := by dsimp only; omega
      have hgb : (fun j => j < wr.heap.size ∧ j ≠ g + 1 + 1 + 1) (g + 1) := by dsimp only; omega
      have HGA := Lib.hid hga
      have HGB := Lib.hid hgb
      have HG := Lib.hid hg
      have ca : ∀ x' : World, (x'.heap[g]? = wr.heap[g]?) → x'.cell? ⟨g, k, none⟩ = some (.int .u64 (m1 : Int)) := fun x' h => (cell_of_row _ _ _ _ _ _ (h.trans HR.out.ra)).trans g1
      have cb : ∀ x' : World, (x'.heap[g + 1]? = wr.heap[g + 1]?) → x'.cell? ⟨g + 1, k, none⟩ = some (.int .u64 (m2 : Int)) := fun x' h => (cell_of_row _ _ _ _ _ _ (h.trans HR.out.rb)).trans g2
      have HCA := Lib.hid ca
      have HCB := Lib.hid cb
      have q1 : (k : Int) < 4 := by omega
      have HD := Lib.hid hD
      have HGL := Lib.hid hgl
      clear hDe hue hxe hye hD hle g1 g2 hga hgb hg ca cb
      go_wp2_with fail
      refine Re.region (fun j => j < wr.heap.size ∧ j ≠ g + 1 + 1 + 1) 14 [Re.S 13 [] [] (· = g + 1 + 1 + 1) (fun _ => undef) (fun _ _ y' => y'.heap[g + 1 + 1 + 1]? = some (.cells (wN (D.set k (sd m1 m2 u))) 170 (0, 0)))] [13] (by kernel_rfl) (Re.own_one (i := 13) HGL.out (by intro s hs; simp only [List.mem_cons, List.not_mem_nil, or_false] at hs; subst hs; exact .inr ⟨rfl, rfl⟩)) (by kernel_rfl) ?_; intro p; simp only [List.take, List.drop]
      iterate 13 (refine Re.rK rfl rfl ?_; intro K hK; apply Exists.intro; refine ⟨?_, ?_⟩; (focus (intro x hx; have e1 := HCA.out x ((Re.undrew hx).block _ (.inl HGA.out));have e2 := HCB.out x ((Re.undrew hx).block _ (.inl HGB.out)); go_simp; (first | (fail) | ((try go_bits); (try go_simp); (try rfl))))); go_simp; refine hK _ ?_; clear hK K)
      refine Re.cK rfl rfl rfl ?_ ?_
      · intro x Fs hx ho hg' K hK
        have h8 : x.heap[g + 1 + 1 + 1]? = some (.cells (wN D) 170 (0, 0)) := (ho _ rfl).trans HR.out.rd
        have e1 : x.cell? ⟨g + 1 + 1 + 1, k, none⟩ = some (.int .u64 ((D.getD k 0 : Nat) : Int)) := (cell_of_row _ _ _ _ _ _ h8).trans (wN_get D k (by rw [HD.out]; exact hlt))
        have e2 : x.frozen? ⟨g + 1 + 1 + 1, k, none⟩ = false := frozen_of_row _ _ _ _ _ h8
        have H8 := Lib.hid h8
        clear h8 hx ho hg'
        go_wp2_with fail
        have he : x.setCell ⟨g + 1 + 1 + 1, k, none⟩ (.int .u64 ((sd m1 m2 u : Nat) : Int)) = x.setRow (g + 1 + 1 + 1) (wN (D.set k (sd m1 m2 u))) := by rw [setCell_eq_setRow x (g + 1 + 1 + 1) k _ _ _ _ H8.out, wN_set]
        rw [he]
        have hgr := grownBy_setRowE x (g + 1 + 1 + 1) (wN (D.set k (sd m1 m2 u)))
        have h8' := setRow_heap x (g + 1 + 1 + 1) _ (wN (D.set k (sd m1 m2 u))) _ _ H8.out
        exact hK Rc.dflt _ ⟨hgr.os, hgr.tape, hgr.output, hgr.size, fun j hj hn => hgr.block j hj fun e => hn (.inr (by cases e; rfl))⟩ (fun y hy => (hy.block _ ((Array.getElem?_eq_some_iff.1 h8').1) (.inr (.inl (.inr rfl)))).trans h8')
      intro K hK; go_simp; refine hK _ ?_; clear hK K
      refine Re.done fun x2 Fs2 hx hg' => ?_
      have hr : SubAt w a b (D.set k (sd m1 m2 u)) g x2 := by
        have hx' := Re.undrew hx
        refine ⟨(hx'.block _ HGA.out).trans HR.out.ra, (hx'.block _ HGB.out).trans HR.out.rb, (hx'.block _ ?_).trans HR.out.rz, hg'.1, HR.out.be.trans ⟨hx'.os, hx'.tape, hx'.output, hx'.size, fun j hj => hx'.block j ⟨?_, ?_⟩⟩⟩
        · exact ⟨by have := HGL.out; omega, by omega⟩
        · exact Nat.lt_of_lt_of_le hj HR.out.be.size
        · have := HG.out; omega
      have HR2 := Lib.hid hr
      clear hx hg' hr
      go_wp2_with fail
      refine NoPanic.normal ?_
      go_wp2_with fail
      refine ⟨⟨k + 1, by omega, by go_num, by rw [HN.out], ?_⟩, by simp [intOf]; omega⟩
      rw [HN.out]
      exact HR2
    · obtain rfl : k = 4 := by omega
      have HS := Lib.hid (subK_all a b HA.out HB.out)
      have hD := subK_length a b 4
      obtain ⟨D, hDe⟩ : ∃ D, D = (subK a b 4).1 := ⟨_, rfl⟩
      obtain ⟨u, hue⟩ : ∃ u, u = (subK a b 4).2 := ⟨_, rfl⟩
      rw [← hDe] at hD HR
      have HDE : Hid (D = (subC a b 0).1) := Lib.hid (by rw [hDe, HS.out])
      have HUE : Hid (u = (subC a b 0).2) := Lib.hid (by rw [hue, HS.out])
      rw [← hue]
      clear hDe hue
      have HI : Hid ((Tryz.prog.info? 170).map (·.size) = some (wN D).size) := Lib.hid (by rw [wN_size, hD]; exact infoE)
      have HZ : Hid ((wN [0, 0, 0, 0]).size = (wN D).size) := Lib.hid (by rw [wN_size, wN_size, hD]; rfl)
      clear hD
      obtain ⟨g, hg⟩ : ∃ g, g = w.heap.size := ⟨_, rfl⟩
      rw [← hg] at HR ⊢
      have HG := Lib.hid hg
      clear hg
      go_wp2_with (first | (refine wpList_load_row rfl 170 _ rfl (g + 1 + 1 + 1) rfl 170 (wN D) (0, 0) _ HR.out.rd Tryz.underlying170 rfl HI.out ?_) | (refine Rg.store_row rfl 170 _ _ rfl (g + 1 + 1) rfl 170 (wN [0, 0, 0, 0]) (wN D) rfl HR.out.rz HI.out HZ.out (wN_one _) ?_))
      refine bodyPost_ret (v := .tuple #[.agg (wN D), .int .u64 (u : Int)]) ?_ rfl ⟨by rw [HDE.out, HUE.out], ?_⟩
      · exact results_cell_slotE (P := Tryz.prog) rfl _ _ (g + 1 + 1) 170 (wN D) (0, 0) _ _ rfl (setRow_heap _ _ _ _ 170 _ HR.out.rz) rfl Tryz.underlying170 rfl HI.out
      · exact Rg.below_setRow HR.out.be (by have := HG.out; omega) _
def W4s (a : List Nat) : Prop := a.length = 4 ∧ ∀ x ∈ a, x < 18446744073709551616
def modW : List Nat := [18446744073709551597, 18446744073709551615, 18446744073709551615, 9223372036854775807]
theorem mod_val : val modW = P := by decide
theorem mod_good : W4s modW := ⟨rfl, by decide⟩
theorem P_lt : P < 18446744073709551616 ^ 4 := by decide
theorem words_add (k : Nat) : ∀ n, words (n + 18446744073709551616 ^ k) k = words n k := by
  induction k with
  | zero => intro n; rfl
  | succ k ih =>
    intro n
    simp only [words]
    rw [Nat.pow_succ]
    have e1 : (n + 18446744073709551616 ^ k * 18446744073709551616) % 18446744073709551616 = n % 18446744073709551616 := Nat.add_mul_mod_self_right ..
    have e2 : (n + 18446744073709551616 ^ k * 18446744073709551616) / 18446744073709551616 = n / 18446744073709551616 + 18446744073709551616 ^ k := Nat.add_mul_div_right _ _ (by decide)
    rw [e1, e2, ih]
theorem W4s.val {a : List Nat} (h : W4s a) : words (val a) 4 = a := by
  have := words_val a h.2
  rwa [h.1] at this
theorem W4s.lt {a : List Nat} (h : W4s a) : Fld.val a < 18446744073709551616 ^ 4 := by
  have := val_lt a h.2
  rwa [h.1] at this
theorem W4s.words (n : Nat) : W4s (words n 4) := ⟨words_length 4 n, words_lt 4 n⟩
theorem sub_small {c : List Nat} (hc : W4s c) (h : Fld.val c < P) : (subC c modW 0).2 = 1 := by
  have e := subC_words 4 (Fld.val c) P 0 hc.lt P_lt (Nat.zero_le _)
  rw [hc.val, ← mod_val, mod_good.val, mod_val, if_pos (by omega)] at e
  rw [e]
theorem sub_big {c : List Nat} (hc : W4s c) (h : P ≤ Fld.val c) : (subC c modW 0).2 = 0 ∧ (subC c modW 0).1 = words (Fld.val c - P) 4 := by
  have e := subC_words 4 (Fld.val c) P 0 hc.lt P_lt (Nat.zero_le _)
  rw [hc.val, ← mod_val, mod_good.val, mod_val, if_neg (by omega)] at e
  rw [e]
  refine ⟨rfl, ?_⟩
  rw [show Fld.val c + 18446744073709551616 ^ 4 - P - 0 = Fld.val c - P + 18446744073709551616 ^ 4 by omega, words_add]
def vC : List Value → Nat
  | .int _ n :: r => n.toNat + 18446744073709551616 * vC r
  | _ => 0
theorem vC_wN : ∀ l : List Nat, vC (wN l).toList = val l
  | [] => rfl
  | x :: l => by
    have ih := vC_wN l
    simp only [wN, List.map_cons] at ih ⊢
    show ((x : Int)).toNat + 18446744073709551616 * vC _ = x + 18446744073709551616 * val l
    rw [← ih]
    rfl
def vW (w : World) (g : Nat) : Nat := match w.heap[g]? with | some (.cells C _ _) => vC C.toList | _ => 0
theorem vW_row {w : World} {g : Nat} {l : List Nat} {t : TypeId} {f : Nat × Nat} (h : w.heap[g]? = some (.cells (wN l) t f)) : vW w g = val l := by
  unfold vW
  rw [h]
  exact vC_wN l
structure RestAt (w : World) (a : List Nat) (g : Nat) (wr : World) (c : List Nat) : Prop where
  rc : wr.heap[g]? = some (.cells (wN c) 170 (0, 0))
  rz : wr.heap[g + 1]? = some (.cells (wN [0, 0, 0, 0]) 170 (0, 0))
  be : Below w.heap.size w wr
  good : W4s c
  same : val c % P = val a % P
set_option maxRecDepth 100000 in
set_option maxHeartbeats 2000000 in
theorem rest_any (a : List Nat) (w : World) (ha : W4s a) {tm : TypeId} {fm : Nat × Nat} (hm : w.heap[(8 : Nat)]? = some (.cells (wN modW) tm fm)) :
    Calls Tryz.prog 176 #[.agg (wN a)] w fun e w' => e = .returned (.agg (wN (words (val a % P) 4))) ∧ Below w.heap.size w w' := by
  have HM := Lib.hid hm
  have hml := (Array.getElem?_eq_some_iff.1 hm).1
  have hst : RestAt w a w.heap.size ((w.alloc (.cells (wN a) 170)).alloc (.cells (wN [0, 0, 0, 0]) 170)) a :=
    ⟨(Rg.heap_alloc_past _ _ _ (by simp)).trans (Rg.heap_alloc_at _ _ _ rfl), Rg.heap_alloc_at _ _ _ (by simp), (((Below.refl _ _).alloc (Nat.le_refl _) _).alloc (by simp) _), ha, rfl⟩
  have HST := Lib.hid hst
  have HML := Lib.hid hml
  clear hm hml hst ha
  go_enter Tryz.func176, Tryz.ntmps176
  go_wp2_with fail
  rw [← zN]
  obtain ⟨w0, hw0⟩ : ∃ w0, w0 = ((w.alloc (.cells (wN a) 170)).alloc (.cells (wN [0, 0, 0, 0]) 170)) := ⟨_, rfl⟩
  rw [← hw0] at HST ⊢
  obtain ⟨g, hg⟩ : ∃ g, g = w.heap.size := ⟨_, rfl⟩
  rw [← hg] at HST ⊢
  have HG := Lib.hid hg
  clear hw0 hg
  go_loopw [4] (fun _ wr => ∃ c : List Nat, Hid (RestAt w a g wr c)) (fun _ wr => vW wr g)
  case atStart => exact ⟨a, HST⟩
  case round =>
    clear HST
    obtain ⟨c, HC⟩ := hrel
    have hmr : wr.heap[(8 : Nat)]? = some (.cells (wN modW) tm fm) := (HC.out.be.block _ HML.out).trans HM.out
    have HMR := Lib.hid hmr
    have HIM : Hid ((Tryz.prog.info? 170).map (·.size) = some (wN modW).size) := Lib.hid (by rw [wN_size]; exact infoE)
    have HIC : Hid ((Tryz.prog.info? 170).map (·.size) = some (wN c).size) := Lib.hid (by rw [wN_size, HC.out.good.1]; exact infoE)
    have HSUB := Lib.hid (sub_any c modW wr HC.out.good.1 rfl)
    have hgl := (Array.getElem?_eq_some_iff.1 HC.out.rz).1
    have HGL := Lib.hid hgl
    by_cases hlt : val c < P
    · have h1 := sub_small HC.out.good hlt
      obtain ⟨⟨D, u⟩, hdu⟩ : ∃ x, x = subC c modW 0 := ⟨_, rfl⟩
      have hDl : D.length = 4 := by
        have := congrArg (fun x : List Nat × Nat => x.1.length) hdu
        dsimp only at this
        rw [this, ← subK_all c modW HC.out.good.1 rfl]
        exact subK_length c modW 4
      rw [← hdu] at HSUB h1
      dsimp only at h1
      subst h1
      dsimp only at HSUB
      have HID : Hid ((Tryz.prog.info? 170).map (·.size) = some (wN D).size) := Lib.hid (by rw [wN_size, hDl]; exact infoE)
      have HZD : Hid ((#[Value.int .u64 0, .int .u64 0, .int .u64 0, .int .u64 0] : Array Value).size = (wN D).size) := Lib.hid (by rw [wN_size, hDl]; rfl)
      clear hdu hDl hmr hgl
      go_wp2_with (first | (refine wpList_load_row rfl 170 _ rfl g rfl 170 (wN c) (0, 0) _ HC.out.rc Tryz.underlying170 rfl HIC.out ?_) | (refine wpList_load_row rfl 170 _ rfl (8 : Nat) rfl tm (wN modW) fm _ HMR.out Tryz.underlying170 rfl HIM.out ?_))
      refine HSUB.out.mono ?_
      rintro e w1 ⟨rfl, hb1⟩
      have hrc1 : w1.heap[g]? = some (.cells (wN c) 170 (0, 0)) := (hb1.block _ (by have := HGL.out; omega)).trans HC.out.rc
      have hrz1 : w1.heap[g + 1]? = some (.cells (wN [0, 0, 0, 0]) 170 (0, 0)) := (hb1.block _ HGL.out).trans HC.out.rz
      have HRC := Lib.hid ((Rg.heap_alloc_past w1 (.cells (wN D) 170) g (Array.getElem?_eq_some_iff.1 hrc1).1).trans hrc1)
      have HRZ := Lib.hid ((Rg.heap_alloc_past w1 (.cells (wN D) 170) (g + 1) (Array.getElem?_eq_some_iff.1 hrz1).1).trans hrz1)
      have HBZ : Hid (Below w.heap.size w (w1.alloc (.cells (wN D) 170))) := Lib.hid ((HC.out.be.trans (hb1.mono HC.out.be.size)).alloc (Nat.le_trans HC.out.be.size hb1.size) _)
      have HZZ : Hid ((wN [0, 0, 0, 0]).size = (wN c).size) := Lib.hid (by rw [wN_size, wN_size, HC.out.good.1]; rfl)
      clear hb1 hrc1 hrz1 HSUB
      go_wp2_with (first | (refine Rg.store_row_new rfl 170 _ _ rfl w1.heap.size rfl rfl 170 _ (wN D) rfl HID.out HZD.out (wN_one _) ?_) | (refine wpList_load_row rfl 170 _ rfl g rfl 170 (wN c) (0, 0) _ HRC.out Tryz.underlying170 rfl HIC.out ?_) | (refine Rg.store_row rfl 170 _ _ rfl (g + 1) rfl 170 (wN [0, 0, 0, 0]) (wN c) rfl HRZ.out HIC.out HZZ.out (wN_one _) ?_))
      refine bodyPost_ret (v := .agg (wN c)) (results_cell_row (P := Tryz.prog) rfl _ _ (g + 1) 170 (wN c) (0, 0) _ rfl (setRow_heap _ _ _ _ 170 _ HRZ.out) Tryz.underlying170 rfl HIC.out) rfl ⟨?_, ?_⟩
      · have e : c = words (val a % P) 4 := by
          rw [← HC.out.same, Nat.mod_eq_of_lt hlt, HC.out.good.val]
        rw [e]
      · exact Rg.below_setRow HBZ.out (by have := HG.out; omega) _
    · have h1 := sub_big HC.out.good (by omega)
      obtain ⟨⟨D, u⟩, hdu⟩ : ∃ x, x = subC c modW 0 := ⟨_, rfl⟩
      rw [← hdu] at HSUB h1
      obtain ⟨h1, h2⟩ := h1
      dsimp only at h1 h2 HSUB
      subst h1 h2
      obtain ⟨D, hD⟩ : ∃ D, D = words (val c - P) 4 := ⟨_, rfl⟩
      rw [← hD] at HSUB hdu
      have hDg : W4s D := by rw [hD]; exact W4s.words _
      have hDv : val D = val c - P := by rw [hD]; exact val_words 4 _ (by have := HC.out.good.lt; omega)
      have HDG := Lib.hid hDg
      have HDV := Lib.hid hDv
      have HID : Hid ((Tryz.prog.info? 170).map (·.size) = some (wN D).size) := Lib.hid (by rw [wN_size, hDg.1]; exact infoE)
      have HZD : Hid ((#[Value.int .u64 0, .int .u64 0, .int .u64 0, .int .u64 0] : Array Value).size = (wN D).size) := Lib.hid (by rw [wN_size, hDg.1]; rfl)
      have HZC : Hid ((wN c).size = (wN D).size) := Lib.hid (by rw [wN_size, wN_size, hDg.1, HC.out.good.1])
      clear hdu hmr hgl hD hDg hDv
      go_wp2_with (first | (refine wpList_load_row rfl 170 _ rfl g rfl 170 (wN c) (0, 0) _ HC.out.rc Tryz.underlying170 rfl HIC.out ?_) | (refine wpList_load_row rfl 170 _ rfl (8 : Nat) rfl tm (wN modW) fm _ HMR.out Tryz.underlying170 rfl HIM.out ?_))
      refine HSUB.out.mono ?_
      rintro e w1 ⟨rfl, hb1⟩
      have hrc1 : w1.heap[g]? = some (.cells (wN c) 170 (0, 0)) := (hb1.block _ (by have := HGL.out; omega)).trans HC.out.rc
      have hrz1 : w1.heap[g + 1]? = some (.cells (wN [0, 0, 0, 0]) 170 (0, 0)) := (hb1.block _ HGL.out).trans HC.out.rz
      obtain ⟨w2, hw2⟩ : ∃ w2, w2 = w1.alloc (.cells (wN D) 170) := ⟨_, rfl⟩
      have HRN : Hid (w2.heap[w1.heap.size]? = some (.cells (wN D) 170 (0, 0))) := Lib.hid (by rw [hw2]; exact Rg.heap_alloc_at _ _ _ rfl)
      have HRC : Hid (w2.heap[g]? = some (.cells (wN c) 170 (0, 0))) := Lib.hid (by rw [hw2]; exact (Rg.heap_alloc_past w1 (.cells (wN D) 170) g (Array.getElem?_eq_some_iff.1 hrc1).1).trans hrc1)
      have HRZ : Hid (w2.heap[g + 1]? = some (.cells (wN [0, 0, 0, 0]) 170 (0, 0))) := Lib.hid (by rw [hw2]; exact (Rg.heap_alloc_past w1 (.cells (wN D) 170) (g + 1) (Array.getElem?_eq_some_iff.1 hrz1).1).trans hrz1)
      have HBZ : Hid (Below w.heap.size w w2) := Lib.hid (by rw [hw2]; exact ((HC.out.be.trans (hb1.mono HC.out.be.size)).alloc (Nat.le_trans HC.out.be.size hb1.size) _))
      have HW2 := Lib.hid hw2
      clear hb1 hrc1 hrz1 HSUB hw2
      go_wp2_with (first | (refine Rg.store_row_new rfl 170 _ _ rfl w1.heap.size rfl rfl 170 _ (wN D) rfl HID.out HZD.out (wN_one _) ?_; go_must (rw [← HW2.out])) | (refine wpList_load_row rfl 170 _ rfl w1.heap.size rfl 170 (wN D) (0, 0) _ HRN.out Tryz.underlying170 rfl HID.out ?_) | (refine Rg.store_row rfl 170 _ _ rfl g rfl 170 (wN c) (wN D) rfl HRC.out HID.out HZC.out (wN_one _) ?_))
      have hr : RestAt w a g (w2.setRow g (wN D)) D := by
        refine ⟨setRow_heap _ _ _ _ _ _ HRC.out, (setRow_otherE _ _ (by omega)).trans HRZ.out, Rg.below_setRow HBZ.out (by have := HG.out; omega) _, HDG.out, ?_⟩
        rw [HDV.out, ← HC.out.same]
        exact (Nat.mod_eq_sub_mod (by omega)).symm
      refine ⟨⟨_, _, _, _, _, _, _, _, _, _, _, _, ⟨D, Lib.hid hr⟩, rfl⟩, ?_⟩
      rw [vW_row hr.rc, vW_row HC.out.rc, HDV.out]
      have : 0 < P := by decide
      omega
end Fld
namespace Ab
theorem ct_words {σ : S} {C : Array Value} (h : CT σ C.toList w4) : ∃ a, Fld.W4s a ∧ C = Fld.wN a := by
  obtain ⟨C⟩ := C
  obtain ⟨h1, h2⟩ := h
  match C, h1 with
  | [x0, x1, x2, x3], _ =>
    obtain ⟨_, e0, n0, rfl, a0, b0⟩ := h2 0 U rfl
    obtain ⟨_, e1, n1, rfl, a1, b1⟩ := h2 1 U rfl
    obtain ⟨_, e2, n2, rfl, a2, b2⟩ := h2 2 U rfl
    obtain ⟨_, e3, n3, rfl, a3, b3⟩ := h2 3 U rfl
    cases e0; cases e1; cases e2; cases e3
    obtain ⟨n0, rfl⟩ := Int.eq_ofNat_of_zero_le a0
    obtain ⟨n1, rfl⟩ := Int.eq_ofNat_of_zero_le a1
    obtain ⟨n2, rfl⟩ := Int.eq_ofNat_of_zero_le a2
    obtain ⟨n3, rfl⟩ := Int.eq_ofNat_of_zero_le a3
    refine ⟨[n0, n1, n2, n3], ⟨rfl, fun x hx => ?_⟩, rfl⟩
    have hk : khi .u64 = 18446744073709551615 := rfl
    simp only [List.mem_cons, List.not_mem_nil, or_false] at hx
    rcases hx with rfl | rfl | rfl | rfl <;> omega
theorem ct_of_words {σ : S} {a : List Nat} (h : Fld.W4s a) : CT σ (Fld.wN a).toList w4 := by
  obtain ⟨h1, h2⟩ := h
  match a, h1 with
  | [n0, n1, n2, n3], _ =>
    refine ⟨rfl, fun i κ hi => ?_⟩
    have hk : khi .u64 = 18446744073709551615 := rfl
    have hl : klo .u64 = 0 := rfl
    have b0 := h2 n0 (by simp)
    have b1 := h2 n1 (by simp)
    have b2 := h2 n2 (by simp)
    have b3 := h2 n3 (by simp)
    match i with
    | 0 => cases hi; exact ⟨_, rfl, n0, rfl, by omega, by omega⟩
    | 1 => cases hi; exact ⟨_, rfl, n1, rfl, by omega, by omega⟩
    | 2 => cases hi; exact ⟨_, rfl, n2, rfl, by omega, by omega⟩
    | 3 => cases hi; exact ⟨_, rfl, n3, rfl, by omega, by omega⟩
    | i + 4 => simp [w4] at hi
theorem Ans.of_below {gt : Gt} {σ : S} {w w' : World} {v : Value} {τ : T} (hw : WT gt σ w) (hb : Below w.heap.size w w') (hv : VT σ v τ) : Ans gt σ w v w' τ := by
  refine ⟨σ, ⟨fun _ _ => rfl, hb.os, hb.tape, hb.output, hb.size, fun b hb' _ => hb.block b hb'⟩, ⟨hw.tab, fun g C hg => ?_, fun b m l hl => ?_⟩, hv⟩
  · obtain ⟨⟨l, hl⟩, t, f, hh⟩ := hw.fx g C hg
    exact ⟨⟨l, hl⟩, t, f, (hb.block g (hw.lt hl)).trans hh⟩
  · obtain ⟨C, t, f, hh, h1, h2⟩ := hw.blk b m l hl
    exact ⟨C, t, f, (hb.block b (hw.lt hl)).trans hh, h1, h2⟩
theorem frest_sig : SigOk Tryz.prog gtL 176 [E4] E4 := by
  intro σ w vs hw hv
  obtain ⟨x, rfl, C, rfl, hC⟩ := hv.one
  obtain ⟨a, ha, rfl⟩ := ct_words hC
  obtain ⟨_, t, f, hm⟩ := hw.fx (8 : Nat) mod4 (by simp [gtL])
  refine .inr ⟨by simp [callFunc, Tryz.func176, Tryz.f176, mark], (Fld.rest_any a w ha (tm := t) (fm := f) hm).mono fun e w' hh => ?_⟩
  obtain ⟨rfl, hb⟩ := hh
  exact ⟨_, rfl, Ans.of_below hw hb ⟨_, rfl, ct_of_words (Fld.W4s.words _)⟩⟩
def s_frest : List (Nat × List T × T) := (176, [E4], E4) :: s_prod
theorem s_frest_ok : ∀ x ∈ s_frest, SigOk Tryz.prog gtL x.1 x.2.1 x.2.2 := more_ok s_prod_ok frest_sig
end Ab
end Go.Proofs.YtjkbpdobeljmjaaGreatDoor

