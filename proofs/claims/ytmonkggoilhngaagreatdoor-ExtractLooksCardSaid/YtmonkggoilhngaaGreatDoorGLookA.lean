/- Two looks told unlike under one root have two unlike texts of one sum (plain). -/
import Derived.Test.YtmonkggoilhngaaGreatDoorGStdH
import Derived.Test.YtmonkggoilhngaaGreatDoorGCha
import Derived.Test.YtmonkggoilhngaaGreatDoorGStdJ
import Derived.Test.YtmonkggoilhngaaGreatDoorGAbQ
import Derived.Test.YtmonkggoilhngaaGreatDoorGStdE
import Derived.Test.YtmonkggoilhngaaGreatDoorGEqR
namespace Go.Proofs.YtmonkggoilhngaaGreatDoor
open Go.RowKit Bits Mem Sha
namespace Up
theorem law2 (bit : Nat → Bool) (S S' : Nat → List UInt8) (hS : ∀ d, (S d).length = 32) (hS' : ∀ d, (S' d).length = 32) (d d' : Nat) (T T' : List UInt8) (hT : ∀ r, T ≠ 1 :: r) (hT' : ∀ r, T' ≠ 1 :: r) (hne : T ≠ T') (h : sha (top bit S d T) = sha (top bit S' d' T')) :
    Pair (climb bit S d T) (climb bit S' d' T') := by
  have key : ∀ (e : Nat) (T T' : List UInt8), T ≠ T' → sha (top bit S e T) = sha (top bit S' e T') → Pair (climb bit S e T) (climb bit S' e T') := by
    intro e T T' hT hs
    rcases down bit S S' hS hS' e T T' hs with hp | he
    · exact hp
    · exact ⟨T, mem_climb bit S e T, T', mem_climb bit S' e T', hT, he⟩
  rcases Nat.lt_trichotomy d d' with hd | hd | hd
  · rw [top_at bit S' d d' _ (by omega)] at h
    obtain ⟨r, hr⟩ := at_node bit S' d d' T' hd
    obtain ⟨x, hx, y, hy, hxy, he⟩ := key d _ _ (by rw [hr]; exact hT r) h
    exact ⟨x, hx, y, at_climb bit S' d d' _ (by omega) y hy, hxy, he⟩
  · subst hd
    exact key d _ _ hne h
  · rw [top_at bit S d' d _ (by omega)] at h
    obtain ⟨r, hr⟩ := at_node bit S d' d T hd
    obtain ⟨x, hx, y, hy, hxy, he⟩ := key d' _ _ (by rw [hr]; exact (hT' r).symm) h
    exact ⟨x, at_climb bit S d' d _ (by omega) x hx, y, hy, hxy, he⟩
theorem pair_left {A B A' B' : List (List UInt8)} (h : Pair A B) : Pair (A ++ A') (B ++ B') := by
  obtain ⟨a, ha, b, hb, h1, h2⟩ := h
  exact ⟨a, List.mem_append_left _ ha, b, List.mem_append_left _ hb, h1, h2⟩
theorem pair_right {A B A' B' : List (List UInt8)} (h : Pair A B) : Pair (A' ++ A) (B' ++ B) := by
  obtain ⟨a, ha, b, hb, h1, h2⟩ := h
  exact ⟨a, List.mem_append_right _ ha, b, List.mem_append_right _ hb, h1, h2⟩
end Up
namespace Stn
open Ref (RdL All32 linkText nextLink firstLink two tin tout bound sha_tout)
structure Foun where
  n : Int
  ix : List UInt8
  there : Bool
  seq : Int
  text : List UInt8
  mark : List UInt8
  op : List UInt8
  S : List (List UInt8)
  pt : Bool
  pk : List UInt8
  pv : List UInt8
  root : List UInt8
  link : List UInt8
  ahead : List UInt8
def lksT (id : List UInt8) : Int → List UInt8 → List (List UInt8) → List (List UInt8)
  | _, _, [] => []
  | n, l, r :: R => linkText id (n + 1) r l :: lksT id (n + 1) (nextLink id (n + 1) r l) R
def lksL (id : List UInt8) : Int → List UInt8 → List (List UInt8) → List UInt8
  | _, l, [] => l
  | n, l, r :: R => lksL id (n + 1) (nextLink id (n + 1) r l) R
theorem lksT_snoc (id : List UInt8) (r : List UInt8) : ∀ (R : List (List UInt8)) (n : Int) (l : List UInt8), lksT id n l (R ++ [r]) = lksT id n l R ++ [linkText id (n + R.length + 1) r (lksL id n l R)]
  | [], n, l => by simp [lksT, lksL]
  | x :: R, n, l => by
    show _ :: lksT id (n + 1) _ (R ++ [r]) = _ :: (lksT id (n + 1) _ R ++ _)
    rw [lksT_snoc id r R (n + 1)]
    rw [show n + 1 + (R.length : Int) + 1 = n + ((x :: R).length : Int) + 1 by rw [List.length_cons]; omega]
    rfl
theorem lksL_snoc (id : List UInt8) (r : List UInt8) : ∀ (R : List (List UInt8)) (n : Int) (l : List UInt8), lksL id n l (R ++ [r]) = nextLink id (n + R.length + 1) r (lksL id n l R)
  | [], n, l => by simp [lksL]
  | x :: R, n, l => by
    show lksL id (n + 1) _ (R ++ [r]) = _
    rw [lksL_snoc id r R (n + 1)]
    rw [show n + 1 + (R.length : Int) + 1 = n + ((x :: R).length : Int) + 1 by rw [List.length_cons]; omega]
    rfl
theorem lksT_length (id : List UInt8) : ∀ (R : List (List UInt8)) (n : Int) (l : List UInt8), (lksT id n l R).length = R.length
  | [], _, _ => rfl
  | x :: R, n, l => by rw [lksT, List.length_cons, List.length_cons, lksT_length id R]
theorem lksL_length (id : List UInt8) : ∀ (R : List (List UInt8)) (n : Int) (l : List UInt8), l.length = 32 → (lksL id n l R).length = 32
  | [], _, _, h => h
  | x :: R, n, l, _ => by rw [lksL]; exact lksL_length id R _ _ (sha_length _)
def firstT (id : List UInt8) (f : Foun) : List UInt8 := if f.n = 0 then 4 :: id else linkText id f.n f.root f.ahead
def cmtT (f : Foun) : List (List UInt8) := if f.there then [tin f.op f.ix f.seq f.text, tout f.op f.ix f.seq f.text] else []
def lookT (id : List UInt8) (f : Foun) (R S : List (List UInt8)) (there : Bool) (key val : List UInt8) : List (List UInt8) :=
  (((firstT id f :: lksT id f.n f.link R) ++ standT false (f.n + R.length) (lksL id f.n f.link R) (bit (sha (5 :: id))) S (endT there key val)) ++ wayT (bit f.ix) f.S (endT f.pt f.pk f.pv)) ++ cmtT f
def linkP (id : List UInt8) (f : Foun) : Prop := if f.n = 0 then f.link = firstLink id ∧ f.root = sha [2] else f.link = nextLink id f.n f.root f.ahead
def valueP (f : Foun) : Prop := sha (topT (bit f.ix) f.S (endT f.pt f.pk f.pv)) = f.root ∧ f.there = (f.pt && (f.pk == f.ix)) ∧ (f.there = true → f.mark = f.pv ∧ bound f.op f.ix f.seq f.text = f.mark)
structure Foun.Ok (f : Foun) : Prop where
  ixL : f.ix.length = 32
  markL : f.mark.length = 32
  opL : f.op.length = 32
  pkL : f.pk.length = 32
  pvL : f.pv.length = 32
  rootL : f.root.length = 32
  linkL : f.link.length = 32
  aheadL : f.ahead.length = 32
  sums : All32 f.S
  few : f.S.length ≤ 256
  textL : f.text.length ≤ 1000000
  lo : -9223372036854775808 ≤ f.n
  hi : f.n ≤ 9223372036854775807
  slo : -9223372036854775808 ≤ f.seq
  shi : f.seq ≤ 9223372036854775807
theorem link_inj {id : List UInt8} {n : Int} {r r' a a' : List UInt8} (hr : r.length = 32) (hr' : r'.length = 32) (h : linkText id n r a = linkText id n r' a') : r = r' ∧ a = a' := by
  unfold linkText at h
  injection h with _ h
  rw [List.append_assoc _ r a, List.append_assoc _ r' a'] at h
  have h := List.append_cancel_left h
  exact List.append_inj h (hr.trans hr'.symm)
theorem chain_down (id : List UInt8) : ∀ (R R' : List (List UInt8)) (n : Int) (l l' : List UInt8), R.length = R'.length → (∀ r ∈ R, r.length = 32) → (∀ r ∈ R', r.length = 32) → lksL id n l R = lksL id n l' R' → Up.Pair (lksT id n l R) (lksT id n l' R') ∨ l = l'
  | [], [], _, _, _, _, _, _, h => .inr h
  | [], _ :: _, _, _, _, hl, _, _, _ => by cases hl
  | _ :: _, [], _, _, _, hl, _, _, _ => by cases hl
  | r :: R, r' :: R', n, l, l', hl, h1, h2, h => by
    rcases chain_down id R R' (n + 1) _ _ (by simpa using hl) (fun x hx => h1 x (List.mem_cons_of_mem _ hx)) (fun x hx => h2 x (List.mem_cons_of_mem _ hx)) h with hp | he
    · exact .inl (pair_tail hp)
    · by_cases hn : linkText id (n + 1) r l = linkText id (n + 1) r' l'
      · exact .inr (link_inj (h1 r (List.mem_cons_self ..)) (h2 r' (List.mem_cons_self ..)) hn).2
      · exact .inl ⟨_, List.mem_cons_self .., _, List.mem_cons_self .., hn, he⟩
theorem cmt_pair {f f' : Foun} (h : f.Ok) (h' : f'.Ok) (hs : sha (tout f.op f.ix f.seq f.text) = sha (tout f'.op f'.ix f'.seq f'.text)) (hne : ¬ (f.seq = f'.seq ∧ f.text = f'.text)) :
    Up.Pair [tin f.op f.ix f.seq f.text, tout f.op f.ix f.seq f.text] [tin f'.op f'.ix f'.seq f'.text, tout f'.op f'.ix f'.seq f'.text] := by
  have o1 := h.opL
  have o2 := h'.opL
  by_cases hU : tout f.op f.ix f.seq f.text = tout f'.op f'.ix f'.seq f'.text
  · unfold tout at hU
    obtain ⟨h1, h2⟩ := List.append_inj hU (by rw [padk_length _ _ (by omega), padk_length _ _ (by omega)])
    refine ⟨_, .head _, _, .head _, fun hT => hne ?_, h2⟩
    unfold tin at hT
    obtain ⟨_, h3⟩ := List.append_inj hT (by rw [padk_length _ _ (by omega), padk_length _ _ (by omega)])
    obtain ⟨h4, h5⟩ := List.append_inj h3 (h.ixL.trans h'.ixL.symm)
    obtain ⟨h6, h7⟩ := List.append_inj h5 (by rw [Ref.eight_length, Ref.eight_length])
    exact ⟨Num8.eight_inj h.slo h.shi h'.slo h'.shi h6, h7⟩
  · exact ⟨_, .tail _ (.head _), _, .tail _ (.head _), hU, hs⟩
theorem endT_node (t : Bool) (k v r : List UInt8) : endT t k v ≠ 1 :: r := by
  cases t <;> simp [endT]
theorem endT_inj {t t' : Bool} {k k' v v' : List UInt8} (hk : k.length = 32) (hk' : k'.length = 32) (h : endT t k v = endT t' k' v') : t = t' ∧ (t = true → k = k' ∧ v = v') := by
  cases t <;> cases t' <;> simp [endT] at h ⊢
  exact List.append_inj h (hk.trans hk'.symm)
theorem looks_pair {id : List UInt8} {f f' : Foun} {R R' S S' : List (List UInt8)} {t t' : Bool} {k k' v v' root : List UInt8} (hf : f.Ok) (hf' : f'.Ok) (b0 : 0 ≤ f.n) (b1 : f.n ≤ 4611686018427387904) (b2 : 0 ≤ f'.n) (b3 : f'.n ≤ 4611686018427387904) (hR : All32 R) (hR' : All32 R') (hRl : R.length ≤ 1000000) (hRl' : R'.length ≤ 1000000) (hS : All32 S) (hS' : All32 S')
    (l1 : linkP id f) (l2 : linkP id f') (s1 : stdP id false (f.n + R.length) (lksL id f.n f.link R) S t k v root) (s2 : stdP id false (f'.n + R'.length) (lksL id f'.n f'.link R') S' t' k' v' root) (v1 : valueP f) (v2 : valueP f')
    (hne : ¬ (f.n + (R.length : Int) = f'.n + (R'.length : Int) ∧ lksL id f.n f.link R = lksL id f'.n f'.link R' ∧ (f.n ≠ f'.n ∨ f.ix ≠ f'.ix ∨ (f.there = f'.there ∧ (f.there = true → f.seq = f'.seq ∧ f.text = f'.text))))) :
    Up.Pair (lookT id f R S t k v) (lookT id f' R' S' t' k' v') := by
  unfold lookT
  by_cases hm : f.n + (R.length : Int) = f'.n + (R'.length : Int) ∧ lksL id f.n f.link R = lksL id f'.n f'.link R'
  · obtain ⟨hm1, hm2⟩ := hm
    have hne2 : f.n = f'.n ∧ f.ix = f'.ix ∧ ¬ (f.there = f'.there ∧ (f.there = true → f.seq = f'.seq ∧ f.text = f'.text)) := by
      refine ⟨Classical.byContradiction fun h => hne ⟨hm1, hm2, .inl h⟩, Classical.byContradiction fun h => hne ⟨hm1, hm2, .inr (.inl h)⟩, fun h => hne ⟨hm1, hm2, .inr (.inr h)⟩⟩
    obtain ⟨hn, hix, hd⟩ := hne2
    have hlen : R.length = R'.length := by omega
    rw [← hn] at hm2
    rcases chain_down id R R' f.n f.link f'.link hlen hR hR' hm2 with hp | hl
    · rw [← hn]
      exact Up.pair_left (Up.pair_left (Up.pair_left (pair_tail hp)))
    · have hroot : firstT id f = firstT id f' → f.root = f'.root := by
        intro he
        unfold firstT at he
        unfold linkP at l1 l2
        rw [← hn] at he l2
        by_cases h0 : f.n = 0
        · rw [if_pos h0] at l1 l2
          exact l1.2.trans l2.2.symm
        · rw [if_neg h0, if_neg h0] at he
          exact (link_inj hf.rootL hf'.rootL he).1
      have hsum : sha (firstT id f) = sha (firstT id f') := by
        have e1 : sha (firstT id f) = f.link := by
          unfold firstT; unfold linkP at l1
          split at l1
          · rename_i h; rw [if_pos h, l1.1]; rfl
          · rename_i h; rw [if_neg h, l1]; rfl
        have e2 : sha (firstT id f') = f'.link := by
          unfold firstT; unfold linkP at l2
          split at l2
          · rename_i h; rw [if_pos h, l2.1]; rfl
          · rename_i h; rw [if_neg h, l2]; rfl
        rw [e1, e2, hl]
      by_cases hft : firstT id f = firstT id f'
      · obtain ⟨p1, p2, p3⟩ := v1
        obtain ⟨q1, q2, q3⟩ := v2
        by_cases he : endT f.pt f.pk f.pv = endT f'.pt f'.pk f'.pv
        · obtain ⟨e1, e2⟩ := endT_inj hf.pkL hf'.pkL he
          have hth : f.there = f'.there := by
            rw [p2, q2, e1, hix]
            cases hpt : f'.pt with
            | false => rfl
            | true => rw [(e2 (e1.trans hpt)).1]
          have htt : f.there = true := by
            cases h : f.there with
            | true => rfl
            | false => exact absurd ⟨hth, fun h' => by rw [h] at h'; cases h'⟩ hd
          have htt' : f'.there = true := hth ▸ htt
          have hpt : f.pt = true := by
            rw [htt] at p2
            exact (Bool.and_eq_true_iff.1 p2.symm).1
          obtain ⟨m1, m2⟩ := p3 htt
          obtain ⟨m3, m4⟩ := q3 htt'
          refine Up.pair_right ?_
          unfold cmtT
          rw [if_pos htt, if_pos htt']
          refine cmt_pair hf hf' ?_ (fun h => hd ⟨hth, fun _ => h⟩)
          rw [sha_tout hf.opL, sha_tout hf'.opL, m2, m4, m1, m3, (e2 hpt).2]
        · refine Up.pair_left (Up.pair_right ?_)
          rw [← hix] at q1 ⊢
          exact Up.law2 (bit f.ix) (sumAt f.S) (sumAt f'.S) (sumAt_length hf.sums) (sumAt_length hf'.sums) f.S.length f'.S.length _ _ (endT_node _ _ _) (endT_node _ _ _) he (p1.trans ((hroot hft).trans q1.symm))
      · exact Up.pair_left (Up.pair_left (Up.pair_left ⟨_, List.mem_cons_self .., _, List.mem_cons_self .., hft, hsum⟩))
  · refine Up.pair_left (Up.pair_left (Up.pair_right ?_))
    obtain ⟨rfl, rfl, rfl, e0⟩ := s1
    obtain ⟨rfl, rfl, rfl, e1⟩ := s2
    refine stands_pair _ _ hS hS' (by omega) (by omega) (by omega) (by omega) (e0.trans e1.symm) (fun h => hm ?_)
    rcases h.2 with h | h
    · cases h
    · exact h
end Stn
end Go.Proofs.YtmonkggoilhngaaGreatDoor
/- An answer to a look, opened. Conditions: none beyond the bounds of bytes. -/
namespace Go.Proofs.YtmonkggoilhngaaGreatDoor
open Go.RowKit Bits Mem Sha
namespace Stn
open Ref (RdL All32)
theorem ans_any {σ σ' : Ab.S} {A : Array Value} (h : Ab.CT σ A.toList Ab.answerK) : Ab.CT σ' A.toList Ab.ansAny := by
  refine ⟨by rw [Ab.ansAny, List.length_map]; exact h.1, fun i κ hi => ?_⟩
  rw [Ab.ansAny, List.getElem?_map] at hi
  obtain ⟨κ', h1, h2⟩ := Option.map_eq_some_iff.1 hi
  obtain ⟨v, h3, h4⟩ := h.2 i κ' h1
  have hn : Ab.answerK.all Ab.nw = true := by decide +kernel
  refine ⟨v, h3, ?_⟩
  subst h2
  unfold Ab.toAny
  split
  · exact h4
  · exact h4.one (List.all_eq_true.1 hn κ' (List.mem_of_getElem? h1))
structure FoundIs (w : World) (F : Array Value) (f : Foun) (C : Array Value) (qs : Option Addr) (cs : Nat) (qv : Option Addr) (cv : Nat) : Prop where
  size : F.size = 343
  c0 : F[0]? = some (.int .i64 f.n)
  ixP : PartAt F 1 (bysA f.ix)
  c113 : F[113]? = some (.bool f.there)
  c114 : F[114]? = some (.int .i64 f.seq)
  c115 : F[115]? = some (.slice qv f.text.length cv)
  markP : PartAt F 116 (bysA f.mark)
  opP : PartAt F 148 (bysA f.op)
  pat : PartAt F 180 C
  rootP : PartAt F 246 (bysA f.root)
  linkP : PartAt F 278 (bysA f.link)
  aheadP : PartAt F 310 (bysA f.ahead)
  prf : ProofIs w C qs cs f.S f.pt f.pk f.pv
  textR : Rd w 1 (.slice qv f.text.length cv) f.text.length (bys f.text)
  ok : f.Ok
theorem FoundIs.below {w w' : World} {F : Array Value} {f : Foun} {C : Array Value} {qs : Option Addr} {cs : Nat} {qv : Option Addr} {cv : Nat} (h : FoundIs w F f C qs cs qv cv) (hb : Below w.heap.size w w') : FoundIs w' F f C qs cs qv cv := { h with prf := h.prf.below hb, textR := h.textR.below hb }
structure LAns (w : World) (A F U : Array Value) (ql : Option Addr) (cl : Nat) (R : List (List UInt8)) : Prop where
  size : A.size = 646
  kind : ∃ k : Int, A[0]? = some (.int .i64 k)
  err : ∃ k : Int, A[1]? = some (.int .i64 k)
  fouP : PartAt A 3 F
  undP : PartAt A 379 U
  c378 : A[378]? = some (.slice ql R.length cl)
  row : RdL w (.slice ql R.length cl) R
  few : R.length ≤ 256
  typ : Ab.CT Ab.tabS A.toList Ab.ansAny
theorem LAns.below {w w' : World} {A F U : Array Value} {ql : Option Addr} {cl : Nat} {R : List (List UInt8)} (h : LAns w A F U ql cl R) (hb : Below w.heap.size w w') : LAns w' A F U ql cl R := { h with row := h.row.below hb }
def LookOk (w : World) (A : Array Value) : Prop := A.all (·.oneCell') = true ∧ ∃ F U C qf cf qv cv f ql cl R, LAns w A F U ql cl R ∧ FoundIs w F f C qf cf qv cv ∧ ∃ C qs cs S there key val n root sg log ql cl L, UndIs w U C qs cs S there key val n root sg log ql cl L
theorem LookOk.below {w w' : World} {A : Array Value} (h : LookOk w A) (hb : Below w.heap.size w w') : LookOk w' A := by
  obtain ⟨h0, F, U, C, qf, cf, qv, cv, f, ql, cl, R, h1, h2, C', qs, cs, S, there, key, val, n, root, sg, log, ql', cl', L, h3⟩ := h
  exact ⟨h0, F, U, C, qf, cf, qv, cv, f, ql, cl, R, h1.below hb, h2.below hb, C', qs, cs, S, there, key, val, n, root, sg, log, ql', cl', L, h3.below hb⟩
theorem LookOk.size {w : World} {A : Array Value} (h : LookOk w A) : A.size = 646 := by
  obtain ⟨_, F, U, C, qf, cf, qv, cv, f, ql, cl, R, h1, _⟩ := h
  exact h1.size
theorem look_open {σ : Ab.S} {w : World} (hw : Ab.WT Ab.gtL σ w) {A : Array Value} (h : Ab.CT σ A.toList Ab.answerK) : LookOk w A := by
  obtain ⟨h0, M, U, hA, _, C, qs, cs, S, there, key, val, n, root, sg, log, ql, cl, L, hU⟩ := ans_open hw h
  have hs := hA.size
  obtain ⟨_, e3, n0, rfl, hn1, hn2⟩ := CT_at h (i := 3) (κ := .int .i64) (by kernel_rfl)
  obtain ⟨ix, hxl, hxp⟩ := CT_part h (o := 4) (n := 32) (by kernel_rfl)
  obtain ⟨_, e116, th, rfl⟩ := CT_at h (i := 116) (κ := .bool) (by kernel_rfl)
  obtain ⟨_, e117, sq, rfl, hq1, hq2⟩ := CT_at h (i := 117) (κ := .int .i64) (by kernel_rfl)
  obtain ⟨vt, e118, hvt⟩ := CT_at h (i := 118) (κ := .sl 1) (by kernel_rfl)
  obtain ⟨qv, cv, tx, rfl, htx, _, htl⟩ := Ab.SS.rd (c := Ab.cx []) hw (Ab.SL.ss hvt)
  obtain ⟨mk, hml, hmp⟩ := CT_part h (o := 119) (n := 32) (by kernel_rfl)
  obtain ⟨op, hol, hop⟩ := CT_part h (o := 151) (n := 32) (by kernel_rfl)
  obtain ⟨vs, e183, hvs⟩ := CT_at h (i := 183) (κ := .ow 32 256) (by kernel_rfl)
  obtain ⟨qf, cf, PS, rfl, hSr, hSl⟩ := OW_rdL hw hvs
  obtain ⟨_, e184, pt, rfl⟩ := CT_at h (i := 184) (κ := .bool) (by kernel_rfl)
  obtain ⟨pk, hkl, hkp⟩ := CT_part h (o := 185) (n := 32) (by kernel_rfl)
  obtain ⟨pv, hpl, hpp⟩ := CT_part h (o := 217) (n := 32) (by kernel_rfl)
  obtain ⟨rt, hrl, hrp⟩ := CT_part h (o := 249) (n := 32) (by kernel_rfl)
  obtain ⟨lk, hll, hlp⟩ := CT_part h (o := 281) (n := 32) (by kernel_rfl)
  obtain ⟨ah, hal, hap⟩ := CT_part h (o := 313) (n := 32) (by kernel_rfl)
  obtain ⟨vl, e378, hvl2⟩ := CT_at h (i := 378) (κ := .ow 32 256) (by kernel_rfl)
  obtain ⟨qr, cr, R, rfl, hRr, hRl⟩ := OW_rdL hw hvl2
  have hF : (cut A 3 343).size = 343 := cut_size (by omega)
  have hP : (cut (cut A 3 343) 180 66).size = 66 := cut_size (by omega)
  refine ⟨h0, cut A 3 343, U, cut (cut A 3 343) 180 66, qf, cf, qv, cv, ⟨n0, ix, th, sq, tx, mk, op, PS, pt, pk, pv, rt, lk, ah⟩, qr, cr, R, ⟨hs, hA.kind, hA.err, cut_part _ _ _, hA.undP, e378, hRr, hRl, ans_any h⟩, ?_, C, qs, cs, S, there, key, val, n, root, sg, log, ql, cl, L, hU⟩
  exact ⟨hF, (cut_get (by decide)).trans e3, PartAt.cut hxp (by rw [bysA_size]; dsimp only; omega), (cut_get (by decide)).trans e116, (cut_get (by decide)).trans e117, (cut_get (by decide)).trans e118, PartAt.cut hmp (by rw [bysA_size]; dsimp only; omega), PartAt.cut hop (by rw [bysA_size]; dsimp only; omega), cut_part _ _ _, PartAt.cut hrp (by rw [bysA_size]; dsimp only; omega), PartAt.cut hlp (by rw [bysA_size]; dsimp only; omega), PartAt.cut hap (by rw [bysA_size]; dsimp only; omega),
    ⟨hP, (cut_get (by decide)).trans ((cut_get (by decide)).trans e183), (cut_get (by decide)).trans ((cut_get (by decide)).trans e184), PartAt.cut (PartAt.cut hkp (by rw [bysA_size]; dsimp only; omega)) (by rw [bysA_size]; dsimp only; omega), PartAt.cut (PartAt.cut hpp (by rw [bysA_size]; dsimp only; omega)) (by rw [bysA_size]; dsimp only; omega), hkl, hpl, hSr, hSl⟩,
    htx, ⟨hxl, hml, hol, hkl, hpl, hrl, hll, hal, hSr.1, hSl, htl, hn1, hn2, hq1, hq2⟩⟩
theorem told_look {w : World} (hT : Ab.WT Ab.gtL Ab.tabS w) {q : Option Addr} {c : Nat} {X : List UInt8} (hx : Rd w 1 (.slice q X.length c) X.length (bys X)) (hq : Ab.CellsAt w q) (hl : X.length ≤ 1000000) :
    Calls Tryz.prog 5 #[.slice q X.length c] w fun e w' => ∃ A z, e = .returned (.tuple #[.agg A, .int .i64 z]) ∧ LookOk w' A ∧ Below w.heap.size w w' := by
  obtain ⟨σ, h1, h2, h3⟩ := Ab.arg_open hT hx hq hl
  refine (Ab.told_calls h1 (Ab.VTs.mk1 h2)).2.mono ?_
  rintro _ w' ⟨v, rfl, σ', g1, g2, x, y, rfl, ⟨A, rfl, hA⟩, ⟨z, rfl, _⟩⟩
  exact ⟨A, z, rfl, look_open g2 hA, g1.ro h3⟩
end Stn
end Go.Proofs.YtmonkggoilhngaaGreatDoor
/- Is an epoch's link one? Conditions: none beyond the bounds of bytes. -/
namespace Go.Proofs.YtmonkggoilhngaaGreatDoor
set_option linter.unusedVariables false
set_option linter.unusedSimpArgs false
open Go.RowKit Bits Mem Sha
namespace Stn
open Ref (RdL All32 linkText nextLink firstLink)
theorem infoFound : (Tryz.prog.info? 34).map (·.size) = some 343 := by kernel_rfl
set_option maxRecDepth 100000 in
set_option maxHeartbeats 4000000 in
theorem empty_any {w : World} (hS : Sha.Tabs w) : Calls Tryz.prog 53 #[] w fun e w' => e = .returned (.agg (bysA (sha [2]))) ∧ Below w.heap.size w w' := by
  obtain ⟨w1, hw1⟩ : ∃ w1, w1 = w.alloc (.cells (bysA zeros32) 22) := ⟨_, rfl⟩
  have hb1 : Below w.heap.size w w1 := by rw [hw1]; exact (Below.refl _ _).alloc (Nat.le_refl _) _
  have hr1 : w1.heap[w.heap.size]? = some (.cells (bysA zeros32) 22 (0, 0)) := by rw [hw1]; exact heap_alloc_new w _
  obtain ⟨w2, hw2⟩ : ∃ w2, w2 = w1.alloc (.cells #[.int .u8 2] 5) := ⟨_, rfl⟩
  have hb2 : Below w1.heap.size w1 w2 := by rw [hw2]; exact (Below.refl _ _).alloc (Nat.le_refl _) _
  have hr2 : Rd w2 1 (.slice (some ⟨w1.heap.size, 0, none⟩) 1 1) 1 (bys [2]) := by rw [hw2]; exact Rd_lit w1 #[.int .u8 2] 5 1 1 rfl (by decide)
  obtain ⟨w3, hw3⟩ : ∃ w3, w3 = w2.alloc (.cells #[.slice (some ⟨w1.heap.size, 0, none⟩) 1 1] 23) := ⟨_, rfl⟩
  have hb3 : Below w2.heap.size w2 w3 := by rw [hw3]; exact (Below.refl _ _).alloc (Nat.le_refl _) _
  have hb13 := hb2.trans (hb3.mono hb2.size)
  have HB3 := Lib.hid (hb1.trans (hb13.mono hb1.size))
  have HR3 := Lib.hid (Rp.row_le hb13 hr1)
  have HSU : Hid (Calls Tryz.prog 19 #[.slice (some ⟨w2.heap.size, 0, none⟩) 1 1] w3 fun e w' => e = .returned (.agg (bysA (sha [2]))) ∧ Below w3.heap.size w3 w') := Lib.hid (by
    have := parts_any (some ⟨w2.heap.size, 0, none⟩) 1 [[2]] w3 (hS.below (hb1.trans (hb13.mono hb1.size))) (by rw [hw3]; exact Fnd.partsF w2 [2] _ ⟨_, _, rfl, hr2⟩) (by simp)
    simpa using this)
  have HM := Lib.hid (sha_length [2])
  obtain ⟨R, hR⟩ : ∃ R, R = sha [2] := ⟨_, rfl⟩
  rw [← hR] at HM HSU ⊢
  have HIM := Lib.hid (info32r R HM.out)
  have hs1 : w1.heap.size = w.heap.size + 1 := by rw [hw1]; simp
  have hs2 : w2.heap.size = w.heap.size + 1 + 1 := by rw [hw2]; simp [hs1]
  rw [hs2] at HSU
  have HW3 : Hid (w3 = ((w.alloc (.cells (bysA zeros32) 22)).alloc (.cells #[.int .u8 2] 5)).alloc (.cells #[.slice (some ⟨w.heap.size + 1, 0, none⟩) 1 1] 23)) := Lib.hid (by rw [hw3, hs1, hw2, hw1])
  clear hS hw1 hw2 hw3 hb1 hb2 hb3 hb13 hr1 hr2 hR hs1 hs2
  go_enter Tryz.func53, Tryz.ntmps53
  go_wp2_with fail
  rw [z32S, ← HW3.out]
  refine HSU.out.mono ?_
  rintro e w4 ⟨rfl, hb4⟩
  have HR4 := Lib.hid (Rp.row_le hb4 HR3.out)
  have HB4 := Lib.hid (HB3.out.trans (hb4.mono HB3.out.size))
  clear hb4
  go_wp2_with (refine Rg.store_row rfl 22 _ _ rfl w.heap.size rfl 22 (bysA zeros32) (bysA R) rfl HR4.out HIM.out (by rw [bysA_size, bysA_size, HM.out]; rfl) (bysA_one _) ?_)
  refine bodyPost_ret (v := .agg (bysA R)) (results_cell_row (P := Tryz.prog) rfl _ _ w.heap.size 22 (bysA R) (0, 0) _ rfl (setRow_heap _ _ _ _ 22 _ HR4.out) Tryz.underlying22 rfl HIM.out) rfl ⟨rfl, ?_⟩
  exact Rg.below_setRow HB4.out (Nat.le_refl _) _
set_option maxRecDepth 100000 in
set_option maxHeartbeats 4000000 in
theorem link_any {w : World} {qi : Option Addr} {ci : Nat} {id : List UInt8} {F C : Array Value} {f : Foun} {qs : Option Addr} {cs : Nat} {qv : Option Addr} {cv : Nat}
    (hS : Sha.Tabs w) (hid : Rd w 1 (.slice qi id.length ci) id.length (bys id)) (hil : id.length ≤ 1000000) (hF : FoundIs w F f C qs cs qv cv) :
    Calls Tryz.prog 24 #[.slice qi id.length ci, .agg F] w fun e w' => ∃ b, e = .returned (.bool b) ∧ (b = true → linkP id f) ∧ Below w.heap.size w w' := by
  obtain ⟨w1, hw1⟩ : ∃ w1, w1 = w.alloc (.cells F 34) := ⟨_, rfl⟩
  have hb1 : Below w.heap.size w w1 := by rw [hw1]; exact (Below.refl _ _).alloc (Nat.le_refl _) _
  have hr1 : w1.heap[w.heap.size]? = some (.cells F 34 (0, 0)) := by rw [hw1]; exact heap_alloc_new w _
  have c0 : w1.cell? ⟨w.heap.size, 0, none⟩ = some (.int .i64 f.n) := (cell_of_row _ _ _ _ _ _ hr1).trans hF.c0
  have HS := Lib.hid (hS.below hb1)
  have HI := Lib.hid (hid.below hb1)
  have HF := Lib.hid hF
  have HR1 := Lib.hid hr1
  have HB1 := Lib.hid hb1
  have HW1 := Lib.hid hw1
  have HLK := Lib.hid (info32r f.link hF.ok.linkL)
  have HRT := Lib.hid (info32r f.root hF.ok.rootL)
  have HAH := Lib.hid (info32r f.ahead hF.ok.aheadL)
  have HC0 := Lib.hid c0
  have hlk := hF.ok.linkL
  have hrt := hF.ok.rootL
  rw [hw1] at c0
  clear hS hid hF hr1 hb1 hw1
  obtain ⟨lk, hlk1⟩ : ∃ l, l = f.link := ⟨_, rfl⟩
  obtain ⟨rt, hrt1⟩ : ∃ l, l = f.root := ⟨_, rfl⟩
  obtain ⟨nn, hnn⟩ : ∃ l, l = f.n := ⟨_, rfl⟩
  rw [← hlk1] at hlk HLK
  rw [← hrt1] at hrt HRT
  rw [← hnn] at c0 HC0
  have HLE := Lib.hid hlk1
  have HRE := Lib.hid hrt1
  have HNE := Lib.hid hnn
  have HLL := Lib.hid hlk
  have HRL := Lib.hid hrt
  clear hlk1 hrt1 hlk hrt hnn
  by_cases hn : nn = 0
  · subst hn
    obtain ⟨A, hA⟩ : ∃ A, A = firstLink id := ⟨_, rfl⟩
    obtain ⟨E, hE⟩ : ∃ E, E = sha [2] := ⟨_, rfl⟩
    have hAl : A.length = 32 := by rw [hA]; exact sha_length _
    have hEl : E.length = 32 := by rw [hE]; exact sha_length _
    have HFI : Hid (∀ x, Below w1.heap.size w1 x → Calls Tryz.prog 52 #[.slice qi id.length ci] x fun e w' => e = .returned (.agg (bysA A)) ∧ Below x.heap.size x w') := Lib.hid (fun x hx => by rw [hA]; exact Ref.first_any qi ci id x (HS.out.below hx) (HI.out.below hx) hil)
    have HEM : Hid (∀ x, Below w1.heap.size w1 x → Calls Tryz.prog 53 #[] x fun e w' => e = .returned (.agg (bysA E)) ∧ Below x.heap.size x w') := Lib.hid (fun x hx => by rw [hE]; exact empty_any (HS.out.below hx))
    have HAE := Lib.hid hA
    have HEE := Lib.hid hE
    have HAL := Lib.hid hAl
    have HEL := Lib.hid hEl
    clear hA hE hAl hEl
    obtain ⟨b1, hb1⟩ : ∃ b, (lk == A) = b := ⟨_, rfl⟩
    obtain ⟨b2, hb2⟩ : ∃ b, (rt == E) = b := ⟨_, rfl⟩
    have HQ1 : Hid (∀ x, (Op.equalIn 10000 22 (.agg (bysA lk)) (.agg (bysA A))).run Tryz.prog x = .ok b1 x) := Lib.hid (fun x => by
      rw [← hb1]
      exact run_equalIn_bytes (P := Tryz.prog) x 9998 22 5 32 Tryz.underlying22 Tryz.underlying5 Ref.size_u8 lk A HLL.out HAL.out)
    have HBE1 := Lib.hid hb1
    have HBE2 := Lib.hid hb2
    clear hb1 hb2
    go_enter Tryz.func24, Tryz.ntmps24
    go_wp2_with fail
    rw [← HW1.out]
    cases b1 with
    | false =>
      refine Rc.region (w1.heap.size) 11 [Rc.F 3 (fun _ => .agg (bysA A)) (fun _ _ _ => True)] [] (by kernel_rfl) (Nat.le_refl _) (by kernel_rfl) ?_; intro p; simp only [List.take, List.drop]
      iterate 1 (refine Rc.rK rfl rfl ?_; intro K hK; apply Exists.intro; refine ⟨?_, ?_⟩; (focus (intro x hx;  go_simp; (first | (fail) | ((try go_bits); (try go_simp); (try rfl))))); go_simp; refine hK _ ?_; clear hK K)
      refine Rc.r_load rfl rfl _ _ rfl (.agg (bysA lk)) (fun x hx => by rw [HLE.out]; exact HF.out.linkP.load (Rp.row_le (Rc.undrew hx) HR1.out) Tryz.underlying22 rfl (by rw [← HLE.out]; exact HLK.out)) ?_; intro K hK; go_simp; refine hK _ ?_; clear hK K
      iterate 1 (refine Rc.rK rfl rfl ?_; intro K hK; apply Exists.intro; refine ⟨?_, ?_⟩; (focus (intro x hx;  go_simp; (first | (fail) | ((try go_bits); (try go_simp); (try rfl))))); go_simp; refine hK _ ?_; clear hK K)
      refine Rc.fK rfl rfl rfl rfl ?_ ?_
      · intro x Fs hx hle hg K' hK'
        have hck := HFI.out x (Rc.undrew hx)
        clear hx hg
        go_wp2_with fail
        refine hck.mono ?_
        rintro e x' ⟨rfl, hb⟩
        go_wp2_with fail
        exact hK' Rc.dflt x' hb (fun _ _ _ _ => trivial)
      intro K hK; go_simp; refine hK _ ?_; clear hK K
      have hbe := HBE1.out
      have hll := HLL.out
      have hal := HAL.out
      iterate 2 (refine Rc.rK rfl rfl ?_; intro K hK; apply Exists.intro; refine ⟨?_, ?_⟩; (focus (intro x hx;  go_simp; (first | (fail) | ((try go_bits); (try go_simp); (try rfl))))); go_simp; refine hK _ ?_; clear hK K)
      clear hbe hll hal
      iterate 4 (refine Rc.rSkip rfl rfl ?_; intro K hK; go_simp; refine hK _ ?_; clear hK K)
      iterate 1 (refine Rc.rK rfl rfl ?_; intro K hK; apply Exists.intro; refine ⟨?_, ?_⟩; (focus (intro x hx;  go_simp; (first | (fail) | ((try go_bits); (try go_simp); (try rfl))))); go_simp; refine hK _ ?_; clear hK K)
      refine Rc.done fun x Fs hx hle hg => ?_
      have HBX := Lib.hid (HB1.out.trans ((Rc.undrew hx).mono HB1.out.size))
      clear hx hle hg
      go_wp2_with fail
      refine NoPanic.normal ?_
      go_wp2_with fail
      go_ret
      exact ⟨_, rfl, fun h => (by cases h), HBX.out⟩
    | true =>
      refine Rc.region (w1.heap.size) 11 [Rc.F 3 (fun _ => .agg (bysA A)) (fun _ _ _ => True), Rc.F 8 (fun _ => .agg (bysA E)) (fun _ _ _ => True)] [] (by kernel_rfl) (Nat.le_refl _) (by kernel_rfl) ?_; intro p; simp only [List.take, List.drop]
      iterate 1 (refine Rc.rK rfl rfl ?_; intro K hK; apply Exists.intro; refine ⟨?_, ?_⟩; (focus (intro x hx;  go_simp; (first | (fail) | ((try go_bits); (try go_simp); (try rfl))))); go_simp; refine hK _ ?_; clear hK K)
      refine Rc.r_load rfl rfl _ _ rfl (.agg (bysA lk)) (fun x hx => by rw [HLE.out]; exact HF.out.linkP.load (Rp.row_le (Rc.undrew hx) HR1.out) Tryz.underlying22 rfl (by rw [← HLE.out]; exact HLK.out)) ?_; intro K hK; go_simp; refine hK _ ?_; clear hK K
      iterate 1 (refine Rc.rK rfl rfl ?_; intro K hK; apply Exists.intro; refine ⟨?_, ?_⟩; (focus (intro x hx;  go_simp; (first | (fail) | ((try go_bits); (try go_simp); (try rfl))))); go_simp; refine hK _ ?_; clear hK K)
      refine Rc.fK rfl rfl rfl rfl ?_ ?_
      · intro x Fs hx hle hg K' hK'
        have hck := HFI.out x (Rc.undrew hx)
        clear hx hg
        go_wp2_with fail
        refine hck.mono ?_
        rintro e x' ⟨rfl, hb⟩
        go_wp2_with fail
        exact hK' Rc.dflt x' hb (fun _ _ _ _ => trivial)
      intro K hK; go_simp; refine hK _ ?_; clear hK K
      have hbe := HBE1.out
      have hll := HLL.out
      have hal := HAL.out
      iterate 2 (refine Rc.rK rfl rfl ?_; intro K hK; apply Exists.intro; refine ⟨?_, ?_⟩; (focus (intro x hx;  go_simp; (first | (fail) | ((try go_bits); (try go_simp); (try rfl))))); go_simp; refine hK _ ?_; clear hK K)
      clear hbe hll hal
      iterate 1 (refine Rc.rK rfl rfl ?_; intro K hK; apply Exists.intro; refine ⟨?_, ?_⟩; (focus (intro x hx;  go_simp; (first | (fail) | ((try go_bits); (try go_simp); (try rfl))))); go_simp; refine hK _ ?_; clear hK K)
      refine Rc.r_load rfl rfl _ _ rfl (.agg (bysA rt)) (fun x hx => by rw [HRE.out]; exact HF.out.rootP.load (Rp.row_le (Rc.undrew hx) HR1.out) Tryz.underlying22 rfl (by rw [← HRE.out]; exact HRT.out)) ?_; intro K hK; go_simp; refine hK _ ?_; clear hK K
      refine Rc.fK rfl rfl rfl rfl ?_ ?_
      · intro x Fs hx hle hg K' hK'
        have hck := HEM.out x (Rc.undrew hx)
        clear hx hg
        refine Ref.unguard16 (by rfl) ?_
        go_wp2_with fail
        refine hck.mono ?_
        rintro e x' ⟨rfl, hb⟩
        go_wp2_with fail
        exact hK' Rc.dflt x' hb (fun _ _ _ _ => trivial)
      intro K hK; go_simp; refine hK _ ?_; clear hK K
      have hrl := HRL.out
      have hel := HEL.out
      iterate 1 (refine Rc.rK rfl rfl ?_; intro K hK; apply Exists.intro; refine ⟨?_, ?_⟩; (focus (intro x hx;  go_simp; (first | (fail) | ((try go_bits); (try go_simp); (try rfl))))); go_simp; refine hK _ ?_; clear hK K)
      iterate 1 (refine Rc.rK rfl rfl ?_; intro K hK; apply Exists.intro; refine ⟨?_, ?_⟩; (focus (intro x hx;  go_simp; (first | (fail) | ((try go_bits); (try go_simp); (try rfl))))); go_simp; refine hK _ ?_; clear hK K)
      refine Rc.done fun x Fs hx hle hg => ?_
      have HBX := Lib.hid (HB1.out.trans ((Rc.undrew hx).mono HB1.out.size))
      clear hx hle hg hrl hel
      go_wp2_with fail
      refine NoPanic.normal ?_
      go_wp2_with fail
      go_ret
      refine ⟨_, rfl, fun h => ?_, HBX.out⟩
      unfold linkP
      rw [← HNE.out, if_pos rfl, ← HLE.out, ← HRE.out, ← HAE.out, ← HEE.out]
      exact ⟨eq_of_beq HBE1.out, eq_of_beq h⟩
  · obtain ⟨A, hA⟩ : ∃ A, A = nextLink id f.n f.root f.ahead := ⟨_, rfl⟩
    have hAl : A.length = 32 := by rw [hA]; exact sha_length _
    have hA2 := hA
    rw [← HNE.out, ← HRE.out] at hA2
    have HNX : Hid (∀ x, Below w1.heap.size w1 x → Calls Tryz.prog 54 #[.slice qi id.length ci, .int .i64 nn, .agg (bysA rt), .agg (bysA f.ahead)] x fun e w' => e = .returned (.agg (bysA A)) ∧ Below x.heap.size x w') := Lib.hid (fun x hx => by rw [hA2]; exact Ref.next_any qi ci id nn rt f.ahead x (HS.out.below hx) (HI.out.below hx) hil HRL.out HF.out.ok.aheadL)
    have HAE := Lib.hid hA
    have HAL := Lib.hid hAl
    clear hA hA2 hAl
    obtain ⟨ah, hah⟩ : ∃ l, l = f.ahead := ⟨_, rfl⟩
    rw [← hah] at HNX HAH
    have HAHE := Lib.hid hah
    clear hah
    have h1 : (nn == 0) = false := by simpa using hn
    go_enter Tryz.func24, Tryz.ntmps24
    go_wp2_with fail
    rw [← HW1.out]
    refine Rc.region (w1.heap.size) 11 [Rc.F 9 (fun _ => .agg (bysA A)) (fun _ _ _ => True)] [] (by kernel_rfl) (Nat.le_refl _) (by kernel_rfl) ?_; intro p; simp only [List.take, List.drop]
    iterate 1 (refine Rc.rK rfl rfl ?_; intro K hK; apply Exists.intro; refine ⟨?_, ?_⟩; (focus (intro x hx;  go_simp; (first | (fail) | ((try go_bits); (try go_simp); (try rfl))))); go_simp; refine hK _ ?_; clear hK K)
    refine Rc.r_load rfl rfl _ _ rfl (.agg (bysA lk)) (fun x hx => by rw [HLE.out]; exact HF.out.linkP.load (Rp.row_le (Rc.undrew hx) HR1.out) Tryz.underlying22 rfl (by rw [← HLE.out]; exact HLK.out)) ?_; intro K hK; go_simp; refine hK _ ?_; clear hK K
    iterate 2 (refine Rc.rK rfl rfl ?_; intro K hK; apply Exists.intro; refine ⟨?_, ?_⟩; (focus (intro x hx;  go_simp; (first | (fail) | ((try go_bits); (try go_simp); (try rfl))))); go_simp; refine hK _ ?_; clear hK K)
    refine Rc.r_load rfl rfl _ _ rfl (.int .i64 nn) (fun x hx => load_rowI (below_cell (Rc.undrew hx) HC0.out)) ?_; intro K hK; go_simp; refine hK _ ?_; clear hK K
    iterate 1 (refine Rc.rK rfl rfl ?_; intro K hK; apply Exists.intro; refine ⟨?_, ?_⟩; (focus (intro x hx;  go_simp; (first | (fail) | ((try go_bits); (try go_simp); (try rfl))))); go_simp; refine hK _ ?_; clear hK K)
    refine Rc.r_load rfl rfl _ _ rfl (.agg (bysA rt)) (fun x hx => by rw [HRE.out]; exact HF.out.rootP.load (Rp.row_le (Rc.undrew hx) HR1.out) Tryz.underlying22 rfl (by rw [← HRE.out]; exact HRT.out)) ?_; intro K hK; go_simp; refine hK _ ?_; clear hK K
    iterate 1 (refine Rc.rK rfl rfl ?_; intro K hK; apply Exists.intro; refine ⟨?_, ?_⟩; (focus (intro x hx;  go_simp; (first | (fail) | ((try go_bits); (try go_simp); (try rfl))))); go_simp; refine hK _ ?_; clear hK K)
    refine Rc.r_load rfl rfl _ _ rfl (.agg (bysA ah)) (fun x hx => by rw [HAHE.out]; exact HF.out.aheadP.load (Rp.row_le (Rc.undrew hx) HR1.out) Tryz.underlying22 rfl (by rw [← HAHE.out]; exact HAH.out)) ?_; intro K hK; go_simp; refine hK _ ?_; clear hK K
    refine Rc.fK rfl rfl rfl rfl ?_ ?_
    · intro x Fs hx hle hg K' hK'
      have hck := HNX.out x (Rc.undrew hx)
      clear hx hg
      go_wp2_with fail
      refine hck.mono ?_
      rintro e x' ⟨rfl, hb⟩
      go_wp2_with fail
      exact hK' Rc.dflt x' hb (fun _ _ _ _ => trivial)
    intro K hK; go_simp; refine hK _ ?_; clear hK K
    have hll := HLL.out
    have hal := HAL.out
    iterate 1 (refine Rc.rK rfl rfl ?_; intro K hK; apply Exists.intro; refine ⟨?_, ?_⟩; (focus (intro x hx;  go_simp; (first | (fail) | ((try go_bits); (try go_simp); (try rfl))))); go_simp; refine hK _ ?_; clear hK K)
    refine Rc.done fun x Fs hx hle hg => ?_
    have HBX := Lib.hid (HB1.out.trans ((Rc.undrew hx).mono HB1.out.size))
    clear hx hle hg hll hal
    go_wp2_with fail
    refine NoPanic.normal ?_
    go_wp2_with fail
    go_ret
    refine ⟨_, rfl, fun h => ?_, HBX.out⟩
    unfold linkP
    rw [← HNE.out, if_neg hn, ← HLE.out, HNE.out, ← HAE.out]
    exact eq_of_beq h
end Stn
end Go.Proofs.YtmonkggoilhngaaGreatDoor
/- Loads of cells, and guarded ones. Plain. -/
namespace Go.Proofs.YtmonkggoilhngaaGreatDoor
open Go.RowKit Bits Mem Sha
namespace Stn
theorem l_cut {P : Program} {ops : Array Oper} {Q : Exit → Act → World → Prop} {a : Act} {w : World} {o : Oper} {rest : List Oper} (hg : o.guard = none) (t : TypeId) (y z : Operand) (ho : o.op = .slice t y none (some z) none) (e : TypeId) (i : TypeInfo) (ht : P.underlying t = some (.slice e)) (hi : P.info? e = some i)
    (q : Option Addr) (n c k : Nat) (hy : a.eval y = .slice q n c) (hz : a.eval z = .int .i64 (k : Int)) (hk : k ≤ c)
    (h : wpList P ops Q rest (a.put o.dst (.slice q k c)) w) : wpList P ops Q (o :: rest) a w :=
  wpList_plain hg fun _ hK => by
    have hr := Rp.run_cut (P := P) t e i ht hi q n c k hk w
    unfold Oper.wp execOp
    simp only [ho, hy, hz, Option.map_some, Option.map_none, Instr.sliceAt, Sem.run_bind, run_underlying ht, hr, Result.andThen_ok, Sem.run_pure]
    first | exact hK _ _ h | (simp [hr]; exact hK _ _ h)
noncomputable def zA : Array Value := Tryz.zeroCells45
theorem zA_size : zA.size = 646 := by decide +kernel
theorem infoAns : (Tryz.prog.info? 45).map (·.size) = some 646 := by kernel_rfl
theorem load_rowB {x : World} {b off : Nat} {v : Value} (h : x.cell? ⟨b, off, none⟩ = some v) : (Instr.loadAt 4 (.pointer (some ⟨b, off, none⟩))).run Tryz.prog x = .ok v x := by
  simp [Instr.loadAt, Instr.sureAddr, loadVar, isAgg, run_underlying Tryz.underlying4, h]
theorem AnsIs.on {w w' : World} {A M U : Array Value} (h : AnsIs w A M U) : AnsIs w' A M U := ⟨h.size, h.kind, h.err, h.memP, h.undP⟩
theorem l_loadP {P : Program} {ops : Array Oper} {Q : Exit → Act → World → Prop} {a : Act} {w : World} {o : Oper} {rest : List Oper} (hg : o.guard = none) (ty : TypeId) (y : Operand) (ho : o.op = .load ty y) (p : Value) (hy : a.eval y = p) (v : Value)
    (hrun : (Instr.loadAt ty p).run P w = .ok v w) (h : wpList P ops Q rest (a.put o.dst v) w) : wpList P ops Q (o :: rest) a w := l_load hg ty y ho v (by rw [hy]; exact hrun) h
theorem l_loadG {P : Program} {ops : Array Oper} {Q : Exit → Act → World → Prop} {a : Act} {w : World} {o : Oper} {rest : List Oper} (ty : TypeId) (y : Operand) (ho : o.op = .load ty y) (p : Value) (hy : a.eval y = p) (v : Value)
    (hrun : (Instr.loadAt ty p).run P w = .ok v w) (hw : Region.wanted o (yielded ops a.tmps) = true) (h : wpList P ops Q rest (a.put o.dst v) w) : wpList P ops Q (o :: rest) a w :=
  Ref.unguard16 hw (l_loadP (o := { o with guard := none }) rfl ty y ho p hy v hrun h)
end Stn
end Go.Proofs.YtmonkggoilhngaaGreatDoor
/- How a tenant stands by an epoch's link and the roots behind it. Conditions: none beyond the bounds of bytes. -/
namespace Go.Proofs.YtmonkggoilhngaaGreatDoor
set_option linter.unusedVariables false
set_option linter.unusedSimpArgs false
open Go.RowKit Bits Mem Sha
namespace Stn
open Ref (RdL All32 linkText nextLink firstLink range_list)
def memA (v : Value) (n : Int) (link : List UInt8) : Array Value := #[v, .bool false, .int .i64 n] ++ bysA link
theorem memA_size {v : Value} {n : Int} {link : List UInt8} (h : link.length = 32) : (memA v n link).size = 35 := by simp [memA, bysA_size, h]
theorem memA_list (v : Value) (n : Int) (link : List UInt8) : (memA v n link).toList = v :: .bool false :: .int .i64 n :: bys link := by simp [memA, bysA]
theorem memA_one {v : Value} (hv : v.oneCell' = true) (n : Int) (link : List UInt8) : (memA v n link).all (·.oneCell') = true := by
  rw [Array.all_eq_true_iff_forall_mem]
  intro u hu
  have hu : u ∈ (memA v n link).toList := by simpa using hu
  rw [memA_list] at hu
  simp only [List.mem_cons] at hu
  rcases hu with rfl | rfl | rfl | hu
  · exact hv
  · rfl
  · rfl
  · exact bys_one _ _ hu
theorem memA_c2 {v : Value} {n : Int} {link : List UInt8} : (memA v n link)[2]? = some (.int .i64 n) := by rw [← Array.getElem?_toList, memA_list]; rfl
theorem memA_linkP {v : Value} {n : Int} {link : List UInt8} : PartAt (memA v n link) 3 (bysA link) := by
  intro j u hu
  rw [← Array.getElem?_toList, memA_list, Nat.add_comm 3 j]
  simpa [bysA] using hu
theorem memA_set {v : Value} {n m : Int} {link : List UInt8} : (memA v n link).setIfInBounds 2 (.int .i64 m) = memA v m link := by
  apply Array.toList_inj.1
  rw [Array.toList_setIfInBounds, memA_list, memA_list]
  rfl
theorem memA_mid {v : Value} {n : Int} {l l' : List UInt8} (h : l.length = 32) (h' : l'.length = 32) : ((memA v n l).toList.take 3 ++ (bysA l').toList ++ (memA v n l).toList.drop (3 + (bysA l').size)).toArray = memA v n l' := by
  apply Array.toList_inj.1
  rw [memA_list, memA_list, bysA_size, h']
  have : (bys l).drop 32 = [] := List.drop_eq_nil_of_le (by rw [bys_length]; omega)
  simp [bysA, this]
theorem zeroM : (#[.slice none 0 0, .bool false, .int .i64 0, .int .u8 0, .int .u8 0, .int .u8 0, .int .u8 0, .int .u8 0, .int .u8 0, .int .u8 0, .int .u8 0, .int .u8 0, .int .u8 0, .int .u8 0, .int .u8 0, .int .u8 0, .int .u8 0, .int .u8 0, .int .u8 0, .int .u8 0, .int .u8 0, .int .u8 0, .int .u8 0, .int .u8 0, .int .u8 0, .int .u8 0, .int .u8 0, .int .u8 0, .int .u8 0, .int .u8 0, .int .u8 0, .int .u8 0, .int .u8 0, .int .u8 0, .int .u8 0] : Array Value) = memA (.slice none 0 0) 0 zeros32 := by kernel_rfl
theorem mem3a (v : Value) (n : Int) (g : Nat → UInt8) (hv : v.oneCell' = true) (q : Option Addr) (l c : Nat) (he : v = .slice q l c) : Tryz.prog.built 43 [(0, v), (2, .int .i64 n), (3, .agg (bysA ((List.range 32).map g)))] = some (memA v n ((List.range 32).map g)) := by
  subst he
  kernel_rfl
theorem mem3 (q : Option Addr) (l c : Nat) (n : Int) {link : List UInt8} (h : link.length = 32) : Tryz.prog.built 43 [(0, .slice q l c), (2, .int .i64 n), (3, .agg (bysA link))] = some (memA (.slice q l c) n link) := by
  have := mem3a (.slice q l c) n (fun i => link.getD i 0) rfl q l c rfl
  rw [range_list link h] at this
  exact this
theorem lks_take {id : List UInt8} {n : Int} {l : List UInt8} {R : List (List UInt8)} {k : Nat} (hk : k < R.length) : lksL id n l (R.take (k + 1)) = nextLink id (n + k + 1) (R.getD k []) (lksL id n l (R.take k)) := by
  have e : R.take (k + 1) = R.take k ++ [R.getD k []] := by
    rw [List.take_add_one, List.getD_eq_getElem?_getD, List.getElem?_eq_getElem hk]; rfl
  rw [e, lksL_snoc, List.length_take, Nat.min_eq_left (by omega)]
theorem lksT_take {id : List UInt8} {n : Int} {l : List UInt8} {R : List (List UInt8)} {k : Nat} (hk : k < R.length) : lksT id n l (R.take (k + 1)) = lksT id n l (R.take k) ++ [linkText id (n + k + 1) (R.getD k []) (lksL id n l (R.take k))] := by
  have e : R.take (k + 1) = R.take k ++ [R.getD k []] := by
    rw [List.take_add_one, List.getD_eq_getElem?_getD, List.getElem?_eq_getElem hk]; rfl
  rw [e, lksT_snoc, List.length_take, Nat.min_eq_left (by omega)]
set_option maxRecDepth 100000 in
set_option maxHeartbeats 4000000 in
theorem member_any {w : World} {qi : Option Addr} {ci : Nat} {id : List UInt8} {F C : Array Value} {f : Foun} {qs : Option Addr} {cs : Nat} {qv : Option Addr} {cv : Nat} {ql : Option Addr} {cl : Nat} {R : List (List UInt8)}
    (hS : Sha.Tabs w) (hid : Rd w 1 (.slice qi id.length ci) id.length (bys id)) (hil : id.length ≤ 1000000) (hF : FoundIs w F f C qs cs qv cv) (hR : RdL w (.slice ql R.length cl) R) (hRl : R.length ≤ 256) (h0 : 0 ≤ f.n) (h1 : f.n ≤ 4611686018427387904) :
    Calls Tryz.prog 25 #[.slice qi id.length ci, .agg F, .slice ql R.length cl] w fun e w' => e = .returned (.agg (memA (.slice qi id.length ci) (f.n + R.length) (lksL id f.n f.link R))) ∧ Below w.heap.size w w' := by
  obtain ⟨n, hn⟩ : ∃ n, n = f.n := ⟨_, rfl⟩
  obtain ⟨lk, hlk⟩ : ∃ l, l = f.link := ⟨_, rfl⟩
  have hlkl : lk.length = 32 := by rw [hlk]; exact hF.ok.linkL
  obtain ⟨v, hv⟩ : ∃ v, v = Value.slice qi id.length ci := ⟨_, rfl⟩
  obtain ⟨w1, hw1⟩ : ∃ w1, w1 = (w.alloc (.cells F 34)).alloc (.cells (memA (.slice none 0 0) 0 zeros32) 43) := ⟨_, rfl⟩
  have hb1 : Below w.heap.size w w1 := by rw [hw1]; exact ((Below.refl _ _).alloc (Nat.le_refl _) _).alloc (by simp) _
  have hr0 : w1.heap[w.heap.size]? = some (.cells F 34 (0, 0)) := by rw [hw1]; exact (Rg.heap_alloc_past _ _ _ (by simp)).trans (Rg.heap_alloc_at w _ _ rfl)
  have hr1 : w1.heap[w.heap.size + 1]? = some (.cells (memA (.slice none 0 0) 0 zeros32) 43 (0, 0)) := by rw [hw1]; exact Rg.heap_alloc_at _ _ _ (by simp)
  have c0 : w1.cell? ⟨w.heap.size, 0, none⟩ = some (.int .i64 n) := (cell_of_row _ _ _ _ _ _ hr0).trans (by rw [hn]; exact hF.c0)
  have HLL : Hid ((Instr.loadAt 22 (.pointer (some ⟨w.heap.size, 278, none⟩))).run Tryz.prog w1 = .ok (.agg (bysA lk)) w1) := Lib.hid (PartAt.load (by rw [hlk]; exact hF.linkP) hr0 Tryz.underlying22 rfl (info32r _ hlkl))
  have HBD := Lib.hid (mem3 qi id.length ci n hlkl)
  obtain ⟨X, hX⟩ : ∃ X, X = memA (.slice qi id.length ci) n lk := ⟨_, rfl⟩
  rw [← hX] at HBD
  have HIX : Hid ((Tryz.prog.info? 43).map (·.size) = some X.size) := Lib.hid (by rw [hX, memA_size hlkl]; exact infoMem)
  have HSX : Hid (35 = X.size) := Lib.hid (by rw [hX, memA_size hlkl])
  have HOX : Hid (X.all (·.oneCell') = true) := Lib.hid (by rw [hX]; exact memA_one rfl _ _)
  obtain ⟨w2, hw2⟩ : ∃ w2, w2 = w1.alloc (.cells X 43) := ⟨_, rfl⟩
  have hb2 : Below w1.heap.size w1 w2 := by rw [hw2]; exact (Below.refl _ _).alloc (Nat.le_refl _) _
  have hr2 : w2.heap[w1.heap.size]? = some (.cells X 43 (0, 0)) := by rw [hw2]; exact heap_alloc_new w1 _
  have hb02 := hb1.trans (hb2.mono hb1.size)
  have HS := Lib.hid hS
  have HI := Lib.hid hid
  have HRR := Lib.hid hR
  have HR1 := Lib.hid (Rp.row_le hb2 hr1)
  have hsz1 : w.heap.size + 1 < w1.heap.size := lt_of_heap hr1
  have HB2 := Lib.hid hb02
  have HW1 := Lib.hid hw1
  have HW2 := Lib.hid hw2
  have HXE := Lib.hid hX
  have HN := Lib.hid hn
  have HLK := Lib.hid hlk
  have HLKL := Lib.hid hlkl
  have HV := Lib.hid hv
  rw [← hn] at h0 h1
  have hrel0 : Hid (w2.heap[w1.heap.size]? = some (.cells (memA (.slice qi id.length ci) (n + (0 : Nat)) (lksL id n lk (R.take 0))) 43 (0, 0))) := Lib.hid (by
    rw [hr2, hX]
    simp [lksL])
  rw [hw1] at c0
  clear hS hid hF hR hw1 hw2 hb1 hb2 hb02 hr0 hr1 hr2 hX hn hlk hlkl hv
  rw [← HN.out, ← HLK.out]
  go_enter Tryz.func25, Tryz.ntmps25
  go_upto_region 1 with fail
  rw [zeroM, ← HW1.out]
  rw [← HW1.out] at c0
  go_wp2_with (first | (refine l_load rfl _ _ rfl _ HLL.out ?_; refine Hid.out ?_))
  refine Lib.hid ?_
  refine l_buildT rfl 43 #[(0, .tmp 10), (2, .tmp 12), (3, .tmp 14)] rfl X (by simp only [List.map_toArray, List.map_cons, List.map_nil]; exact HBD.out) ?_
  go_simp
  go_upto_region 2 with (refine Rg.store_row_new rfl 43 _ _ rfl w1.heap.size rfl rfl 43 _ X rfl HIX.out HSX.out HOX.out ?_)
  rw [← HW2.out]
  obtain ⟨g2, hg2⟩ : ∃ g, g = w1.heap.size := ⟨_, rfl⟩
  rw [← hg2] at hrel0 hsz1 ⊢
  clear hg2 HW1 HW2 HLL c0 HBD HXE HIX HSX HOX
  go_wp2_with fail
  go_loopw [18] (fun v wr => ∃ k : Nat, k ≤ R.length ∧ v = .int .i64 (k : Int) ∧ Hid (wr.heap[g2]? = some (.cells (memA (.slice qi id.length ci) (n + (k : Int)) (lksL id n lk (R.take k))) 43 (0, 0))) ∧ Hid (Below w.heap.size w wr) ∧ Hid (wr.heap[w.heap.size + 1]? = some (.cells (memA (.slice none 0 0) 0 zeros32) 43 (0, 0)))) (fun v _ => (R.length - (intOf v).toNat))
  case atStart => exact ⟨0, Nat.zero_le _, rfl, hrel0, HB2, HR1⟩
  case round =>
    obtain ⟨k, hk, rfl, HG2, HB, HG1⟩ := hrel
    clear hrel0 HB2 HR1
    by_cases hlt : k < R.length
    · have hltI : (k : Int) < (R.length : Int) := by omega
      obtain ⟨bp, op, hqe, hbp, hxl1, hxl2, hload⟩ := (HRR.out.below HB.out).load hlt
      subst hqe
      obtain ⟨X, hX⟩ : ∃ X, X = R.getD k [] := ⟨_, rfl⟩
      rw [← hX] at hload
      have HXL : Hid (X.length = 32) := Lib.hid (by
        rw [hX, List.getD_eq_getElem?_getD, List.getElem?_eq_getElem hlt]
        exact HRR.out.1 _ (List.getElem_mem hlt))
      obtain ⟨B, hBk⟩ : ∃ B, B = lksL id n lk (R.take k) := ⟨_, rfl⟩
      rw [← hBk] at HG2
      have HBL : Hid (B.length = 32) := Lib.hid (by rw [hBk]; exact lksL_length _ _ _ _ HLKL.out)
      obtain ⟨N, hNk⟩ : ∃ N, N = nextLink id (n + k + 1) X B := ⟨_, rfl⟩
      have HNL : Hid (N.length = 32) := Lib.hid (by rw [hNk]; exact sha_length _)
      have HNE : Hid (lksL id n lk (R.take (k + 1)) = N) := Lib.hid (by rw [lks_take hlt, hNk, hX, hBk])
      have HLX : Hid ((Instr.loadAt 22 (.pointer (some ⟨bp, op + k * 32, none⟩))).run Tryz.prog wr = .ok (.agg (bysA X)) wr) := Lib.hid (hload wr (Below.refl _ _))
      have HIXX : Hid ((Tryz.prog.info? 22).map (·.size) = some (bysA X).size) := Lib.hid (info32r X HXL.out)
      have HSXX : Hid (32 = (bysA X).size) := Lib.hid (by rw [bysA_size, HXL.out])
      have HINN := Lib.hid (info32r N HNL.out)
      have HIBB := Lib.hid (info32r B HBL.out)
      obtain ⟨wa, hwa⟩ : ∃ wa, wa = wr.alloc (.cells (bysA X) 22) := ⟨_, rfl⟩
      have hba : Below wr.heap.size wr wa := by rw [hwa]; exact (Below.refl _ _).alloc (Nat.le_refl _) _
      have hra : wa.heap[wr.heap.size]? = some (.cells (bysA X) 22 (0, 0)) := by rw [hwa]; exact heap_alloc_new wr _
      have hga := Rp.row_le hba HG2.out
      obtain ⟨v, hv⟩ : ∃ v, v = Value.slice qi id.length ci := ⟨_, rfl⟩
      rw [← hv] at hga
      have ca : wa.cell? ⟨g2, 2, none⟩ = some (.int .i64 (n + (k : Int))) := (cell_of_row _ _ _ _ _ _ hga).trans memA_c2
      have fa : wa.frozen? ⟨g2, 2, none⟩ = false := frozen_of_row _ _ _ _ _ hga
      have hg2 := lt_of_heap HG2.out
      have hg1 := lt_of_heap HG1.out
      -- the number stored
      obtain ⟨wb, hwb⟩ : ∃ wb, wb = wa.setCell ⟨g2, 2, none⟩ (.int .i64 (n + (k : Int) + 1)) := ⟨_, rfl⟩
      have hwb2 : wb = wa.setRow g2 (memA v (n + (k : Int) + 1) B) := by
        rw [hwb, setCell_eq_setRow wa g2 2 _ _ _ _ hga, memA_set]
      have hrb : wb.heap[g2]? = some (.cells (memA v (n + (k : Int) + 1) B) 43 (0, 0)) := by rw [hwb2]; exact setRow_heap wa g2 _ _ _ _ hga
      have hob : ∀ j, j ≠ g2 → wb.heap[j]? = wa.heap[j]? := fun j hj => by rw [hwb2]; exact setRow_heap_ne hj
      have hsb : wb.heap.size = wa.heap.size := by rw [hwb2]; simp [World.setRow]
      have hbb : Below w.heap.size w wb := by rw [hwb2]; exact below_setRow (HB.out.trans (hba.mono HB.out.size)) (by omega)
      have cb : wb.cell? ⟨g2, 2, none⟩ = some (.int .i64 (n + (k : Int) + 1)) := (cell_of_row _ _ _ _ _ _ hrb).trans memA_c2
      have HLB : Hid ((Instr.loadAt 22 (.pointer (some ⟨g2, 3, none⟩))).run Tryz.prog wb = .ok (.agg (bysA B)) wb) := Lib.hid (memA_linkP.load hrb Tryz.underlying22 rfl HIBB.out)
      have hrxb : wb.heap[wr.heap.size]? = some (.cells (bysA X) 22 (0, 0)) := (hob _ (by omega)).trans hra
      have HLXB : Hid ((Instr.loadAt 22 (.pointer (some ⟨wr.heap.size, 0, none⟩))).run Tryz.prog wb = .ok (.agg (bysA X)) wb) := Lib.hid ((PartAt.self _).load hrxb Tryz.underlying22 rfl HIXX.out)
      have HNX : Hid (Calls Tryz.prog 54 #[.slice qi id.length ci, .int .i64 (n + (k : Int) + 1), .agg (bysA X), .agg (bysA B)] wb fun e w' => e = .returned (.agg (bysA N)) ∧ Below wb.heap.size wb w') := Lib.hid (by
        rw [hNk]
        exact Ref.next_any qi ci id (n + k + 1) X B wb (HS.out.below hbb) (HI.out.below hbb) hil HXL.out HBL.out)
      have HRB := Lib.hid hrb
      have HBB := Lib.hid hbb
      have HG1B : Hid (wb.heap[w.heap.size + 1]? = some (.cells (memA (.slice none 0 0) 0 zeros32) 43 (0, 0))) := Lib.hid ((hob _ (by omega)).trans (Rp.row_le hba HG1.out))
      have hwr : IntKind.i64.wrap (n + (k : Int) + 1) = n + (k : Int) + 1 := IntWalk.i64_in _ (by omega)
      have HWA := Lib.hid hwa
      have HWB := Lib.hid hwb
      have HV := Lib.hid hv
      have hbs : w.heap.size + 1 < g2 := hsz1
      clear hload hX hBk hNk hwa hba hra hga hwb hwb2 hrb hob hsb hbb hrxb HG2 HG1 hg1 hv
      go_upto_region 5 with (first | (refine l_load rfl _ _ rfl _ HLX.out ?_) | (refine Rg.store_row_new rfl 22 _ _ rfl wr.heap.size rfl rfl 22 _ (bysA X) rfl HIXX.out HSXX.out (bysA_one _) ?_))
      rw [← HWA.out]
      go_upto_region 6 with fail
      rw [← HWB.out]
      clear ca fa HWA HWB HLX
      go_wp2_with (first | (refine l_load rfl _ _ rfl (.agg (bysA X)) HLXB.out ?_) | (refine l_load rfl _ _ rfl (.agg (bysA B)) HLB.out ?_))
      refine HNX.out.mono ?_
      rintro e wc ⟨rfl, hbc⟩
      have hrc := Rp.row_le hbc HRB.out
      have hgc := Rp.row_le hbc HG1B.out
      obtain ⟨wd, hwd⟩ : ∃ wd, wd = wc.setRow g2 ((memA v (n + (k : Int) + 1) B).toList.take 3 ++ (bysA N).toList ++ (memA v (n + (k : Int) + 1) B).toList.drop (3 + (bysA N).size)).toArray := ⟨_, rfl⟩
      have hwd2 : wd = wc.setRow g2 (memA v (n + (k : Int) + 1) N) := by rw [hwd, memA_mid HBL.out HNL.out]
      have hrd : wd.heap[g2]? = some (.cells (memA v (n + (k : Int) + 1) N) 43 (0, 0)) := by rw [hwd2]; exact setRow_heap wc g2 _ _ _ _ hrc
      have hgd : wd.heap[w.heap.size + 1]? = some (.cells (memA (.slice none 0 0) 0 zeros32) 43 (0, 0)) := by rw [hwd2]; exact (setRow_heap_ne (by omega)).trans hgc
      have hbd : Below w.heap.size w wd := by rw [hwd2]; exact below_setRow (HBB.out.trans (hbc.mono HBB.out.size)) (by omega)
      have HRC := Lib.hid hrc
      have HWD := Lib.hid hwd
      have HSZ : Hid (3 + (bysA N).size ≤ (memA v (n + (k : Int) + 1) B).size) := Lib.hid (by rw [memA_size HBL.out, bysA_size, HNL.out]; decide)
      have HNR : Hid (∃ k' : Nat, k' ≤ R.length ∧ Value.int .i64 ((k : Int) + 1) = .int .i64 (k' : Int) ∧ Hid (wd.heap[g2]? = some (.cells (memA (.slice qi id.length ci) (n + (k' : Int)) (lksL id n lk (R.take k'))) 43 (0, 0))) ∧ Hid (Below w.heap.size w wd) ∧ Hid (wd.heap[w.heap.size + 1]? = some (.cells (memA (.slice none 0 0) 0 zeros32) 43 (0, 0)))) := Lib.hid ⟨k + 1, by omega, by congr 1, Lib.hid (by rw [HNE.out, ← HV.out, hrd, show n + ((k + 1 : Nat) : Int) = n + (k : Int) + 1 by omega]), Lib.hid hbd, Lib.hid hgd⟩
      clear hrc hgc hwd hwd2 hrd hgd hbd hbc cb hwr
      go_wp2_with (refine Rg.store_part rfl 22 _ _ rfl g2 3 rfl 43 (memA v (n + (k : Int) + 1) B) (bysA N) rfl HRC.out HINN.out HSZ.out (bysA_one _) ?_; rw [← HWD.out])
      exact ⟨HNR.out, by simp only [intOf]; omega⟩
    · obtain rfl : k = R.length := by omega
      have hnl : ¬ ((R.length : Int) < (R.length : Int)) := by omega
      obtain ⟨Y, hY⟩ : ∃ Y, Y = memA (.slice qi id.length ci) (n + (R.length : Int)) (lksL id n lk R) := ⟨_, rfl⟩
      have hll := lksL_length id R n lk HLKL.out
      have HYE := Lib.hid hY
      have HGY : Hid (wr.heap[g2]? = some (.cells Y 43 (0, 0))) := Lib.hid (by rw [HG2.out, hY, List.take_length])
      have HIY : Hid ((Tryz.prog.info? 43).map (·.size) = some Y.size) := Lib.hid (by rw [hY, memA_size hll]; exact infoMem)
      have HSY : Hid ((memA (.slice none 0 0) 0 zeros32).size = Y.size) := Lib.hid (by rw [hY, memA_size rfl, memA_size hll])
      have HOY : Hid (Y.all (·.oneCell') = true) := Lib.hid (by rw [hY]; exact memA_one rfl _ _)
      have HLY : Hid ((Instr.loadAt 43 (.pointer (some ⟨g2, 0, none⟩))).run Tryz.prog wr = .ok (.agg Y) wr) := Lib.hid ((PartAt.self Y).load HGY.out Tryz.underlying43 rfl HIY.out)
      clear hY hll HG2
      go_wp2_with (first | (refine l_load rfl _ _ rfl _ HLY.out ?_) | (refine Rg.store_row rfl 43 _ _ rfl (w.heap.size + 1) rfl 43 (memA (.slice none 0 0) 0 zeros32) Y rfl HG1.out HIY.out HSY.out HOY.out ?_))
      refine bodyPost_ret (v := .agg Y) (results_cell_row (P := Tryz.prog) rfl _ _ (w.heap.size + 1) 43 Y (0, 0) _ rfl (setRow_heap _ _ _ _ 43 _ HG1.out) Tryz.underlying43 rfl HIY.out) rfl ⟨by rw [HYE.out], below_setRow HB.out (by omega)⟩
end Stn
end Go.Proofs.YtmonkggoilhngaaGreatDoor
/- Has the label that value, or none? Conditions: none beyond the bounds of bytes. -/
namespace Go.Proofs.YtmonkggoilhngaaGreatDoor
set_option linter.unusedVariables false
set_option linter.unusedSimpArgs false
open Go.RowKit Bits Mem Sha
namespace Stn
open Ref (RdL All32 linkText nextLink firstLink bound cchk)
set_option maxRecDepth 100000 in
set_option maxHeartbeats 4000000 in
theorem fvalue_any {w : World} {F C : Array Value} {f : Foun} {qs : Option Addr} {cs : Nat} {qv : Option Addr} {cv : Nat}
    (hT : Ab.WT Ab.gtL Ab.tabS w) (hS : Sha.Tabs w) (hF : FoundIs w F f C qs cs qv cv) :
    Calls Tryz.prog 27 #[.agg F] w fun e w' => ∃ b, e = .returned (.bool b) ∧ (b = true → valueP f) ∧ Below w.heap.size w w' := by
  obtain ⟨w1, hw1⟩ : ∃ w1, w1 = w.alloc (.cells F 34) := ⟨_, rfl⟩
  have hb1 : Below w.heap.size w w1 := by rw [hw1]; exact (Below.refl _ _).alloc (Nat.le_refl _) _
  have hr1 : w1.heap[w.heap.size]? = some (.cells F 34 (0, 0)) := by rw [hw1]; exact heap_alloc_new w _
  have HL0 : Hid ((Instr.loadAt 22 (.pointer (some ⟨w.heap.size, 246, none⟩))).run Tryz.prog w1 = .ok (.agg (bysA f.root)) w1) := Lib.hid (hF.rootP.load hr1 Tryz.underlying22 rfl (info32r _ hF.ok.rootL))
  have HL1 : Hid ((Instr.loadAt 22 (.pointer (some ⟨w.heap.size, 1, none⟩))).run Tryz.prog w1 = .ok (.agg (bysA f.ix)) w1) := Lib.hid (hF.ixP.load hr1 Tryz.underlying22 rfl (info32r _ hF.ok.ixL))
  have HL2 : Hid ((Instr.loadAt 32 (.pointer (some ⟨w.heap.size, 180, none⟩))).run Tryz.prog w1 = .ok (.agg C) w1) := Lib.hid (hF.pat.load hr1 Tryz.underlying32 rfl (by rw [hF.prf.size]; exact Fnd.infoProof))
  have hF1 := hF.below hb1
  have HPC := Lib.hid (pcheck_any f.root f.ix C f.pt f.pk f.pv qs cs f.S w1 (hT.past hb1) (hS.below hb1) hF.ok.rootL hF.ok.ixL hF1.prf.size hF1.prf.c0 hF1.prf.c1 hF1.prf.keyP hF1.prf.valP hF1.prf.keyL hF1.prf.valL hF1.prf.sums hF1.prf.few)
  have HS := Lib.hid (hS.below hb1)
  have HF := Lib.hid hF1
  have HR1 := Lib.hid hr1
  have HB1 := Lib.hid hb1
  have HW1 := Lib.hid hw1
  clear hT hS hF hF1 hr1 hb1 hw1
  obtain ⟨ix, hix⟩ : ∃ l, l = f.ix := ⟨_, rfl⟩
  obtain ⟨rt, hrt⟩ : ∃ l, l = f.root := ⟨_, rfl⟩
  rw [← hix] at HL1
  rw [← hrt] at HL0
  rw [← hix, ← hrt] at HPC
  have HIX := Lib.hid hix
  have HRT := Lib.hid hrt
  clear hix hrt
  go_enter Tryz.func27, Tryz.ntmps27
  go_upto_region 1 with fail
  rw [← HW1.out]
  go_wp2_with (first | (refine l_load rfl _ _ rfl _ HL0.out ?_) | (refine l_load rfl _ _ rfl _ HL1.out ?_) | (refine l_load rfl _ _ rfl _ HL2.out ?_))
  refine HPC.out.mono ?_
  rintro e w2 ⟨v, t, z, rfl, hch, hb2⟩
  have hvl := hch.1
  have HIV := Lib.hid (info32r v hvl)
  have HZV : Hid (32 = (bysA v).size) := Lib.hid (by rw [bysA_size, hvl])
  obtain ⟨w3, hw3⟩ : ∃ w3, w3 = w2.alloc (.cells (bysA v) 22) := ⟨_, rfl⟩
  have hb3 : Below w2.heap.size w2 w3 := by rw [hw3]; exact (Below.refl _ _).alloc (Nat.le_refl _) _
  have hr3 : w3.heap[w2.heap.size]? = some (.cells (bysA v) 22 (0, 0)) := by rw [hw3]; exact heap_alloc_new w2 _
  have hb13 := hb2.trans (hb3.mono hb2.size)
  have HB3 := Lib.hid (HB1.out.trans (hb13.mono HB1.out.size))
  have HF3 := Lib.hid (HF.out.below hb13)
  have HS3 := Lib.hid (HS.out.below hb13)
  have HR13 := Lib.hid (Rp.row_le hb13 HR1.out)
  have HR3 := Lib.hid hr3
  have HW3 := Lib.hid hw3
  have HCH := Lib.hid hch
  have HVL := Lib.hid hvl
  clear hw3 hb3 hr3 hb13 hb2 hch hvl HPC HL0 HL1 HL2 HF HS
  go_upto_region 2 with (refine Rg.store_row_new rfl 22 _ _ rfl w2.heap.size rfl rfl 22 _ (bysA v) rfl HIV.out HZV.out (bysA_one _) ?_)
  rw [← HW3.out]
  obtain ⟨g3, hg3⟩ : ∃ g, g = w2.heap.size := ⟨_, rfl⟩
  rw [← hg3] at HR3 ⊢
  clear hg3
  obtain ⟨th, hth⟩ : ∃ b, b = f.there := ⟨_, rfl⟩
  have HLT : Hid ((Instr.loadAt 4 (.pointer (some ⟨w.heap.size, 113, none⟩))).run Tryz.prog w3 = .ok (.bool th) w3) := Lib.hid (load_rowB ((cell_of_row _ _ _ _ _ _ HR13.out).trans (by rw [hth]; exact HF3.out.c113)))
  have HTH := Lib.hid hth
  clear hth
  by_cases hz : z = 0
  · subst hz
    obtain ⟨_, _, hch⟩ := HCH.out
    obtain ⟨_, htop, htk, hv1⟩ := hch rfl
    have HTOP := Lib.hid htop
    have HTK := Lib.hid htk
    have HV1 := Lib.hid hv1
    clear hch htop htk hv1
    cases t with
    | false =>
      cases th with
      | false =>
        go_wp2_with (first | (refine l_loadG 4 _ rfl (.pointer (some ⟨w.heap.size, 113, none⟩)) rfl _ HLT.out (by kernel_rfl) ?_; refine Hid.out ?_))
        refine Lib.hid ?_
        go_wp2_with (first | (refine l_loadG 4 _ rfl (.pointer (some ⟨w.heap.size, 113, none⟩)) rfl _ HLT.out (by kernel_rfl) ?_; refine Hid.out ?_))
        refine Lib.hid ?_
        go_wp2_with fail
        go_ret
        refine ⟨_, rfl, fun _ => ⟨by rw [← HIX.out]; exact HTOP.out.trans HRT.out, by rw [← HTH.out, ← HIX.out]; exact HTK.out, fun h => ?_⟩, HB3.out⟩
        rw [← HTH.out] at h
        cases h
      | true =>
        go_wp2_with (first | (refine l_loadG 4 _ rfl (.pointer (some ⟨w.heap.size, 113, none⟩)) rfl _ HLT.out (by kernel_rfl) ?_; refine Hid.out ?_))
        refine Lib.hid ?_
        go_wp2_with fail
        go_ret
        exact ⟨_, rfl, fun h => (by cases h), HB3.out⟩
    | true =>
      cases th with
      | false =>
        go_wp2_with (first | (refine l_loadG 4 _ rfl (.pointer (some ⟨w.heap.size, 113, none⟩)) rfl _ HLT.out (by kernel_rfl) ?_; refine Hid.out ?_))
        refine Lib.hid ?_
        go_wp2_with fail
        go_ret
        exact ⟨_, rfl, fun h => (by cases h), HB3.out⟩
      | true =>
        go_wp2_with (first | (refine l_loadG 4 _ rfl (.pointer (some ⟨w.heap.size, 113, none⟩)) rfl _ HLT.out (by kernel_rfl) ?_; refine Hid.out ?_))
        refine Lib.hid ?_
        go_wp2_with (first | (refine l_loadG 4 _ rfl (.pointer (some ⟨w.heap.size, 113, none⟩)) rfl _ HLT.out (by kernel_rfl) ?_; refine Hid.out ?_))
        refine Lib.hid ?_
        obtain ⟨mk, hmk⟩ : ∃ l, l = f.mark := ⟨_, rfl⟩
        obtain ⟨op, hop⟩ : ∃ l, l = f.op := ⟨_, rfl⟩
        obtain ⟨sq, hsq⟩ : ∃ l, l = f.seq := ⟨_, rfl⟩
        obtain ⟨tx, htx⟩ : ∃ l, l = f.text := ⟨_, rfl⟩
        have hml : mk.length = 32 := by rw [hmk]; exact HF3.out.ok.markL
        have hol : op.length = 32 := by rw [hop]; exact HF3.out.ok.opL
        have hil : ix.length = 32 := by rw [HIX.out]; exact HF3.out.ok.ixL
        have hr := HR13.out
        have HLV : Hid ((Instr.loadAt 22 (.pointer (some ⟨g3, 0, none⟩))).run Tryz.prog w3 = .ok (.agg (bysA v)) w3) := Lib.hid ((PartAt.self _).load HR3.out Tryz.underlying22 rfl HIV.out)
        have HLM : Hid ((Instr.loadAt 22 (.pointer (some ⟨w.heap.size, 116, none⟩))).run Tryz.prog w3 = .ok (.agg (bysA mk)) w3) := Lib.hid (PartAt.load (by rw [hmk]; exact HF3.out.markP) hr Tryz.underlying22 rfl (info32r _ hml))
        have HLO : Hid ((Instr.loadAt 22 (.pointer (some ⟨w.heap.size, 148, none⟩))).run Tryz.prog w3 = .ok (.agg (bysA op)) w3) := Lib.hid (PartAt.load (by rw [hop]; exact HF3.out.opP) hr Tryz.underlying22 rfl (info32r _ hol))
        have HLI : Hid ((Instr.loadAt 22 (.pointer (some ⟨w.heap.size, 1, none⟩))).run Tryz.prog w3 = .ok (.agg (bysA ix)) w3) := Lib.hid (PartAt.load (by rw [HIX.out]; exact HF3.out.ixP) hr Tryz.underlying22 rfl (info32r _ hil))
        have HLQ : Hid ((Instr.loadAt 3 (.pointer (some ⟨w.heap.size, 114, none⟩))).run Tryz.prog w3 = .ok (.int .i64 sq) w3) := Lib.hid (load_rowI ((cell_of_row _ _ _ _ _ _ hr).trans (by rw [hsq]; exact HF3.out.c114)))
        have HLX : Hid ((Instr.loadAt 23 (.pointer (some ⟨w.heap.size, 115, none⟩))).run Tryz.prog w3 = .ok (.slice qv tx.length cv) w3) := Lib.hid (load_rowU ((cell_of_row _ _ _ _ _ _ hr).trans (by rw [htx]; exact HF3.out.c115)))
        have HCC := Lib.hid (Ref.ccheck_any mk op ix sq qv cv tx w3 HS3.out hml hol hil (by rw [htx]; exact HF3.out.textR) (by rw [htx]; exact HF3.out.ok.textL))
        obtain ⟨b1, hb1⟩ : ∃ b, (v == mk) = b := ⟨_, rfl⟩
        have HQ1 : Hid (∀ x, (Op.equalIn 10000 22 (.agg (bysA v)) (.agg (bysA mk))).run Tryz.prog x = .ok b1 x) := Lib.hid (fun x => by
          rw [← hb1]
          exact run_equalIn_bytes (P := Tryz.prog) x 9998 22 5 32 Tryz.underlying22 Tryz.underlying5 Ref.size_u8 v mk HVL.out hml)
        have HBE1 := Lib.hid hb1
        have HMK := Lib.hid hmk
        have HOP := Lib.hid hop
        have HSQ := Lib.hid hsq
        have HTX := Lib.hid htx
        clear hb1 hmk hop hsq htx hml hol hil hr
        go_wp2_with (first | (refine l_loadG 22 _ rfl (.pointer (some ⟨g3, 0, none⟩)) rfl _ HLV.out (by kernel_rfl) ?_; refine Hid.out ?_))
        refine Lib.hid ?_
        go_wp2_with (first | (refine l_loadG 22 _ rfl (.pointer (some ⟨w.heap.size, 116, none⟩)) rfl _ HLM.out (by kernel_rfl) ?_; refine Hid.out ?_))
        refine Lib.hid ?_
        go_simp
        go_wp2_with fail
        rw [HQ1.out]
        cases b1 with
        | false =>
          refine (show Oper.upon _ _ _ _ _ (.ok (Next.value (.bool false)) w3) from ?_)
          go_wp2_with fail
          go_ret
          exact ⟨_, rfl, fun h => (by cases h), HB3.out⟩
        | true =>
          refine (show Oper.upon _ _ _ _ _ (.ok (Next.value (.bool true)) w3) from ?_)
          go_wp2_with (first | (refine l_loadG 22 _ rfl (.pointer (some ⟨w.heap.size, 116, none⟩)) rfl _ HLM.out (by kernel_rfl) ?_; refine Hid.out ?_))
          refine Lib.hid ?_
          go_wp2_with (first | (refine l_loadG 22 _ rfl (.pointer (some ⟨w.heap.size, 148, none⟩)) rfl _ HLO.out (by kernel_rfl) ?_; refine Hid.out ?_))
          refine Lib.hid ?_
          go_wp2_with (first | (refine l_loadG 22 _ rfl (.pointer (some ⟨w.heap.size, 1, none⟩)) rfl _ HLI.out (by kernel_rfl) ?_; refine Hid.out ?_))
          refine Lib.hid ?_
          go_wp2_with (first | (refine l_loadG 3 _ rfl (.pointer (some ⟨w.heap.size, 114, none⟩)) rfl _ HLQ.out (by kernel_rfl) ?_; refine Hid.out ?_))
          refine Lib.hid ?_
          go_wp2_with (first | (refine l_loadG 23 _ rfl (.pointer (some ⟨w.heap.size, 115, none⟩)) rfl _ HLX.out (by kernel_rfl) ?_; refine Hid.out ?_))
          refine Lib.hid ?_
          obtain ⟨cc, hcc⟩ : ∃ z, z = cchk mk op ix sq tx := ⟨_, rfl⟩
          have hc2 : (cc = 0 ∧ bound op ix sq tx = mk) ∨ cc = 17 := by
            rw [hcc]
            unfold Ref.cchk
            split
            · rename_i h; exact .inl ⟨rfl, eq_of_beq h⟩
            · exact .inr rfl
          rw [← hcc] at HCC
          clear hcc
          refine Ref.unguard16 (by rfl) ?_
          go_wp2_with fail
          refine HCC.out.mono ?_
          rintro e w4 ⟨rfl, hb4⟩
          have HB4 := Lib.hid (HB3.out.trans (hb4.mono HB3.out.size))
          clear hb4
          rcases hc2 with ⟨rfl, hbd⟩ | rfl
          · have HBD := Lib.hid hbd
            clear hbd
            go_wp2_with fail
            go_ret
            refine ⟨_, rfl, fun _ => ⟨by rw [← HIX.out]; exact HTOP.out.trans HRT.out, by rw [← HTH.out, ← HIX.out]; exact HTK.out, fun _ => ⟨?_, ?_⟩⟩, HB4.out⟩
            · rw [← HMK.out, ← HV1.out (by trivial)]
              exact (eq_of_beq HBE1.out).symm
            · rw [← HMK.out, ← HOP.out, ← HSQ.out, ← HTX.out, ← HIX.out]
              exact HBD.out
          · have e17 : ((17 : Int) == 0) = false := rfl
            go_wp2_with fail
            go_ret
            exact ⟨_, rfl, fun h => (by cases h), HB4.out⟩
  · have hz1 : (z == 0) = false := by simpa using hz
    have hz2 : (z != 0) = true := by simpa using hz
    go_wp2_with fail
    go_ret
    exact ⟨_, rfl, fun h => (by cases h), HB3.out⟩
end Stn
end Go.Proofs.YtmonkggoilhngaaGreatDoor
