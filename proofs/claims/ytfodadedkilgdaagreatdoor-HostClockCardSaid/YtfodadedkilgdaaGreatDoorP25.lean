/- A part of the proof. Plain; no condition. -/
import Derived.Test.YtfodadedkilgdaaGreatDoorP23
import Derived.Test.YtfodadedkilgdaaGreatDoorP22
import Derived.Test.YtfodadedkilgdaaGreatDoorP0
import Derived.Test.YtfodadedkilgdaaGreatDoorP24
import Derived.Test.YtfodadedkilgdaaGreatDoorP3
import Derived.Test.YtfodadedkilgdaaGreatDoorP2
import Derived.Deep.RegionHeld3
import Derived.Lib.SlBytesConst
import Derived.Laws.StructEq
import Derived.Stop.BytesEq
import Derived.Deep.CutBlock
namespace Go.Proofs.YtfodadedkilgdaaGreatDoor
open Go.RowKit Bits
namespace Fld
def wN (l:List Nat):Array Value:=(l.map fun (x:Nat)=>Value.int .u64 (x:Int)).toArray
theorem wN_get (l:List Nat) (j:Nat) (h:j<l.length):(wN l)[j]? = some (.int .u64 ((l.getD j 0:Nat):Int)):=by
 simp [wN,List.getD,h]
theorem wN_size (l:List Nat):(wN l).size=l.length:=by simp [wN]
theorem wN_set (l:List Nat) (j x:Nat):(wN l).setIfInBounds j (.int .u64 (x:Int))=wN (l.set j x):=by simp [wN,List.map_set]
theorem wN_one (l:List Nat):(wN l).all (·.oneCell')=true:=by
 rw [Array.all_eq_true_iff_forall_mem]; intro v hv; simp [wN] at hv; obtain ⟨x,_,rfl⟩:=hv; rfl
def sd (x y u:Nat):Nat:=(x+18446744073709551616-y-u)%18446744073709551616
def su (x y u:Nat):Nat:=if x<y+u then 1 else 0
theorem su_le (x y u:Nat):su x y u≤1:=by unfold su; split <;> decide
def subK (a b:List Nat):Nat→List Nat×Nat
 | 0=>([0,0,0,0],0)
 | k+1=>((subK a b k).1.set k (sd (a.getD k 0) (b.getD k 0) (subK a b k).2),su (a.getD k 0) (b.getD k 0) (subK a b k).2)
theorem subK_le (a b:List Nat) : ∀ k,(subK a b k).2≤1
 | 0=>Nat.zero_le _
 | _+1=>su_le _ _ _
theorem subK_length (a b:List Nat) : ∀ k,(subK a b k).1.length=4
 | 0=>rfl
 | k+1=>by unfold subK; rw [List.length_set]; exact subK_length a b k
theorem subK_all (a b:List Nat) (ha:a.length=4) (hb:b.length=4):subK a b 4=subC a b 0:=by
 match a,ha,b,hb with
 | [_,_,_,_],_,[_,_,_,_],_=>rfl
theorem infoE:(Tryz.prog.info? 173).map (·.size)=some 4:=by kernel_rfl
theorem zN:wN [0,0,0,0] = #[.int .u64 0,.int .u64 0,.int .u64 0,.int .u64 0]:=rfl
theorem results_cell_slotE {P:Program} {fn:Func} {p q:Tmp} {ty:TypeId} (h:fn.results = #[.cell p ty,.tmp q]) (tmps:Array Value) (w:World) (g:Nat) (t:TypeId) (cs:Array Value) (fr:Nat×Nat) (d:TypeDesc) (v:Value)
 (hp:tmps.getD p undef = .pointer (some ⟨g,0,none⟩)) (hg:w.heap[g]? = some (.cells cs t fr)) (hq:tmps.getD q undef=v)
 (hu:P.underlying ty=some d) (hd:(match d with | .struct _ | .array _ _=>true | _=>false)=true) (hi:(P.info? ty).map (·.size)=some cs.size) :
 (results fn tmps).run P w = .ok (.tuple #[.agg cs,v]) w:=by
 have hp':tmps[p]?.getD undef = .pointer (some ⟨g,0,none⟩):=by simpa using hp
 have hq':tmps[q]?.getD undef=v:=by simpa using hq
 simp [results,h,hp',hq',asAddr,run_loadVar_row w g t ty cs fr d hg hu hd hi]
theorem setRow_otherE (w:World) {g g':Nat} (c:Array Value) (h:g≠g'):(w.setRow g c).heap[g']? = w.heap[g']? := by
 unfold World.setRow
 exact (Array.getElem?_modify ..).trans (if_neg h)
theorem grownBy_setRowE (x:World) (g:Nat) (c:Array Value):x.grownBy (x.setRow g c) (some g) :=
 ⟨rfl,rfl,rfl,by simp,fun k _ hne=>setRow_otherE x c (fun e=>hne (by rw [e]))⟩
structure SubAt (w:World) (a b D:List Nat) (g:Nat) (wr:World):Prop where
 ra:wr.heap[g]? = some (.cells (wN a) 173 (0,0))
 rb:wr.heap[g+1]? = some (.cells (wN b) 173 (0,0))
 rz:wr.heap[g+1+1]? = some (.cells (wN [0,0,0,0]) 173 (0,0))
 rd:wr.heap[g+1+1+1]? = some (.cells (wN D) 173 (0,0))
 be:Below w.heap.size w wr
theorem SubAt.start (w:World) (a b:List Nat):SubAt w a b [0,0,0,0] w.heap.size ((((w.alloc (.cells (wN a) 173)).alloc (.cells (wN b) 173)).alloc (.cells (wN [0,0,0,0]) 173)).alloc (.cells (wN [0,0,0,0]) 173)):=by
 refine ⟨?_,?_,?_,?_,(((((Below.refl _ _).alloc (Nat.le_refl _) _).alloc (by simp) _).alloc (by simp; omega) _).alloc (by simp; omega) _)⟩
 · exact (Rg.heap_alloc_past _ _ _ (by simp; omega)).trans ((Rg.heap_alloc_past _ _ _ (by simp; omega)).trans ((Rg.heap_alloc_past _ _ _ (by simp)).trans (Rg.heap_alloc_at _ _ _ rfl)))
 · exact (Rg.heap_alloc_past _ _ _ (by simp)).trans ((Rg.heap_alloc_past _ _ _ (by simp)).trans (Rg.heap_alloc_at _ _ _ (by simp)))
 · exact (Rg.heap_alloc_past _ _ _ (by simp)).trans (Rg.heap_alloc_at _ _ _ (by simp))
 · exact Rg.heap_alloc_at _ _ _ (by simp)
set_option maxRecDepth 100000 in
set_option maxHeartbeats 2000000 in
theorem sub_any (a b:List Nat) (w:World) (ha:a.length=4) (hb:b.length=4) :
 Calls Tryz.prog 181 #[.agg (wN a),.agg (wN b)] w fun e w'=>e = .returned (.tuple #[.agg (wN (subC a b 0).1),.int .u64 (((subC a b 0).2:Nat):Int)])∧Below w.heap.size w w':=by
 have HA:=Lib.hid ha
 have HB:=Lib.hid hb
 have HST:=Lib.hid (SubAt.start w a b)
 clear ha hb
 go_enter Tryz.func181,Tryz.ntmps181
 go_wp2_with fail
 rw [← zN]
 obtain ⟨w0,hw0⟩ : ∃ w0,w0=((((w.alloc (.cells (wN a) 173)).alloc (.cells (wN b) 173)).alloc (.cells (wN [0,0,0,0]) 173)).alloc (.cells (wN [0,0,0,0]) 173)):=⟨_,rfl⟩
 rw [← hw0] at HST ⊢
 clear hw0
 go_loopw [7,9] (fun u i wr => ∃ k:Nat,k≤4∧i = .int .i64 k∧u = .int .u64 (((subK a b k).2:Nat):Int)∧Hid (SubAt w a b (subK a b k).1 w.heap.size wr)) (fun _ i _=>4-(intOf i).toNat)
 case atStart=>exact ⟨0,by omega,rfl,rfl,HST⟩
 case round =>
  clear HST
  obtain ⟨k,hk,rfl,rfl,HR⟩:=hrel
  by_cases hlt:k<4
  ·have g1:=wN_get a k (by rw [HA.out]; exact hlt)
   have g2:=wN_get b k (by rw [HB.out]; exact hlt)
   have hle:=subK_le a b k
   have hD:=subK_length a b k
   obtain ⟨D,hDe⟩ : ∃ D,D=(subK a b k).1:=⟨_,rfl⟩
   obtain ⟨u,hue⟩ : ∃ u,u=(subK a b k).2:=⟨_,rfl⟩
   obtain ⟨m1,hxe⟩ : ∃ m1,m1=a.getD k 0:=⟨_,rfl⟩
   obtain ⟨m2,hye⟩ : ∃ m2,m2=b.getD k 0:=⟨_,rfl⟩
   rw [← hue] at hle
   rw [← hDe] at hD HR
   rw [← hxe] at g1
   rw [← hye] at g2
   have HN:Hid (subK a b (k+1)=(D.set k (sd m1 m2 u),su m1 m2 u)):=Lib.hid (by rw [hDe,hue,hxe,hye]; rfl)
   rw [← hue]
   have hcall : ∀ w:World,(callFunc 144 #[.int .u64 (m1:Int),.int .u64 (m2:Int),.int .u64 (u:Int)]).run Tryz.prog w = .ok (.value (.tuple #[.int .u64 ((sd m1 m2 u:Nat):Int),.int .u64 ((su m1 m2 u:Nat):Int)])) w:=fun w=>Ab.sub64_run m1 m2 u hle w
   have hgl:=(Array.getElem?_eq_some_iff.1 HR.out.rd).1
   obtain ⟨g,hg⟩ : ∃ g,g=w.heap.size:=⟨_,rfl⟩
   rw [← hg] at HR hgl ⊢
   have hga:(fun j=>j<wr.heap.size∧j≠g+1+1+1) g:=by dsimp only; omega
   have hgb:(fun j=>j<wr.heap.size∧j≠g+1+1+1) (g+1):=by dsimp only; omega
   have HGA:=Lib.hid hga
   have HGB:=Lib.hid hgb
   have HG:=Lib.hid hg
   have ca : ∀ x':World,(x'.heap[g]? = wr.heap[g]?)→x'.cell? ⟨g,k,none⟩=some (.int .u64 (m1:Int)):=fun x' h=>(cell_of_row _ _ _ _ _ _ (h.trans HR.out.ra)).trans g1
   have cb : ∀ x':World,(x'.heap[g+1]? = wr.heap[g+1]?)→x'.cell? ⟨g+1,k,none⟩=some (.int .u64 (m2:Int)):=fun x' h=>(cell_of_row _ _ _ _ _ _ (h.trans HR.out.rb)).trans g2
   have HCA:=Lib.hid ca
   have HCB:=Lib.hid cb
   have q1:(k:Int)<4:=by omega
   have HD:=Lib.hid hD
   have HGL:=Lib.hid hgl
   clear hDe hue hxe hye hD hle g1 g2 hga hgb hg ca cb
   go_wp2_with fail
   refine Re.region (fun j=>j<wr.heap.size∧j≠g+1+1+1) 14 [Re.S 13 [] [] (· = g+1+1+1) (fun _=>undef) (fun _ _ y'=>y'.heap[g+1+1+1]? = some (.cells (wN (D.set k (sd m1 m2 u))) 173 (0,0)))] [13] (by kernel_rfl) (Re.own_one (i:=13) HGL.out (by intro s hs; simp only [List.mem_cons,List.not_mem_nil,or_false] at hs; subst hs; exact .inr ⟨rfl,rfl⟩)) (by kernel_rfl) ?_; intro p; simp only [List.take,List.drop]
   iterate 13 (refine Re.rK rfl rfl ?_; intro K hK; apply Exists.intro; refine ⟨?_,?_⟩; (focus (intro x hx; have e1:=HCA.out x ((Re.undrew hx).block _ (.inl HGA.out));have e2:=HCB.out x ((Re.undrew hx).block _ (.inl HGB.out)); go_simp; (first | (fail) | ((try go_bits); (try go_simp); (try rfl))))); go_simp; refine hK _ ?_; clear hK K)
   refine Re.cK rfl rfl rfl ?_ ?_
   ·intro x Fs hx ho hg' K hK
    have h8:x.heap[g+1+1+1]? = some (.cells (wN D) 173 (0,0)):=(ho _ rfl).trans HR.out.rd
    have e1:x.cell? ⟨g+1+1+1,k,none⟩=some (.int .u64 ((D.getD k 0:Nat):Int)):=(cell_of_row _ _ _ _ _ _ h8).trans (wN_get D k (by rw [HD.out]; exact hlt))
    have e2:x.frozen? ⟨g+1+1+1,k,none⟩=false:=frozen_of_row _ _ _ _ _ h8
    have H8:=Lib.hid h8
    clear h8 hx ho hg'
    go_wp2_with fail
    have he:x.setCell ⟨g+1+1+1,k,none⟩ (.int .u64 ((sd m1 m2 u:Nat):Int))=x.setRow (g+1+1+1) (wN (D.set k (sd m1 m2 u))):=by rw [setCell_eq_setRow x (g+1+1+1) k _ _ _ _ H8.out,wN_set]
    rw [he]
    have hgr:=grownBy_setRowE x (g+1+1+1) (wN (D.set k (sd m1 m2 u)))
    have h8':=setRow_heap x (g+1+1+1) _ (wN (D.set k (sd m1 m2 u))) _ _ H8.out
    exact hK Rc.dflt _ ⟨hgr.os,hgr.tape,hgr.output,hgr.size,fun j hj hn=>hgr.block j hj fun e=>hn (.inr (by cases e; rfl))⟩ (fun y hy=>(hy.block _ ((Array.getElem?_eq_some_iff.1 h8').1) (.inr (.inl (.inr rfl)))).trans h8')
   intro K hK; go_simp; refine hK _ ?_; clear hK K
   refine Re.done fun x2 Fs2 hx hg' => ?_
   have hr:SubAt w a b (D.set k (sd m1 m2 u)) g x2:=by
    have hx':=Re.undrew hx
    refine ⟨(hx'.block _ HGA.out).trans HR.out.ra,(hx'.block _ HGB.out).trans HR.out.rb,(hx'.block _ ?_).trans HR.out.rz,hg'.1,HR.out.be.trans ⟨hx'.os,hx'.tape,hx'.output,hx'.size,fun j hj=>hx'.block j ⟨?_,?_⟩⟩⟩
    · exact ⟨by have:=HGL.out; omega,by omega⟩
    · exact Nat.lt_of_lt_of_le hj HR.out.be.size
    · have:=HG.out; omega
   have HR2:=Lib.hid hr
   clear hx hg' hr
   go_wp2_with fail
   refine NoPanic.normal ?_
   go_wp2_with fail
   refine ⟨⟨k+1,by omega,by go_num,by rw [HN.out],?_⟩,by simp [intOf]; omega⟩
   rw [HN.out]
   exact HR2
  ·obtain rfl:k=4:=by omega
   have HS:=Lib.hid (subK_all a b HA.out HB.out)
   have hD:=subK_length a b 4
   obtain ⟨D,hDe⟩ : ∃ D,D=(subK a b 4).1:=⟨_,rfl⟩
   obtain ⟨u,hue⟩ : ∃ u,u=(subK a b 4).2:=⟨_,rfl⟩
   rw [← hDe] at hD HR
   have HDE:Hid (D=(subC a b 0).1):=Lib.hid (by rw [hDe,HS.out])
   have HUE:Hid (u=(subC a b 0).2):=Lib.hid (by rw [hue,HS.out])
   rw [← hue]
   clear hDe hue
   have HI:Hid ((Tryz.prog.info? 173).map (·.size)=some (wN D).size):=Lib.hid (by rw [wN_size,hD]; exact infoE)
   have HZ:Hid ((wN [0,0,0,0]).size=(wN D).size):=Lib.hid (by rw [wN_size,wN_size,hD]; rfl)
   clear hD
   obtain ⟨g,hg⟩ : ∃ g,g=w.heap.size:=⟨_,rfl⟩
   rw [← hg] at HR ⊢
   have HG:=Lib.hid hg
   clear hg
   go_wp2_with (first | (refine wpList_load_row rfl 173 _ rfl (g+1+1+1) rfl 173 (wN D) (0,0) _ HR.out.rd Tryz.underlying173 rfl HI.out ?_) | (refine Rg.store_row rfl 173 _ _ rfl (g+1+1) rfl 173 (wN [0,0,0,0]) (wN D) rfl HR.out.rz HI.out HZ.out (wN_one _) ?_))
   refine bodyPost_ret (v := .tuple #[.agg (wN D),.int .u64 (u:Int)]) ?_ rfl ⟨by rw [HDE.out,HUE.out],?_⟩
   · exact results_cell_slotE (P:=Tryz.prog) rfl _ _ (g+1+1) 173 (wN D) (0,0) _ _ rfl (setRow_heap _ _ _ _ 173 _ HR.out.rz) rfl Tryz.underlying173 rfl HI.out
   · exact Rg.below_setRow HR.out.be (by have:=HG.out; omega) _
def W4s (a:List Nat):Prop:=a.length=4 ∧ ∀ x∈a,x<18446744073709551616
def modW:List Nat := [18446744073709551597,18446744073709551615,18446744073709551615,9223372036854775807]
theorem mod_val:val modW=P:=by decide
theorem mod_good:W4s modW:=⟨rfl,by decide⟩
theorem P_lt:P<18446744073709551616^4:=by decide
theorem words_add (k:Nat) : ∀ n,words (n+18446744073709551616^k) k=words n k:=by
 induction k with
 | zero=>intro n; rfl
 | succ k ih =>
   intro n
   simp only [words]
   rw [Nat.pow_succ]
   have e1:(n+18446744073709551616^k*18446744073709551616)%18446744073709551616=n%18446744073709551616:=Nat.add_mul_mod_self_right ..
   have e2:(n+18446744073709551616^k*18446744073709551616) / 18446744073709551616=n / 18446744073709551616+18446744073709551616^k:=Nat.add_mul_div_right _ _ (by decide)
   rw [e1,e2,ih]
theorem W4s.val {a:List Nat} (h:W4s a):words (val a) 4=a:=by
 have:=words_val a h.2
 rwa [h.1] at this
theorem W4s.lt {a:List Nat} (h:W4s a):Fld.val a<18446744073709551616^4:=by
 have:=val_lt a h.2
 rwa [h.1] at this
theorem W4s.words (n:Nat):W4s (words n 4):=⟨words_length 4 n,words_lt 4 n⟩
theorem sub_small {c:List Nat} (hc:W4s c) (h:Fld.val c<P):(subC c modW 0).2=1:=by
 have e:=subC_words 4 (Fld.val c) P 0 hc.lt P_lt (Nat.zero_le _)
 rw [hc.val,← mod_val,mod_good.val,mod_val,if_pos (by omega)] at e
 rw [e]
theorem sub_big {c:List Nat} (hc:W4s c) (h:P≤Fld.val c):(subC c modW 0).2=0∧(subC c modW 0).1=words (Fld.val c-P) 4:=by
 have e:=subC_words 4 (Fld.val c) P 0 hc.lt P_lt (Nat.zero_le _)
 rw [hc.val,← mod_val,mod_good.val,mod_val,if_neg (by omega)] at e
 rw [e]
 refine ⟨rfl,?_⟩
 rw [show Fld.val c+18446744073709551616^4-P-0=Fld.val c-P+18446744073709551616^4 by omega,words_add]
def vC:List Value→Nat
 | .int _ n::r=>n.toNat+18446744073709551616*vC r
 | _=>0
theorem vC_wN : ∀ l:List Nat,vC (wN l).toList=val l
 | []=>rfl
 | x::l=>by
   have ih:=vC_wN l
   simp only [wN,List.map_cons] at ih ⊢
   show ((x:Int)).toNat+18446744073709551616*vC _=x+18446744073709551616*val l
   rw [← ih]
   rfl
def vW (w:World) (g:Nat):Nat:=match w.heap[g]? with | some (.cells C _ _)=>vC C.toList | _=>0
theorem vW_row {w:World} {g:Nat} {l:List Nat} {t:TypeId} {f:Nat×Nat} (h:w.heap[g]? = some (.cells (wN l) t f)):vW w g=val l:=by
 unfold vW
 rw [h]
 exact vC_wN l
structure RestAt (w:World) (a:List Nat) (g:Nat) (wr:World) (c:List Nat):Prop where
 rc:wr.heap[g]? = some (.cells (wN c) 173 (0,0))
 rz:wr.heap[g+1]? = some (.cells (wN [0,0,0,0]) 173 (0,0))
 be:Below w.heap.size w wr
 good:W4s c
 same:val c%P=val a%P
set_option maxRecDepth 100000 in
set_option maxHeartbeats 2000000 in
theorem rest_any (a:List Nat) (w:World) (ha:W4s a) {tm:TypeId} {fm:Nat×Nat} (hm:w.heap[(7:Nat)]? = some (.cells (wN modW) tm fm)) :
 Calls Tryz.prog 141 #[.agg (wN a)] w fun e w'=>e = .returned (.agg (wN (words (val a%P) 4)))∧Below w.heap.size w w':=by
 have HM:=Lib.hid hm
 have hml:=(Array.getElem?_eq_some_iff.1 hm).1
 have hst:RestAt w a w.heap.size ((w.alloc (.cells (wN a) 173)).alloc (.cells (wN [0,0,0,0]) 173)) a :=
  ⟨(Rg.heap_alloc_past _ _ _ (by simp)).trans (Rg.heap_alloc_at _ _ _ rfl),Rg.heap_alloc_at _ _ _ (by simp),(((Below.refl _ _).alloc (Nat.le_refl _) _).alloc (by simp) _),ha,rfl⟩
 have HST:=Lib.hid hst
 have HML:=Lib.hid hml
 clear hm hml hst ha
 go_enter Tryz.func141,Tryz.ntmps141
 go_wp2_with fail
 rw [← zN]
 obtain ⟨w0,hw0⟩ : ∃ w0,w0=((w.alloc (.cells (wN a) 173)).alloc (.cells (wN [0,0,0,0]) 173)):=⟨_,rfl⟩
 rw [← hw0] at HST ⊢
 obtain ⟨g,hg⟩ : ∃ g,g=w.heap.size:=⟨_,rfl⟩
 rw [← hg] at HST ⊢
 have HG:=Lib.hid hg
 clear hw0 hg
 go_loopw [4] (fun _ wr => ∃ c:List Nat,Hid (RestAt w a g wr c)) (fun _ wr=>vW wr g)
 case atStart=>exact ⟨a,HST⟩
 case round =>
  clear HST
  obtain ⟨c,HC⟩:=hrel
  have hmr:wr.heap[(7:Nat)]? = some (.cells (wN modW) tm fm):=(HC.out.be.block _ HML.out).trans HM.out
  have HMR:=Lib.hid hmr
  have HIM:Hid ((Tryz.prog.info? 173).map (·.size)=some (wN modW).size):=Lib.hid (by rw [wN_size]; exact infoE)
  have HIC:Hid ((Tryz.prog.info? 173).map (·.size)=some (wN c).size):=Lib.hid (by rw [wN_size,HC.out.good.1]; exact infoE)
  have HSUB:=Lib.hid (sub_any c modW wr HC.out.good.1 rfl)
  have hgl:=(Array.getElem?_eq_some_iff.1 HC.out.rz).1
  have HGL:=Lib.hid hgl
  by_cases hlt:val c<P
  ·have h1:=sub_small HC.out.good hlt
   obtain ⟨⟨D,u⟩,hdu⟩ : ∃ x,x=subC c modW 0:=⟨_,rfl⟩
   have hDl:D.length=4:=by
    have:=congrArg (fun x:List Nat×Nat=>x.1.length) hdu
    dsimp only at this
    rw [this,← subK_all c modW HC.out.good.1 rfl]
    exact subK_length c modW 4
   rw [← hdu] at HSUB h1
   dsimp only at h1
   subst h1
   dsimp only at HSUB
   have HID:Hid ((Tryz.prog.info? 173).map (·.size)=some (wN D).size):=Lib.hid (by rw [wN_size,hDl]; exact infoE)
   have HZD:Hid ((#[Value.int .u64 0,.int .u64 0,.int .u64 0,.int .u64 0]:Array Value).size=(wN D).size):=Lib.hid (by rw [wN_size,hDl]; rfl)
   clear hdu hDl hmr hgl
   go_wp2_with (first | (refine wpList_load_row rfl 173 _ rfl g rfl 173 (wN c) (0,0) _ HC.out.rc Tryz.underlying173 rfl HIC.out ?_) | (refine wpList_load_row rfl 173 _ rfl (7:Nat) rfl tm (wN modW) fm _ HMR.out Tryz.underlying173 rfl HIM.out ?_))
   refine HSUB.out.mono ?_
   rintro e w1 ⟨rfl,hb1⟩
   have hrc1:w1.heap[g]? = some (.cells (wN c) 173 (0,0)):=(hb1.block _ (by have:=HGL.out; omega)).trans HC.out.rc
   have hrz1:w1.heap[g+1]? = some (.cells (wN [0,0,0,0]) 173 (0,0)):=(hb1.block _ HGL.out).trans HC.out.rz
   have HRC:=Lib.hid ((Rg.heap_alloc_past w1 (.cells (wN D) 173) g (Array.getElem?_eq_some_iff.1 hrc1).1).trans hrc1)
   have HRZ:=Lib.hid ((Rg.heap_alloc_past w1 (.cells (wN D) 173) (g+1) (Array.getElem?_eq_some_iff.1 hrz1).1).trans hrz1)
   have HBZ:Hid (Below w.heap.size w (w1.alloc (.cells (wN D) 173))):=Lib.hid ((HC.out.be.trans (hb1.mono HC.out.be.size)).alloc (Nat.le_trans HC.out.be.size hb1.size) _)
   have HZZ:Hid ((wN [0,0,0,0]).size=(wN c).size):=Lib.hid (by rw [wN_size,wN_size,HC.out.good.1]; rfl)
   clear hb1 hrc1 hrz1 HSUB
   go_wp2_with (first | (refine Rg.store_row_new rfl 173 _ _ rfl w1.heap.size rfl rfl 173 _ (wN D) rfl HID.out HZD.out (wN_one _) ?_) | (refine wpList_load_row rfl 173 _ rfl g rfl 173 (wN c) (0,0) _ HRC.out Tryz.underlying173 rfl HIC.out ?_) | (refine Rg.store_row rfl 173 _ _ rfl (g+1) rfl 173 (wN [0,0,0,0]) (wN c) rfl HRZ.out HIC.out HZZ.out (wN_one _) ?_))
   refine bodyPost_ret (v := .agg (wN c)) (results_cell_row (P:=Tryz.prog) rfl _ _ (g+1) 173 (wN c) (0,0) _ rfl (setRow_heap _ _ _ _ 173 _ HRZ.out) Tryz.underlying173 rfl HIC.out) rfl ⟨?_,?_⟩
   ·have e:c=words (val a%P) 4:=by
     rw [← HC.out.same,Nat.mod_eq_of_lt hlt,HC.out.good.val]
    rw [e]
   · exact Rg.below_setRow HBZ.out (by have:=HG.out; omega) _
  ·have h1:=sub_big HC.out.good (by omega)
   obtain ⟨⟨D,u⟩,hdu⟩ : ∃ x,x=subC c modW 0:=⟨_,rfl⟩
   rw [← hdu] at HSUB h1
   obtain ⟨h1,h2⟩:=h1
   dsimp only at h1 h2 HSUB
   subst h1 h2
   obtain ⟨D,hD⟩ : ∃ D,D=words (val c-P) 4:=⟨_,rfl⟩
   rw [← hD] at HSUB hdu
   have hDg:W4s D:=by rw [hD]; exact W4s.words _
   have hDv:val D=val c-P:=by rw [hD]; exact val_words 4 _ (by have:=HC.out.good.lt; omega)
   have HDG:=Lib.hid hDg
   have HDV:=Lib.hid hDv
   have HID:Hid ((Tryz.prog.info? 173).map (·.size)=some (wN D).size):=Lib.hid (by rw [wN_size,hDg.1]; exact infoE)
   have HZD:Hid ((#[Value.int .u64 0,.int .u64 0,.int .u64 0,.int .u64 0]:Array Value).size=(wN D).size):=Lib.hid (by rw [wN_size,hDg.1]; rfl)
   have HZC:Hid ((wN c).size=(wN D).size):=Lib.hid (by rw [wN_size,wN_size,hDg.1,HC.out.good.1])
   clear hdu hmr hgl hD hDg hDv
   go_wp2_with (first | (refine wpList_load_row rfl 173 _ rfl g rfl 173 (wN c) (0,0) _ HC.out.rc Tryz.underlying173 rfl HIC.out ?_) | (refine wpList_load_row rfl 173 _ rfl (7:Nat) rfl tm (wN modW) fm _ HMR.out Tryz.underlying173 rfl HIM.out ?_))
   refine HSUB.out.mono ?_
   rintro e w1 ⟨rfl,hb1⟩
   have hrc1:w1.heap[g]? = some (.cells (wN c) 173 (0,0)):=(hb1.block _ (by have:=HGL.out; omega)).trans HC.out.rc
   have hrz1:w1.heap[g+1]? = some (.cells (wN [0,0,0,0]) 173 (0,0)):=(hb1.block _ HGL.out).trans HC.out.rz
   obtain ⟨w2,hw2⟩ : ∃ w2,w2=w1.alloc (.cells (wN D) 173):=⟨_,rfl⟩
   have HRN:Hid (w2.heap[w1.heap.size]? = some (.cells (wN D) 173 (0,0))):=Lib.hid (by rw [hw2]; exact Rg.heap_alloc_at _ _ _ rfl)
   have HRC:Hid (w2.heap[g]? = some (.cells (wN c) 173 (0,0))):=Lib.hid (by rw [hw2]; exact (Rg.heap_alloc_past w1 (.cells (wN D) 173) g (Array.getElem?_eq_some_iff.1 hrc1).1).trans hrc1)
   have HRZ:Hid (w2.heap[g+1]? = some (.cells (wN [0,0,0,0]) 173 (0,0))):=Lib.hid (by rw [hw2]; exact (Rg.heap_alloc_past w1 (.cells (wN D) 173) (g+1) (Array.getElem?_eq_some_iff.1 hrz1).1).trans hrz1)
   have HBZ:Hid (Below w.heap.size w w2):=Lib.hid (by rw [hw2]; exact ((HC.out.be.trans (hb1.mono HC.out.be.size)).alloc (Nat.le_trans HC.out.be.size hb1.size) _))
   have HW2:=Lib.hid hw2
   clear hb1 hrc1 hrz1 HSUB hw2
   go_wp2_with (first | (refine Rg.store_row_new rfl 173 _ _ rfl w1.heap.size rfl rfl 173 _ (wN D) rfl HID.out HZD.out (wN_one _) ?_; go_must (rw [← HW2.out])) | (refine wpList_load_row rfl 173 _ rfl w1.heap.size rfl 173 (wN D) (0,0) _ HRN.out Tryz.underlying173 rfl HID.out ?_) | (refine Rg.store_row rfl 173 _ _ rfl g rfl 173 (wN c) (wN D) rfl HRC.out HID.out HZC.out (wN_one _) ?_))
   have hr:RestAt w a g (w2.setRow g (wN D)) D:=by
    refine ⟨setRow_heap _ _ _ _ _ _ HRC.out,(setRow_otherE _ _ (by omega)).trans HRZ.out,Rg.below_setRow HBZ.out (by have:=HG.out; omega) _,HDG.out,?_⟩
    rw [HDV.out,← HC.out.same]
    exact (Nat.mod_eq_sub_mod (by omega)).symm
   refine ⟨⟨_,_,_,_,_,_,_,_,_,_,_,_,⟨D,Lib.hid hr⟩,rfl⟩,?_⟩
   rw [vW_row hr.rc,vW_row HC.out.rc,HDV.out]
   have:0<P:=by decide
   omega
end Fld
end Go.Proofs.YtfodadedkilgdaaGreatDoor
namespace Go.Proofs.YtfodadedkilgdaaGreatDoor
open Go.RowKit Bits
namespace Fld
def ad (x y u:Nat):Nat:=(x+y+u)%18446744073709551616
def ao (x y u:Nat):Nat:=(x+y+u) / 18446744073709551616
def addK (a b:List Nat):Nat→List Nat×Nat
 | 0=>([0,0,0,0],0)
 | k+1=>((addK a b k).1.set k (ad (a.getD k 0) (b.getD k 0) (addK a b k).2),ao (a.getD k 0) (b.getD k 0) (addK a b k).2)
theorem W4s.at {a:List Nat} (h:W4s a) (k:Nat):a.getD k 0<18446744073709551616:=by
 rw [List.getD_eq_getElem?_getD]
 cases hk:a[k]? with
 | none=>decide
 | some x=>exact h.2 x (List.mem_of_getElem? hk)
theorem addK_le {a b:List Nat} (ha:W4s a) (hb:W4s b) : ∀ k,(addK a b k).2≤1
 | 0=>Nat.zero_le _
 | k+1=>by
   have h1:=ha.at k
   have h2:=hb.at k
   have h3:=addK_le ha hb k
   show ao _ _ _≤1
   unfold ao
   omega
theorem addK_length (a b:List Nat) : ∀ k,(addK a b k).1.length=4
 | 0=>rfl
 | k+1=>by unfold addK; rw [List.length_set]; exact addK_length a b k
theorem addK_all (a b:List Nat) (ha:a.length=4) (hb:b.length=4):addK a b 4=addC a b 0:=by
 match a,ha,b,hb with
 | [_,_,_,_],_,[_,_,_,_],_=>rfl
set_option maxRecDepth 100000 in
set_option maxHeartbeats 2000000 in
theorem add_any (a b:List Nat) (w:World) (ha:W4s a) (hb:W4s b) :
 Calls Tryz.prog 179 #[.agg (wN a),.agg (wN b)] w fun e w'=>e = .returned (.tuple #[.agg (wN (addC a b 0).1),.int .u64 (((addC a b 0).2:Nat):Int)])∧Below w.heap.size w w':=by
 have HA:=Lib.hid ha
 have HB:=Lib.hid hb
 have HST:=Lib.hid (SubAt.start w a b)
 clear ha hb
 go_enter Tryz.func179,Tryz.ntmps179
 go_wp2_with fail
 rw [← zN]
 obtain ⟨w0,hw0⟩ : ∃ w0,w0=((((w.alloc (.cells (wN a) 173)).alloc (.cells (wN b) 173)).alloc (.cells (wN [0,0,0,0]) 173)).alloc (.cells (wN [0,0,0,0]) 173)):=⟨_,rfl⟩
 rw [← hw0] at HST ⊢
 clear hw0
 go_loopw [7,9] (fun u i wr => ∃ k:Nat,k≤4∧i = .int .i64 k∧u = .int .u64 (((addK a b k).2:Nat):Int)∧Hid (SubAt w a b (addK a b k).1 w.heap.size wr)) (fun _ i _=>4-(intOf i).toNat)
 case atStart=>exact ⟨0,by omega,rfl,rfl,HST⟩
 case round =>
  clear HST
  obtain ⟨k,hk,rfl,rfl,HR⟩:=hrel
  by_cases hlt:k<4
  ·have g1:=wN_get a k (by rw [HA.out.1]; exact hlt)
   have g2:=wN_get b k (by rw [HB.out.1]; exact hlt)
   have hle:=addK_le HA.out HB.out k
   have hD:=addK_length a b k
   obtain ⟨D,hDe⟩ : ∃ D,D=(addK a b k).1:=⟨_,rfl⟩
   obtain ⟨u,hue⟩ : ∃ u,u=(addK a b k).2:=⟨_,rfl⟩
   obtain ⟨m1,hxe⟩ : ∃ m1,m1=a.getD k 0:=⟨_,rfl⟩
   obtain ⟨m2,hye⟩ : ∃ m2,m2=b.getD k 0:=⟨_,rfl⟩
   rw [← hue] at hle
   rw [← hDe] at hD HR
   rw [← hxe] at g1
   rw [← hye] at g2
   have HN:Hid (addK a b (k+1)=(D.set k (ad m1 m2 u),ao m1 m2 u)):=Lib.hid (by rw [hDe,hue,hxe,hye]; rfl)
   rw [← hue]
   have hcall : ∀ w:World,(callFunc 95 #[.int .u64 (m1:Int),.int .u64 (m2:Int),.int .u64 (u:Int)]).run Tryz.prog w = .ok (.value (.tuple #[.int .u64 ((ad m1 m2 u:Nat):Int),.int .u64 ((ao m1 m2 u:Nat):Int)])) w:=fun w=>by
    rw [Ab.add64_run (m1:Int) (m2:Int) (u:Int) (by omega) (by omega) (by omega) (by omega) w]
    unfold ad ao
    rw [show ((m1:Int)+m2+u)%18446744073709551616=(((m1+m2+u)%18446744073709551616:Nat):Int) by omega,show ((m1:Int)+m2+u) / 18446744073709551616=(((m1+m2+u) / 18446744073709551616:Nat):Int) by omega]
   have hgl:=(Array.getElem?_eq_some_iff.1 HR.out.rd).1
   obtain ⟨g,hg⟩ : ∃ g,g=w.heap.size:=⟨_,rfl⟩
   rw [← hg] at HR hgl ⊢
   have hga:(fun j=>j<wr.heap.size∧j≠g+1+1+1) g:=by dsimp only; omega
   have hgb:(fun j=>j<wr.heap.size∧j≠g+1+1+1) (g+1):=by dsimp only; omega
   have HGA:=Lib.hid hga
   have HGB:=Lib.hid hgb
   have HG:=Lib.hid hg
   have ca : ∀ x':World,(x'.heap[g]? = wr.heap[g]?)→x'.cell? ⟨g,k,none⟩=some (.int .u64 (m1:Int)):=fun x' h=>(cell_of_row _ _ _ _ _ _ (h.trans HR.out.ra)).trans g1
   have cb : ∀ x':World,(x'.heap[g+1]? = wr.heap[g+1]?)→x'.cell? ⟨g+1,k,none⟩=some (.int .u64 (m2:Int)):=fun x' h=>(cell_of_row _ _ _ _ _ _ (h.trans HR.out.rb)).trans g2
   have HCA:=Lib.hid ca
   have HCB:=Lib.hid cb
   have q1:(k:Int)<4:=by omega
   have HD:=Lib.hid hD
   have HGL:=Lib.hid hgl
   clear hDe hue hxe hye hD hle g1 g2 hga hgb hg ca cb
   go_wp2_with fail
   refine Re.region (fun j=>j<wr.heap.size∧j≠g+1+1+1) 14 [Re.S 13 [] [] (· = g+1+1+1) (fun _=>undef) (fun _ _ y'=>y'.heap[g+1+1+1]? = some (.cells (wN (D.set k (ad m1 m2 u))) 173 (0,0)))] [13] (by kernel_rfl) (Re.own_one (i:=13) HGL.out (by intro s hs; simp only [List.mem_cons,List.not_mem_nil,or_false] at hs; subst hs; exact .inr ⟨rfl,rfl⟩)) (by kernel_rfl) ?_; intro p; simp only [List.take,List.drop]
   iterate 13 (refine Re.rK rfl rfl ?_; intro K hK; apply Exists.intro; refine ⟨?_,?_⟩; (focus (intro x hx; have e1:=HCA.out x ((Re.undrew hx).block _ (.inl HGA.out));have e2:=HCB.out x ((Re.undrew hx).block _ (.inl HGB.out)); go_simp; (first | (fail) | ((try go_bits); (try go_simp); (try rfl))))); go_simp; refine hK _ ?_; clear hK K)
   refine Re.cK rfl rfl rfl ?_ ?_
   ·intro x Fs hx ho hg' K hK
    have h8:x.heap[g+1+1+1]? = some (.cells (wN D) 173 (0,0)):=(ho _ rfl).trans HR.out.rd
    have e1:x.cell? ⟨g+1+1+1,k,none⟩=some (.int .u64 ((D.getD k 0:Nat):Int)):=(cell_of_row _ _ _ _ _ _ h8).trans (wN_get D k (by rw [HD.out]; exact hlt))
    have e2:x.frozen? ⟨g+1+1+1,k,none⟩=false:=frozen_of_row _ _ _ _ _ h8
    have H8:=Lib.hid h8
    clear h8 hx ho hg'
    go_wp2_with fail
    have he:x.setCell ⟨g+1+1+1,k,none⟩ (.int .u64 ((ad m1 m2 u:Nat):Int))=x.setRow (g+1+1+1) (wN (D.set k (ad m1 m2 u))):=by rw [setCell_eq_setRow x (g+1+1+1) k _ _ _ _ H8.out,wN_set]
    rw [he]
    have hgr:=grownBy_setRowE x (g+1+1+1) (wN (D.set k (ad m1 m2 u)))
    have h8':=setRow_heap x (g+1+1+1) _ (wN (D.set k (ad m1 m2 u))) _ _ H8.out
    exact hK Rc.dflt _ ⟨hgr.os,hgr.tape,hgr.output,hgr.size,fun j hj hn=>hgr.block j hj fun e=>hn (.inr (by cases e; rfl))⟩ (fun y hy=>(hy.block _ ((Array.getElem?_eq_some_iff.1 h8').1) (.inr (.inl (.inr rfl)))).trans h8')
   intro K hK; go_simp; refine hK _ ?_; clear hK K
   refine Re.done fun x2 Fs2 hx hg' => ?_
   have hr:SubAt w a b (D.set k (ad m1 m2 u)) g x2:=by
    have hx':=Re.undrew hx
    refine ⟨(hx'.block _ HGA.out).trans HR.out.ra,(hx'.block _ HGB.out).trans HR.out.rb,(hx'.block _ ?_).trans HR.out.rz,hg'.1,HR.out.be.trans ⟨hx'.os,hx'.tape,hx'.output,hx'.size,fun j hj=>hx'.block j ⟨?_,?_⟩⟩⟩
    · exact ⟨by have:=HGL.out; omega,by omega⟩
    · exact Nat.lt_of_lt_of_le hj HR.out.be.size
    · have:=HG.out; omega
   have HR2:=Lib.hid hr
   clear hx hg' hr
   go_wp2_with fail
   refine NoPanic.normal ?_
   go_wp2_with fail
   refine ⟨⟨k+1,by omega,by go_num,by rw [HN.out],?_⟩,by simp [intOf]; omega⟩
   rw [HN.out]
   exact HR2
  ·obtain rfl:k=4:=by omega
   have HS:=Lib.hid (addK_all a b HA.out.1 HB.out.1)
   have hD:=addK_length a b 4
   obtain ⟨D,hDe⟩ : ∃ D,D=(addK a b 4).1:=⟨_,rfl⟩
   obtain ⟨u,hue⟩ : ∃ u,u=(addK a b 4).2:=⟨_,rfl⟩
   rw [← hDe] at hD HR
   have HDE:Hid (D=(addC a b 0).1):=Lib.hid (by rw [hDe,HS.out])
   have HUE:Hid (u=(addC a b 0).2):=Lib.hid (by rw [hue,HS.out])
   rw [← hue]
   clear hDe hue
   have HI:Hid ((Tryz.prog.info? 173).map (·.size)=some (wN D).size):=Lib.hid (by rw [wN_size,hD]; exact infoE)
   have HZ:Hid ((wN [0,0,0,0]).size=(wN D).size):=Lib.hid (by rw [wN_size,wN_size,hD]; rfl)
   clear hD
   obtain ⟨g,hg⟩ : ∃ g,g=w.heap.size:=⟨_,rfl⟩
   rw [← hg] at HR ⊢
   have HG:=Lib.hid hg
   clear hg
   go_wp2_with (first | (refine wpList_load_row rfl 173 _ rfl (g+1+1+1) rfl 173 (wN D) (0,0) _ HR.out.rd Tryz.underlying173 rfl HI.out ?_) | (refine Rg.store_row rfl 173 _ _ rfl (g+1+1) rfl 173 (wN [0,0,0,0]) (wN D) rfl HR.out.rz HI.out HZ.out (wN_one _) ?_))
   refine bodyPost_ret (v := .tuple #[.agg (wN D),.int .u64 (u:Int)]) ?_ rfl ⟨by rw [HDE.out,HUE.out],?_⟩
   · exact results_cell_slotE (P:=Tryz.prog) rfl _ _ (g+1+1) 173 (wN D) (0,0) _ _ rfl (setRow_heap _ _ _ _ 173 _ HR.out.rz) rfl Tryz.underlying173 rfl HI.out
   · exact Rg.below_setRow HR.out.be (by have:=HG.out; omega) _
end Fld
end Go.Proofs.YtfodadedkilgdaaGreatDoor
namespace Go.Proofs.YtfodadedkilgdaaGreatDoor
namespace Rp
def Le (w w':World):Prop:=RowKit.Below w.heap.size w w'
section
variable {P:Program} {ops:Array Oper} {md:Region.Mode} {Q:Exit→Act→World→Prop}
theorem row_le {w x:World} (hx:Le w x) {g:Nat} {o:Obj} (h:w.heap[g]? = some o):x.heap[g]? = some o :=
 Rg.below_row hx (Array.getElem?_eq_some_iff.1 h).1 h
end
end Rp
end Go.Proofs.YtfodadedkilgdaaGreatDoor
namespace Go.Proofs.YtfodadedkilgdaaGreatDoor
open Go.RowKit Mem
namespace Rp
section
variable {P:Program} {ops:Array Oper} {Q:Exit→Act→World→Prop} {tail:List Oper} {a:Act} {w:World} {o:Oper} {r:List (Oper×Bool)}
theorem add_zero (p:Addr):p.add 0=p:=rfl
end
end Rp
end Go.Proofs.YtfodadedkilgdaaGreatDoor
namespace Go.Proofs.YtfodadedkilgdaaGreatDoor
open Go.RowKit Bits Mem Sha
namespace Ref
theorem size_u8 (w:World):(sizeOf 5).run Tryz.prog w = .ok 1 w:=by
 obtain ⟨i0,h1,h2⟩ : ∃ i0,Tryz.prog.info? 5=some i0∧i0.size=1:=by
  have:(Tryz.prog.info? 5).map (·.size)=some 1:=by kernel_rfl
  obtain ⟨i0,h1,h2⟩:=Option.map_eq_some_iff.1 this
  exact ⟨i0,h1,h2⟩
 simp [sizeOf,typeInfo,h1,h2]
theorem guard32:Tryz.prog.eqGuardType Tryz.prog.depth 22=false:=by kernel_rfl
@[go_sem] theorem run_guard32 (op:BinOp) (x y:Operand) (xs ys:Array Value) (w:World):(eqGuard op 22 x y (.agg xs) (.agg ys)).run Tryz.prog w = .ok () w:=run_eqGuard_agg (P:=Tryz.prog) w op 22 x y xs ys guard32
@[go_sem] theorem run_equal32 (a b:List UInt8) (w:World) (ha:a.length=32) (hb:b.length=32):(Op.equalIn 10000 22 (.agg (bysA a)) (.agg (bysA b))).run Tryz.prog w = .ok (a==b) w :=
 run_equalIn_bytes (P:=Tryz.prog) w 9998 22 5 32 Tryz.underlying22 Tryz.underlying5 size_u8 a b ha hb
theorem setRow_other (w:World) {g g':Nat} (c:Array Value) (h:g≠g'):(w.setRow g c).heap[g']? = w.heap[g']? := by
 unfold World.setRow
 exact (Array.getElem?_modify ..).trans (if_neg h)
theorem setRow_size (w:World) (g:Nat) (c:Array Value):(w.setRow g c).heap.size=w.heap.size:=by
 unfold World.setRow
 simp
end Ref
end Go.Proofs.YtfodadedkilgdaaGreatDoor
namespace Go.Proofs.YtfodadedkilgdaaGreatDoor
set_option linter.unusedVariables false
set_option linter.unusedSimpArgs false
open Go.RowKit Bits Mem Sha
namespace Fld
theorem W4_pow:(18446744073709551616:Nat)^4=W4:=by decide
def moreN (m n:Nat):Nat:=if W4≤m+n then m+n-W4+38 else m+n
theorem addN_any (m n:Nat) (hm:m<W4) (hn:n<W4) (w:World):Calls Tryz.prog 179 #[.agg (wN (words m 4)),.agg (wN (words n 4))] w fun e w'=>e = .returned (.tuple #[.agg (wN (words (m+n) 4)),.int .u64 (((m+n) / W4:Nat):Int)])∧Below w.heap.size w w':=by
 have h:=add_any (words m 4) (words n 4) w (W4s.words m) (W4s.words n)
 rw [addC_words 4 m n 0 (by rw [W4_pow]; exact hm) (by rw [W4_pow]; exact hn) (Nat.zero_le _),W4_pow] at h
 exact h
theorem words_small (n:Nat) (h:n<18446744073709551616):words n 4 = [n,0,0,0]:=by
 simp only [words]
 rw [Nat.mod_eq_of_lt h,Nat.div_eq_of_lt h]
theorem wN_small (n:Nat):(#[.int .u64 (n:Int),.int .u64 0,.int .u64 0,.int .u64 0]:Array Value)=wN [n,0,0,0]:=rfl
set_option maxRecDepth 100000 in
set_option maxHeartbeats 2000000 in
theorem more_any (m n:Nat) (hm:m<W4) (hn:n<18446744073709551616) (w:World):Calls Tryz.prog 143 #[.agg (wN (words m 4)),.int .u64 (n:Int)] w fun e w'=>e = .returned (.agg (wN (words (moreN m n) 4)))∧Below w.heap.size w w':=by
 obtain ⟨A,hA⟩ : ∃ A,A=words m 4:=⟨_,rfl⟩
 obtain ⟨w1,hw1⟩ : ∃ w1,w1=(w.alloc (.cells (wN A) 173)).alloc (.cells (wN [0,0,0,0]) 173):=⟨_,rfl⟩
 have hb1:Below w.heap.size w w1:=by rw [hw1]; exact ((Below.refl _ _).alloc (Nat.le_refl _) _).alloc (by simp) _
 have hr0:w1.heap[w.heap.size]? = some (.cells (wN A) 173 (0,0)):=by rw [hw1]; exact (Rg.heap_alloc_past _ _ _ (by simp)).trans (Rg.heap_alloc_at w _ _ rfl)
 have hr1:w1.heap[w.heap.size+1]? = some (.cells (wN [0,0,0,0]) 173 (0,0)):=by rw [hw1]; exact Rg.heap_alloc_at _ _ _ (by simp)
 have hI : ∀ l:List Nat,l.length=4→(Tryz.prog.info? 173).map (·.size)=some (wN l).size:=fun l hl=>by rw [wN_size,hl]; exact infoE
 have hAL:A.length=4:=by rw [hA]; exact words_length 4 m
 have HAD:=Lib.hid (addN_any m n hm (Nat.lt_of_lt_of_le hn (by decide)) w1)
 rw [← hA,words_small n hn] at HAD
 obtain ⟨B,hB⟩ : ∃ B,B=words (m+n) 4:=⟨_,rfl⟩
 obtain ⟨o,ho⟩ : ∃ o,o=(m+n) / W4:=⟨_,rfl⟩
 rw [← hB,← ho] at HAD
 have HIA:=Lib.hid (hI A hAL)
 have HR0:=Lib.hid hr0
 have HR1:=Lib.hid hr1
 have HB1:=Lib.hid hb1
 have HW1:=Lib.hid hw1
 have HBE:=Lib.hid hB
 have hBL:B.length=4:=by rw [hB]; exact words_length 4 _
 have hcase:(o=0∧m+n<W4)∨(o=1∧W4≤m+n∧m+n-W4<W4):=by
  have:n<W4:=Nat.lt_of_lt_of_le hn (by decide)
  rw [ho]
  unfold W4 at *
  omega
 clear hb1 hr0 hr1 hw1
 rw [← hA]
 clear hA hB ho hAL
 go_enter Tryz.func143,Tryz.ntmps143
 go_upto_region 1 with fail
 rw [← zN,← HW1.out]
 go_wp2_with (refine wpList_load_row rfl 173 _ rfl w.heap.size rfl 173 (wN A) (0,0) _ HR0.out Tryz.underlying173 rfl HIA.out ?_)
 rw [wN_small]
 refine HAD.out.mono ?_
 rintro e w2 ⟨rfl,hb2⟩
 have HIB:=Lib.hid (hI B hBL)
 have HSB:Hid (4=(wN B).size):=Lib.hid (by rw [wN_size,hBL])
 obtain ⟨w3,hw3⟩ : ∃ w3,w3=w2.alloc (.cells (wN B) 173):=⟨_,rfl⟩
 have hb3:Below w2.heap.size w2 w3:=by rw [hw3]; exact (Below.refl _ _).alloc (Nat.le_refl _) _
 have hr3:w3.heap[w2.heap.size]? = some (.cells (wN B) 173 (0,0)):=by rw [hw3]; exact heap_alloc_new w2 _
 have hb13:=hb2.trans (hb3.mono hb2.size)
 have hs2:=hb2.size
 have HR13:=Lib.hid (Rp.row_le hb13 HR1.out)
 have HB3:=Lib.hid (HB1.out.trans (hb13.mono HB1.out.size))
 have HR3:=Lib.hid hr3
 have HW3:=Lib.hid hw3
 have hlt1:w.heap.size+1<w1.heap.size:=lt_of_heap HR1.out
 clear hb2 hb3 hr3 hb13 hw3 HAD
 go_upto_region 2 with (refine Rg.store_row_new rfl 173 _ _ rfl w2.heap.size rfl rfl 173 _ (wN B) rfl HIB.out HSB.out (wN_one _) ?_)
 rw [← HW3.out]
 obtain ⟨g,hg⟩ : ∃ g,g=w2.heap.size:=⟨_,rfl⟩
 rw [← hg] at HR3 hs2 ⊢
 clear hg HW3
 rcases hcase with ⟨rfl,hlt⟩ | ⟨rfl,hge,hlt⟩
 ·have HE:Hid (B=words (moreN m n) 4):=Lib.hid (by rw [HBE.out]; unfold moreN; rw [if_neg (by omega)])
  have HSZ:Hid ((wN [0,0,0,0]).size=(wN B).size):=Lib.hid (by rw [wN_size,wN_size,hBL]; rfl)
  clear hlt
  go_wp2_with (first | (refine wpList_load_row rfl 173 _ rfl g rfl 173 (wN B) (0,0) _ HR3.out Tryz.underlying173 rfl HIB.out ?_) | (refine Rg.store_row rfl 173 _ _ rfl (w.heap.size+1) rfl 173 (wN [0,0,0,0]) (wN B) rfl HR13.out HIB.out HSZ.out (wN_one _) ?_))
  refine bodyPost_ret (v := .agg (wN B)) (results_cell_row (P:=Tryz.prog) rfl _ _ (w.heap.size+1) 173 (wN B) (0,0) _ rfl (setRow_heap _ _ _ _ 173 _ HR13.out) Tryz.underlying173 rfl HIB.out) rfl ⟨by rw [HE.out],Rg.below_setRow HB3.out (by omega) _⟩
 ·have hBw:B=words (m+n-W4) 4:=by
   have:=words_add 4 (m+n-W4)
   rw [W4_pow,Nat.sub_add_cancel hge] at this
   exact HBE.out.trans this
  obtain ⟨D,hD⟩ : ∃ D,D=words (moreN m n) 4:=⟨_,rfl⟩
  have hDl:D.length=4:=by rw [hD]; exact words_length 4 _
  have hmn:m+n-W4+38=moreN m n:=by unfold moreN; rw [if_pos hge]
  obtain ⟨c,hc⟩ : ∃ c,c=(m+n-W4+38) / W4:=⟨_,rfl⟩
  have HA2:=Lib.hid (addN_any (m+n-W4) 38 hlt (by decide) w3)
  rw [← hBw,words_small 38 (by decide),← hc,hmn,← hD] at HA2
  have HDE:=Lib.hid hD
  have HID:=Lib.hid (hI D hDl)
  have HSD:Hid ((wN B).size=(wN D).size):=Lib.hid (by rw [wN_size,wN_size,hBL,hDl])
  have HSZ:Hid ((wN [0,0,0,0]).size=(wN D).size):=Lib.hid (by rw [wN_size,wN_size,hDl]; rfl)
  clear hlt hge hBw hD hDl hmn hc HBE
  go_wp2_with (refine wpList_load_row rfl 173 _ rfl g rfl 173 (wN B) (0,0) _ HR3.out Tryz.underlying173 rfl HIB.out ?_)
  rw [show (#[.int .u64 38,.int .u64 0,.int .u64 0,.int .u64 0]:Array Value)=wN [38,0,0,0] from rfl]
  refine HA2.out.mono ?_
  rintro e w4 ⟨rfl,hb4⟩
  have HR4:=Lib.hid (Rp.row_le hb4 HR3.out)
  have hr14:=Rp.row_le hb4 HR13.out
  have hg1:w.heap.size+1≠g:=by omega
  obtain ⟨w5,hw5⟩ : ∃ w5,w5=w4.setRow g (wN D):=⟨_,rfl⟩
  have hr5:w5.heap[g]? = some (.cells (wN D) 173 (0,0)):=by rw [hw5]; exact setRow_heap _ _ _ _ _ _ HR4.out
  have hr15:w5.heap[w.heap.size+1]? = some (.cells (wN [0,0,0,0]) 173 (0,0)):=by rw [hw5]; exact (setRow_otherE _ _ (Ne.symm hg1)).trans hr14
  have hb5:Below w.heap.size w w5:=by rw [hw5]; exact Rg.below_setRow (HB3.out.trans (hb4.mono HB3.out.size)) (by omega) _
  have HR5:=Lib.hid hr5
  have HR15:=Lib.hid hr15
  have HB5:=Lib.hid hb5
  have HW5:=Lib.hid hw5
  clear hb4 hr14 hw5 hr5 hr15 hb5 HA2
  go_wp2_with (first | (refine Rg.store_row rfl 173 _ _ rfl g rfl 173 (wN B) (wN D) rfl HR4.out HID.out HSD.out (wN_one _) ?_; rw [← HW5.out]) | (refine wpList_load_row rfl 173 _ rfl g rfl 173 (wN D) (0,0) _ HR5.out Tryz.underlying173 rfl HID.out ?_) | (refine Rg.store_row rfl 173 _ _ rfl (w.heap.size+1) rfl 173 (wN [0,0,0,0]) (wN D) rfl HR15.out HID.out HSZ.out (wN_one _) ?_))
  refine bodyPost_ret (v := .agg (wN D)) (results_cell_row (P:=Tryz.prog) rfl _ _ (w.heap.size+1) 173 (wN D) (0,0) _ rfl (setRow_heap _ _ _ _ 173 _ HR15.out) Tryz.underlying173 rfl HID.out) rfl ⟨by rw [HDE.out],Rg.below_setRow HB5.out (by omega) _⟩
end Fld
end Go.Proofs.YtfodadedkilgdaaGreatDoor
