/- A part of the proof. Plain; no condition. -/
import Derived.Test.YtfodadedkilgdaaGreatDoorP10
import Derived.Test.YtfodadedkilgdaaGreatDoorP36
import Derived.Test.YtfodadedkilgdaaGreatDoorP33
namespace Go.Proofs.YtfodadedkilgdaaGreatDoor
set_option linter.unusedVariables false
set_option linter.unusedSimpArgs false
namespace Kr
open Rn (fN fN_eq)
open Fld (P4 tw pl z4 tmsK bitB P rootX rootV rootE rootN)
open Ed (FP fpow)
open Vr (A2)
variable {α:Type}
def fF (x:FP) (k:FP→α):α:=fN x.val fun n=>k ⟨n%P,Nat.mod_lt _ (by decide)⟩
theorem fF_eq (x:FP) (k:FP→α):fF x k=k x:=by
 unfold fF
 rw [fN_eq]
 congr 1
 exact Fin.ext (Nat.mod_eq_of_lt x.isLt)
def fP4 (p:P4) (k:P4→α):α:=fF p.x fun x=>fF p.y fun y=>fF p.z fun z=>fF p.t fun t=>k ⟨x,y,z,t⟩
theorem fP4_eq (p:P4) (k:P4→α):fP4 p k=k p:=by simp only [fP4,fF_eq]
theorem tmsK_succ (p:P4) (l:List UInt8) (k:Nat):tmsK p l (k+1)=if bitB l (255-k) then pl (tw (tmsK p l k)) p else tw (tmsK p l k):=rfl
noncomputable def tmF (p:P4) (l:List UInt8) (n:Nat):(P4→α)→α :=
 Nat.rec (motive:=fun _=>(P4→α)→α) (fun K=>K z4)
  (fun k ih K=>ih fun q=>fP4 (tw q) fun q=>match bitB l (255-k) with
   | true=>fP4 (pl q p) K
   | false=>K q) n
theorem tmF_eq (p:P4) (l:List UInt8) (n:Nat) (K:P4→α):tmF p l n K=K (tmsK p l n):=by
 induction n generalizing K with
 | zero=>rfl
 | succ k ih =>
   show tmF p l k (fun q=>fP4 (tw q) fun q=>match bitB l (255-k) with
    | true=>fP4 (pl q p) K
    | false=>K q)=_
   rw [ih,fP4_eq]
   rw [tmsK_succ]
   cases bitB l (255-k)
   · rfl
   ·dsimp only
    rw [fP4_eq,if_pos rfl]
def pwF (a:FP) (e:Nat) (k:FP→α):α:=fN (Nt.pm P 256 a.val e) fun n=>k ⟨n%P,Nat.mod_lt _ (by decide)⟩
theorem pwF_eq (a:FP) (e:Nat) (he:e<2^256) (k:FP→α):pwF a e k=k (fpow a e):=by
 unfold pwF
 rw [fN_eq,Nt.pm_eq P 256 a.val e he]
 congr 1
 exact Fin.ext (Nat.mod_mod _ _)
open Fld (decX decY decL decO decR decB leB sumX sumY)
open Vr (dblA eightA decA keyB tryH tryS)
theorem decide_match {β:Type} {p:Prop} [Decidable p] (a b:β):(match decide p with
 | true=>a
 | false=>b)=if p then a else b:=by
 by_cases h:p
 · rw [decide_eq_true h,if_pos h]
 · rw [decide_eq_false h,if_neg h]
def rxF (u v:FP) (K:FP→α):α:=fF (v*v*v) fun c=>fF (u*(c*c*v)) fun b=>pwF b rootN fun r=>fF (u*c*r) K
theorem rxF_eq (u v:FP) (K:FP→α):rxF u v K=K (rootX u v):=by
 unfold rxF
 rw [fF_eq,fF_eq,pwF_eq _ _ (by decide),fF_eq]
 rfl
def rvF (u v:FP) (K:FP×Bool→α):α:=rxF u v fun x=>fF (v*(x*x)) fun w=>match decide (w=u) with
 | true=>K (x,true)
 | false=>match decide (w = -u) with
   | true=>fF (x*Ed.iC) fun y=>K (y,true)
   | false=>K (0,false)
theorem rvF_eq (u v:FP) (K:FP×Bool→α):rvF u v K=K (rootV u v):=by
 unfold rvF
 rw [rxF_eq,fF_eq,decide_match,decide_match,fF_eq]
 have e:rootV u v=rootE u (rootX u v) (v*(rootX u v*rootX u v)):=by unfold rootV; exact Eq.refl _
 rw [e]
 unfold rootE
 split
 · rfl
 · split <;> rfl
def dbF (a:A2) (K:A2→α):α:=fF (1+Ed.dC*a.1*a.1*a.2*a.2) fun d1=>pwF d1 (P-2) fun i1=>fF (1-Ed.dC*a.1*a.1*a.2*a.2) fun d2=>pwF d2 (P-2) fun i2=>fF ((a.1*a.2+a.1*a.2)*i1) fun x=>fF ((a.2*a.2+a.1*a.1)*i2) fun y=>K (x,y)
theorem dbF_eq (a:A2) (K:A2→α):dbF a K=K (dblA a):=by
 unfold dbF
 rw [fF_eq,pwF_eq _ _ (by decide),fF_eq,pwF_eq _ _ (by decide),fF_eq,fF_eq]
 rfl
def keF (l:List UInt8) (K:Bool→α):α:=fF (decY l) fun y=>fF (y*y) fun yy=>rvF (yy-1) (Ed.dC*yy+1) fun r=>flU (leB y.val 32) fun e=>flU (decL l) fun e'=>match e==e' && (r.2 && !(decO l && decide (r.1=0))) with
 | false=>K false
 | true=>fF (match decide (decide (r.1.val%2=1)=decO l) with
   | true=>r.1
   | false => -r.1) fun x=>dbF (x,y) fun a=>dbF a fun a=>dbF a fun a=>K (!decide (a=(0,1)))
theorem keF_eq (l:List UInt8) (K:Bool→α):keF l K=K (keyB l):=by
 unfold keF keyB
 rw [fF_eq,fF_eq,rvF_eq,← Fld.decR_eq,flU_eq,flU_eq,← Fld.decB_eq]
 cases h:decB l with
 | false=>rfl
 | true =>
   have e1:decX l=if decide ((decR l).1.val%2=1)=decO l then (decR l).1 else -(decR l).1:=by unfold decX; exact Eq.refl _
   have e2:eightA (decA l)=dblA (dblA (dblA (decX l,decY l))):=by unfold eightA decA; exact Eq.refl _
   rw [Bool.true_and,e2,e1]
   generalize (decR l).1=r
   generalize decY l=y
   generalize decO l=o
   rw [← decide_match r (-r)]
   simp only [fF_eq,dbF_eq]
noncomputable def tyF (pub text:List UInt8) (k:Nat) (K:Bool→α):α:=sumK ([3,1]++pub++text ++ [UInt8.ofNat k,0]) fun s=>flU ((s.drop 0).take 32) fun l=>keF l K
theorem tyF_eq (pub text:List UInt8) (k:Nat) (K:Bool→α):tyF pub text k K=K (keyB (tryH pub text k)):=by
 unfold tyF
 rw [sumK_eq,flU_eq,keF_eq,← Vr.tryS_eq]
 rfl
end Kr
end Go.Proofs.YtfodadedkilgdaaGreatDoor
namespace Go.Proofs.YtfodadedkilgdaaGreatDoor
set_option linter.unusedVariables false
set_option linter.unusedSimpArgs false
open Go.RowKit Mem Sha
namespace Rn
open Fld (words val P4 ptv pt el wN WB W4 leB leN tmsK baseP W4s)
open Sca (sn Q clampB)
open Vr (A2 encP Gd ptK ptP ptA IsB)
open Ed (FP)
def sigN (seed text:List UInt8):Nat:=Vr.numB (preB seed++text)
def sigA (seed text:List UInt8):A2:=Vr.mulA Vr.baseA (leB (sigN seed text%Q) 32)
def sigH (seed text:List UInt8):List UInt8:=encP (sigA seed text)
def sigT (seed text:List UInt8):Nat:=(sigN seed text+Vr.numB (sigH seed text++(pubB seed++text))*(leN (secB seed)%Q)%Q)%Q
def signB (seed text:List UInt8):List UInt8:=sigH seed text++leB (sigT seed text%Q) 32
theorem sigH_length (seed text:List UInt8):(sigH seed text).length=32:=Vr.encP_length _
theorem signB_length (seed text:List UInt8):(signB seed text).length=64:=by unfold signB; rw [List.length_append,sigH_length,Fld.leB_length]
theorem mod_W4 (x:Nat):x%Q<W4:=Nat.lt_trans (Nat.mod_lt _ Sca.Q_pos) Sca.Q_W4
def mSign:List Me := [(5,[xs 11 32],22),(9,[zs 21 4,zs 22 4],23),(7,[zs 16 4,zs 23 4],24),(8,[zs 24 4],25),(5,[xs 20 64],21),(2,[xs 19 32,xs 14 32,zs 4 1],20),(8,[zs 16 4],17),(3,[zs 12 16,xs 17 32],18),(6,[zs 18 16],19),(5,[xs 15 64],16),(2,[seg (xs 10 64) 32 32,zs 4 1],15),(1,[],12),(3,[zs 12 16,xs 11 32],13),(6,[zs 13 16],14),(4,[seg (xs 10 64) 0 32],11),(2,[xs 0 32],10),(23,[],4)]
theorem sign_run:(callR Tryz.prog (ctB leaves) 1000 30 32 [.o (.a (xs 0 32)),.o (.v (.z 4 0))] (h0 [(23,[],4)])).map (fun x=>(x.1,x.2.me))=some (.o (.a (xs 19 32++xs 25 32)),mSign):=by
 kernel_rfl
def zt1 (l:Cl):Nat→Option Cl:=fun o=>if o=4 then some l else none
theorem sn_len (n:Nat):(sn n).toList.length=4:=by rw [Array.length_toList,Sca.sn_size]
theorem pt_len (p:P4):(ptv p).toList.length=16:=by rw [Array.length_toList,Fld.ptv_size]
section
variable {c:Cx} {σ:Sg} {base:Nat} {fx:Nat→Option (List UInt8)} {T:List UInt8} {tv:Value} {m n:Nat} {M:List Me}
theorem cOf {o o1 j:Nat} {L:List UInt8} {args:List V} (hM : ∀ x∈M,MeOk (kx base fx T tv m n) σ x) (hm:(5,[args],o)∈M) (ha:vals σ args=bys L):vals σ (zs o 4)=(sn (leN L%Q)).toList :=
 objC hM hm rfl (by
  show (sn (leN (pb T (vals σ args))%Q)).toList=_
  rw [ha,pb_bys]) (sn_len _)
theorem cBytes {o:Nat} {x:Nat} {args:List V} (hx:x<W4) (hM : ∀ x∈M,MeOk (kx base fx T tv m n) σ x) (hm:(8,[args],o)∈M) (ha:vals σ args=(sn x).toList):σ.ρ o=some (leB (x%Q) 32) :=
 objB hM hm rfl (by
  show bys (leB (wv (vals σ args)%Q) 32)=_
  rw [ha,wv_sn hx])
theorem cTimes {o:Nat} {p:P4} {L:List UInt8} {a1 a2:List V} (hM : ∀ x∈M,MeOk (kx base fx T tv m n) σ x) (hm:(3,[a1,a2],o)∈M) (h1:vals σ a1=(ptv p).toList) (h2:vals σ a2=bys L):vals σ (zs o 16)=(ptv (tmsK p L 256)).toList :=
 objC hM hm rfl (by
  show (ptv (tmsK (ptr (vals σ a1)) (ubs (vals σ a2)) 256)).toList=_
  rw [h1,ptr_ptv,h2,ubs_bys]) (pt_len _)
theorem cEnc {o:Nat} {p:P4} {a:A2} {a1:List V} (hM : ∀ x∈M,MeOk (kx base fx T tv m n) σ x) (hm:(6,[a1],o)∈M) (h1:vals σ a1=(ptv p).toList) (h2:Gd p a):σ.ρ o=some (encP a) :=
 objB hM hm rfl (by
  show bys (encP (afP (ptr (vals σ a1))))=_
  rw [h1,ptr_ptv,afP_gd h2])
theorem cBase {o:Nat} (hM : ∀ x∈M,MeOk (kx base fx T tv m n) σ x) (hm:(1,[],o)∈M):vals σ (zs o 16)=(ptv baseP).toList:=objC hM hm rfl rfl (pt_len _)
theorem cMul {o:Nat} {x y:Nat} {a1 a2:List V} (hx:x<W4) (hy:y<W4) (hM : ∀ x∈M,MeOk (kx base fx T tv m n) σ x) (hm:(9,[a1,a2],o)∈M) (h1:vals σ a1=(sn x).toList) (h2:vals σ a2=(sn y).toList):vals σ (zs o 4)=(sn (x*y%Q)).toList :=
 objC hM hm rfl (by
  show (sn (wv (vals σ a1)*wv (vals σ a2)%Q)).toList=_
  rw [h1,h2,wv_sn hx,wv_sn hy]) (sn_len _)
theorem cAdd {o:Nat} {x y:Nat} {a1 a2:List V} (hx:x<W4) (hy:y<W4) (hM : ∀ x∈M,MeOk (kx base fx T tv m n) σ x) (hm:(7,[a1,a2],o)∈M) (h1:vals σ a1=(sn x).toList) (h2:vals σ a2=(sn y).toList):vals σ (zs o 4)=(sn ((x+y)%Q)).toList :=
 objC hM hm rfl (by
  show (sn ((wv (vals σ a1)+wv (vals σ a2))%Q)).toList=_
  rw [h1,h2,wv_sn hx,wv_sn hy]) (sn_len _)
theorem cClamp {o:Nat} {L:List UInt8} {args:List V} (hM : ∀ x∈M,MeOk (kx base fx T tv m n) σ x) (hm:(4,[args],o)∈M) (ha:vals σ args=bys L):σ.ρ o=some (clampB L) :=
 objB hM hm rfl (by
  show bys (clampB (ubs (vals σ args)))=_
  rw [ha,ubs_bys])
theorem cSum {o:Nat} {l:List UInt8} {args:List (List V)} (hM : ∀ x∈M,MeOk (kx base fx T tv m n) σ x) (hm:(2,args,o)∈M) (ha:((args.map (vals σ)).map (pb T)).flatten=l):σ.ρ o=some (S5.sum l) :=
 objB hM hm rfl (by
  show bys (S5.sum ((args.map (vals σ)).map (pb T)).flatten)=_
  rw [ha])
end
theorem sign_c (seed text:List UInt8) (hl:seed.length=32) (ht:text.length≤80000000) (v:Value) (w:World) (hv:IsB w v text) (hj:J0 w):Calls Tryz.prog 32 #[.agg (bysA seed),v] w fun e w'=>e = .returned (.agg (bysA (signB seed text)))∧Below w.heap.size w w':=by
 have hv1:v.oneCell'=true:=by obtain ⟨q,k,rfl,_⟩:=hv; rfl
 obtain ⟨zl,hzl⟩ : ∃ zl:Cl,zl.1 = [v]:=⟨⟨[v],fun x hx=>by rw [List.mem_singleton.1 hx]; exact hv1⟩,rfl⟩
 have hx0:vals (s0 (fx1 seed) (zt1 zl)) (xs 0 32)=bys seed:=vals_x (o:=0) rfl hl
 have hz0:(V.z 4 0).val (s0 (fx1 seed) (zt1 zl))=v:=by
  show zl.1.getD 0 _=v
  rw [hzl]
  rfl
 have h:=run0 (T:=text) (tv:=v) (m:=0) (n:=0) (fx:=fx1 seed) (zt:=zt1 zl) (me := [(23,[],4)]) leaves (leaves_ok _ _ _ _ _ _ (by decide) (by decide)) (fun o l h=>by
  unfold fx1 at h
  split at h
  · omega
  · cases h) (fun o l h=>by
  unfold zt1 at h
  split at h
  · omega
  · cases h) (hj.jn hv ht) (fun x h=>by
  rw [List.mem_singleton.1 h]
  exact ⟨⟨zl,rfl,hzl⟩,(fun _ h=>nomatch h),pf_not (by decide) (by decide)⟩) (fun x hx=>by
  rcases List.mem_cons.1 hx with rfl | hx
  ·have:=(xs_val (σ:=s0 (fx1 seed) (zt1 zl)) (o:=0) (L:=seed) rfl).2
   rw [hl] at this
   exact this
  ·rw [List.mem_singleton.1 hx]
   exact O.df_one.2 ⟨zl,rfl⟩) sign_run
 have ea:(List.map (R.val (s0 (fx1 seed) (zt1 zl))) [R.o (.a (xs 0 32)),R.o (.v (.z 4 0))]).toArray = #[Value.agg (bysA seed),v]:=by
  show #[Value.agg (vals _ (xs 0 32)).toArray,(V.z 4 0).val _]=_
  rw [hx0,hz0]
  rfl
 rw [ea] at h
 refine h.mono ?_
 rintro e w' ⟨σ,rfl,hle,_,hM,hb⟩
 refine ⟨?_,hb⟩
 have hpb:pb text [v]=text:=by obtain ⟨q,k,rfl,_⟩:=hv; rfl
 have r0:σ.ρ 0=some seed:=hle.r 0 seed rfl
 have z4:vals σ (zs 4 1) = [v]:=objC hM (k:=23) (args := []) (by simp [mSign]) rfl rfl rfl
 have r10:σ.ρ 10=some (S5.sum seed):=cSum (args := [xs 0 32]) hM (by simp [mSign]) (by simp [vals_x r0 hl,pb_bys])
 have r11:σ.ρ 11=some (secB seed):=cClamp hM (args:=seg (xs 10 64) 0 32) (by simp [mSign]) (vals_seg r10 (S5.sum_length _))
 have r11':=vals_x r11 (secB_length _)
 have z12:=cBase (o:=12) hM (by simp [mSign])
 have z13:=cTimes (o:=13) hM (by simp [mSign]) z12 r11'
 have r14:σ.ρ 14=some (pubB seed):=cEnc hM (by simp [mSign]) z13 (Vr.Gd.base.mul _)
 have r14':=vals_x r14 (pubB_length _)
 have r15:σ.ρ 15=some (S5.sum (preB seed++text)):=cSum (args := [seg (xs 10 64) 32 32,zs 4 1]) hM (by simp [mSign]) (by simp [vals_seg r10 (S5.sum_length _),pb_bys,z4,hpb,preB])
 have z16:vals σ (zs 16 4)=(sn (sigN seed text)).toList:=cOf (o1:=0) (j:=0) hM (by simp [mSign]) (vals_x r15 (S5.sum_length _))
 have r17:σ.ρ 17=some (leB (sigN seed text%Q) 32):=cBytes (mod_W4 _) hM (by simp [mSign]) z16
 have z18:=cTimes (o:=18) hM (by simp [mSign]) z12 (vals_x r17 (Fld.leB_length _ _))
 have r19:σ.ρ 19=some (sigH seed text):=cEnc hM (by simp [mSign]) z18 (Vr.Gd.base.mul _)
 have r19':=vals_x r19 (sigH_length _ _)
 have r20:σ.ρ 20=some (S5.sum (sigH seed text++(pubB seed++text))):=cSum (args := [xs 19 32,xs 14 32,zs 4 1]) hM (by simp [mSign]) (by simp [r19',r14',pb_bys,z4,hpb])
 have z21:vals σ (zs 21 4)=(sn (Vr.numB (sigH seed text++(pubB seed++text)))).toList:=cOf (o1:=0) (j:=0) hM (by simp [mSign]) (vals_x r20 (S5.sum_length _))
 have z22:=cOf (o:=22) (o1:=0) (j:=0) hM (by simp [mSign]) r11'
 have z23:=cMul (o:=23) (mod_W4 _) (mod_W4 _) hM (by simp [mSign]) z21 z22
 have z24:vals σ (zs 24 4)=(sn (sigT seed text)).toList:=cAdd (mod_W4 _) (mod_W4 _) hM (by simp [mSign]) z16 z23
 have r25:σ.ρ 25=some (leB (sigT seed text%Q) 32):=cBytes (mod_W4 _) hM (by simp [mSign]) z24
 show Ending.returned (.agg (vals σ (xs 19 32++xs 25 32)).toArray)=_
 rw [vals_app,r19',vals_x r25 (Fld.leB_length _ _),← bys_app]
 rfl
end Rn
end Go.Proofs.YtfodadedkilgdaaGreatDoor
namespace Go.Proofs.YtfodadedkilgdaaGreatDoor
set_option linter.unusedVariables false
set_option linter.unusedSimpArgs false
open Go.RowKit Mem Sha
namespace Rn
open Fld (words val P4 ptv pt el wN WB W4 leB leN tmsK baseP W4s)
open Sca (sn Q clampB)
open Vr (A2 encP Gd ptK ptP ptA IsB)
open Ed (FP)
def kSpread:Ctr:=⟨51,fun l h=>match l with
 | [.o (.a l)]=>match lS vS l (xs 0 32) with
   | true=>some (.fx 1 (.ag 96))
   | false=>none
 | _=>none⟩
def kPoint:Ctr:=⟨230,fun l h=>match l with
 | [.o (.a l),.o (.v (.z 4 0))]=>match lS vS l (seg (xs 1 96) 64 32),memK [23] 4 h.me with
   | true,true=>some (.pu 11 [seg (xs 1 96) 64 32,zs 4 1] (.ae 16))
   | _,_=>none
 | _=>none⟩
noncomputable def leaves2:List Ctr:=kSpread::kPoint::leaves
theorem spread_sec (seed:List UInt8):((spreadB seed).drop 0).take 32=secB seed:=by
 unfold spreadB
 rw [List.drop_zero,List.take_append_of_le_length (by rw [secB_length]; decide),List.take_of_length_le (by rw [secB_length]; decide)]
theorem spread_pre (seed:List UInt8):((spreadB seed).drop 32).take 32=preB seed:=by
 unfold spreadB
 rw [List.drop_append,List.drop_of_length_le (by rw [secB_length]; decide),secB_length,List.nil_append,List.drop_zero,List.take_append_of_le_length (by rw [preB_length]; decide),List.take_of_length_le (by rw [preB_length]; decide)]
theorem spread_pub (seed:List UInt8):((spreadB seed).drop 64).take 32=pubB seed:=by
 unfold spreadB
 rw [List.drop_append,List.drop_of_length_le (by rw [secB_length]; decide),secB_length,List.nil_append,List.drop_append,List.drop_of_length_le (by rw [preB_length]; decide),preB_length,List.nil_append,List.drop_zero,List.take_of_length_le (by rw [pubB_length]; decide)]
def fx2 (seed:List UInt8):Nat→Option (List UInt8):=fun o=>if o=0 then some seed else if o=1 then some (spreadB seed) else none
section
variable (base:Nat) (seed:List UInt8) (T:List UInt8) (tv:Value) (m n:Nat)
theorem kSpread_ok (hl:seed.length=32):CtOk (kx base (fx2 seed) T tv m n) kSpread:=by
 refine ⟨⟨_,_,Tryz.func51,rfl,by decide⟩,fun l h σ w o e hs hd => ?_⟩
 dsimp only [kSpread] at e
 split at e
 ·rename_i l
  split at e
  ·rename_i h1
   cases e
   have hj:=hs.inv w (Below.refl _ _)
   have hx:=vals_x (hs.fx 0 seed rfl) hl
   have ea:(List.map (R.val σ) [R.o (.a l)]).toArray = #[Value.agg (bysA seed)]:=by
    show #[Value.agg (vals σ l).toArray]=_
    rw [lS_ok vS_ok h1,hx]
    rfl
   rw [ea]
   refine (spread_c seed hl w ⟨hj.et,hj.ot,hj.t5,hj.t2⟩).mono ?_
   rintro e w' ⟨rfl,hb⟩
   exact ⟨_,rfl,⟨spreadB seed,rfl,spreadB_length seed,rfl⟩,hb⟩
  · cases e
 · cases e
theorem kPoint_ok {j:Nat} (hk:ptK (pubB seed) T=some j):CtOk (kx base (fx2 seed) T tv m n) kPoint:=by
 refine ⟨⟨_,_,Tryz.func230,rfl,by decide⟩,fun l h σ w o e hs hd => ?_⟩
 dsimp only [kPoint] at e
 split at e
 ·rename_i l
  split at e
  ·rename_i h1 h2
   cases e
   have hj:=hs.inv w (Below.refl _ _)
   have hx:vals σ (seg (xs 1 96) 64 32)=bys (pubB seed):=(vals_seg (hs.fx 1 (spreadB seed) rfl) (spreadB_length seed)).trans (by rw [spread_pub])
   have hdx:dfs σ (seg (xs 1 96) 64 32):=by
    have:=(xs_val (σ:=σ) (hs.fx 1 (spreadB seed) rfl)).2
    rw [spreadB_length] at this
    exact seg_df this _ _
   obtain ⟨k,args,m1,m2⟩:=memK_ok h2
   rw [List.mem_singleton.1 m2] at m1
   have h3:=(hs.me _ m1).1
   dsimp only at h3
   obtain ⟨L,e1,e2⟩:=h3
   replace e2:L.1 = [tv]:=e2
   have hz:vals σ (zs 4 1) = [tv]:=by
    have:=(zs_val (σ:=σ) e1).1
    rw [e2] at this
    exact this
   have hdz:dfs σ (zs 4 1):=fun x hx=>by
    rw [List.mem_singleton.1 hx]
    exact ⟨L,e1⟩
   have hz1:(V.z 4 0).val σ=tv:=by
    have : [(V.z 4 0).val σ] = [tv]:=hz
    exact (List.cons.inj this).1
   have ea:(List.map (R.val σ) [R.o (.a l),R.o (.v (.z 4 0))]).toArray = #[Value.agg (bysA (pubB seed)),tv]:=by
    show #[Value.agg (vals σ l).toArray,(V.z 4 0).val σ]=_
    rw [lS_ok vS_ok h1,hx,hz1]
    rfl
   rw [ea]
   have hpb:pb T [tv]=T:=by obtain ⟨q,k,rfl,_⟩:=hj.is; rfl
   refine (Vr.point_gd (pubB seed) T (pubB_length seed) tv w hj.is hj.tl hj.et hj.t5).mono ?_
   rintro e w' ⟨rfl,hb⟩
   have hR:Vr.ptR (pubB seed) T = .tuple #[.agg (ptv (ptP (pubB seed) T j)),.int .i64 0]:=by unfold Vr.ptR; rw [hk]
   have e5:ubs (vals σ (seg (xs 1 96) 64 32))=pubB seed:=by rw [hx,ubs_bys]
   have e6:pb T (vals σ (zs 4 1))=T:=by rw [hz,hpb]
   refine ⟨_,rfl,puO (l:=(ptv (ptP (pubB seed) T j)).toList) rfl (fun l hl => ?_) ⟨fun h=>absurd h (by decide),fun _=>⟨j,?_⟩⟩ ?_ (pt_len _) (by rw [hR]; simp [Sh.v]) (ones_of (Fld.ptv_one _)),hb⟩
   ·rcases List.mem_cons.1 hl with rfl | hl
    · exact hdx
    · rw [List.mem_singleton.1 hl]; exact hdz
   ·show ptK (ubs (vals σ (seg (xs 1 96) 64 32))) (pb T (vals σ (zs 4 1)))=some j
    rw [e5,e6,hk]
   ·show (ptv (ptP (ubs (vals σ (seg (xs 1 96) 64 32))) (pb T (vals σ (zs 4 1))) ((ptK (ubs (vals σ (seg (xs 1 96) 64 32))) (pb T (vals σ (zs 4 1)))).getD 0))).toList=_
    rw [e5,e6,hk]
    rfl
  · cases e
 · cases e
end
def prH (seed text:List UInt8) (j:Nat):A2:=ptA (pubB seed) text j
def prG (seed text:List UInt8) (j:Nat):A2:=Vr.mulA (prH seed text j) (secB seed)
def prN (seed text:List UInt8) (j:Nat):Nat:=leN (S5.sum (preB seed++encP (prH seed text j)))%Q
def prC (seed text:List UInt8) (j:Nat):List UInt8:=((Vr.markS (pubB seed) [prH seed text j,prG seed text j,Vr.mulA Vr.baseA (leB (prN seed text j%Q) 32),Vr.mulA (prH seed text j) (leB (prN seed text j%Q) 32)]).drop 0).take 16
def prS (seed text:List UInt8) (j:Nat):Nat:=(prN seed text j+(leN (prC seed text j)%Q)*(leN (secB seed)%Q)%Q)%Q
def provB (seed text:List UInt8) (j:Nat):List UInt8:=encP (prG seed text j)++(prC seed text j++leB (prS seed text j%Q) 32)
theorem prC_length (seed text:List UInt8) (j:Nat):(prC seed text j).length=16:=by unfold prC; rw [List.length_take,List.length_drop,Vr.markS_length]; decide
theorem provB_length (seed text:List UInt8) (j:Nat):(provB seed text j).length=80:=by unfold provB; rw [List.length_append,List.length_append,Vr.encP_length,prC_length,Fld.leB_length]
def mProve:List Me := [(5,[seg (xs 22 64) 0 16],23),(5,[seg (xs 1 96) 0 32],24),(9,[zs 23 4,zs 24 4],25),(7,[zs 14 4,zs 25 4],26),(8,[zs 26 4],27),(1,[],15),(8,[zs 14 4],16),(3,[zs 15 16,xs 16 32],17),(3,[zs 10 16,xs 16 32],18),(2,[[.i .u8 3,.i .u8 2],seg (xs 1 96) 64 32,xs 12 32,xs 19 32,xs 20 32,xs 21 32,[.i .u8 0]],22),(6,[zs 18 16],21),(6,[zs 17 16],20),(6,[zs 11 16],19),(5,[xs 13 64],14),(2,[seg (xs 1 96) 32 32,xs 12 32],13),(6,[zs 10 16],12),(3,[zs 10 16,seg (xs 1 96) 0 32],11),(11,[seg (xs 1 96) 64 32,zs 4 1],10),(23,[],4)]
theorem prove_run:(callR Tryz.prog (ctB leaves2) 1000 30 209 [.o (.a (xs 0 32)),.o (.v (.z 4 0))] (h0 [(23,[],4)])).map (fun x=>(x.1,x.2.me))=some (.t [.a (xs 19 32++(seg (xs 22 64) 0 16++xs 27 32)),.v (.i .i64 0)],mProve):=by
 kernel_rfl
theorem prove_c (seed text:List UInt8) (hl:seed.length=32) (ht:text.length≤80000000) (j:Nat) (hk:ptK (pubB seed) text=some j) (v:Value) (w:World) (hv:IsB w v text) (hj:J0 w):Calls Tryz.prog 209 #[.agg (bysA seed),v] w fun e w'=>e = .returned (.tuple #[.agg (bysA (provB seed text j)),.int .i64 0])∧Below w.heap.size w w':=by
 have hv1:v.oneCell'=true:=by obtain ⟨q,k,rfl,_⟩:=hv; rfl
 obtain ⟨zl,hzl⟩ : ∃ zl:Cl,zl.1 = [v]:=⟨⟨[v],fun x hx=>by rw [List.mem_singleton.1 hx]; exact hv1⟩,rfl⟩
 have hx0:vals (s0 (fx2 seed) (zt1 zl)) (xs 0 32)=bys seed:=vals_x (o:=0) rfl hl
 have hz0:(V.z 4 0).val (s0 (fx2 seed) (zt1 zl))=v:=by
  show zl.1.getD 0 _=v
  rw [hzl]
  rfl
 have hct : ∀ k∈leaves2,CtOk (kx w.heap.size (fx2 seed) text v 0 0) k:=by
  intro k hk'
  rcases List.mem_cons.1 hk' with rfl | hk'
  · exact kSpread_ok _ _ _ _ _ _ hl
  ·rcases List.mem_cons.1 hk' with rfl | hk'
   · exact kPoint_ok _ _ _ _ _ _ hk
   · exact leaves_ok _ _ _ _ _ _ (by decide) (by decide) k hk'
 have h:=run0 (T:=text) (tv:=v) (m:=0) (n:=0) (fx:=fx2 seed) (zt:=zt1 zl) (me := [(23,[],4)]) leaves2 hct (fun o l h=>by
  unfold fx2 at h
  split at h
  · omega
  ·split at h
   · omega
   · cases h) (fun o l h=>by
  unfold zt1 at h
  split at h
  · omega
  · cases h) (hj.jn hv ht) (fun x h=>by
  rw [List.mem_singleton.1 h]
  exact ⟨⟨zl,rfl,hzl⟩,(fun _ h=>nomatch h),pf_not (by decide) (by decide)⟩) (fun x hx=>by
  rcases List.mem_cons.1 hx with rfl | hx
  ·have:=(xs_val (σ:=s0 (fx2 seed) (zt1 zl)) (o:=0) (L:=seed) rfl).2
   rw [hl] at this
   exact this
  ·rw [List.mem_singleton.1 hx]
   exact O.df_one.2 ⟨zl,rfl⟩) prove_run
 have ea:(List.map (R.val (s0 (fx2 seed) (zt1 zl))) [R.o (.a (xs 0 32)),R.o (.v (.z 4 0))]).toArray = #[Value.agg (bysA seed),v]:=by
  show #[Value.agg (vals _ (xs 0 32)).toArray,(V.z 4 0).val _]=_
  rw [hx0,hz0]
  rfl
 rw [ea] at h
 refine h.mono ?_
 rintro e w' ⟨σ,rfl,hle,_,hM,hb⟩
 refine ⟨?_,hb⟩
 have hpb:pb text [v]=text:=by obtain ⟨q,k,rfl,_⟩:=hv; rfl
 have r1:σ.ρ 1=some (spreadB seed):=hle.r 1 _ rfl
 have rsec:vals σ (seg (xs 1 96) 0 32)=bys (secB seed):=(vals_seg r1 (spreadB_length _)).trans (by rw [spread_sec])
 have rpre:vals σ (seg (xs 1 96) 32 32)=bys (preB seed):=(vals_seg r1 (spreadB_length _)).trans (by rw [spread_pre])
 have rpub:vals σ (seg (xs 1 96) 64 32)=bys (pubB seed):=(vals_seg r1 (spreadB_length _)).trans (by rw [spread_pub])
 have z4:vals σ (zs 4 1) = [v]:=objC hM (k:=23) (args := []) (by simp [mProve]) rfl rfl rfl
 have gH:Gd (ptP (pubB seed) text j) (prH seed text j):=Vr.Gd.pt (Vr.ptF_some _ _ _ _ _ hk)
 have z10:vals σ (zs 10 16)=(ptv (ptP (pubB seed) text j)).toList:=objC hM (k:=11) (args := [seg (xs 1 96) 64 32,zs 4 1]) (by simp [mProve]) rfl (by
  show (ptv (ptP (ubs (vals σ (seg (xs 1 96) 64 32))) (pb text (vals σ (zs 4 1))) ((ptK (ubs (vals σ (seg (xs 1 96) 64 32))) (pb text (vals σ (zs 4 1)))).getD 0))).toList=_
  rw [rpub,ubs_bys,z4,hpb,hk]
  rfl) (pt_len _)
 have z11:=cTimes (o:=11) hM (by simp [mProve]) z10 rsec
 have gG:Gd (tmsK (ptP (pubB seed) text j) (secB seed) 256) (prG seed text j):=gH.mul _
 have r12:σ.ρ 12=some (encP (prH seed text j)):=cEnc hM (by simp [mProve]) z10 gH
 have r12':=vals_x r12 (Vr.encP_length _)
 have r13:σ.ρ 13=some (S5.sum (preB seed++encP (prH seed text j))):=cSum (args := [seg (xs 1 96) 32 32,xs 12 32]) hM (by simp [mProve]) (by simp [rpre,r12',pb_bys])
 have z14:vals σ (zs 14 4)=(sn (prN seed text j)).toList:=cOf (o1:=0) (j:=0) hM (by simp [mProve]) (vals_x r13 (S5.sum_length _))
 have z15:=cBase (o:=15) hM (by simp [mProve])
 have r16:σ.ρ 16=some (leB (prN seed text j%Q) 32):=cBytes (mod_W4 _) hM (by simp [mProve]) z14
 have r16':=vals_x r16 (Fld.leB_length _ _)
 have z17:=cTimes (o:=17) hM (by simp [mProve]) z15 r16'
 have z18:=cTimes (o:=18) hM (by simp [mProve]) z10 r16'
 have r19:σ.ρ 19=some (encP (prG seed text j)):=cEnc hM (by simp [mProve]) z11 gG
 have r19':=vals_x r19 (Vr.encP_length _)
 have r20:=cEnc (o:=20) hM (by simp [mProve]) z17 (Vr.Gd.base.mul _)
 have r20':=vals_x r20 (Vr.encP_length _)
 have r21:=cEnc (o:=21) hM (by simp [mProve]) z18 (gH.mul _)
 have r21':=vals_x r21 (Vr.encP_length _)
 have k1:vals σ [.i .u8 3,.i .u8 2]=bys [3,2]:=rfl
 have k2:vals σ [.i .u8 0]=bys [0]:=rfl
 have r22:σ.ρ 22=some (Vr.markS (pubB seed) [prH seed text j,prG seed text j,Vr.mulA Vr.baseA (leB (prN seed text j%Q) 32),Vr.mulA (prH seed text j) (leB (prN seed text j%Q) 32)]):=by
  rw [Vr.markS_eq]
  refine cSum (args := [[.i .u8 3,.i .u8 2],seg (xs 1 96) 64 32,xs 12 32,xs 19 32,xs 20 32,xs 21 32,[.i .u8 0]]) hM (by simp [mProve]) ?_
  show (List.map (pb text) [vals σ [.i .u8 3,.i .u8 2],vals σ (seg (xs 1 96) 64 32),vals σ (xs 12 32),vals σ (xs 19 32),vals σ (xs 20 32),vals σ (xs 21 32),vals σ [.i .u8 0]]).flatten=_
  rw [k1,k2,rpub,r12',r19',r20',r21']
  simp only [List.map_cons,List.map_nil,pb_bys,List.cons_append,List.nil_append]
 have rC:vals σ (seg (xs 22 64) 0 16)=bys (prC seed text j):=vals_seg r22 (Vr.markS_length _ _)
 have z23:vals σ (zs 23 4)=(sn (leN (prC seed text j)%Q)).toList:=cOf (o1:=0) (j:=0) hM (by simp [mProve]) rC
 have z24:vals σ (zs 24 4)=(sn (leN (secB seed)%Q)).toList:=cOf (o1:=0) (j:=0) hM (by simp [mProve]) rsec
 have z25:=cMul (o:=25) (mod_W4 _) (mod_W4 _) hM (by simp [mProve]) z23 z24
 have z26:vals σ (zs 26 4)=(sn (prS seed text j)).toList:=cAdd (mod_W4 _) (mod_W4 _) hM (by simp [mProve]) z14 z25
 have r27:σ.ρ 27=some (leB (prS seed text j%Q) 32):=cBytes (mod_W4 _) hM (by simp [mProve]) z26
 show Ending.returned (.tuple #[.agg (vals σ (xs 19 32++(seg (xs 22 64) 0 16++xs 27 32))).toArray,.int .i64 0])=_
 rw [vals_app,vals_app,r19',rC,vals_x r27 (Fld.leB_length _ _),← bys_app,← bys_app]
 rfl
end Rn
end Go.Proofs.YtfodadedkilgdaaGreatDoor
namespace Go.Proofs.YtfodadedkilgdaaGreatDoor
set_option linter.unusedVariables false
set_option linter.unusedSimpArgs false
open Go.RowKit Bits Mem Sha
namespace Vr
open Fld hiding SubAt SubAt.start sub_any infoE
open Ed (FP fpow)
theorem fpow_sq (t:FP) (e:Nat):fpow (t*t) e=fpow t (2*e):=by
 apply Fin.ext
 show (t*t).val^e%P=t.val^(2*e)%P
 rw [Fin.val_mul,← Nat.pow_mod,← Nat.pow_two,← Nat.pow_mul]
theorem fpow_full {t:FP} (ht:t≠0):fpow t (P-1)=1:=by
 apply Fin.ext
 show t.val^(P-1)%P=_
 exact Nt.fermat Ed.prP (Ed.fin_dvd ht)
theorem fpA:Std.Associative (α:=FP) (· * ·):=⟨Fin.mul_assoc⟩
theorem fpC:Std.Commutative (α:=FP) (· * ·):=⟨Fin.mul_comm⟩
theorem ring_r1 {u v x:FP} (h:v*(x*x)=u):u*(v*v*v*(v*v*v)*v)=v*v*v*v*x*(v*v*v*v*x):=by
 subst h
 haveI:=fpA
 haveI:=fpC
 ac_rfl
theorem ring_r2a (u v s:FP):v*(u*(v*v*v)*s*(u*(v*v*v)*s))=u*(u*(v*v*v*(v*v*v)*v))*(s*s):=by
 haveI:=fpA
 haveI:=fpC
 ac_rfl
theorem ring_r2b (u t s:FP):u*(t*t)*(s*s)=u*(s*t*(s*t)):=by
 haveI:=fpA
 haveI:=fpC
 ac_rfl
theorem ring_r2 {u v t s:FP} (h:u*(v*v*v*(v*v*v)*v)=t*t):v*(u*(v*v*v)*s*(u*(v*v*v)*s))=u*(s*t*(s*t)):=by
 rw [ring_r2a,h,ring_r2b]
theorem ring_r3 {q:FP} (h:q*q=1):(q-1)*(q+1)=0:=by grind
theorem ring_r4 {q:FP} (h:q-1=0):q=1:=by grind
theorem ring_r5 {q:FP} (h:q+1=0):q = -1:=by grind
theorem ring_r6 {u q:FP} (h:q=1):u*q=u:=by grind
theorem ring_r7 {u q:FP} (h:q = -1):u*q = -u:=by grind
theorem ring_r8 {u v:FP} (h:v*(0*0)=u) (s:FP):v*(u*(v*v*v)*s*(u*(v*v*v)*s))=u:=by
 have h0:u=0:=by rw [← h,Fin.mul_zero,Fin.mul_zero]
 subst h0
 simp only [Fin.zero_mul,Fin.mul_zero]
theorem root_has {u v x:FP} (hv:v≠0) (h:v*(x*x)=u):(rootV u v).2=true:=by
 have e:rootV u v=rootE u (rootX u v) (v*(rootX u v*rootX u v)):=by unfold rootV; exact Eq.refl _
 have key:v*(rootX u v*rootX u v)=u∨v*(rootX u v*rootX u v) = -u:=by
  unfold rootX
  by_cases hx:x=0
  ·subst hx
   exact .inl (ring_r8 h _)
  ·have h1:=ring_r1 h
   have ht:v*v*v*v*x≠0:=Ed.fl.ne (Ed.fl.ne (Ed.fl.ne (Ed.fl.ne hv hv) hv) hv) hx
   generalize v*v*v*v*x=t at h1 ht
   rw [h1,fpow_sq]
   have h2:=ring_r2 (s:=fpow t (2*rootN)) h1
   have h3:fpow t (2*rootN)*t=fpow t (2*rootN+1):=fpow_suc t _
   have h4:fpow t (2*rootN+1)*fpow t (2*rootN+1)=fpow t (2*(2*rootN+1)):=fpow_dbl t _
   have h5:fpow t (2*(2*rootN+1))*fpow t (2*(2*rootN+1))=fpow t (2*(2*(2*rootN+1))):=fpow_dbl t _
   have h6:2*(2*(2*rootN+1))=P-1:=by decide
   rw [h6,fpow_full ht] at h5
   rw [h2,h3,h4]
   generalize fpow t (2*(2*rootN+1))=q at h5
   rcases Ed.fl.dom (ring_r3 h5) with h7 | h7
   · exact .inl (ring_r6 (ring_r4 h7))
   · exact .inr (ring_r7 (ring_r5 h7))
 rw [e]
 generalize rootX u v=r at key
 unfold rootE
 by_cases h1:v*(r*r)=u
 · rw [if_pos h1]
 ·rw [if_neg h1]
  rcases key with h2 | h2
  · exact absurd h2 h1
  · rw [if_pos h2]
theorem leN_set : ∀ (l:List UInt8) (i:Nat) (x:UInt8),i<l.length→leN (l.set i x)+(bt l i).toNat*256^i=leN l+x.toNat*256^i
 | [],_,_,h=>by simp at h
 | a::l,0,x,_=>by
   show x.toNat+256*leN l+a.toNat*1=a.toNat+256*leN l+x.toNat*1
   omega
 | a::l,i+1,x,h=>by
   have ih:=leN_set l i x (by simpa using h)
   have hb:bt (a::l) (i+1)=bt l i:=rfl
   rw [hb]
   show a.toNat+256*leN (l.set i x)+(bt l i).toNat*256^(i+1)=a.toNat+256*leN l+x.toNat*256^(i+1)
   rw [Nat.pow_succ]
   generalize 256^i=p at *
   have e1:(bt l i).toNat*(p*256)=256*((bt l i).toNat*p):=by rw [← Nat.mul_assoc,Nat.mul_comm]
   have e2:x.toNat*(p*256)=256*(x.toNat*p):=by rw [← Nat.mul_assoc,Nat.mul_comm]
   rw [e1,e2]
   omega
theorem leB_cons0 (n k:Nat):leB n (k+1)=UInt8.ofNat (n%256)::leB (n / 256) k:=by
 unfold leB
 rw [List.range_succ_eq_map,List.map_cons,List.map_map]
 congr 1
 · rw [Nat.pow_zero,Nat.div_one]
 ·apply List.map_congr_left
  intro i _
  show UInt8.ofNat (n / 256^(i+1)%256)=UInt8.ofNat (n / 256 / 256^i%256)
  rw [Nat.div_div_eq_div_mul,Nat.pow_succ,Nat.mul_comm (256^i)]
theorem leN_leB0 : ∀ (k n:Nat),n<256^k→leN (leB n k)=n
 | 0,n,h=>by
   have:n=0:=by simpa using h
   subst this; rfl
 | k+1,n,h=>by
   rw [leB_cons0]
   show (UInt8.ofNat (n%256)).toNat+256*leN (leB (n / 256) k)=n
   rw [leN_leB0 k (n / 256) (Nat.div_lt_of_lt_mul (by rw [Nat.pow_succ] at h; omega)),UInt8.toNat_ofNat']
   omega
theorem bt_leB31 (n:Nat):bt (leB n 32) 31=UInt8.ofNat (n / 256^31%256):=by
 unfold bt leB
 rw [List.getD_eq_getElem?_getD,List.getElem?_map,List.getElem?_range (by decide)]
 rfl
theorem or128 : ∀ b:Fin 128,(b.val ||| 128)=b.val+128:=by decide
theorem set_bt (l:List UInt8) (i:Nat):l.set i (bt l i)=l:=by
 apply List.ext_getElem?
 intro j
 rw [List.getElem?_set]
 split
 ·rename_i h
  subst h
  split
  · rename_i h; unfold bt; rw [List.getD_eq_getElem?_getD,List.getElem?_eq_getElem h]; rfl
  · rename_i h; rw [List.getElem?_eq_none (by omega)]
 · rfl
theorem enc_tells (x y:FP):decY (encA x y)=y∧decL (encA x y)=leB y.val 32∧decO (encA x y)=decide (x.val%2=1):=by
 have hy:y.val<57896044618658097711785492504343953926634992332820282019728792003956564819949:=y.isLt
 have hp:(256:Nat)^31=452312848583266388373324160190187140051835877600158453279131187530910662656:=by decide
 have hn:leN (leB y.val 32)=y.val:=leN_leB0 32 y.val (Nat.lt_trans y.isLt (by decide))
 have hbt:=bt_leB31 y.val
 have hb:(bt (leB y.val 32) 31).toNat<128:=by
  rw [hbt,UInt8.toNat_ofNat',hp]
  omega
 have h255:(2:Nat)^255=57896044618658097711785492504343953926634992332820282019728792003956564819968:=by decide
 have hP : ∀ k:Nat,k%P=k%57896044618658097711785492504343953926634992332820282019728792003956564819949:=fun _=>rfl
 have hl:(leB y.val 32).length=32:=leB_length _ _
 unfold encA
 split
 ·rename_i hx
  have h1:(bt (leB y.val 32) 31 ||| 128).toNat=(bt (leB y.val 32) 31).toNat+128:=by
   rw [UInt8.toNat_or]
   exact or128 ⟨_,hb⟩
  have h2:=leN_set (leB y.val 32) 31 (bt (leB y.val 32) 31 ||| 128) (by omega)
  have h3:bt ((leB y.val 32).set 31 (bt (leB y.val 32) 31 ||| 128)) 31=bt (leB y.val 32) 31 ||| 128:=by
   unfold bt
   rw [List.getD_eq_getElem?_getD,List.getElem?_set_self (by omega)]
   rfl
  refine ⟨?_,?_,?_⟩
  ·apply Fin.ext
   rw [decY_val]
   rw [h1,hn,hp] at h2
   generalize leN ((leB y.val 32).set 31 (bt (leB y.val 32) 31 ||| 128))=N at *
   generalize (bt (leB y.val 32) 31).toNat=B at *
   rw [h255,hP]
   omega
  ·unfold decL
   rw [h3,h1,List.set_set]
   have:UInt8.ofNat (((bt (leB y.val 32) 31).toNat+128)%128)=bt (leB y.val 32) 31:=by
    rw [show ((bt (leB y.val 32) 31).toNat+128)%128=(bt (leB y.val 32) 31).toNat by omega]
    exact UInt8.ofNat_toNat
   rw [this,set_bt]
  ·unfold decO
   rw [h3,h1,decide_eq_true (show 128≤(bt (leB y.val 32) 31).toNat+128 by omega),decide_eq_true hx]
 ·rename_i hx
  refine ⟨?_,?_,?_⟩
  ·apply Fin.ext
   rw [decY_val,hn,h255,hP]
   omega
  ·unfold decL
   have:UInt8.ofNat ((bt (leB y.val 32) 31).toNat%128)=bt (leB y.val 32) 31:=by
    rw [show (bt (leB y.val 32) 31).toNat%128=(bt (leB y.val 32) 31).toNat by omega]
    exact UInt8.ofNat_toNat
   rw [this,set_bt]
  ·unfold decO
   rw [decide_eq_false (show ¬ 128≤(bt (leB y.val 32) 31).toNat by omega),decide_eq_false hx]
theorem ring_e1 {d x y:FP} (h:y*y-x*x=1+d*(x*x)*(y*y)):(d*(y*y)+1)*(x*x)=y*y-1:=by grind
theorem ring_e2 {r x:FP} (h:r*r=x*x):(r-x)*(r+x)=0:=by grind
theorem ring_e3 {r x:FP} (h:r-x=0):r=x:=by grind
theorem ring_e4 {r x:FP} (h:r+x=0):r = -x:=by grind
theorem ring_e5 {d y i:FP} (hi:i*i = -1) (h:d*(y*y)+1=0):i*i=d*(y*y):=by grind
theorem ring_e6 {d y:FP} (hy:y=0):d*(y*y)+1=1:=by grind
theorem ring_e7 (x:FP) : - -x=x:=by grind
theorem neg_gen {p:Nat} [NeZero p] (a:Fin p):(-a).val=(p-a.val)%p:=by rw [Fin.neg_def]
theorem pos_gen {p:Nat} [NeZero p] {a:Fin p} (ha:a≠0):0<a.val:=by
 rcases Nat.eq_zero_or_pos a.val with h | h
 · exact absurd ⟨0,by rw [h]; rfl⟩ (Ed.fin_dvd ha)
 · exact h
theorem par_nat {N k m:Nat} (hN:N=2*m+1) (h0:0<k) (h1:k<N):(N-k)%N%2=1 ↔ ¬ k%2=1:=by
 rw [show (N-k)%N=N-k from Nat.mod_eq_of_lt (by omega)]
 omega
theorem neg_par {x:FP} (hx:x≠0):(-x).val%2=1 ↔ ¬ x.val%2=1:=by
 rw [neg_gen]
 exact par_nat (m:=28948022309329048855892746252171976963317496166410141009864396001978282409974) (by decide) (pos_gen hx) x.isLt
theorem dec_enc {a:A2} (h:Ed.On Ed.dC a.1 a.2):decB (encP a)=true∧decA (encP a)=a:=by
 obtain ⟨x,y⟩:=a
 obtain ⟨t1,t2,t3⟩:=enc_tells x y
 have hon:y*y-x*x=1+Ed.dC*(x*x)*(y*y):=h
 have hv:Ed.dC*(y*y)+1≠0:=by
  intro h0
  by_cases hy:y=0
  ·rw [ring_e6 hy] at h0
   exact absurd h0 (by decide)
  · exact Ed.fl.ns Ed.iC y hy (ring_e5 Ed.fl.ii h0)
 have hu:=ring_e1 hon
 have hr2:(decR (encA x y)).2=true:=by
  rw [decR_eq,t1]
  exact root_has hv hu
 have hk:(Ed.dC*(y*y)+1)*((decR (encA x y)).1*(decR (encA x y)).1)=y*y-1:=by
  have:=root_ok (y*y-1) (Ed.dC*(y*y)+1) (root_has hv hu)
  rw [decR_eq,t1]
  exact this
 obtain ⟨r,hr⟩ : ∃ r,r=(decR (encA x y)).1:=⟨_,rfl⟩
 rw [← hr] at hk
 have hrx:r=x∨r = -x:=by
  rcases Ed.fl.dom (ring_e2 (Ed.fl.cancel hv (hk.trans hu.symm))) with h1 | h1
  · exact .inl (ring_e3 h1)
  · exact .inr (ring_e4 h1)
 have hdx:decX (encA x y)=x:=by
  unfold decX
  rw [← hr,t3]
  rcases hrx with rfl | hn
  · rw [if_pos rfl]
  ·by_cases hx:x=0
   ·subst hx
    have:r=0:=by rw [hn]; decide
    subst this
    rw [if_pos rfl]
   ·rw [hn,if_neg (fun h1=>by
     have h2:=neg_par hx
     have h3:=decide_eq_decide.1 h1
     rw [h2] at h3
     by_cases h4:x.val%2=1
     · exact (h3.2 h4) h4
     · exact h4 (h3.1 h4))]
    exact ring_e7 x
 refine ⟨?_,?_⟩
 ·show decB (encA x y)=true
  rw [decB_eq,t1,t2,hr2,t3,← hr]
  have h0:(decide (x.val%2=1) && decide (r=0))=false:=by
   by_cases h1:x.val%2=1
   ·have hx:x≠0:=fun e=>by rw [e] at h1; exact absurd h1 (by decide)
    have:r≠0:=by
     rcases hrx with h2 | h2
     · rw [h2]; exact hx
     ·rw [h2]
      intro h3
      exact hx (by rw [← ring_e7 x,h3]; decide)
    rw [decide_eq_false this,Bool.and_false]
   · rw [decide_eq_false h1,Bool.false_and]
  rw [h0]
  simp
 ·show (decX (encA x y),decY (encA x y))=(x,y)
  rw [hdx,t1]
end Vr
end Go.Proofs.YtfodadedkilgdaaGreatDoor
namespace Go.Proofs.YtfodadedkilgdaaGreatDoor
set_option linter.unusedVariables false
set_option linter.unusedSimpArgs false
open Go.RowKit Mem Sha
namespace Rn
open Vr (A2 encP Gd ptK ptP ptA IsB)
theorem prG_on {seed text:List UInt8} {j:Nat} (hk:ptK (pubB seed) text=some j):Ed.On Ed.dC (prG seed text j).1 (prG seed text j).2 :=
 ((Vr.Gd.pt (Vr.ptF_some _ _ _ _ _ hk)).mul (secB seed)).1
theorem prov_dec {seed text:List UInt8} {j:Nat} (hk:ptK (pubB seed) text=some j):Fld.decB (Vr.prfG (provB seed text j))=true:=by
 have h:Vr.prfG (provB seed text j)=encP (prG seed text j):=by
  unfold Vr.prfG provB
  rw [List.drop_zero,List.take_append_of_le_length (by rw [Vr.encP_length]; decide),List.take_of_length_le (by rw [Vr.encP_length]; decide)]
 rw [h]
 exact (Vr.dec_enc (prG_on hk)).1
theorem sum_c {seed text:List UInt8} {j:Nat} (hk:ptK (pubB seed) text=some j) (w:World) (hj:J0 w):Calls Tryz.prog 210 #[.agg (bysA (provB seed text j))] w fun e w'=>e = .returned (.tuple #[.agg (bysA (Vr.sumV (provB seed text j))),.int .i64 0])∧Below w.heap.size w w':=by
 have h:=Vr.sumV_gd (provB seed text j) (provB_length _ _ _) w hj.et hj.t5
 rw [if_pos (prov_dec hk)] at h
 exact h
end Rn
end Go.Proofs.YtfodadedkilgdaaGreatDoor
