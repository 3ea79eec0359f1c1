/- A part of the proof. Plain; no condition. -/
import Derived.Test.YtfodadedkilgdaaGreatDoorP13
import Derived.Test.YtfodadedkilgdaaGreatDoorP34
import Derived.Test.YtfodadedkilgdaaGreatDoorP35
namespace Go.Proofs.YtfodadedkilgdaaGreatDoor
set_option linter.unusedVariables false
set_option linter.unusedSimpArgs false
open Go.RowKit Mem Sha
namespace Rn
open Fld (words val P4 ptv pt el wN WB W4 leB leN tmsK baseP W4s)
open Sca (sn Q clampB)
open Vr (A2 encP Gd ptK ptP ptA IsB)
open Ed (FP)
variable {c:Cx} {σ σ':Sg} {h h':H} {w w':World}
def nat1:Value→Nat
 | .int _ n=>n.toNat
 | _=>0
def ub (v:Value):UInt8:=UInt8.ofNat (nat1 v)
def ubs (l:List Value):List UInt8:=l.map ub
theorem ubs_bys (l:List UInt8):ubs (bys l)=l:=by
 unfold ubs bys
 rw [List.map_map]
 conv=>rhs; rw [← List.map_id l]
 apply List.map_congr_left
 intro b _
 simp [ub,nat1]
def wv (l:List Value):Nat:=val (l.map nat1)
theorem wN_nats (l:List Nat):(wN l).toList.map nat1=l:=by
 unfold wN
 rw [List.toList_toArray,List.map_map]
 conv=>rhs; rw [← List.map_id l]
 apply List.map_congr_left
 intro b _
 simp [nat1]
theorem wv_sn {n:Nat} (hn:n<W4):wv (sn n).toList=n:=by
 unfold wv sn
 rw [wN_nats]
 exact Fld.val_words 4 n (by rw [Fld.W4_pow]; exact hn)
def fpv (l:List Value):FP:=⟨wv l%Fld.P,Nat.mod_lt _ (by decide)⟩
theorem fpv_words (x:FP):fpv ((wN (words x.val 4)).toList)=x:=by
 have h:=wv_sn (n:=x.val) (Nat.lt_trans x.isLt (by decide))
 unfold sn at h
 apply Fin.ext
 show wv _%Fld.P=x.val
 rw [h,Nat.mod_eq_of_lt x.isLt]
def ptr (l:List Value):P4:=⟨fpv (l.take 4),fpv ((l.drop 4).take 4),fpv ((l.drop 8).take 4),fpv ((l.drop 12).take 4)⟩
theorem ptv_list (p:P4):(ptv p).toList=(wN (words p.x.val 4)).toList++((wN (words p.y.val 4)).toList++((wN (words p.z.val 4)).toList++(wN (words p.t.val 4)).toList)):=by
 simp [ptv,pt,wN]
theorem words4_len (n:Nat):(wN (words n 4)).toList.length=4:=by simp [wN,Fld.words_length]
theorem ptr_ptv (p:P4):ptr (ptv p).toList=p:=by
 unfold ptr
 rw [ptv_list]
 have l1:=words4_len p.x.val
 have l2:=words4_len p.y.val
 have l3:=words4_len p.z.val
 have l4:=words4_len p.t.val
 have e1:=fpv_words p.x
 have e2:=fpv_words p.y
 have e3:=fpv_words p.z
 have e4:=fpv_words p.t
 generalize (wN (words p.x.val 4)).toList=a at *
 generalize (wN (words p.y.val 4)).toList=b at *
 generalize (wN (words p.z.val 4)).toList=c at *
 generalize (wN (words p.t.val 4)).toList=d at *
 have f1:(a++(b++(c++d))).take 4=a:=by rw [List.take_append_of_le_length (by omega),List.take_of_length_le (by omega)]
 have f2:((a++(b++(c++d))).drop 4).take 4=b:=by rw [List.drop_append,List.drop_of_length_le (by omega),l1,List.nil_append,List.drop_zero,List.take_append_of_le_length (by omega),List.take_of_length_le (by omega)]
 have f3:((a++(b++(c++d))).drop 8).take 4=c:=by rw [List.drop_append,List.drop_of_length_le (by omega),l1,List.nil_append,List.drop_append,List.drop_of_length_le (by omega),l2,List.nil_append,List.drop_zero,List.take_append_of_le_length (by omega),List.take_of_length_le (by omega)]
 have f4:((a++(b++(c++d))).drop 12).take 4=d:=by rw [List.drop_append,List.drop_of_length_le (by omega),l1,List.nil_append,List.drop_append,List.drop_of_length_le (by omega),l2,List.nil_append,List.drop_append,List.drop_of_length_le (by omega),l3,List.nil_append,List.drop_zero,List.take_of_length_le (by omega)]
 rw [f1,f2,f3,f4,e1,e2,e3,e4]
def afP (p:P4):A2:=(p.x*Fld.zinv p.z,p.y*Fld.zinv p.z)
theorem afP_gd {p:P4} {a:A2} (h:Gd p a):afP p=a:=by
 have hz:p.z*Fld.zinv p.z=1:=Ed.inv_fpow Ed.prP h.z
 have hx:p.x*Fld.zinv p.z=a.1:=by rw [h.2.hx]; exact Ed.ring_inv hz
 have hy:p.y*Fld.zinv p.z=a.2:=by rw [h.2.hy]; exact Ed.ring_inv hz
 unfold afP
 rw [hx,hy]
def pb (T:List UInt8):List Value→List UInt8
 | [.slice _ _ _]=>T
 | l=>ubs l
theorem pb_bys (T l:List UInt8):pb T (bys l)=l:=by
 have h:=ubs_bys l
 match l with
 | []=>rfl
 | [b]=>exact h
 | a::b::r=>exact h
theorem pb_sl (T:List UInt8) (q:Option Addr) (n k:Nat):pb T [.slice q n k]=T:=rfl
noncomputable def Gf (T:List UInt8) (tv:Value) (m n:Nat) (k:Nat) (args:List (List Value)):List Value :=
 match k with
 | 0=>bys (sha (args.map (pb T)).flatten)
 | 1=>(ptv baseP).toList
 | 2=>bys (S5.sum (args.map (pb T)).flatten)
 | 3=>(ptv (tmsK (ptr (args.getD 0 [])) (ubs (args.getD 1 [])) 256)).toList
 | 4=>bys (clampB (ubs (args.getD 0 [])))
 | 5=>(sn (leN (pb T (args.getD 0 []))%Q)).toList
 | 6=>bys (encP (afP (ptr (args.getD 0 []))))
 | 7=>(sn ((wv (args.getD 0 [])+wv (args.getD 1 []))%Q)).toList
 | 8=>bys (leB (wv (args.getD 0 [])%Q) 32)
 | 9=>(sn (wv (args.getD 0 [])*wv (args.getD 1 [])%Q)).toList
 | 11=>(ptv (ptP (ubs (args.getD 0 [])) (pb T (args.getD 1 [])) ((ptK (ubs (args.getD 0 [])) (pb T (args.getD 1 []))).getD 0))).toList
 | 13 => [.int .u64 (((wv (args.getD 0 [])+wv (args.getD 1 [])+wv (args.getD 2 []))%WB:Nat):Int),.int .u64 (((wv (args.getD 0 [])+wv (args.getD 1 [])+wv (args.getD 2 [])) / WB:Nat):Int)]
 | 15=>(sn (wv (args.getD 0 [])%Q)).toList
 | 17=>(sn (wv (args.getD 0 [])+W4-wv (args.getD 1 []))).toList ++ [.int .u64 ((if wv (args.getD 0 [])<wv (args.getD 1 []) then 1 else 0:Nat):Int)]
 | 19=>(sn m).toList
 | 21=>(sn n).toList
 | 23 => [tv]
 | _ => []
def Pf (T:List UInt8) (k:Nat) (args:List (List Value)):Prop :=
 (k=3 → ∃ p a,args.getD 0 []=(ptv p).toList∧Gd p a)∧(k=11 → ∃ j,ptK (ubs (args.getD 0 [])) (pb T (args.getD 1 []))=some j)
structure Jn (T:List UInt8) (tv:Value) (w:World):Prop where
 et:Fld.ET w
 ot:Sca.OT w
 t5:S5.Tabs w
 t2:Tabs w
 is:IsB w tv T
 tl:T.length≤80000000
theorem Jn.below {T:List UInt8} {tv:Value} (h:Jn T tv w) (hb:Below w.heap.size w w'):Jn T tv w':=⟨h.et.below hb,h.ot.below hb,h.t5.below hb,h.t2.below hb,h.is.below hb,h.tl⟩
noncomputable def kx (base:Nat) (fx:Nat→Option (List UInt8)) (T:List UInt8) (tv:Value) (m n:Nat):Cx :=
 ⟨Tryz.prog,base,fun w => ∀ x,Below base w x→Jn T tv x,fx,Gf T tv m n,Pf T,fun w w' hi hb x hx=>hi x (hb.trans hx)⟩
theorem kx_inv {T:List UInt8} {tv:Value} (h:Jn T tv w) (x:World) (hb:Below w.heap.size w x):Jn T tv x:=h.below hb
end Rn
end Go.Proofs.YtfodadedkilgdaaGreatDoor
namespace Go.Proofs.YtfodadedkilgdaaGreatDoor
set_option linter.unusedVariables false
set_option linter.unusedSimpArgs false
open Go.RowKit Mem Sha
namespace Rn
open Fld (words val P4 ptv pt el wN WB W4 leB leN tmsK baseP W4s)
open Sca (sn Q clampB)
open Vr (A2 encP Gd ptK ptP ptA IsB)
open Ed (FP)
variable {c:Cx} {σ σ':Sg} {h h':H} {w w':World}
noncomputable def rowA (h:H):V→Option (List V)
 | .ns=>some []
 | .s b o n q=>match h.at b with
   | some (.l l _ ee)=>match Nat.ble (o+n) l.length,(match q,ee with
      | .k m,_=>Nat.ble m 1000000
      | .g _,some 1=>true
      | _,_=>false) with
     | true,true=>some (seg l o n)
     | _,_=>none
   | _=>none
 | _=>none
theorem rowA_ok (hs:Hs c σ h w) {x:V} {t:List V} (hx:x.df σ) (e:rowA h x=some t):dfs σ t ∧ ∃ q m,x.val σ = .slice q t.length m∧Rd w 1 (.slice q t.length m) t.length (vals σ t):=by
 unfold rowA at e
 split at e
 ·cases e
  exact ⟨(fun _ h=>nomatch h),none,0,rfl,by simp [vals],.inl ⟨rfl,rfl⟩⟩
 ·rename_i b o n q
  split at e
  ·rename_i l t' ee hb
   split at e
   ·rename_i e1 e2
    cases e
    have e1:=Nat.le_of_ble_eq_true e1
    obtain ⟨k1,k2,k3,k4⟩:=hs.blk b _ hb
    obtain ⟨C,f,hr,ht,hl,_⟩:=B.row k1 (.inr (by rw [vals_length]; exact Nat.le_refl _))
    have hsl:(seg l o n).length=n:=by unfold seg; rw [List.length_take,List.length_drop]; omega
    have hx':(V.s b o n q).df σ:=hx
    have hcap:capOf σ b q≤maxLen:=by
     split at e2
     ·have:=Nat.le_of_ble_eq_true e2
      show _≤maxLen
      unfold maxLen
      simp only [capOf]
      omega
     ·obtain ⟨_,_,_,_,_,_,g5⟩:=k1
      simp only [capOf]
      omega
     · cases e2
    refine ⟨seg_df k2 o n,some ⟨σ.bl b,o,none⟩,capOf σ b q,by rw [hsl]; rfl,?_⟩
    rw [hsl]
    refine ⟨by rw [vals_length,hsl,Nat.mul_one],.inr ⟨σ.bl b,o,capOf σ b q,rfl,B.lt k1,hx'.2,hcap,fun j u hj => ?_⟩⟩
    have hj':j<n:=by have:=(List.getElem?_eq_some_iff.1 hj).1; rwa [vals_length,hsl] at this
    rw [cell_of_row w _ _ _ _ _ hr]
    have h2:C[o+j]? = (vals σ l)[o+j]? := by rw [← ht,List.getElem?_take,if_pos (by omega)]; simp
    rw [h2,← hj]
    simp only [vals,seg,List.getElem?_map,List.getElem?_take,List.getElem?_drop,if_pos hj']
   · cases e
  · cases e
 · cases e
def memK (ks:List Nat) (o:Nat):List (Nat×List (List V)×Nat)→Bool
 | []=>false
 | m::r=>match Nat.beq m.2.2 o,ks.any (Nat.beq m.1) with
   | true,true=>true
   | _,_=>memK ks o r
theorem memK_ok {ks:List Nat} {o:Nat} : ∀ {me:List (Nat×List (List V)×Nat)},memK ks o me=true → ∃ k args,(k,args,o)∈me∧k∈ks
 | [],e=>by cases e
 | m::r,e=>by
   unfold memK at e
   split at e
   ·rename_i h1 h2
    have h1:=Nat.eq_of_beq_eq_true h1
    obtain ⟨k,hk,h2⟩:=List.any_eq_true.1 h2
    have h2:=Nat.eq_of_beq_eq_true h2
    subst h1 h2
    exact ⟨_,_,List.mem_cons_self ..,hk⟩
   ·obtain ⟨k,args,h1,h2⟩:=memK_ok e
    exact ⟨k,args,List.mem_cons_of_mem _ h1,h2⟩
noncomputable def rdV (h:H) (x:V):Option (List V):=match x with
 | .z o 0=>match memK [23] o h.me with
   | true=>some [.z o 0]
   | false=>none
 | x=>match rowA h x with
   | some l=>match bytC l with
     | some _=>some l
     | none=>none
   | none=>none
def szV:List V→Nat
 | [.z _ _]=>80000000
 | l=>l.length
section
variable {base:Nat} {fx:Nat→Option (List UInt8)} {T:List UInt8} {tv:Value} {m n:Nat}
theorem rdV_ok (hs:Hs (kx base fx T tv m n) σ h w) {x:V} {t:List V} (hx:x.df σ) (e:rdV h x=some t):dfs σ t∧IsB w (x.val σ) (pb T (vals σ t))∧(pb T (vals σ t)).length≤szV t:=by
 unfold rdV at e
 split at e
 ·rename_i o
  split at e
  ·rename_i hm
   cases e
   obtain ⟨k,args,h1,h2⟩:=memK_ok hm
   rw [List.mem_singleton.1 h2] at h1
   have h3:=(hs.me _ h1).1
   dsimp only at h3
   obtain ⟨L,e1,e2⟩:=h3
   replace e2:L.1 = [tv]:=e2
   have hi:=(hs.inv w (Below.refl _ _)).is
   have hv:(V.z o 0).val σ=tv:=by
    show (σ.cl o).getD 0 _=tv
    unfold Sg.cl
    rw [e1]
    show L.1.getD 0 _=tv
    rw [e2]
    rfl
   refine ⟨fun y hy=>by rw [List.mem_singleton.1 hy]; exact hx,?_⟩
   rw [hv]
   obtain ⟨q,k,e3,hr⟩:=hi
   have:vals σ [V.z o 0] = [Value.slice q T.length k]:=by
    show [(V.z o 0).val σ]=_
    rw [hv,e3]
   rw [this,pb_sl]
   exact ⟨⟨q,k,e3,hr⟩,(hs.inv w (Below.refl _ _)).tl⟩
  · cases e
 ·split at e
  ·rename_i l hl
   split at e
   ·rename_i t' ht
    cases e
    obtain ⟨k1,q,k,k2,k3⟩:=rowA_ok hs hx hl
    obtain ⟨b1,b2,_⟩:=bytC_ok ht k1
    refine ⟨k1,?_⟩
    rw [b1,pb_bys]
    have:(byts σ t').length=t.length:=by simp [byts,b2]
    refine ⟨⟨q,k,by rw [this,k2],by rw [this,← b1]; exact k3⟩,?_⟩
    rw [this]
    unfold szV
    split
    · simp [bytC] at ht
    · exact Nat.le_refl _
   · cases e
  · cases e
noncomputable def rdVs (h:H):List V→Option (List (List V))
 | []=>some []
 | x::r=>match rdV h x,rdVs h r with
   | some t,some l=>some (t::l)
   | _,_=>none
theorem rdVs_ok (hs:Hs (kx base fx T tv m n) σ h w) : ∀ {l:List V} {t:List (List V)},dfs σ l→rdVs h l=some t→t.length=l.length∧(∀ a∈t,dfs σ a)∧(∀ i,i<t.length → ∃ v,(vals σ l)[i]? = some v∧IsB w v (((t.map (vals σ)).map (pb T)).getD i []))∧((t.map (vals σ)).map (pb T)).flatten.length≤(t.map szV).sum
 | [],t,hd,e=>by cases e; exact ⟨rfl,(fun _ h=>nomatch h),fun i hi=>by simp at hi,by simp⟩
 | x::r,t,hd,e=>by
   unfold rdVs at e
   split at e
   ·rename_i s l h1 h2
    cases e
    obtain ⟨k1,k2,k3,k4⟩:=rdVs_ok hs (fun y hy=>hd y (List.mem_cons_of_mem _ hy)) h2
    obtain ⟨b1,b2,b3⟩:=rdV_ok hs (hd x (List.mem_cons_self ..)) h1
    refine ⟨by simp [k1],fun a ha => ?_,fun i hi => ?_,by simp only [List.map_cons,List.flatten_cons,List.length_append,List.sum_cons]; omega⟩
    ·rcases List.mem_cons.1 ha with rfl | ha
     · exact b1
     · exact k2 a ha
    ·cases i with
     | zero=>exact ⟨x.val σ,rfl,b2⟩
     | succ i=>exact k3 i (by simpa using hi)
   · cases e
noncomputable def partsV (h:H) (x:V):Option (List (List V)):=match rowA h x with
 | some l=>rdVs h l
 | none=>none
theorem partsV_ok (hs:Hs (kx base fx T tv m n) σ h w) {x:V} {t:List (List V)} (hx:x.df σ) (e:partsV h x=some t):(∀ a∈t,dfs σ a) ∧ ∃ q k,x.val σ = .slice q t.length k∧Parts w (.slice q ((t.map (vals σ)).map (pb T)).length k) ((t.map (vals σ)).map (pb T))∧((t.map (vals σ)).map (pb T)).flatten.length≤(t.map szV).sum:=by
 unfold partsV at e
 split at e
 ·rename_i l hl
  obtain ⟨k1,q,k,k2,k3⟩:=rowA_ok hs hx hl
  obtain ⟨b1,b2,b3,b4⟩:=rdVs_ok hs k1 e
  have hn:((t.map (vals σ)).map (pb T)).length=l.length:=by simp [b1]
  refine ⟨b2,q,k,by rw [k2,b1],⟨vals σ l,by rw [hn]; exact k3,fun i hi => ?_⟩,b4⟩
  obtain ⟨v,h1,q',k',rfl,h3⟩:=b3 i (by simpa using hi)
  exact ⟨q',k',h1,h3⟩
 · cases e
def goodP (h:H):List V→Bool
 | .z o 0::r=>match lS vS (.z o 0::r) (zs o 16) with
   | true=>memK [1,3,11] o h.me
   | false=>false
 | _=>false
theorem good_of (hs:Hs (kx base fx T tv m n) σ h w) {l:List V} (e:goodP h l=true) : ∃ p a,vals σ l=(ptv p).toList∧Gd p a:=by
 unfold goodP at e
 split at e
 ·rename_i o r
  split at e
  ·rename_i hl
   rw [lS_ok vS_ok hl]
   obtain ⟨k,args,h1,h2⟩:=memK_ok e
   have h1':=hs.me _ h1
   have hz : ∀ {p:P4},(kx base fx T tv m n).G k (args.map (vals σ))=(ptv p).toList→Nat.beq (k%2) 0=false→vals σ (zs o 16)=(ptv p).toList:=fun {p} he hk=>by
    have:=h1'.1
    dsimp only at this
    rw [hk] at this
    obtain ⟨L,e1,e2⟩:=this
    have e3:=(zs_val (σ:=σ) e1).1
    have e4:L.1.length=16:=by rw [e2,he,Array.length_toList,Fld.ptv_size]
    rw [e4] at e3
    rw [e3,e2,he]
   simp only [List.mem_cons,List.not_mem_nil,or_false] at h2
   rcases h2 with rfl | rfl | rfl
   · exact ⟨baseP,Vr.baseA,hz rfl rfl,Vr.Gd.base⟩
   ·obtain ⟨p,a,e1,e2⟩:=h1'.2.2.1 rfl
    have e1:(args.map (vals σ)).getD 0 []=(ptv p).toList:=e1
    refine ⟨tmsK p (ubs ((args.map (vals σ)).getD 1 [])) 256,Vr.mulA a (ubs ((args.map (vals σ)).getD 1 [])),hz ?_ rfl,e2.mul _⟩
    show (ptv (tmsK (ptr ((args.map (vals σ)).getD 0 [])) (ubs ((args.map (vals σ)).getD 1 [])) 256)).toList=_
    rw [e1,ptr_ptv]
   ·obtain ⟨j,e2⟩:=h1'.2.2.2 rfl
    have e2:ptK (ubs ((args.map (vals σ)).getD 0 [])) (pb T ((args.map (vals σ)).getD 1 []))=some j:=e2
    refine ⟨ptP (ubs ((args.map (vals σ)).getD 0 [])) (pb T ((args.map (vals σ)).getD 1 [])) j,ptA (ubs ((args.map (vals σ)).getD 0 [])) (pb T ((args.map (vals σ)).getD 1 [])) j,hz ?_ rfl,Vr.Gd.pt (Vr.ptF_some _ _ _ _ _ e2)⟩
    show (ptv (ptP _ _ ((ptK (ubs ((args.map (vals σ)).getD 0 [])) (pb T ((args.map (vals σ)).getD 1 []))).getD 0))).toList=_
    rw [e2]
    rfl
  · cases e
 · cases e
def scaP (h:H):List V→Bool
 | .z o 0::r=>match lS vS (.z o 0::r) (zs o 4) with
   | true=>memK [5,7,9,15,19,21] o h.me
   | false=>false
 | _=>false
theorem sca_of (hm:m<W4) (hn:n<W4) (hs:Hs (kx base fx T tv m n) σ h w) {l:List V} (e:scaP h l=true) : ∃ k,k<W4∧vals σ l=(sn k).toList:=by
 unfold scaP at e
 split at e
 ·rename_i o r
  split at e
  ·rename_i hl
   rw [lS_ok vS_ok hl]
   obtain ⟨k,args,h1,h2⟩:=memK_ok e
   have h1':=hs.me _ h1
   have hz : ∀ {p:Nat},(kx base fx T tv m n).G k (args.map (vals σ))=(sn p).toList→Nat.beq (k%2) 0=false→vals σ (zs o 4)=(sn p).toList:=fun {p} he hk=>by
    have:=h1'.1
    dsimp only at this
    rw [hk] at this
    obtain ⟨L,e1,e2⟩:=this
    have e3:=(zs_val (σ:=σ) e1).1
    have e4:L.1.length=4:=by rw [e2,he,Array.length_toList,Sca.sn_size]
    rw [e4] at e3
    rw [e3,e2,he]
   have hq : ∀ x,x%Q<W4:=fun x=>Nat.lt_trans (Nat.mod_lt _ Sca.Q_pos) Sca.Q_W4
   simp only [List.mem_cons,List.not_mem_nil,or_false] at h2
   rcases h2 with rfl | rfl | rfl | rfl | rfl | rfl
   · exact ⟨_,hq _,hz rfl rfl⟩
   · exact ⟨_,hq _,hz rfl rfl⟩
   · exact ⟨_,hq _,hz rfl rfl⟩
   · exact ⟨_,hq _,hz rfl rfl⟩
   · exact ⟨_,hm,hz rfl rfl⟩
   · exact ⟨_,hn,hz rfl rfl⟩
  · cases e
 · cases e
end
end Rn
end Go.Proofs.YtfodadedkilgdaaGreatDoor
namespace Go.Proofs.YtfodadedkilgdaaGreatDoor
set_option linter.unusedVariables false
set_option linter.unusedSimpArgs false
open Go.RowKit Mem Sha
namespace Rn
open Fld (words val P4 ptv pt el wN WB W4 leB leN tmsK baseP W4s)
open Sca (sn Q clampB)
open Vr (A2 encP Gd ptK ptP ptA IsB)
open Ed (FP)
section
variable {c:Cx} {σ:Sg} {k:Nat} {args:List (List V)} {sh:Sh} {v:Value}
theorem puE {L:List UInt8} (hk:Nat.beq (k%2) 0=true) (hd : ∀ l∈args,dfs σ l) (hp:c.pr k (args.map (vals σ))) (hG:c.G k (args.map (vals σ))=bys L) (hl:L.length=sh.n) (hv:v=sh.v (bys L)):(Ko.pu k args sh).P c σ v :=
 ⟨⟨hd,hp⟩,by rw [hG]; simp [bys,hl],by rw [hG]; exact hv,by rw [hk]; exact ⟨L,hG.symm⟩⟩
theorem puO {l:List Value} (hk:Nat.beq (k%2) 0=false) (hd : ∀ l∈args,dfs σ l) (hp:c.pr k (args.map (vals σ))) (hG:c.G k (args.map (vals σ))=l) (hl:l.length=sh.n) (hv:v=sh.v l) (h1 : ∀ x∈l,x.oneCell'=true):(Ko.pu k args sh).P c σ v :=
 ⟨⟨hd,hp⟩,by rw [hG]; exact hl,by rw [hG]; exact hv,by rw [hk]; rw [hG]; exact h1⟩
end
theorem ones_of {a:Array Value} (h:a.all (·.oneCell')=true) : ∀ x∈a.toList,x.oneCell'=true:=fun x hx=>by
 rw [Array.all_eq_true_iff_forall_mem] at h
 exact h x (Array.mem_toList_iff.1 hx)
def byteP (l:List V) (n:Nat):Bool:=match bytC l with
 | some _=>Nat.beq l.length n
 | none=>false
theorem byte_of {σ:Sg} {l:List V} {n:Nat} (e:byteP l n=true) (hd:dfs σ l) : ∃ L:List UInt8,L.length=n∧vals σ l=bys L:=by
 unfold byteP at e
 split at e
 ·rename_i t ht
  obtain ⟨b1,b2,_⟩:=bytC_ok ht hd
  exact ⟨byts σ t,by rw [← Nat.eq_of_beq_eq_true e,← b2]; simp [byts],b1⟩
 · cases e
section
variable (base:Nat) (fx:Nat→Option (List UInt8)) (T:List UInt8) (tv:Value) (m n:Nat)
theorem pf_not {k:Nat} {T:List UInt8} {args:List (List Value)} (h3:k≠3) (h11:k≠11):Pf T k args:=⟨fun e=>absurd e h3,fun e=>absurd e h11⟩
def kBase:Ctr:=⟨53,fun l h=>match l with
 | []=>some (.pu 1 [] (.ag 16))
 | _=>none⟩
theorem kBase_ok:CtOk (kx base fx T tv m n) kBase:=by
 refine ⟨⟨_,_,Tryz.func53,rfl,by decide⟩,fun l h σ w o e hs hl => ?_⟩
 dsimp only [kBase] at e
 split at e
 ·cases e
  refine (Fld.base_p w (hs.inv w (Below.refl _ _)).et).mono ?_
  rintro e w' ⟨rfl,hb⟩
  exact ⟨_,rfl,puO (l:=(ptv baseP).toList) rfl (fun _ h=>nomatch h) (pf_not (by decide) (by decide)) rfl (by rw [Array.length_toList,Fld.ptv_size]; rfl) (by simp [Sh.v]) (ones_of (Fld.ptv_one _)),hb⟩
 · cases e
noncomputable def kSha5:Ctr:=⟨84,fun l h=>match l with
 | [.o (.v x)]=>match partsV h x with
   | some t=>match Nat.ble (t.map szV).sum 90000000 with
     | true=>some (.pu 2 t (.ag 64))
     | false=>none
   | none=>none
 | _=>none⟩
theorem kSha5_ok:CtOk (kx base fx T tv m n) kSha5:=by
 refine ⟨⟨_,_,Tryz.func84,rfl,by decide⟩,fun l h σ w o e hs hl => ?_⟩
 dsimp only [kSha5] at e
 split at e
 ·rename_i x
  split at e
  ·rename_i t ht
   split at e
   ·rename_i hz
    cases e
    have hx:x.df σ:=hl (.o (.v x)) (List.mem_singleton.2 rfl) x (List.mem_singleton.2 rfl)
    obtain ⟨h1,q,k,h2,h3,h4⟩:=partsV_ok hs hx ht
    have hj:=hs.inv w (Below.refl _ _)
    have:=S5.sum_any q k _ w hj.t5 h3 (Nat.le_trans h4 (Nat.le_of_ble_eq_true hz))
    have e2:(List.map (R.val σ) [R.o (.v x)]).toArray = #[Value.slice q ((t.map (vals σ)).map (pb T)).length k]:=by
     show #[x.val σ]=_
     rw [h2]
     simp
    rw [e2]
    refine this.mono ?_
    rintro e w' ⟨rfl,hb⟩
    exact ⟨_,rfl,puE (L:=S5.sum ((t.map (vals σ)).map (pb T)).flatten) rfl h1 (pf_not (by decide) (by decide)) rfl (S5.sum_length _) rfl,hb⟩
   · cases e
  · cases e
 · cases e
noncomputable def kSha2:Ctr:=⟨72,fun l h=>match l with
 | [.o (.v x)]=>match partsV h x with
   | some t=>match Nat.ble (t.map szV).sum 90000000 with
     | true=>some (.pu 0 t (.ag 32))
     | false=>none
   | none=>none
 | _=>none⟩
theorem kSha2_ok:CtOk (kx base fx T tv m n) kSha2:=by
 refine ⟨⟨_,_,Tryz.func72,rfl,by decide⟩,fun l h σ w o e hs hl => ?_⟩
 dsimp only [kSha2] at e
 split at e
 ·rename_i x
  split at e
  ·rename_i t ht
   split at e
   ·rename_i hz
    cases e
    have hx:x.df σ:=hl (.o (.v x)) (List.mem_singleton.2 rfl) x (List.mem_singleton.2 rfl)
    obtain ⟨h1,q,k,h2,h3,h4⟩:=partsV_ok hs hx ht
    have hj:=hs.inv w (Below.refl _ _)
    have:=parts_any q k _ w hj.t2 h3 (Nat.le_trans h4 (Nat.le_trans (Nat.le_of_ble_eq_true hz) (by decide)))
    have e2:(List.map (R.val σ) [R.o (.v x)]).toArray = #[Value.slice q ((t.map (vals σ)).map (pb T)).length k]:=by
     show #[x.val σ]=_
     rw [h2]
     simp
    rw [e2]
    refine this.mono ?_
    rintro e w' ⟨rfl,hb⟩
    exact ⟨_,rfl,puE (L:=sha ((t.map (vals σ)).map (pb T)).flatten) rfl h1 (pf_not (by decide) (by decide)) rfl (sha_length _) rfl,hb⟩
   · cases e
  · cases e
 · cases e
def kTimes:Ctr:=⟨54,fun l h=>match l with
 | [.o (.a p),.o (.a q)]=>match goodP h p,byteP q 32 with
   | true,true=>some (.pu 3 [p,q] (.ag 16))
   | _,_=>none
 | _=>none⟩
theorem two_df {σ:Sg} {p q:List V} (hl : ∀ x ∈ [R.o (.a p),R.o (.a q)],R.df σ x):dfs σ p∧dfs σ q ∧ ∀ l ∈ [p,q],dfs σ l:=by
 have h1:dfs σ p:=hl _ (List.mem_cons_self ..)
 have h2:dfs σ q:=hl _ (List.mem_cons_of_mem _ (List.mem_cons_self ..))
 refine ⟨h1,h2,fun l hl => ?_⟩
 rcases List.mem_cons.1 hl with rfl | hl
 · exact h1
 · rw [List.mem_singleton.1 hl]; exact h2
theorem kTimes_ok:CtOk (kx base fx T tv m n) kTimes:=by
 refine ⟨⟨_,_,Tryz.func54,rfl,by decide⟩,fun l h σ w o e hs hl => ?_⟩
 dsimp only [kTimes] at e
 split at e
 ·rename_i p q
  split at e
  ·rename_i h1 h2
   cases e
   obtain ⟨d1,d2,d3⟩:=two_df hl
   obtain ⟨P,a,e1,e2⟩:=good_of hs h1
   obtain ⟨L,e3,e4⟩:=byte_of h2 d2
   have hj:=hs.inv w (Below.refl _ _)
   have:=Vr.tms_gd e2 L e3 w hj.et
   have ea:(List.map (R.val σ) [R.o (.a p),R.o (.a q)]).toArray = #[Value.agg (ptv P),.agg (bysA L)]:=by
    show #[Value.agg (vals σ p).toArray,Value.agg (vals σ q).toArray]=_
    rw [e1,e4,Array.toArray_toList]
    rfl
   rw [ea]
   refine this.mono ?_
   rintro e w' ⟨rfl,hb⟩
   refine ⟨_,rfl,puO (l:=(ptv (tmsK P L 256)).toList) rfl d3 ⟨fun _=>⟨P,a,e1,e2⟩,fun h=>absurd h (by decide)⟩ ?_ (by rw [Array.length_toList,Fld.ptv_size]; rfl) (by simp [Sh.v]) (ones_of (Fld.ptv_one _)),hb⟩
   show (ptv (tmsK (ptr (vals σ p)) (ubs (vals σ q)) 256)).toList=_
   rw [e1,e4,ptr_ptv,ubs_bys]
  · cases e
 · cases e
theorem one_df {σ:Sg} {p:List V} (hl : ∀ x ∈ [R.o (.a p)],R.df σ x):dfs σ p ∧ ∀ l ∈ [p],dfs σ l:=by
 have h1:dfs σ p:=hl _ (List.mem_cons_self ..)
 exact ⟨h1,fun l hl=>by rw [List.mem_singleton.1 hl]; exact h1⟩
def kClamp:Ctr:=⟨85,fun l h=>match l with
 | [.o (.a q)]=>match byteP q 32 with
   | true=>some (.pu 4 [q] (.ag 32))
   | _=>none
 | _=>none⟩
theorem kClamp_ok:CtOk (kx base fx T tv m n) kClamp:=by
 refine ⟨⟨_,_,Tryz.func85,rfl,by decide⟩,fun l h σ w o e hs hl => ?_⟩
 dsimp only [kClamp] at e
 split at e
 ·rename_i q
  split at e
  ·rename_i h2
   cases e
   obtain ⟨d2,d3⟩:=one_df hl
   obtain ⟨L,e3,e4⟩:=byte_of h2 d2
   have ea:(List.map (R.val σ) [R.o (.a q)]).toArray = #[Value.agg (bysA L)]:=by
    show #[Value.agg (vals σ q).toArray]=_
    rw [e4]
    rfl
   rw [ea]
   refine (Sca.clamp_any L e3 w).mono ?_
   rintro e w' ⟨rfl,hb⟩
   refine ⟨_,rfl,puE (L:=clampB L) rfl d3 (pf_not (by decide) (by decide)) ?_ (by rw [Sca.clampB_length,e3]; rfl) rfl,hb⟩
   show bys (clampB (ubs (vals σ q)))=_
   rw [e4,ubs_bys]
  · cases e
 · cases e
noncomputable def kOf:Ctr:=⟨59,fun l h=>match l with
 | [.o (.v x)]=>match rdV h x with
   | some t=>match Nat.ble (szV t) 800 with
     | true=>some (.pu 5 [t] (.ag 4))
     | false=>none
   | none=>none
 | _=>none⟩
theorem kOf_ok:CtOk (kx base fx T tv m n) kOf:=by
 refine ⟨⟨_,_,Tryz.func59,rfl,by decide⟩,fun l h σ w o e hs hl => ?_⟩
 dsimp only [kOf] at e
 split at e
 ·rename_i x
  split at e
  ·rename_i t ht
   split at e
   ·rename_i hz
    cases e
    have hx:x.df σ:=hl (.o (.v x)) (List.mem_singleton.2 rfl) x (List.mem_singleton.2 rfl)
    obtain ⟨h1,⟨q,k,h2,h3⟩,h4⟩:=rdV_ok hs hx ht
    have hj:=hs.inv w (Below.refl _ _)
    have:=Sca.of_sn (pb T (vals σ t)) _ (Nat.le_trans h4 (Nat.le_of_ble_eq_true hz)) q k w h3 hj.ot
    have e2:(List.map (R.val σ) [R.o (.v x)]).toArray = #[Value.slice q (pb T (vals σ t)).length k]:=by
     show #[x.val σ]=_
     rw [h2]
    rw [e2]
    refine this.mono ?_
    rintro e w' ⟨rfl,hb⟩
    exact ⟨_,rfl,puO (l:=(sn (leN (pb T (vals σ t))%Q)).toList) rfl (fun l hl=>by rw [List.mem_singleton.1 hl]; exact h1) (pf_not (by decide) (by decide)) rfl (by rw [Array.length_toList,Sca.sn_size]; rfl) (by simp [Sh.v]) (ones_of (Sca.sn_one _)),hb⟩
   · cases e
  · cases e
 · cases e
def kEnc:Ctr:=⟨56,fun l h=>match l with
 | [.o (.a q)]=>match goodP h q with
   | true=>some (.pu 6 [q] (.ag 32))
   | _=>none
 | _=>none⟩
theorem kEnc_ok:CtOk (kx base fx T tv m n) kEnc:=by
 refine ⟨⟨_,_,Tryz.func56,rfl,by decide⟩,fun l h σ w o e hs hl => ?_⟩
 dsimp only [kEnc] at e
 split at e
 ·rename_i q
  split at e
  ·rename_i h2
   cases e
   obtain ⟨d2,d3⟩:=one_df hl
   obtain ⟨P,a,e3,e4⟩:=good_of hs h2
   have ea:(List.map (R.val σ) [R.o (.a q)]).toArray = #[Value.agg (ptv P)]:=by
    show #[Value.agg (vals σ q).toArray]=_
    rw [e3]
   rw [ea]
   refine (Vr.enc_gd e4 w (hs.inv w (Below.refl _ _)).et).mono ?_
   rintro e w' ⟨rfl,hb⟩
   refine ⟨_,rfl,puE (L:=encP a) rfl d3 (pf_not (by decide) (by decide)) ?_ (Vr.encP_length a) rfl,hb⟩
   show bys (encP (afP (ptr (vals σ q))))=_
   rw [e3,ptr_ptv,afP_gd e4]
  · cases e
 · cases e
def kAdd:Ctr:=⟨57,fun l h=>match l with
 | [.o (.a p),.o (.a q)]=>match scaP h p,scaP h q with
   | true,true=>some (.pu 7 [p,q] (.ag 4))
   | _,_=>none
 | _=>none⟩
theorem kAdd_ok (hm:m<W4) (hn:n<W4):CtOk (kx base fx T tv m n) kAdd:=by
 refine ⟨⟨_,_,Tryz.func57,rfl,by decide⟩,fun l h σ w o e hs hl => ?_⟩
 dsimp only [kAdd] at e
 split at e
 ·rename_i p q
  split at e
  ·rename_i h1 h2
   cases e
   obtain ⟨d1,d2,d3⟩:=two_df hl
   obtain ⟨a,e1,e2⟩:=sca_of hm hn hs h1
   obtain ⟨b,e3,e4⟩:=sca_of hm hn hs h2
   have ea:(List.map (R.val σ) [R.o (.a p),R.o (.a q)]).toArray = #[Value.agg (sn a),.agg (sn b)]:=by
    show #[Value.agg (vals σ p).toArray,Value.agg (vals σ q).toArray]=_
    rw [e2,e4]
   rw [ea]
   refine (Sca.add_sn a b e1 e3 w (hs.inv w (Below.refl _ _)).ot).mono ?_
   rintro e w' ⟨rfl,hb⟩
   refine ⟨_,rfl,puO (l:=(sn ((a+b)%Q)).toList) rfl d3 (pf_not (by decide) (by decide)) ?_ (by rw [Array.length_toList,Sca.sn_size]; rfl) (by simp [Sh.v]) (ones_of (Sca.sn_one _)),hb⟩
   show (sn ((wv (vals σ p)+wv (vals σ q))%Q)).toList=_
   rw [e2,e4,wv_sn e1,wv_sn e3]
  · cases e
 · cases e
def kMul:Ctr:=⟨58,fun l h=>match l with
 | [.o (.a p),.o (.a q)]=>match scaP h p,scaP h q with
   | true,true=>some (.pu 9 [p,q] (.ag 4))
   | _,_=>none
 | _=>none⟩
theorem mul_sn (a b:Nat) (ha:a<W4) (hb:b<W4) (w:World) (hO:Sca.OT w):Calls Tryz.prog 58 #[.agg (sn a),.agg (sn b)] w fun e w'=>e = .returned (.agg (sn (a*b%Q)))∧Below w.heap.size w w':=by
 have h:=Sca.mul_any (words a 4) (words b 4) w (Sca.w4s_words a) (Sca.w4s_words b) hO
 rw [Fld.val_words 4 a (by rw [Fld.W4_pow]; exact ha),Fld.val_words 4 b (by rw [Fld.W4_pow]; exact hb)] at h
 exact h
theorem kMul_ok (hm:m<W4) (hn:n<W4):CtOk (kx base fx T tv m n) kMul:=by
 refine ⟨⟨_,_,Tryz.func58,rfl,by decide⟩,fun l h σ w o e hs hl => ?_⟩
 dsimp only [kMul] at e
 split at e
 ·rename_i p q
  split at e
  ·rename_i h1 h2
   cases e
   obtain ⟨d1,d2,d3⟩:=two_df hl
   obtain ⟨a,e1,e2⟩:=sca_of hm hn hs h1
   obtain ⟨b,e3,e4⟩:=sca_of hm hn hs h2
   have ea:(List.map (R.val σ) [R.o (.a p),R.o (.a q)]).toArray = #[Value.agg (sn a),.agg (sn b)]:=by
    show #[Value.agg (vals σ p).toArray,Value.agg (vals σ q).toArray]=_
    rw [e2,e4]
   rw [ea]
   refine (mul_sn a b e1 e3 w (hs.inv w (Below.refl _ _)).ot).mono ?_
   rintro e w' ⟨rfl,hb⟩
   refine ⟨_,rfl,puO (l:=(sn (a*b%Q)).toList) rfl d3 (pf_not (by decide) (by decide)) ?_ (by rw [Array.length_toList,Sca.sn_size]; rfl) (by simp [Sh.v]) (ones_of (Sca.sn_one _)),hb⟩
   show (sn (wv (vals σ p)*wv (vals σ q)%Q)).toList=_
   rw [e2,e4,wv_sn e1,wv_sn e3]
  · cases e
 · cases e
def kBytes:Ctr:=⟨55,fun l h=>match l with
 | [.o (.a q)]=>match scaP h q with
   | true=>some (.pu 8 [q] (.ag 32))
   | _=>none
 | _=>none⟩
theorem kBytes_ok (hm:m<W4) (hn:n<W4):CtOk (kx base fx T tv m n) kBytes:=by
 refine ⟨⟨_,_,Tryz.func55,rfl,by decide⟩,fun l h σ w o e hs hl => ?_⟩
 dsimp only [kBytes] at e
 split at e
 ·rename_i q
  split at e
  ·rename_i h2
   cases e
   obtain ⟨d2,d3⟩:=one_df hl
   obtain ⟨a,e3,e4⟩:=sca_of hm hn hs h2
   have ea:(List.map (R.val σ) [R.o (.a q)]).toArray = #[Value.agg (sn a)]:=by
    show #[Value.agg (vals σ q).toArray]=_
    rw [e4]
   rw [ea]
   refine (Sca.bytes_sn a e3 w (hs.inv w (Below.refl _ _)).ot).mono ?_
   rintro e w' ⟨rfl,hb⟩
   refine ⟨_,rfl,puE (L:=leB (a%Q) 32) rfl d3 (pf_not (by decide) (by decide)) ?_ (Fld.leB_length _ _) rfl,hb⟩
   show bys (leB (wv (vals σ q)%Q) 32)=_
   rw [e4,wv_sn e3]
  · cases e
 · cases e
noncomputable def leaves:List Ctr := [kBase,kSha5,kSha2,kTimes,kClamp,kOf,kEnc,kAdd,kMul,kBytes]
theorem leaves_ok (hm:m<W4) (hn:n<W4) : ∀ k∈leaves,CtOk (kx base fx T tv m n) k:=by
 intro k hk
 simp only [leaves,List.mem_cons,List.not_mem_nil,or_false] at hk
 rcases hk with rfl | rfl | rfl | rfl | rfl | rfl | rfl | rfl | rfl | rfl
 · exact kBase_ok ..
 · exact kSha5_ok ..
 · exact kSha2_ok ..
 · exact kTimes_ok ..
 · exact kClamp_ok ..
 · exact kOf_ok ..
 · exact kEnc_ok ..
 · exact kAdd_ok _ _ _ _ _ _ hm hn
 · exact kMul_ok _ _ _ _ _ _ hm hn
 · exact kBytes_ok _ _ _ _ _ _ hm hn
end
end Rn
end Go.Proofs.YtfodadedkilgdaaGreatDoor
namespace Go.Proofs.YtfodadedkilgdaaGreatDoor
set_option linter.unusedVariables false
set_option linter.unusedSimpArgs false
open Go.RowKit Mem Sha
namespace Rn
open Fld (words val P4 ptv pt el wN WB W4 leB leN tmsK baseP W4s)
open Sca (sn Q clampB)
open Vr (A2 encP Gd ptK ptP ptA IsB)
open Ed (FP)
def s0 (fx:Nat→Option (List UInt8)) (zt:Nat→Option Cl):Sg:=⟨fx,fun _=>none,fun _=>0,zt⟩
def h0 (me:List Me):H:=⟨.nil,0,10,0,[],me⟩
theorem h0_at (me:List Me) (b:Nat):(h0 me).at b=none:=Tr.at_nil _ _
theorem h0_ok (me:List Me):(h0 me).Ok:=⟨fun b x hx=>(by rw [h0_at] at hx; cases hx),Nat.le_refl _⟩
section
variable {fx:Nat→Option (List UInt8)} {zt:Nat→Option Cl} {T:List UInt8} {tv:Value} {m n:Nat} {w:World}
theorem h0_hs {me:List Me} (hj:Jn T tv w) (hm : ∀ x∈me,MeOk (kx w.heap.size fx T tv m n) (s0 fx zt) x):Hs (kx w.heap.size fx T tv m n) (s0 fx zt) (h0 me) w :=
 ⟨fun b x hx=>(by rw [h0_at] at hx; cases hx),fun a b x y hx=>(by rw [h0_at] at hx; cases hx),kx_inv hj,Nat.le_refl _,fun o l h=>h,hm⟩
theorem run0 (ks:List Ctr) (hk : ∀ k∈ks,CtOk (kx w.heap.size fx T tv m n) k) (hfx : ∀ o l,fx o=some l→o<10) (hzt : ∀ o l,zt o=some l→o<10) {me M:List Me} (hj:Jn T tv w) (hm : ∀ x∈me,MeOk (kx w.heap.size fx T tv m n) (s0 fx zt) x) {f:FuncId} {l:List R} {r:R} (hl : ∀ x∈l,x.df (s0 fx zt))
 (hr:(callR Tryz.prog (ctB ks) 1000 30 f l (h0 me)).map (fun x=>(x.1,x.2.me))=some (r,M)) :
 Calls Tryz.prog f (l.map (R.val (s0 fx zt))).toArray w fun e w' => ∃ σ,e = .returned (r.val σ)∧Le (s0 fx zt) σ∧r.df σ∧(∀ x∈M,MeOk (kx w.heap.size fx T tv m n) σ x)∧Below w.heap.size w w':=by
 obtain ⟨⟨r',h'⟩,h1,h2⟩:=Option.map_eq_some_iff.1 hr
 have q1:r'=r:=congrArg Prod.fst h2
 have q2:h'.me=M:=congrArg Prod.snd h2
 subst q1
 have hs:=h0_hs (m:=m) (n:=n) hj hm
 have hF:FOk (kx w.heap.size fx T tv m n) (callR Tryz.prog (ctB ks) 1000 30):=callR_ok (c:=kx w.heap.size fx T tv m n) (ctA_ok hk hfx) (by kernel_rfl) 1000 30
 have h3:=hF.run f l (h0 me) r' h' (s0 fx zt) w h1 (h0_ok me) hs hl ⟨fun _ _ _=>rfl,fun o ho _=>⟨(by
  cases e:fx o with
  | none=>exact e
  | some l=>have:=hfx o l e; have ho:10≤o:=ho; omega),(by
  cases e:zt o with
  | none=>exact e
  | some l=>have:=hzt o l e; have ho:10≤o:=ho; omega)⟩⟩
 refine h3.2.mono ?_
 rintro e w' ⟨σ,v,rfl,g1,g2,rfl,g4⟩
 exact ⟨σ,rfl,g2.le,g4,by rw [← q2]; exact g1.me,g2.below hs⟩
variable {c:Cx} {σ:Sg} {L:List UInt8}
theorem bys_inj {a b:List UInt8} (h:bys a=bys b):a=b:=by rw [← ubs_bys a,h,ubs_bys]
theorem objB {M:List Me} {k o:Nat} {args:List (List V)} (hM : ∀ x∈M,MeOk c σ x) (hm:(k,args,o)∈M) (hk:Nat.beq (k%2) 0=true) (hG:c.G k (args.map (vals σ))=bys L):σ.ρ o=some L:=by
 have h:=(hM _ hm).1
 dsimp only at h
 rw [hk,hG] at h
 obtain ⟨L',e1,e2⟩:=h
 rw [e1,bys_inj e2]
theorem objC {M:List Me} {k o j:Nat} {args:List (List V)} {l:List Value} (hM : ∀ x∈M,MeOk c σ x) (hm:(k,args,o)∈M) (hk:Nat.beq (k%2) 0=false) (hG:c.G k (args.map (vals σ))=l) (hj:l.length=j):vals σ (zs o j)=l:=by
 have h:=(hM _ hm).1
 dsimp only at h
 rw [hk,hG] at h
 obtain ⟨L',e1,e2⟩:=h
 have:=(zs_val (σ:=σ) e1).1
 rw [e2,hj] at this
 exact this
theorem vals_x {o j:Nat} (h:σ.ρ o=some L) (hj:L.length=j):vals σ (xs o j)=bys L:=by
 have:=(xs_val (σ:=σ) h).1
 rw [hj] at this
 exact this
theorem vals_seg {o j a b:Nat} (h:σ.ρ o=some L) (hj:L.length=j):vals σ (seg (xs o j) a b)=bys ((L.drop a).take b):=by
 have:=vals_x h hj
 unfold seg vals bys at *
 rw [List.map_take,List.map_drop,this,List.map_take,List.map_drop]
theorem vals_app (a b:List V):vals σ (a++b)=vals σ a++vals σ b:=List.map_append ..
theorem bys_app (a b:List UInt8):bys (a++b)=bys a++bys b:=List.map_append ..
end
def secB (seed:List UInt8):List UInt8:=clampB (((S5.sum seed).drop 0).take 32)
def preB (seed:List UInt8):List UInt8:=((S5.sum seed).drop 32).take 32
def pubA (seed:List UInt8):A2:=Vr.mulA Vr.baseA (secB seed)
def pubB (seed:List UInt8):List UInt8:=encP (pubA seed)
def spreadB (seed:List UInt8):List UInt8:=secB seed++(preB seed++pubB seed)
def fx1 (seed:List UInt8):Nat→Option (List UInt8):=fun o=>if o=0 then some seed else none
def mSpread:List Me := [(1,[],12),(3,[zs 12 16,xs 11 32],13),(6,[zs 13 16],14),(4,[seg (xs 10 64) 0 32],11),(2,[xs 0 32],10)]
theorem spread_run:(callR Tryz.prog (ctB leaves) 1000 30 51 [.o (.a (xs 0 32))] (h0 [])).map (fun x=>(x.1,x.2.me))=some (.o (.a (xs 11 32++(seg (xs 10 64) 32 32++xs 14 32))),mSpread):=by
 kernel_rfl
theorem secB_length (seed:List UInt8):(secB seed).length=32:=by unfold secB; rw [Sca.clampB_length,List.length_take,List.length_drop,S5.sum_length]; decide
theorem preB_length (seed:List UInt8):(preB seed).length=32:=by unfold preB; rw [List.length_take,List.length_drop,S5.sum_length]; decide
theorem pubB_length (seed:List UInt8):(pubB seed).length=32:=Vr.encP_length _
theorem spreadB_length (seed:List UInt8):(spreadB seed).length=96:=by unfold spreadB; rw [List.length_append,List.length_append,secB_length,preB_length,pubB_length]
structure J0 (w:World):Prop where
 et:Fld.ET w
 ot:Sca.OT w
 t5:S5.Tabs w
 t2:Tabs w
theorem J0.jn {w:World} (h:J0 w) {T:List UInt8} {tv:Value} (hi:IsB w tv T) (hl:T.length≤80000000):Jn T tv w:=⟨h.et,h.ot,h.t5,h.t2,hi,hl⟩
theorem isB_nil (w:World):IsB w (.slice none 0 0) []:=⟨none,0,rfl,rfl,.inl ⟨rfl,rfl⟩⟩
theorem spread_c (seed:List UInt8) (hl:seed.length=32) (w:World) (hj:J0 w):Calls Tryz.prog 51 #[.agg (bysA seed)] w fun e w'=>e = .returned (.agg (bysA (spreadB seed)))∧Below w.heap.size w w':=by
 have hx0:vals (s0 (fx1 seed) fun _=>none) (xs 0 32)=bys seed:=vals_x (o:=0) rfl hl
 have h:=run0 (T := []) (tv := .slice none 0 0) (m:=0) (n:=0) (fx:=fx1 seed) (zt:=fun _=>none) (me := []) leaves (leaves_ok _ _ _ _ _ _ (by decide) (by decide)) (fun o l h=>by
  unfold fx1 at h
  split at h
  · omega
  · cases h) (fun o l h=>by cases h) (hj.jn (isB_nil w) (by decide)) (fun x h=>by cases h) (fun x hx=>by
  rw [List.mem_singleton.1 hx]
  have:=(xs_val (σ:=s0 (fx1 seed) fun _=>none) (o:=0) (L:=seed) rfl).2
  rw [hl] at this
  exact this) spread_run
 have ea:(List.map (R.val (s0 (fx1 seed) fun _=>none)) [R.o (.a (xs 0 32))]).toArray = #[Value.agg (bysA seed)]:=by
  show #[Value.agg (vals _ (xs 0 32)).toArray]=_
  rw [hx0]
  rfl
 rw [ea] at h
 refine h.mono ?_
 rintro e w' ⟨σ,rfl,hle,_,hM,hb⟩
 refine ⟨?_,hb⟩
 have r0:σ.ρ 0=some seed:=hle.r 0 seed rfl
 have r10:σ.ρ 10=some (S5.sum seed):=objB hM (k:=2) (args := [xs 0 32]) (by simp [mSpread]) rfl (by
  show bys (S5.sum ([vals σ (xs 0 32)].map (pb [])).flatten)=_
  rw [vals_x r0 hl]
  simp [pb_bys])
 have r11:σ.ρ 11=some (secB seed):=objB hM (k:=4) (args := [seg (xs 10 64) 0 32]) (by simp [mSpread]) rfl (by
  show bys (clampB (ubs (vals σ (seg (xs 10 64) 0 32))))=_
  rw [vals_seg r10 (S5.sum_length _),ubs_bys]
  rfl)
 have z12:vals σ (zs 12 16)=(ptv baseP).toList:=objC hM (k:=1) (args := []) (by simp [mSpread]) rfl rfl (by rw [Array.length_toList,Fld.ptv_size])
 have z13:vals σ (zs 13 16)=(ptv (tmsK baseP (secB seed) 256)).toList:=objC hM (k:=3) (args := [zs 12 16,xs 11 32]) (by simp [mSpread]) rfl (by
  show (ptv (tmsK (ptr (vals σ (zs 12 16))) (ubs (vals σ (xs 11 32))) 256)).toList=_
  rw [z12,ptr_ptv,vals_x r11 (secB_length _),ubs_bys]) (by rw [Array.length_toList,Fld.ptv_size])
 have r14:σ.ρ 14=some (pubB seed):=objB hM (k:=6) (args := [zs 13 16]) (by simp [mSpread]) rfl (by
  show bys (encP (afP (ptr (vals σ (zs 13 16)))))=_
  rw [z13,ptr_ptv,afP_gd (Vr.Gd.base.mul _)]
  rfl)
 show Ending.returned (.agg (vals σ (xs 11 32++(seg (xs 10 64) 32 32++xs 14 32))).toArray)=_
 rw [vals_app,vals_app,vals_x r11 (secB_length _),vals_seg r10 (S5.sum_length _),vals_x r14 (pubB_length _),← bys_app,← bys_app]
 rfl
end Rn
end Go.Proofs.YtfodadedkilgdaaGreatDoor
