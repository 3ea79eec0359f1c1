/- A part of the proof. Plain; no condition. -/
import Derived.Test.YtfodadedkilgdaaGreatDoorP36
import Derived.Test.YtfodadedkilgdaaGreatDoorP37
import Derived.Test.YtfodadedkilgdaaGreatDoorP3
import Derived.Lib.Bytealg
import Derived.Laws.Externs
namespace Go.Proofs.YtfodadedkilgdaaGreatDoor
set_option linter.unusedVariables false
set_option linter.unusedSimpArgs false
open Go.RowKit Mem Sha
namespace Rn
def cmpB (a b:List UInt8):Int:=Lib.compareBytes a b
theorem cmp_run (a b:List UInt8) (w:World):(callFunc 212 #[.string ⟨a.toArray⟩,.string ⟨b.toArray⟩]).run Tryz.prog w = .ok (.value (.int .i64 (cmpB a b))) w:=by
 have h:=run_callFunc_extern (P:=Tryz.prog) Tryz.func212 (by kernel_rfl) (by kernel_rfl) (by kernel_rfl) (e:=Extern.BytealgCompare.compare) (by kernel_rfl) #[.string ⟨a.toArray⟩,.string ⟨b.toArray⟩] w
 rw [Lib.run_compareString] at h
 exact h
set_option maxRecDepth 100000 in
set_option maxHeartbeats 1000000 in
theorem comparestr_any (a b:List UInt8) (w:World) :
 Calls Tryz.prog 166 #[.string ⟨a.toArray⟩,.string ⟨b.toArray⟩] w fun e w'=>e = .returned (.int .i64 (cmpB a b))∧w'=w:=by
 go_enter Tryz.func166,Tryz.ntmps166
 go_wp2_with fail
 rw [cmp_run]
 rw [Oper.upon_value]
 go_wp2_with fail
 go_ret
 exact ⟨rfl,rfl⟩
set_option maxRecDepth 100000 in
set_option maxHeartbeats 1000000 in
theorem compare_any (a b:List UInt8) (w:World) :
 Calls Tryz.prog 116 #[.string ⟨a.toArray⟩,.string ⟨b.toArray⟩] w fun e w'=>e = .returned (.int .i64 (cmpB a b))∧w'=w:=by
 go_enter Tryz.func116,Tryz.ntmps116
 go_wp2_with fail
 refine (comparestr_any a b w).mono ?_
 rintro e w2 ⟨rfl,hw⟩
 subst hw
 go_wp2_with fail
 go_ret
 exact ⟨rfl,rfl⟩
def knB:List Y→Option (List UInt8)
 | []=>some []
 | .k n::r=>match knB r with
   | some l=>some (UInt8.ofNat n::l)
   | none=>none
 | .x _ _::_=>none
theorem knB_ok {σ:Sg} : ∀ {l:List Y} {t:List UInt8},knB l=some t→l.map (Y.u σ)=t
 | [],t,e=>by cases e; rfl
 | .k n::r,t,e=>by
   unfold knB at e
   split at e
   ·rename_i l h1
    cases e
    rw [List.map_cons,knB_ok h1]
    rfl
   · cases e
 | .x _ _::_,t,e=>by cases e
def kCmp:Ctr:=⟨116,fun l h=>match l with
 | [.o (.v (.t a)),.o (.v (.t b))]=>match knB a,knB b with
   | some x,some y=>some (.kn (.o (.v (.i .i64 (cmpB x y)))))
   | _,_=>none
 | _=>none⟩
theorem kCmp_ok (base:Nat) (fx:Nat→Option (List UInt8)) (T:List UInt8) (tv:Value) (m n:Nat):CtOk (kx base fx T tv m n) kCmp:=by
 refine ⟨⟨_,_,Tryz.func116,rfl,by decide⟩,fun l h σ w o e hs hl => ?_⟩
 dsimp only [kCmp] at e
 split at e
 ·rename_i a b
  split at e
  ·rename_i x y h1 h2
   cases e
   have ea:(List.map (R.val σ) [R.o (.v (.t a)),R.o (.v (.t b))]).toArray = #[Value.string ⟨x.toArray⟩,.string ⟨y.toArray⟩]:=by
    show #[Value.string ⟨(a.map (Y.u σ)).toArray⟩,Value.string ⟨(b.map (Y.u σ)).toArray⟩]=_
    rw [knB_ok h1,knB_ok h2]
   rw [ea]
   refine (compare_any x y w).mono ?_
   rintro e w' ⟨rfl,rfl⟩
   exact ⟨_,rfl,⟨O.df_one.2 trivial,rfl⟩,Below.refl _ _⟩
  · cases e
 · cases e
end Rn
end Go.Proofs.YtfodadedkilgdaaGreatDoor
namespace Go.Proofs.YtfodadedkilgdaaGreatDoor
set_option linter.unusedVariables false
set_option linter.unusedSimpArgs false
open Go.RowKit Mem Sha
namespace Rn
open Vr (A2 encP Gd ptK ptP ptA IsB)
noncomputable def kSign:Ctr:=⟨32,fun l h=>match l with
 | [.o (.a s),.o (.v x)]=>match byteP s 32,rdV h x with
   | true,some t=>match Nat.ble (szV t) 80000000 with
     | true=>some (.ob (.ag 64))
     | false=>none
   | _,_=>none
 | _=>none⟩
def kSpr:Ctr:=⟨51,fun l h=>match l with
 | [.o (.a s)]=>match byteP s 32 with
   | true=>some (.ob (.ag 96))
   | false=>none
 | _=>none⟩
def sd0:List UInt8:=List.replicate 32 0
def tx0:List UInt8 := [108]
def z32:List V:=List.replicate 32 (.i .u8 0)
noncomputable def kProve:Ctr:=⟨209,fun l h=>match l with
 | [.o (.a s),.o (.v x)]=>match lS vS s z32,rdV h x with
   | true,some t=>match lS vS t [.i .u8 108] with
     | true=>some (.fx 0 (.ae 80))
     | false=>none
   | _,_=>none
 | _=>none⟩
def kSum:Ctr:=⟨210,fun l h=>match l with
 | [.o (.a s)]=>match lS vS s (xs 0 80) with
   | true=>some (.ob (.ae 64))
   | false=>none
 | _=>none⟩
noncomputable def hostCt:List Ctr := [kSha2,kSign,kSpr,kProve,kSum,kCmp]
section
variable (base:Nat) (T:List UInt8) (tv:Value) (m n:Nat)
theorem kSign_ok (fx:Nat→Option (List UInt8)):CtOk (kx base fx T tv m n) kSign:=by
 refine ⟨⟨_,_,Tryz.func32,rfl,by decide⟩,fun l h σ w o e hs hd => ?_⟩
 dsimp only [kSign] at e
 split at e
 ·rename_i s x
  split at e
  ·rename_i t h1 h2
   split at e
   ·rename_i h3
    cases e
    have hj:=hs.inv w (Below.refl _ _)
    obtain ⟨L,e1,e2⟩:=byte_of h1 (hd _ (List.mem_cons_self ..):dfs σ s)
    have hx:x.df σ:=(hd (.o (.v x)) (by simp)) x (List.mem_singleton.2 rfl)
    obtain ⟨_,k2,k3⟩:=rdV_ok hs hx h2
    have ea:(List.map (R.val σ) [R.o (.a s),R.o (.v x)]).toArray = #[Value.agg (bysA L),x.val σ]:=by
     show #[Value.agg (vals σ s).toArray,x.val σ]=_
     rw [e2]
     rfl
    rw [ea]
    refine (sign_c L _ e1 (Nat.le_trans k3 (Nat.le_of_ble_eq_true h3)) _ w k2 ⟨hj.et,hj.ot,hj.t5,hj.t2⟩).mono ?_
    rintro e w' ⟨rfl,hb⟩
    exact ⟨_,rfl,⟨_,signB_length _ _,rfl⟩,hb⟩
   · cases e
  · cases e
 · cases e
theorem kSpr_ok (fx:Nat→Option (List UInt8)):CtOk (kx base fx T tv m n) kSpr:=by
 refine ⟨⟨_,_,Tryz.func51,rfl,by decide⟩,fun l h σ w o e hs hd => ?_⟩
 dsimp only [kSpr] at e
 split at e
 ·rename_i s
  split at e
  ·rename_i h1
   cases e
   have hj:=hs.inv w (Below.refl _ _)
   obtain ⟨L,e1,e2⟩:=byte_of h1 (hd _ (List.mem_cons_self ..):dfs σ s)
   have ea:(List.map (R.val σ) [R.o (.a s)]).toArray = #[Value.agg (bysA L)]:=by
    show #[Value.agg (vals σ s).toArray]=_
    rw [e2]
    rfl
   rw [ea]
   refine (spread_c L e1 w ⟨hj.et,hj.ot,hj.t5,hj.t2⟩).mono ?_
   rintro e w' ⟨rfl,hb⟩
   exact ⟨_,rfl,⟨_,spreadB_length _,rfl⟩,hb⟩
  · cases e
 · cases e
def fx3 (j:Nat):Nat→Option (List UInt8):=fun o=>if o=0 then some (provB sd0 tx0 j) else none
theorem kProve_ok {j:Nat} (hk:ptK (pubB sd0) tx0=some j):CtOk (kx base (fx3 j) T tv m n) kProve:=by
 refine ⟨⟨_,_,Tryz.func209,rfl,by decide⟩,fun l h σ w o e hs hd => ?_⟩
 dsimp only [kProve] at e
 split at e
 ·rename_i s x
  split at e
  ·rename_i t h1 h2
   split at e
   ·rename_i h3
    cases e
    have hj:=hs.inv w (Below.refl _ _)
    have hx:x.df σ:=(hd (.o (.v x)) (by simp)) x (List.mem_singleton.2 rfl)
    obtain ⟨_,k2,k3⟩:=rdV_ok hs hx h2
    rw [lS_ok vS_ok h3] at k2
    have ep:pb T (vals σ [.i .u8 108])=tx0:=rfl
    rw [ep] at k2
    have ea:(List.map (R.val σ) [R.o (.a s),R.o (.v x)]).toArray = #[Value.agg (bysA sd0),x.val σ]:=by
     show #[Value.agg (vals σ s).toArray,x.val σ]=_
     rw [lS_ok vS_ok h1]
     rfl
    rw [ea]
    refine (prove_c sd0 tx0 rfl (by decide) j hk _ w k2 ⟨hj.et,hj.ot,hj.t5,hj.t2⟩).mono ?_
    rintro e w' ⟨rfl,hb⟩
    exact ⟨_,rfl,⟨provB sd0 tx0 j,rfl,provB_length _ _ _,rfl⟩,hb⟩
   · cases e
  · cases e
 · cases e
theorem kSum_ok {j:Nat} (hk:ptK (pubB sd0) tx0=some j):CtOk (kx base (fx3 j) T tv m n) kSum:=by
 refine ⟨⟨_,_,Tryz.func210,rfl,by decide⟩,fun l h σ w o e hs hd => ?_⟩
 dsimp only [kSum] at e
 split at e
 ·rename_i s
  split at e
  ·rename_i h1
   cases e
   have hj:=hs.inv w (Below.refl _ _)
   have ea:(List.map (R.val σ) [R.o (.a s)]).toArray = #[Value.agg (bysA (provB sd0 tx0 j))]:=by
    show #[Value.agg (vals σ s).toArray]=_
    rw [lS_ok vS_ok h1,vals_x (hs.fx 0 _ rfl) (provB_length _ _ _)]
    rfl
   rw [ea]
   refine (sum_c hk w ⟨hj.et,hj.ot,hj.t5,hj.t2⟩).mono ?_
   rintro e w' ⟨rfl,hb⟩
   exact ⟨_,rfl,⟨_,Vr.sumV_length _,rfl⟩,hb⟩
  · cases e
 · cases e
theorem hostCt_ok {j:Nat} (hk:ptK (pubB sd0) tx0=some j) : ∀ k∈hostCt,CtOk (kx base (fx3 j) T tv m n) k:=by
 intro k hk'
 simp only [hostCt,List.mem_cons,List.not_mem_nil,or_false] at hk'
 rcases hk' with rfl | rfl | rfl | rfl | rfl | rfl
 · exact kSha2_ok ..
 · exact kSign_ok ..
 · exact kSpr_ok ..
 · exact kProve_ok _ _ _ _ _ hk
 · exact kSum_ok _ _ _ _ _ hk
 · exact kCmp_ok ..
end
end Rn
end Go.Proofs.YtfodadedkilgdaaGreatDoor
namespace Go.Proofs.YtfodadedkilgdaaGreatDoor
set_option linter.unusedVariables false
set_option linter.unusedSimpArgs false
open Go.RowKit Mem Sha
namespace Rn
open Vr (A2 encP Gd ptK ptP ptA IsB)
theorem hosts_run:(callR Tryz.prog (ctB hostCt) 1000 30 5 [] (h0 [])).map (fun x=>x.1)=some (.o (.v (.b true))):=by
 kernel_rfl
theorem hosts_any {j:Nat} (hk:ptK (pubB sd0) tx0=some j) (w:World) (hj:J0 w):Calls Tryz.prog 5 #[] w fun e w'=>e = .returned (.bool true)∧Below w.heap.size w w':=by
 obtain ⟨x,h1,h2⟩:=Option.map_eq_some_iff.1 hosts_run
 have h:=run0 (T := []) (tv := .slice none 0 0) (m:=0) (n:=0) (fx:=fx3 j) (zt:=fun _=>none) (me := []) (M:=x.2.me) (r := .o (.v (.b true))) (l := []) hostCt (hostCt_ok _ _ _ _ _ hk) (fun o l h=>by
  unfold fx3 at h
  split at h
  · omega
  · cases h) (fun o l h=>by cases h) (hj.jn (isB_nil w) (by decide)) (fun x h=>by cases h) (fun x hx=>by cases hx) (f:=5) (by rw [h1,Option.map_some,h2])
 refine h.mono ?_
 rintro e w' ⟨σ,rfl,_,_,_,hb⟩
 exact ⟨rfl,hb⟩
end Rn
end Go.Proofs.YtfodadedkilgdaaGreatDoor
namespace Go.Proofs.YtfodadedkilgdaaGreatDoor
set_option linter.unusedVariables false
set_option linter.unusedSimpArgs false
namespace Kr
open Rn (fN fN_eq pubB sd0 tx0 secB pubA afP afP_gd)
open Fld (P4 tmsK P baseP)
open Vr (A2 keyB tryH ptK)
variable {α:Type}
noncomputable def pubF (K:List UInt8→α):α:=sumK sd0 fun s=>flU (Sca.clampB ((s.drop 0).take 32)) fun c=>tmF baseP c 256 fun p=>pwF p.z (P-2) fun zi=>fF (p.x*zi) fun x=>fF (p.y*zi) fun y=>flU (Fld.encA x y) K
theorem pubF_eq (K:List UInt8→α):pubF K=K (pubB sd0):=by
 unfold pubF
 rw [sumK_eq,flU_eq,tmF_eq,pwF_eq _ _ (by decide),fF_eq,fF_eq,flU_eq]
 have h:afP (tmsK baseP (secB sd0) 256)=pubA sd0:=afP_gd (Vr.Gd.base.mul _)
 have e:pubB sd0=Fld.encA (pubA sd0).1 (pubA sd0).2:=by unfold pubB; exact Eq.refl _
 rw [e,← h]
 unfold afP Fld.zinv secB
 exact Eq.refl _
theorem try0:(pubF fun p=>tyF p tx0 0 fun a=>a)=true:=by kernel_rfl
theorem point0:ptK (pubB sd0) tx0=some 0:=by
 have h:=try0
 rw [pubF_eq,tyF_eq] at h
 exact Vr.ptK_at _ _ 0 (by decide) (fun j hj=>absurd hj (Nat.not_lt_zero j)) h
end Kr
namespace Rn
open Go.RowKit Mem Sha
theorem hosts_c (w:World) (hj:J0 w):Calls Tryz.prog 5 #[] w fun e w'=>e = .returned (.bool true)∧Below w.heap.size w w':=hosts_any Kr.point0 w hj
end Rn
end Go.Proofs.YtfodadedkilgdaaGreatDoor
namespace Go.Proofs.YtfodadedkilgdaaGreatDoor
set_option linter.unusedVariables false
set_option linter.unusedSimpArgs false
open Go.RowKit Mem Sha
namespace Rn
theorem seq_split {c:Cx} {F:Fs} (hF:FOk c F) (hm:c.P.follows .mixedOrders=true) (N:Nat) {x y:Code} {tm tm':Tm} {h h':H} {p:Px} (e:codeR c.P F N (.seq x y) tm h=some (p,tm',h')) (ok:h.Ok) {σ:Sg} {a:Act} {w:World} {Q:Exit→Act→World→Prop} {K:Act→World→Prop} (hd:codeB a.tmps.size (.seq x y)=true) (hs:Hs c σ h w) (ht:Ty σ a tm) (hf:Fr σ h h') (hK : ∀ a w,y.wp c.P Q a w→K a w)
 (k : ∀ e σ' a' w',Px.m p e→Hs c σ' h' w'→St σ σ' h h' w w'→Ty σ' a' tm'→a'.tmps.size=a.tmps.size→Q e a' w'):x.wp c.P (Exit.then K Q) a w:=by
 simp only [codeR] at e
 unfold codeB at hd
 rw [Bool.and_eq_true] at hd
 split at e
 ·rename_i tm1 h1 he
  obtain ⟨v1,k1⟩:=codeR_ok hF hm N x _ _ _ _ _ he ok
  obtain ⟨v2,k2⟩:=codeR_ok hF hm N y _ _ _ _ _ e (v1.ok ok)
  refine k1 σ a w _ hd.1 hs ht (hf.fst v2.nx v2.ob) fun e' σ1 a1 w1 hp g1 g2 g3 g4 => ?_
  obtain rfl:e' = .normal:=hp
  exact hK _ _ (k2 σ1 a1 w1 Q (by rw [g4]; exact hd.2) g1 g3 (hf.snd g2) fun e2 σ2 a2 w2 hp2 f1 f2 f3 f4=>k e2 σ2 a2 w2 hp2 f1 (g2.trans f2) f3 (f4.trans g4))
 ·rename_i tm1 h1 he
  obtain ⟨v1,k1⟩:=codeR_ok hF hm N x _ _ _ _ _ he ok
  cases e
  refine k1 σ a w _ hd.1 hs ht hf fun e' σ1 a1 w1 hp g1 g2 g3 g4 => ?_
  have:=k e' σ1 a1 w1 hp g1 g2 g3 g4
  obtain rfl:e' = .ret:=hp
  exact this
 ·rename_i i tm1 h1 he
  obtain ⟨v1,k1⟩:=codeR_ok hF hm N x _ _ _ _ _ he ok
  cases e
  refine k1 σ a w _ hd.1 hs ht hf fun e' σ1 a1 w1 hp g1 g2 g3 g4 => ?_
  have:=k e' σ1 a1 w1 hp g1 g2 g3 g4
  obtain rfl:e' = .exit i:=hp
  exact this
 · cases e
noncomputable def kHosts:Ctr:=⟨5,fun l h=>match l with
 | []=>some (.kn (.o (.v (.b true))))
 | _=>none⟩
theorem kHosts_ok (base:Nat) (T:List UInt8) (tv:Value) (m n:Nat) (fx:Nat→Option (List UInt8)):CtOk (kx base fx T tv m n) kHosts:=by
 refine ⟨⟨_,_,Tryz.func5,rfl,by decide⟩,fun l h σ w o e hs hl => ?_⟩
 dsimp only [kHosts] at e
 split at e
 ·cases e
  have hj:=hs.inv w (Below.refl _ _)
  refine (hosts_c w ⟨hj.et,hj.ot,hj.t5,hj.t2⟩).mono ?_
  rintro e w' ⟨rfl,hb⟩
  exact ⟨_,rfl,⟨O.df_one.2 trivial,rfl⟩,hb⟩
 · cases e
noncomputable def clockCt:List Ctr := [kHosts,kSha2,kSign,kSpr,kCmp]
theorem clockCt_ok (base:Nat) (T:List UInt8) (tv:Value) (m n:Nat) (fx:Nat→Option (List UInt8)) : ∀ k∈clockCt,CtOk (kx base fx T tv m n) k:=by
 intro k hk'
 simp only [clockCt,List.mem_cons,List.not_mem_nil,or_false] at hk'
 rcases hk' with rfl | rfl | rfl | rfl | rfl
 · exact kHosts_ok ..
 · exact kSha2_ok ..
 · exact kSign_ok ..
 · exact kSpr_ok ..
 · exact kCmp_ok ..
noncomputable def restC:Code:=match Tryz.f3.body with
 | some (.seq _ (.seq _ x))=>x
 | _ => .skip
noncomputable def tmC (n:Int):Tm:=Tr.to dp (Tr.to dp (Tr.to dp .nil 1 (some (.o (.v (.i .i64 n))))) 2 (some (.o (.v (.p 0 0))))) 4 (some (.o (.v (.b false))))
def hC:H:=⟨.nd (some (.l (xs 1 32) 22 none)) .nil .nil,1,10,0,[],[]⟩
noncomputable def endC (r:Ans):Option R:=match r with
 | some (.n,tm,h)=>resRs Tryz.prog tm h [.tmp 4]
 | some (.r,tm,h)=>resRs Tryz.prog tm h [.tmp 4]
 | _=>none
theorem run_0:endC (codeR Tryz.prog (callR Tryz.prog (ctB clockCt) 1000 30) 1000 restC (tmC 0) hC)=some (.o (.v (.b true))):=by kernel_rfl
theorem run_1:endC (codeR Tryz.prog (callR Tryz.prog (ctB clockCt) 1000 30) 1000 restC (tmC 1) hC)=some (.o (.v (.b true))):=by kernel_rfl
theorem run_2:endC (codeR Tryz.prog (callR Tryz.prog (ctB clockCt) 1000 30) 1000 restC (tmC 2) hC)=some (.o (.v (.b true))):=by kernel_rfl
theorem run_3:endC (codeR Tryz.prog (callR Tryz.prog (ctB clockCt) 1000 30) 1000 restC (tmC 3) hC)=some (.o (.v (.b true))):=by kernel_rfl
theorem run_n {n:Int} (h0:0≤n) (h4:n<4):endC (codeR Tryz.prog (callR Tryz.prog (ctB clockCt) 1000 30) 1000 restC (tmC n) hC)=some (.o (.v (.b true))):=by
 obtain h | h | h | h:n=0∨n=1∨n=2∨n=3:=by omega
 · rw [h]; exact run_0
 · rw [h]; exact run_1
 · rw [h]; exact run_2
 · rw [h]; exact run_3
end Rn
end Go.Proofs.YtfodadedkilgdaaGreatDoor
namespace Go.Proofs.YtfodadedkilgdaaGreatDoor
set_option linter.unusedVariables false
set_option linter.unusedSimpArgs false
open Go.RowKit Mem Sha
namespace Rn
theorem Tr.to_at {tm:Tm} {d t:Nat} {x:Option R} {r:R} (h:Tr.at dp (Tr.to dp tm d x) t=some r):(t=d∧x=some r)∨(t≠d∧Tr.at dp tm t=some r):=by
 by_cases e:t=d
 ·subst e
  by_cases hl:t+1<2^dp
  ·rw [Tr.at_to _ _ _ _ hl] at h
   exact .inl ⟨rfl,h⟩
  ·rw [Tr.at_big _ _ _ (by omega)] at h
   cases h
 ·rw [Tr.at_to_ne _ _ _ _ _ (Ne.symm e)] at h
  exact .inr ⟨e,h⟩
theorem left_mod (left:Int) (h0 : -9223372036854775808≤left) (h1:left≤9223372036854775807) : ∃ m:Int,0≤m∧m<4∧wrap64 ((IntKind.u64.wrap left).tmod 4)=m:=by
 have e:IntKind.u64.wrap left=left%18446744073709551616:=by rw [IntKind.wrap_u64]
 have e1:0≤left%18446744073709551616:=Int.emod_nonneg _ (by decide)
 have e2:(left%18446744073709551616).tmod 4=(left%18446744073709551616)%4:=Int.tmod_eq_emod_of_nonneg e1
 refine ⟨(left%18446744073709551616)%4,by omega,by omega,?_⟩
 rw [e,e2]
 unfold wrap64
 omega
theorem endC_some {r:Ans} {v:R} (h:endC r=some v) : ∃ p tm h,r=some (p,tm,h)∧(p = .n∨p = .r)∧resRs Tryz.prog tm h [.tmp 4]=some v:=by
 unfold endC at h
 split at h
 · exact ⟨_,_,_,rfl,.inl rfl,h⟩
 · exact ⟨_,_,_,rfl,.inr rfl,h⟩
 · cases h
def fxS (seed:List UInt8):Nat→Option (List UInt8):=fun o=>if o=1 then some seed else none
def sgS (seed:List UInt8) (b:Nat):Sg:=(s0 (fxS seed) fun _=>none).name 0 b 0
theorem World.heap_alloc_new' (w:World) (o:Obj):(w.alloc o).heap[w.heap.size]? = some o:=by
 show (w.heap.push o)[w.heap.size]? = some o
 exact Array.getElem?_push_size
theorem hC_new:hC=(h0 []).new (.l (xs 1 32) 22 none):=rfl
set_option maxRecDepth 100000 in
set_option maxHeartbeats 1000000 in
theorem clock_any (seed:List UInt8) (hl:seed.length=32) (left:Int) (g0 : -9223372036854775808≤left) (g1:left≤9223372036854775807) (w:World) (hj:J0 w):Calls Tryz.prog 3 #[.agg (bysA seed),.int .i64 left] w fun e w'=>e = .returned (.bool true)∧Below w.heap.size w w':=by
 obtain ⟨m,hm0,hm4,hm⟩:=left_mod left g0 g1
 have hj1:Jn [] (.slice none 0 0) w:=hj.jn (isB_nil w) (by decide)
 have hb1:Below w.heap.size w (w.alloc (.cells (bysA seed) 22 (0,0))):=(Below.refl _ _).alloc (Nat.le_refl _) _
 have hs0:=h0_hs (fx:=fxS seed) (zt:=fun _=>none) (me := []) (m:=0) (n:=0) hj1 (fun x h=>nomatch h)
 have hx0:=xs_val (σ:=s0 (fxS seed) fun _=>none) (o:=1) (L:=seed) rfl
 rw [hl] at hx0
 have hx1:=xs_val (σ:=sgS seed w.heap.size) (o:=1) (L:=seed) rfl
 rw [hl] at hx1
 obtain ⟨hs1,hst⟩:=hs0.adopt (x := .l (xs 1 32) 22 none) (a:=w.heap.size) (g:=0) rfl (Nat.zero_le _) hb1 (Nat.le_refl _) ⟨(0,0),by
  show (w.alloc (.cells (bysA seed) 22 (0,0))).heap[(sgS seed w.heap.size).bl 0]? = some (.cells (vals (sgS seed w.heap.size) (xs 1 32)).toArray 22 (0,0))
  rw [hx1.1,show (sgS seed w.heap.size).bl 0=w.heap.size from Sg.name_bl.1]
  exact World.heap_alloc_new' w _,.inl rfl⟩ hx0.2
 rw [← hC_new] at hs1
 obtain ⟨p,tm',h',he,hp,hr⟩:=endC_some (run_n hm0 hm4)
 go_enter Tryz.func3,Tryz.ntmps3
 go_upto_region 2 with fail
 rename_i hK
 refine seq_split (c:=kx w.heap.size (fxS seed) [] (.slice none 0 0) 0 0) (callR_ok (c:=kx w.heap.size (fxS seed) [] (.slice none 0 0) 0 0) (ctA_ok (fun k hk=>clockCt_ok _ _ _ _ _ _ k hk) (fun o l h => ?_)) (by kernel_rfl) 1000 30) (by kernel_rfl) 1000 (tm:=tmC m) (h:=hC) (tm':=tm') (h':=h') (p:=p) he ?_ (σ:=sgS seed w.heap.size) (by kernel_rfl) hs1 ?_ ?_ hK ?_
 ·have h:fxS seed o=some l:=h
  unfold fxS at h
  split at h
  · omega
  · cases h
 ·rw [hC_new]
  refine ⟨fun b x hx => ?_,Nat.zero_le _⟩
  rcases H.new_at hx with ⟨rfl,_⟩ | ⟨_,hx⟩
  · exact Nat.lt_succ_self _
  · rw [h0_at] at hx; cases hx
 ·refine ⟨fun t r h => ?_,rfl⟩
  rcases Tr.to_at h with ⟨rfl,e⟩ | ⟨_,h⟩
  ·cases e
   exact ⟨show 4<53 by decide,rfl,O.df_one.2 trivial⟩
  rcases Tr.to_at h with ⟨rfl,e⟩ | ⟨_,h⟩
  ·cases e
   refine ⟨show 2<53 by decide,?_,O.df_one.2 ⟨_,Sg.name_bl.2.2⟩⟩
   show Value.pointer (some ⟨w.heap.size,0,none⟩) = .pointer (some ⟨(sgS seed w.heap.size).bl 0,0,none⟩)
   rw [show (sgS seed w.heap.size).bl 0=w.heap.size from Sg.name_bl.1]
  rcases Tr.to_at h with ⟨rfl,e⟩ | ⟨_,h⟩
  ·cases e
   refine ⟨show 1<53 by decide,?_,O.df_one.2 trivial⟩
   show Value.int .i64 (wrap64 ((IntKind.u64.wrap left).tmod 4)) = .int .i64 m
   rw [hm]
  · rw [Tr.at_nil] at h; cases h
 ·refine ⟨fun k h1 _=>if_neg fun e => ?_,fun k h1 _=>⟨?_,rfl⟩⟩
  ·rw [e] at h1
   exact absurd h1 (by decide)
  ·have h1:10≤k:=h1
   show fxS seed k=none
   unfold fxS
   rw [if_neg (by omega)]
 ·intro e σ' a' w' hpe k1 k2 k3 k4
  obtain ⟨r1,_⟩:=resRs_ok k1 k3 Tryz.f3 hr
  have fin:a'.defers = [] ∧ ∃ v,(results Tryz.f3 a'.tmps).run Tryz.prog w' = .ok v w'∧(Ending.returned v = .returned (.bool true)∧Below w.heap.size w w'):=⟨k3.df,_,r1,rfl,hb1.trans (k2.below hs1)⟩
  rcases hp with rfl | rfl
  ·obtain rfl:e = .normal:=hpe
   exact fin
  ·obtain rfl:e = .ret:=hpe
   exact fin
end Rn
end Go.Proofs.YtfodadedkilgdaaGreatDoor
namespace Go.Proofs.YtfodadedkilgdaaGreatDoor
open Go.ChangeShapes Go.WideShapes Go.ChangeAt Go.RowKit Mem Sha
namespace Wrap
def zsOf:DataW Unit→List Int
 | .agg l=>l.map fun x=>match x with | .lit (.int _ n)=>n | _=>0
 | _ => []
set_option maxRecDepth 100000 in
theorem run_tabs {W:World} {laid:List (String×DataW Unit)} (h:laidMet Tryz.prog laid W) (hS:Sha.Tabs W) (h1:("custumal/field.modulus",Rows.laid_custumal_field_modulus)∈laid) (h2:("custumal/field.imaginary",Rows.laid_custumal_field_imaginary)∈laid) (h3:("custumal/scalar.order",Rows.laid_custumal_scalar_order)∈laid) (h4:("custumal/edwards.baseX",Rows.laid_custumal_edwards_baseX)∈laid) (h5:("custumal/edwards.baseY",Rows.laid_custumal_edwards_baseY)∈laid) (h6:("custumal/edwards.double",Rows.laid_custumal_edwards_double)∈laid) (h7:("custumal/edwards.curve",Rows.laid_custumal_edwards_curve)∈laid) (h8:("custumal/sha5.start",Rows.laid_custumal_sha5_start)∈laid) (h9:("custumal/sha5.rounds",Rows.laid_custumal_sha5_rounds)∈laid):Rn.J0 W:=by
 obtain ⟨t1,f1,r1⟩:=tab_row (k := .u64) (zs:=zsOf Rows.laid_custumal_field_modulus) (g:=7) (t:=173) (e:=23) (n:=4) (by kernel_rfl) (by kernel_rfl) (by kernel_rfl) (by kernel_rfl) (by kernel_rfl) (by kernel_rfl) h (by exact h1)
 obtain ⟨t2,f2,r2⟩:=tab_row (k := .u64) (zs:=zsOf Rows.laid_custumal_field_imaginary) (g:=11) (t:=173) (e:=23) (n:=4) (by kernel_rfl) (by kernel_rfl) (by kernel_rfl) (by kernel_rfl) (by kernel_rfl) (by kernel_rfl) h (by exact h2)
 obtain ⟨t3,f3,r3⟩:=tab_row (k := .u64) (zs:=zsOf Rows.laid_custumal_scalar_order) (g:=2) (t:=171) (e:=23) (n:=4) (by kernel_rfl) (by kernel_rfl) (by kernel_rfl) (by kernel_rfl) (by kernel_rfl) (by kernel_rfl) h (by exact h3)
 obtain ⟨t4,f4,r4⟩:=tab_row (k := .u64) (zs:=zsOf Rows.laid_custumal_edwards_baseX) (g:=0) (t:=173) (e:=23) (n:=4) (by kernel_rfl) (by kernel_rfl) (by kernel_rfl) (by kernel_rfl) (by kernel_rfl) (by kernel_rfl) h (by exact h4)
 obtain ⟨t5,f5,r5⟩:=tab_row (k := .u64) (zs:=zsOf Rows.laid_custumal_edwards_baseY) (g:=1) (t:=173) (e:=23) (n:=4) (by kernel_rfl) (by kernel_rfl) (by kernel_rfl) (by kernel_rfl) (by kernel_rfl) (by kernel_rfl) h (by exact h5)
 obtain ⟨t6,f6,r6⟩:=tab_row (k := .u64) (zs:=zsOf Rows.laid_custumal_edwards_double) (g:=4) (t:=173) (e:=23) (n:=4) (by kernel_rfl) (by kernel_rfl) (by kernel_rfl) (by kernel_rfl) (by kernel_rfl) (by kernel_rfl) h (by exact h6)
 obtain ⟨t7,f7,r7⟩:=tab_row (k := .u64) (zs:=zsOf Rows.laid_custumal_edwards_curve) (g:=10) (t:=173) (e:=23) (n:=4) (by kernel_rfl) (by kernel_rfl) (by kernel_rfl) (by kernel_rfl) (by kernel_rfl) (by kernel_rfl) h (by exact h7)
 obtain ⟨t8,f8,r8⟩:=tab_row (k := .u64) (zs:=zsOf Rows.laid_custumal_sha5_start) (g:=3) (t:=223) (e:=23) (n:=8) (by kernel_rfl) (by kernel_rfl) (by kernel_rfl) (by kernel_rfl) (by kernel_rfl) (by kernel_rfl) h (by exact h8)
 obtain ⟨t9,f9,r9⟩:=tab_row (k := .u64) (zs:=zsOf Rows.laid_custumal_sha5_rounds) (g:=6) (t:=303) (e:=23) (n:=80) (by kernel_rfl) (by kernel_rfl) (by kernel_rfl) (by kernel_rfl) (by kernel_rfl) (by kernel_rfl) h (by exact h9)
 refine ⟨⟨⟨t1,f1,r1.trans ?_⟩,⟨t6,f6,r6.trans ?_⟩,⟨t7,f7,r7.trans ?_⟩,⟨t4,f4,r4.trans ?_⟩,⟨t5,f5,r5.trans ?_⟩,⟨t2,f2,r2.trans ?_⟩⟩,⟨t3,f3,r3.trans ?_⟩,⟨⟨t8,f8,r8.trans ?_⟩,⟨t9,f9,r9.trans ?_⟩⟩,hS⟩
 · exact congrArg (fun c=>some (Obj.cells c t1 f1)) (by kernel_rfl)
 · exact congrArg (fun c=>some (Obj.cells c t6 f6)) (by kernel_rfl)
 · exact congrArg (fun c=>some (Obj.cells c t7 f7)) (by kernel_rfl)
 · exact congrArg (fun c=>some (Obj.cells c t4 f4)) (by kernel_rfl)
 · exact congrArg (fun c=>some (Obj.cells c t5 f5)) (by kernel_rfl)
 · exact congrArg (fun c=>some (Obj.cells c t2 f2)) (by kernel_rfl)
 · exact congrArg (fun c=>some (Obj.cells c t3 f3)) (by kernel_rfl)
 · exact congrArg (fun c=>some (Obj.cells c t8 f8)) (by kernel_rfl)
 · exact congrArg (fun c=>some (Obj.cells c t9 f9)) (by kernel_rfl)
end Wrap
end Go.Proofs.YtfodadedkilgdaaGreatDoor
