/- A part of the proof. Plain; no condition. -/
import Derived.Test.YtfodadedkilgdaaGreatDoorP12
namespace Go.Proofs.YtfodadedkilgdaaGreatDoor
set_option linter.unusedVariables false
set_option linter.unusedSimpArgs false
open Go.RowKit Mem
namespace Rn
variable {c:Cx} {σ σ':Sg} {h h1 h' h'':H} {w w':World}
inductive Px where
 | n
 | r
 | e (i:Nat)
def Px.m:Px→Exit→Prop
 | .n,x=>x = .normal
 | .r,x=>x = .ret
 | .e i,x=>x = .exit i
abbrev Ans:=Option (Px×Tm×H)
noncomputable def loopR (E:Tm→H→Ans):Nat→Tm→H→Ans
 | 0,_,_=>none
 | n+1,tm,h=>match E tm h with
   | some (.n,tm,h)=>loopR E n tm h
   | some (.r,tm,h)=>some (.r,tm,h)
   | some (.e i,tm,h)=>some (.e i,tm,h)
   | none=>none
noncomputable def codeR (P:Program) (F:Fs) (N:Nat):Code→Tm→H→Ans
 | .skip,tm,h=>some (.n,tm,h)
 | .label _,tm,h=>some (.n,tm,h)
 | .exit i,tm,h=>some (.e i,tm,h)
 | .ret,tm,h=>some (.r,tm,h)
 | .region _ ops draw,tm,h=>match draw with
   | true=>match drawR P F ops.toList tm h with
     | some (tm,h)=>some (.n,tm,h)
     | none=>none
   | false=>match listR P F ops.toList ops.toList tm h with
     | some (tm,h)=>some (.n,tm,h)
     | none=>none
 | .seq x y,tm,h=>match codeR P F N x tm h with
   | some (.n,tm,h)=>codeR P F N y tm h
   | some (.r,tm,h)=>some (.r,tm,h)
   | some (.e i,tm,h)=>some (.e i,tm,h)
   | none=>none
 | .cond x y z,tm,h=>match ev tm x with
   | some (.o (.v (.b true)))=>codeR P F N y tm h
   | some (.o (.v (.b false)))=>codeR P F N z tm h
   | _=>none
 | .block i x,tm,h=>match codeR P F N x tm h with
   | some (.n,tm,h)=>some (.n,tm,h)
   | some (.r,tm,h)=>some (.r,tm,h)
   | some (.e j,tm,h)=>match Nat.beq j i with
     | true=>some (.n,tm,h)
     | false=>some (.e j,tm,h)
   | none=>none
 | .loop x,tm,h=>loopR (codeR P F N x) N tm h
 | _,_,_=>none
def codeB (n:Nat):Code→Bool
 | .region _ ops _=>dstsB n ops.toList
 | .seq x y=>codeB n x && codeB n y
 | .cond _ y z=>codeB n y && codeB n z
 | .block _ x=>codeB n x
 | .loop x=>codeB n x
 | _=>true
def Sound (c:Cx) (x:Code) (E:Tm→H→Ans):Prop :=
 ∀ (tm tm':Tm) (h h':H) (p:Px),E tm h=some (p,tm',h')→h.Ok→Ev h h' ∧ ∀ (σ:Sg) (a:Act) (w:World) (Q:Exit→Act→World→Prop),codeB a.tmps.size x=true→Hs c σ h w→Ty σ a tm→Fr σ h h' →
   (∀ e σ' a' w',Px.m p e→Hs c σ' h' w'→St σ σ' h h' w w'→Ty σ' a' tm'→a'.tmps.size=a.tmps.size→Q e a' w')→x.wp c.P Q a w
theorem loopR_ok {x:Code} {E:Tm→H→Ans} (hx:Sound c x E) : ∀ (n:Nat) (tm tm':Tm) (h h':H) (p:Px),loopR E n tm h=some (p,tm',h')→h.Ok→Ev h h' ∧ ∀ (σ:Sg) (a:Act) (w:World) (Q:Exit→Act→World→Prop),codeB a.tmps.size x=true→Hs c σ h w→Ty σ a tm→Fr σ h h' →
 (∀ e σ' a' w',Px.m p e→Hs c σ' h' w'→St σ σ' h h' w w'→Ty σ' a' tm'→a'.tmps.size=a.tmps.size→Q e a' w')→Code.rounds c.P x Q n a w
 | 0,tm,tm',h,h',p,e,ok=>by cases e
 | n+1,tm,tm',h,h',p,e,ok=>by
   unfold loopR at e
   split at e
   ·rename_i tm1 h1 he
    obtain ⟨v1,k1⟩:=hx tm tm1 h h1 _ he ok
    obtain ⟨v2,k2⟩:=loopR_ok hx n tm1 tm' h1 h' p e (v1.ok ok)
    refine ⟨v1.trans v2,fun σ a w Q hd hs ht hf k => ?_⟩
    rw [rounds_succ]
    refine k1 σ a w _ hd hs ht (hf.fst v2.nx v2.ob) fun e' σ1 a1 w1 hp g1 g2 g3 g4 => ?_
    obtain rfl:e' = .normal:=hp
    exact k2 σ1 a1 w1 Q (by rw [g4]; exact hd) g1 g3 (hf.snd g2) fun e2 σ2 a2 w2 hp2 f1 f2 f3 f4=>k e2 σ2 a2 w2 hp2 f1 (g2.trans f2) f3 (f4.trans g4)
   ·rename_i tm1 h1 he
    cases e
    obtain ⟨v1,k1⟩:=hx _ _ _ _ _ he ok
    refine ⟨v1,fun σ a w Q hd hs ht hf k => ?_⟩
    rw [rounds_succ]
    refine k1 σ a w _ hd hs ht hf fun e' σ1 a1 w1 hp g1 g2 g3 g4 => ?_
    have:=k e' σ1 a1 w1 hp g1 g2 g3 g4
    obtain rfl:e' = .ret:=hp
    exact this
   ·rename_i i tm1 h1 he
    cases e
    obtain ⟨v1,k1⟩:=hx _ _ _ _ _ he ok
    refine ⟨v1,fun σ a w Q hd hs ht hf k => ?_⟩
    rw [rounds_succ]
    refine k1 σ a w _ hd hs ht hf fun e' σ1 a1 w1 hp g1 g2 g3 g4 => ?_
    have:=k e' σ1 a1 w1 hp g1 g2 g3 g4
    obtain rfl:e' = .exit i:=hp
    exact this
   · cases e
theorem codeR_ok {F:Fs} (hF:FOk c F) (hm:c.P.follows .mixedOrders=true) (N:Nat) : ∀ x:Code,Sound c x (codeR c.P F N x):=by
 intro x
 induction x with
 | skip=>intro tm tm' h h' p e ok; cases e; exact ⟨Ev.refl _,fun σ a w Q hd hs ht hf k=>wp_skip (k _ σ a w rfl hs (St.refl hs) ht rfl)⟩
 | label l=>intro tm tm' h h' p e ok; cases e; exact ⟨Ev.refl _,fun σ a w Q hd hs ht hf k=>wp_label (k _ σ a w rfl hs (St.refl hs) ht rfl)⟩
 | exit i=>intro tm tm' h h' p e ok; cases e; exact ⟨Ev.refl _,fun σ a w Q hd hs ht hf k=>wp_exit (k _ σ a w rfl hs (St.refl hs) ht rfl)⟩
 | ret=>intro tm tm' h h' p e ok; cases e; exact ⟨Ev.refl _,fun σ a w Q hd hs ht hf k=>wp_ret (k _ σ a w rfl hs (St.refl hs) ht rfl)⟩
 | region id ops draw =>
   intro tm tm' h h' p e ok
   cases draw with
   | true =>
     simp only [codeR] at e
     split at e
     ·rename_i tm1 h1 he
      cases e
      refine ⟨?_,fun σ a w Q hd hs ht hf k => ?_⟩
      ·unfold drawR at he
       split at he
       · cases he
       rename_i hob
       split at he
       · cases he
       rename_i es tmE hE hseq
       split at he
       case h_2=>cases he
       obtain ⟨xt,xnx,xob,xmr,xwr,xme⟩:=hE
       simp only [fMe_eq] at he
       cases he
       have v:=(seqD_at hF hseq ok (orderB_ok hob).dlt).2.1
       exact ⟨v.nx,v.ob,v.mr,v.wr,v.ch,v.nw⟩
      ·have:=draw_ok hF hm (id:=id) (Q:=Q) he ok hd hs ht hf fun σ' a' w' g1 g2 g3 g4=>k _ σ' a' w' rfl g1 g2 g3 g4
       simpa using this
     · cases e
   | false =>
     simp only [codeR] at e
     split at e
     ·rename_i tm1 h1 he
      cases e
      refine ⟨listR_ev hF he ok,fun σ a w Q hd hs ht hf k=>wp_region_list ?_⟩
      have:=list_ok hF (Q:=Q) he ok hd hs ht hf fun σ' a' w' g1 g2 g3 g4=>k _ σ' a' w' rfl g1 g2 g3 g4
      simpa using this
     · cases e
 | seq x y ihx ihy =>
   intro tm tm' h h' p e ok
   simp only [codeR] at e
   split at e
   ·rename_i tm1 h1 he
    obtain ⟨v1,k1⟩:=ihx _ _ _ _ _ he ok
    obtain ⟨v2,k2⟩:=ihy _ _ _ _ _ e (v1.ok ok)
    refine ⟨v1.trans v2,fun σ a w Q hd hs ht hf k => ?_⟩
    unfold codeB at hd
    rw [Bool.and_eq_true] at hd
    refine wp_seq (k1 σ a w _ hd.1 hs ht (hf.fst v2.nx v2.ob) fun e' σ1 a1 w1 hp g1 g2 g3 g4 => ?_)
    obtain rfl:e' = .normal:=hp
    exact k2 σ1 a1 w1 Q (by rw [g4]; exact hd.2) g1 g3 (hf.snd g2) fun e2 σ2 a2 w2 hp2 f1 f2 f3 f4=>k e2 σ2 a2 w2 hp2 f1 (g2.trans f2) f3 (f4.trans g4)
   ·rename_i tm1 h1 he
    cases e
    obtain ⟨v1,k1⟩:=ihx _ _ _ _ _ he ok
    refine ⟨v1,fun σ a w Q hd hs ht hf k => ?_⟩
    unfold codeB at hd
    rw [Bool.and_eq_true] at hd
    refine wp_seq (k1 σ a w _ hd.1 hs ht hf fun e' σ1 a1 w1 hp g1 g2 g3 g4 => ?_)
    have:=k e' σ1 a1 w1 hp g1 g2 g3 g4
    obtain rfl:e' = .ret:=hp
    exact this
   ·rename_i i tm1 h1 he
    cases e
    obtain ⟨v1,k1⟩:=ihx _ _ _ _ _ he ok
    refine ⟨v1,fun σ a w Q hd hs ht hf k => ?_⟩
    unfold codeB at hd
    rw [Bool.and_eq_true] at hd
    refine wp_seq (k1 σ a w _ hd.1 hs ht hf fun e' σ1 a1 w1 hp g1 g2 g3 g4 => ?_)
    have:=k e' σ1 a1 w1 hp g1 g2 g3 g4
    obtain rfl:e' = .exit i:=hp
    exact this
   · cases e
 | cond x y z ihy ihz =>
   intro tm tm' h h' p e ok
   simp only [codeR] at e
   split at e
   ·rename_i hx
    obtain ⟨v1,k1⟩:=ihy _ _ _ _ _ e ok
    refine ⟨v1,fun σ a w Q hd hs ht hf k => ?_⟩
    unfold codeB at hd
    rw [Bool.and_eq_true] at hd
    exact wp_cond_true (ht.ev hx).1 (k1 σ a w Q hd.1 hs ht hf k)
   ·rename_i hx
    obtain ⟨v1,k1⟩:=ihz _ _ _ _ _ e ok
    refine ⟨v1,fun σ a w Q hd hs ht hf k => ?_⟩
    unfold codeB at hd
    rw [Bool.and_eq_true] at hd
    exact wp_cond_false (ht.ev hx).1 (k1 σ a w Q hd.2 hs ht hf k)
   · cases e
 | block i x ih =>
   intro tm tm' h h' p e ok
   simp only [codeR] at e
   split at e
   ·rename_i tm1 h1 he
    cases e
    obtain ⟨v1,k1⟩:=ih _ _ _ _ _ he ok
    refine ⟨v1,fun σ a w Q hd hs ht hf k=>wp_block (k1 σ a w _ hd hs ht hf fun e' σ1 a1 w1 hp g1 g2 g3 g4 => ?_)⟩
    have:=k e' σ1 a1 w1 hp g1 g2 g3 g4
    obtain rfl:e' = .normal:=hp
    exact this
   ·rename_i tm1 h1 he
    cases e
    obtain ⟨v1,k1⟩:=ih _ _ _ _ _ he ok
    refine ⟨v1,fun σ a w Q hd hs ht hf k=>wp_block (k1 σ a w _ hd hs ht hf fun e' σ1 a1 w1 hp g1 g2 g3 g4 => ?_)⟩
    have:=k e' σ1 a1 w1 hp g1 g2 g3 g4
    obtain rfl:e' = .ret:=hp
    exact this
   ·rename_i j tm1 h1 he
    obtain ⟨v1,k1⟩:=ih _ _ _ _ _ he ok
    cases hji:Nat.beq j i with
    | true =>
      rw [hji] at e
      cases e
      have hji:=Nat.eq_of_beq_eq_true hji
      subst hji
      refine ⟨v1,fun σ a w Q hd hs ht hf k=>wp_block (k1 σ a w _ hd hs ht hf fun e' σ1 a1 w1 hp g1 g2 g3 g4 => ?_)⟩
      obtain rfl:e' = .exit j:=hp
      show (if j=j then Q .normal a1 w1 else Q (.exit j) a1 w1)
      rw [if_pos rfl]
      exact k .normal σ1 a1 w1 rfl g1 g2 g3 g4
    | false =>
      rw [hji] at e
      cases e
      refine ⟨v1,fun σ a w Q hd hs ht hf k=>wp_block (k1 σ a w _ hd hs ht hf fun e' σ1 a1 w1 hp g1 g2 g3 g4 => ?_)⟩
      obtain rfl:e' = .exit j:=hp
      show (if j=i then Q .normal a1 w1 else Q (.exit j) a1 w1)
      rw [if_neg (fun e=>by subst e; simp at hji)]
      exact k (.exit j) σ1 a1 w1 rfl g1 g2 g3 g4
   · cases e
 | loop x ih =>
   intro tm tm' h h' p e ok
   simp only [codeR] at e
   obtain ⟨v,k⟩:=loopR_ok ih N tm tm' h h' p e ok
   exact ⟨v,fun σ a w Q hd hs ht hf kk=>wp_loop_rounds N (k σ a w Q hd hs ht hf kk)⟩
 | _=>intro tm tm' h h' p e ok; simp [codeR] at e
noncomputable def argT:List R→Nat→Tm
 | [],_ => .nil
 | r::l,k=>Tr.to dp (argT l (k+1)) k (some r)
noncomputable def argK {α:Type} (l:List R) (k:Nat) (K:Tm→α):α:=match l with
 | []=>K .nil
 | r::l=>fN (k+1) fun k1=>argK l k1 fun t=>fR r fun r=>Tr.toK dp t k (some r) K
theorem argK_eq {α:Type} : ∀ (l:List R) (k:Nat) (K:Tm→α),argK l k K=K (argT l k)
 | [],_,_=>rfl
 | r::l,k,K=>by unfold argK argT; simp only [fN_eq,argK_eq l,fR_eq,Tr.toK_eq]
theorem argT_at : ∀ (l:List R) (k t:Nat) (r:R),Tr.at dp (argT l k) t=some r→k≤t∧l[t-k]? = some r
 | [],k,t,r,h=>by unfold argT at h; rw [Tr.at_nil] at h; cases h
 | x::l,k,t,r,h=>by
   unfold argT at h
   by_cases e:k=t
   ·subst e
    by_cases hl:k+1<2^dp
    ·rw [Tr.at_to _ _ _ _ hl] at h
     cases h
     exact ⟨Nat.le_refl _,by rw [Nat.sub_self]; rfl⟩
    · rw [Tr.at_big _ _ _ (by omega)] at h; cases h
   ·rw [Tr.at_to_ne _ _ _ _ _ e] at h
    obtain ⟨h1,h2⟩:=argT_at l (k+1) t r h
    refine ⟨by omega,?_⟩
    rw [show t-k=(t-(k+1))+1 by omega,List.getElem?_cons_succ]
    exact h2
noncomputable def resR (P:Program) (tm:Tm) (h:H):ResultVar→Option R
 | .tmp t=>Tr.at dp tm t
 | .cell u t=>match Tr.at dp tm u with
   | some (.o (.v (.p b o)))=>loadA P h t b o
   | _=>none
noncomputable def resRs (P:Program) (tm:Tm) (h:H):List ResultVar→Option R
 | []=>some (.t [])
 | [x]=>resR P tm h x
 | [x,y]=>match resR P tm h x,resR P tm h y with
   | some (.o a),some (.o b)=>some (.t [a,b])
   | _,_=>none
 | [x,y,z]=>match resR P tm h x,resR P tm h y,resR P tm h z with
   | some (.o a),some (.o b),some (.o d)=>some (.t [a,b,d])
   | _,_,_=>none
 | _=>none
def resS (tmps:Array Value):ResultVar→Sem Value
 | .tmp t=>pure (tmps.getD t undef)
 | .cell u t=>do loadVar t (← asAddr (tmps.getD u undef))
theorem results_eq (fn:Func) (tmps:Array Value):results fn tmps=(do let vs ← fn.results.mapM (resS tmps); pure (if h:vs.size=1 then vs[0] else .tuple vs)):=rfl
theorem resR_ok {a:Act} {tm:Tm} (hs:Hs c σ h w) (ht:Ty σ a tm) {x:ResultVar} {r:R} (e:resR c.P tm h x=some r):(resS a.tmps x).run c.P w = .ok (r.val σ) w∧r.df σ:=by
 cases x with
 | tmp t =>
   obtain ⟨_,h1,h2⟩:=ht.get t r e
   refine ⟨?_,h2⟩
   show Sem.run c.P (pure (a.tmps.getD t undef)) w=_
   rw [h1]
   rfl
 | cell u t =>
   simp only [resR] at e
   split at e
   ·rename_i b o hu
    obtain ⟨_,h1,_⟩:=ht.get u _ hu
    obtain ⟨k1,k2⟩:=loadA_ok hs e
    refine ⟨?_,k2⟩
    have h1:a.tmps.getD u undef = .pointer (some ⟨σ.bl b,o,none⟩):=h1
    unfold resS
    simp only [h1,asAddr,Sem.run_bind,Sem.run_pure,Result.andThen_ok]
    simpa [Instr.loadAt,Instr.sureAddr] using k1
   · cases e
theorem resRs_ok {a:Act} {tm:Tm} (hs:Hs c σ h w) (ht:Ty σ a tm) (fn:Func) {r:R} (e:resRs c.P tm h fn.results.toList=some r):(results fn a.tmps).run c.P w = .ok (r.val σ) w∧r.df σ:=by
 obtain ⟨rs,hrs⟩ : ∃ rs,rs=fn.results.toList:=⟨_,rfl⟩
 have hre:fn.results=rs.toArray:=by rw [hrs]
 rw [← hrs] at e
 unfold resRs at e
 split at e
 ·cases e
  exact ⟨by simp [results_eq,hre,R.val],df_t0⟩
 ·rename_i x
  obtain ⟨h1,h2⟩:=resR_ok hs ht e
  refine ⟨?_,h2⟩
  simp only [results_eq,hre,List.mapM_toArray,List.mapM_cons,List.mapM_nil]
  simp [Sem.run_bind,h1]
 ·rename_i x y
  split at e
  ·rename_i a1 b1 e1 e2
   cases e
   obtain ⟨h1,h2⟩:=resR_ok hs ht e1
   obtain ⟨h3,h4⟩:=resR_ok hs ht e2
   refine ⟨?_,fun z hz => ?_⟩
   ·simp only [results_eq,hre,List.mapM_toArray,List.mapM_cons,List.mapM_nil]
    simp [Sem.run_bind,h1,h3,R.val]
   ·rcases List.mem_cons.1 hz with rfl | hz
    · exact h2
    · rw [List.mem_singleton.1 hz]; exact h4
  · cases e
 ·rename_i x y z
  split at e
  ·rename_i a1 b1 d1 e1 e2 e3
   cases e
   obtain ⟨h1,h2⟩:=resR_ok hs ht e1
   obtain ⟨h3,h4⟩:=resR_ok hs ht e2
   obtain ⟨h5,h6⟩:=resR_ok hs ht e3
   refine ⟨?_,fun z hz => ?_⟩
   ·simp only [results_eq,hre,List.mapM_toArray,List.mapM_cons,List.mapM_nil]
    simp [Sem.run_bind,h1,h3,h5,R.val]
   ·rcases List.mem_cons.1 hz with rfl | hz
    · exact h2
    ·rcases List.mem_cons.1 hz with rfl | hz
     · exact h4
     · rw [List.mem_singleton.1 hz]; exact h6
  · cases e
 · cases e
noncomputable def callR (P:Program) (Ct:Fs) (N:Nat):Nat→Fs
 | 0,_,_,_=>none
 | k+1,f,l,h=>match Ct f l h with
   | some x=>some x
   | none=>match P.funcs[f]? with
     | none=>none
     | some fn=>match fn.body with
       | none=>none
       | some x=>match fn.name == "runtime.NumGoroutine",codeB fn.ntmps x with
         | false,true=>argK l 0 fun tm=>match codeR P (callR P Ct N k) N x tm h with
           | some (.n,tm,h)=>match resRs P tm h fn.results.toList with
             | some r=>some (r,h)
             | none=>none
           | some (.r,tm,h)=>match resRs P tm h fn.results.toList with
             | some r=>some (r,h)
             | none=>none
           | _=>none
         | _,_=>none
theorem dstsB_mono {n m:Nat} (hnm:n≤m) {l:List Oper} (h:dstsB n l=true):dstsB m l=true:=by
 unfold dstsB at *
 rw [List.all_eq_true] at *
 intro o ho
 have:=h o ho
 split at this
 ·rename_i d hd
  have:=blt_ok this
  exact Nat.ble_eq_true_of_le (Nat.lt_of_lt_of_le this hnm)
 · rfl
theorem codeB_mono {n m:Nat} (hnm:n≤m) : ∀ x:Code,codeB n x=true→codeB m x=true:=by
 have and2 : ∀ {a b a' b':Bool},(a=true→a'=true)→(b=true→b'=true)→(a && b)=true→(a' && b')=true:=fun h1 h2 h=>by
  rw [Bool.and_eq_true] at *
  exact ⟨h1 h.1,h2 h.2⟩
 intro x
 induction x with
 | region id ops d=>exact dstsB_mono hnm
 | seq x y ihx ihy=>exact and2 ihx ihy
 | cond _ y z ihx ihy=>exact and2 ihx ihy
 | block i x ih=>exact ih
 | loop x ih=>exact ih
 | _=>intro _; rfl
theorem callR_ok {Ct:Fs} (hC:FOk c Ct) (hm:c.P.follows .mixedOrders=true) (N:Nat) : ∀ k,FOk c (callR c.P Ct N k)
 | 0=>⟨fun f l h r h' e=>(by cases e),fun f l h r h' σ w e=>(by cases e)⟩
 | k+1=>by
   have ih:=callR_ok hC hm N k
   have body : ∀ f l h r h',callR c.P Ct N (k+1) f l h=some (r,h')→Ct f l h=some (r,h') ∨ ∃ fn x p tm,c.P.funcs[f]? = some fn∧fn.body=some x∧(fn.name == "runtime.NumGoroutine")=false∧codeB fn.ntmps x=true∧(p = .n∨p = .r)∧codeR c.P (callR c.P Ct N k) N x (argT l 0) h=some (p,tm,h')∧resRs c.P tm h' fn.results.toList=some r:=by
    intro f l h r h' e
    unfold callR at e
    split at e
    ·rename_i y hy
     cases e
     exact .inl hy
    ·split at e
     · cases e
     ·rename_i fn hfn
      split at e
      · cases e
      ·rename_i x hb
       split at e
       ·rename_i hnm hcb
        rw [argK_eq] at e
        split at e
        ·rename_i tm h1 hc
         split at e
         ·rename_i r' hr
          cases e
          exact .inr ⟨fn,x,_,tm,hfn,hb,hnm,hcb,.inl rfl,hc,hr⟩
         · cases e
        ·rename_i tm h1 hc
         split at e
         ·rename_i r' hr
          cases e
          exact .inr ⟨fn,x,_,tm,hfn,hb,hnm,hcb,.inr rfl,hc,hr⟩
         · cases e
        · cases e
       · cases e
   refine ⟨fun f l h r h' e ok => ?_,fun f l h r h' σ w e ok hs hl hf => ?_⟩
   ·rcases body f l h r h' e with e | ⟨fn,x,p,tm,h1,h2,h3,h4,h5,h6,h7⟩
    · exact hC.ev f l h r h' e ok
    · exact (codeR_ok ih hm N x _ _ _ _ _ h6 ok).1
   ·rcases body f l h r h' e with e | ⟨fn,x,p,tm,h1,h2,h3,h4,h5,h6,h7⟩
    · exact hC.run f l h r h' σ w e ok hs hl hf
    ·have hname:fn.name ≠ "runtime.NumGoroutine" := by simpa using h3
     refine ⟨fun args w=>by simp [callFunc,h1,hname,h2],?_⟩
     refine calls_of_wp h1 h2 ?_
     refine (codeR_ok ih hm N x _ _ _ _ _ h6 ok).2 σ _ w _ ?_ hs ?_ hf fun e' σ' a' w' hp g1 g2 g3 g4 => ?_
     ·refine codeB_mono ?_ x h4
      simp
      omega
     ·refine ⟨fun t r ht => ?_,rfl⟩
      obtain ⟨_,ht⟩:=argT_at l 0 t r ht
      rw [Nat.sub_zero] at ht
      have hlt:t<l.length:=(List.getElem?_eq_some_iff.1 ht).1
      refine ⟨by simp; omega,?_,hl r (List.mem_of_getElem? ht)⟩
      show ((l.map (R.val σ)).toArray++Array.replicate (fn.ntmps-(l.map (R.val σ)).toArray.size) undef).getD t undef=_
      rw [Array.getD_eq_getD_getElem?,Array.getElem?_append_left (by simpa using hlt)]
      simp [ht]
     ·obtain ⟨r1,r2⟩:=resRs_ok g1 g3 fn h7
      have fin:a'.defers = [] ∧ ∃ v,(results fn a'.tmps).run c.P w' = .ok v w' ∧ ∃ σ2 v2,Ending.returned v = .returned v2∧Hs c σ2 h' w'∧St σ σ2 h h' w w'∧v2=r.val σ2∧r.df σ2:=⟨g3.df,_,r1,σ',_,rfl,g1,g2,rfl,r2⟩
      rcases h5 with rfl | rfl
      ·obtain rfl:e' = .normal:=hp
       exact fin
      ·obtain rfl:e' = .ret:=hp
       exact fin
end Rn
end Go.Proofs.YtfodadedkilgdaaGreatDoor
namespace Go.Proofs.YtfodadedkilgdaaGreatDoor
set_option linter.unusedVariables false
set_option linter.unusedSimpArgs false
open Go.RowKit Mem
namespace Rn
variable {c:Cx} {σ σ':Sg} {h h1 h' h'':H} {w w':World}
def bytC:List V→Option (List Y)
 | []=>some []
 | x::r=>match x,bytC r with
   | .i .u8 (.ofNat n),some l=>match Nat.blt n 256 with
     | true=>some (.k n::l)
     | false=>none
   | .x o j,some l=>some (.x o j::l)
   | _,_=>none
def byts (σ:Sg) (l:List Y):List UInt8:=l.map (Y.u σ)
theorem bytC_ok : ∀ {l:List V} {t:List Y},bytC l=some t→dfs σ l→vals σ l=bys (byts σ t)∧t.length=l.length ∧ ∀ y∈t,y.df σ
 | [],t,e,_=>by cases e; exact ⟨rfl,rfl,(fun _ h=>nomatch h)⟩
 | x::r,t,e,hd=>by
   unfold bytC at e
   split at e
   ·rename_i n l h1
    split at e
    ·rename_i hn
     cases e
     have hn:=blt_ok hn
     obtain ⟨k1,k2,k3⟩:=bytC_ok h1 (fun y hy=>hd y (List.mem_cons_of_mem _ hy))
     refine ⟨?_,by simp [k2],fun y hy => ?_⟩
     ·show (V.val σ (.i .u8 (.ofNat n)))::vals σ r=_
      rw [k1]
      simp [V.val,byts,bys,Y.u,Nat.mod_eq_of_lt hn]
     ·rcases List.mem_cons.1 hy with rfl | hy
      · trivial
      · exact k3 y hy
    · cases e
   ·rename_i o j l h1
    cases e
    obtain ⟨k1,k2,k3⟩:=bytC_ok h1 (fun y hy=>hd y (List.mem_cons_of_mem _ hy))
    have hx : ∃ l,σ.ρ o=some l:=hd (.x o j) (List.mem_cons_self ..)
    refine ⟨?_,by simp [k2],fun y hy => ?_⟩
    ·show (V.val σ (.x o j))::vals σ r=_
     rw [k1]
     rfl
    ·rcases List.mem_cons.1 hy with rfl | hy
     · exact hx
     · exact k3 y hy
   · cases e
noncomputable def rdA (h:H):V→Option (List Y)
 | .ns=>some []
 | .s b o n q=>match h.at b with
   | some (.l l _ ee)=>match Nat.ble (o+n) l.length,(match q,ee with
      | .k m,_=>Nat.ble m 1000000
      | .g _,some 1=>true
      | _,_=>false) with
     | true,true=>bytC (seg l o n)
     | _,_=>none
   | _=>none
 | _=>none
def Sg.obj (σ:Sg) (o:Nat) (L:List UInt8):Sg:=⟨fun k=>if k=o then some L else σ.ρ k,σ.β,σ.γ,σ.ζ⟩
def Sg.obz (σ:Sg) (o:Nat) (L:Cl):Sg:=⟨σ.ρ,σ.β,σ.γ,fun k=>if k=o then some L else σ.ζ k⟩
theorem Sg.obj_le {o:Nat} {L:List UInt8} (hn:σ.ρ o=none):Le σ (σ.obj o L):=⟨fun b x hx=>⟨hx,rfl⟩,fun k l hk=>by
 have:k≠o:=fun e=>by rw [e,hn] at hk; cases hk
 exact (if_neg this).trans hk,fun _ _ h=>h⟩
theorem Sg.obz_le {o:Nat} {L:Cl} (hn:σ.ζ o=none):Le σ (σ.obz o L):=⟨fun b x hx=>⟨hx,rfl⟩,fun _ _ h=>h,fun k l hk=>by
 have:k≠o:=fun e=>by rw [e,hn] at hk; cases hk
 exact (if_neg this).trans hk⟩
def xs (o n:Nat):List V:=(List.range n).map fun j => .x o j
def zs (o n:Nat):List V:=(List.range n).map fun j => .z o j
theorem xs_val {o:Nat} {L:List UInt8} (h:σ.ρ o=some L):vals σ (xs o L.length)=bys L∧dfs σ (xs o L.length):=by
 refine ⟨?_,fun x hx => ?_⟩
 ·apply List.ext_getElem?
  intro i
  simp only [vals,xs,bys,List.getElem?_map]
  by_cases hi:i<L.length
  ·rw [List.getElem?_range hi,List.getElem?_eq_getElem hi]
   simp [V.val,Sg.by,h,List.getElem?_eq_getElem hi]
  ·rw [List.getElem?_eq_none (by simpa using hi),List.getElem?_eq_none (by omega)]
   rfl
 ·obtain ⟨j,_,rfl⟩:=List.mem_map.1 hx
  exact ⟨L,h⟩
theorem zs_val {o:Nat} {L:Cl} (h:σ.ζ o=some L):vals σ (zs o L.1.length)=L.1∧dfs σ (zs o L.1.length):=by
 refine ⟨?_,fun x hx => ?_⟩
 ·apply List.ext_getElem?
  intro i
  simp only [vals,zs,List.getElem?_map]
  by_cases hi:i<L.1.length
  ·rw [List.getElem?_range hi,List.getElem?_eq_getElem hi]
   simp [V.val,Sg.cl,h,List.getElem?_eq_getElem hi]
  ·rw [List.getElem?_eq_none (by simpa using hi),List.getElem?_eq_none (by omega)]
   rfl
 ·obtain ⟨j,_,rfl⟩:=List.mem_map.1 hx
  exact ⟨L,h⟩
theorem Hs.more (hs:Hs c σ h w) (hb:Below w.heap.size w w') (hle:Le σ σ') (hβ:σ'.β=σ.β) (hρ : ∀ n,n≠h.ob→σ'.ρ n=σ.ρ n∧σ'.ζ n=σ.ζ n) {me:List (Nat×List (List V)×Nat)} (hme : ∀ m∈me,MeOk c σ' m) :
 Hs c σ' {h with ob:=h.ob+1,me:=me} w'∧St σ σ' h {h with ob:=h.ob+1,me:=me} w w':=by
 obtain ⟨h1,h2⟩:=hs.low hb
 have hbl : ∀ b,σ'.bl b=σ.bl b:=fun b=>by simp only [Sg.bl,hβ]
 refine ⟨⟨fun b x hx => ?_,fun b1 b2 x1 x2 e1 e2 e=>h1.inj b1 b2 x1 x2 e1 e2 (by rw [← hbl,← hbl]; exact e),h1.inv,h1.le,fun o l ho=>hle.r o l (h1.fx o l ho),hme⟩,⟨hle,fun n hn=>by rw [hβ],fun n hn=>hρ n fun e=>hn ⟨by omega,by show n<h.ob+1; omega⟩,Nat.le_refl _,Nat.le_succ _,h2.kp,rfl,fun b hb=>hb,fun b _ _=>rfl,fun b x hx => .inl ⟨x,hx⟩,fun b x hx => .inr ⟨b,x,hx,hbl b⟩⟩⟩
 obtain ⟨k1,k2,k3,k4⟩:=h1.blk b x hx
 obtain ⟨m1,m2⟩:=B.mono hle k2 k4 k1
 exact ⟨m1,m2,by rw [hbl]; exact k3,by rw [hβ]; exact k4⟩
inductive Sh where
 | ag (n:Nat)
 | ae (n:Nat)
 | t1
 | t2
def Sh.n:Sh→Nat
 | .ag n=>n
 | .ae n=>n
 | .t1=>1
 | .t2=>2
def Sh.r (l:List V):Sh→R
 | .ag _ => .o (.a l)
 | .ae _ => .t [.a l,.v (.i .i64 0)]
 | .t1=>match l with
   | a::_ => .o (.v a)
   | _ => .u
 | .t2=>match l with
   | a::b::_ => .t [.v a,.v b]
   | _ => .u
def Sh.v (l:List Value):Sh→Value
 | .ag _ => .agg l.toArray
 | .ae _ => .tuple #[.agg l.toArray,.int .i64 0]
 | .t1=>match l with
   | a::_=>a
   | _=>undef
 | .t2=>match l with
   | a::b::_ => .tuple #[a,b]
   | _=>undef
theorem Sh.r_val {l:List V} (sh:Sh):(sh.r l).val σ=sh.v (vals σ l):=by
 cases sh with
 | ag n=>rfl
 | ae n=>rfl
 | t1=>cases l <;> rfl
 | t2 =>
   cases l with
   | nil=>rfl
   | cons a l=>cases l <;> rfl
theorem Sh.r_df {l:List V} (hl:dfs σ l) (sh:Sh):(sh.r l).df σ:=by
 cases sh with
 | ag n=>exact hl
 | ae n =>
   intro y hy
   rcases List.mem_cons.1 hy with rfl | hy
   · exact hl
   · rw [List.mem_singleton.1 hy]; exact O.df_one.2 trivial
 | t1 =>
   cases l with
   | nil=>trivial
   | cons a l=>exact O.df_one.2 (hl a (List.mem_cons_self ..))
 | t2 =>
   cases l with
   | nil=>trivial
   | cons a l =>
     cases l with
     | nil=>trivial
     | cons b l =>
       intro y hy
       rcases List.mem_cons.1 hy with rfl | hy
       · exact O.df_one.2 (hl a (List.mem_cons_self ..))
       · rw [List.mem_singleton.1 hy]; exact O.df_one.2 (hl b (List.mem_cons_of_mem _ (List.mem_cons_self ..)))
inductive Ko where
 | ob (sh:Sh)
 | fx (o:Nat) (sh:Sh)
 | kn (r:R)
 | pu (k:Nat) (args:List (List V)) (sh:Sh)
structure Ctr where
 f:FuncId
 chk:List R→H→Option Ko
def Ko.P (c:Cx) (σ:Sg):Ko→Value→Prop
 | .ob sh,v => ∃ L:List UInt8,L.length=sh.n∧v=sh.v (bys L)
 | .fx o sh,v => ∃ L:List UInt8,c.fx o=some L∧L.length=sh.n∧v=sh.v (bys L)
 | .kn r,v=>r.df σ∧v=r.val σ
 | .pu k args sh,v=>((∀ l∈args,dfs σ l)∧c.pr k (args.map (vals σ)))∧(c.G k (args.map (vals σ))).length=sh.n∧v=sh.v (c.G k (args.map (vals σ)))∧(match Nat.beq (k%2) 0 with
  | true => ∃ L:List UInt8,bys L=c.G k (args.map (vals σ))
  | false => ∀ x∈c.G k (args.map (vals σ)),x.oneCell'=true)
structure CtOk (c:Cx) (k:Ctr):Prop where
 body : ∃ fn x,c.P.funcs[k.f]? = some fn∧fn.body=some x∧fn.name ≠ "runtime.NumGoroutine"
 run : ∀ l h σ w o,k.chk l h=some o→Hs c σ h w→(∀ x∈l,x.df σ)→Calls c.P k.f (l.map (R.val σ)).toArray w fun e w' => ∃ v,e = .returned v∧o.P c σ v∧Below w.heap.size w w'
def findM (k:Nat) (args:List (List V)):List (Nat×List (List V)×Nat)→Option Nat
 | []=>none
 | m::r=>match Nat.beq m.1 k,lS (lS vS) m.2.1 args with
   | true,true=>some m.2.2
   | _,_=>findM k args r
theorem findM_ok {k:Nat} {args:List (List V)} {o:Nat} : ∀ {me:List (Nat×List (List V)×Nat)},findM k args me=some o→(k,args,o)∈me
 | [],h=>by cases h
 | m::r,h=>by
   unfold findM at h
   split at h
   ·rename_i h1 h2
    cases h
    have h1:=Nat.eq_of_beq_eq_true h1
    have h2:=lS_ok (fun a b=>lS_ok vS_ok (x:=a) (y:=b)) h2
    subst h1 h2
    exact List.mem_cons_self ..
   · exact List.mem_cons_of_mem _ (findM_ok h)
def fAs {α:Type} (l:List (List V)) (k:List (List V)→α):α:=match l with
 | []=>k []
 | a::r=>fVs a fun a=>fAs r fun r=>k (a::r)
theorem fAs_eq {α:Type} : ∀ (l:List (List V)) (k:List (List V)→α),fAs l k=k l
 | [],_=>rfl
 | a::r,k=>by simp only [fAs,fVs_eq,fAs_eq r]
def cel (k o n:Nat):List V:=match Nat.beq (k%2) 0 with
 | true=>xs o n
 | false=>zs o n
noncomputable def Ko.res {α:Type} (k:Ko) (h:H) (K:R→H→α):α:=match k,h with
 | .ob sh,⟨t,nx,oo,mr,wr,me⟩=>fN (oo+1) fun ob1=>fR (sh.r (xs oo sh.n)) fun r=>K r ⟨t,nx,ob1,mr,wr,me⟩
 | .fx o sh,h=>fR (sh.r (xs o sh.n)) fun r=>K r h
 | .kn r,h=>fR r fun r=>K r h
 | .pu k args sh,⟨t,nx,oo,mr,wr,me⟩=>fAs args fun args=>match findM k args me with
   | some o=>fR (sh.r (cel k o sh.n)) fun r=>K r ⟨t,nx,oo,mr,wr,me⟩
   | none=>fN (oo+1) fun ob1=>fR (sh.r (cel k oo sh.n)) fun r=>K r ⟨t,nx,ob1,mr,wr,(k,args,oo)::me⟩
noncomputable def ctA:List Ctr→Fs
 | [],_,_,_=>none
 | k::r,f,l,h=>match Nat.beq k.f f with
   | true=>match k.chk l h with
     | some o=>o.res h fun r h=>some (r,h)
     | none=>none
   | false=>ctA r f l h
noncomputable def ctB (ks:List Ctr):Fs:=fun f l h=>match Nat.blt h.ob 10 with
 | true=>none
 | false=>ctA ks f l h
theorem ctA_ok {ks:List Ctr} (hk : ∀ k∈ks,CtOk c k) (hfx : ∀ o l,c.fx o=some l→o<10):FOk c (ctB ks):=by
 have main : ∀ {f:FuncId} {l:List R} {h:H} {r:R} {h':H} {ks:List Ctr},ctA ks f l h=some (r,h') → ∃ k∈ks,k.f=f ∧ ∃ o,k.chk l h=some o∧(match o with
  | .ob sh=>r=sh.r (xs h.ob sh.n)∧h' = {h with ob:=h.ob+1}
  | .fx o sh=>r=sh.r (xs o sh.n)∧h'=h
  | .kn r'=>r=r'∧h'=h
  | .pu k args sh=>(∃ o,(k,args,o)∈h.me∧r=sh.r (cel k o sh.n)∧h'=h)∨(r=sh.r (cel k h.ob sh.n)∧h' = {h with ob:=h.ob+1,me:=(k,args,h.ob)::h.me})):=by
  intro f l h r h' ks e
  induction ks with
  | nil=>cases e
  | cons k ks ih =>
    unfold ctA at e
    split at e
    ·rename_i hf
     split at e
     ·rename_i o hc
      refine ⟨k,List.mem_cons_self ..,Nat.eq_of_beq_eq_true hf,o,hc,?_⟩
      obtain ⟨t,nx,ob,mr,wr,me⟩:=h
      cases o with
      | ob sh =>
        simp only [Ko.res,fN_eq,fR_eq] at e
        cases e
        exact ⟨rfl,rfl⟩
      | fx o sh =>
        simp only [Ko.res,fN_eq,fR_eq] at e
        cases e
        exact ⟨rfl,rfl⟩
      | kn r' =>
        simp only [Ko.res,fR_eq] at e
        cases e
        exact ⟨rfl,rfl⟩
      | pu k args sh =>
        simp only [Ko.res,fAs_eq] at e
        split at e
        ·rename_i o hf
         rw [fR_eq] at e
         cases e
         exact .inl ⟨o,findM_ok hf,rfl,rfl⟩
        ·rw [fN_eq,fR_eq] at e
         cases e
         exact .inr ⟨rfl,rfl⟩
     · cases e
    ·obtain ⟨k',hm,hh⟩:=ih e
     exact ⟨k',List.mem_cons_of_mem _ hm,hh⟩
 have evo : ∀ (h:H) (me:List (Nat×List (List V)×Nat)),Ev h {h with ob:=h.ob+1,me:=me}:=fun h me=>⟨Nat.le_refl _,Nat.le_succ _,rfl,fun _ h=>h,fun _ _ _=>rfl,fun _ x hx => .inl ⟨x,hx⟩⟩
 refine ⟨fun f l h r h' e ok => ?_,fun f l h r h' σ w e ok hs hl hf => ?_⟩
 ·unfold ctB at e
  split at e
  · cases e
  obtain ⟨k,_,_,o,_,ho⟩:=main e
  cases o with
  | ob sh=>rw [ho.2]; exact evo h h.me
  | pu k args sh =>
    rcases ho with ⟨o,_,_,h2⟩ | ⟨_,h2⟩
    · rw [h2]; exact Ev.refl _
    · rw [h2]; exact evo h _
  | _=>rw [ho.2]; exact Ev.refl _
 ·unfold ctB at e
  split at e
  · cases e
  rename_i hob
  have hob:=blt_ff hob
  obtain ⟨k,hm,rfl,o,hc,ho⟩:=main e
  have ck:=hk k hm
  obtain ⟨fn,x,b1,b2,b3⟩:=ck.body
  refine ⟨fun args w=>by simp [callFunc,b1,b3,b2],(ck.run l h σ w o hc hs hl).mono fun e w' he => ?_⟩
  obtain ⟨v,rfl,hP,hb⟩:=he
  cases o with
  | ob sh =>
    obtain ⟨L,hL,hv⟩:=hP
    obtain ⟨rfl,rfl⟩:=ho
    have hn:=hf.2 h.ob (Nat.le_refl _) (Nat.lt_succ_self _)
    have hle:Le σ (σ.obj h.ob L):=Sg.obj_le hn.1
    obtain ⟨j1,j2⟩:=hs.more (me:=h.me) hb hle rfl (fun n hn=>⟨if_neg hn,rfl⟩) (fun m hm=>(hs.me m hm).mono hle)
    obtain ⟨x1,x2⟩:=xs_val (σ:=σ.obj h.ob L) (o:=h.ob) (L:=L) (if_pos rfl)
    rw [hL] at x1 x2
    exact ⟨_,v,rfl,j1,j2,by rw [Sh.r_val,hv,x1],sh.r_df x2⟩
  | fx o sh =>
    obtain ⟨L,hfo,hL,hv⟩:=hP
    obtain ⟨rfl,rfl⟩:=ho
    obtain ⟨j1,j2⟩:=hs.low hb
    obtain ⟨x1,x2⟩:=xs_val (σ:=σ) (o:=o) (L:=L) (hs.fx o L hfo)
    rw [hL] at x1 x2
    exact ⟨_,v,rfl,j1,j2,by rw [Sh.r_val,hv,x1],sh.r_df x2⟩
  | kn r' =>
    obtain ⟨rfl,rfl⟩:=ho
    obtain ⟨j1,j2⟩:=hs.low hb
    exact ⟨_,v,rfl,j1,j2,hP.2,hP.1⟩
  | pu k args sh =>
    obtain ⟨⟨hd,hpr⟩,hn,hv,ho1⟩:=hP
    rcases ho with ⟨o,hm,rfl,rfl⟩ | ⟨rfl,rfl⟩
    ·obtain ⟨j1,j2⟩:=hs.low hb
     have hm:=(hs.me _ hm).1
     have key:vals σ (cel k o sh.n)=c.G k (args.map (vals σ))∧dfs σ (cel k o sh.n):=by
      unfold cel
      dsimp only at hm
      cases hk:Nat.beq (k%2) 0 with
      | true =>
        rw [hk] at hm
        obtain ⟨L,e1,e2⟩:=hm
        have hl:L.length=sh.n:=by rw [← hn,← e2]; simp [bys]
        obtain ⟨x1,x2⟩:=xs_val (σ:=σ) e1
        rw [hl] at x1 x2
        exact ⟨x1.trans e2,x2⟩
      | false =>
        rw [hk] at hm
        obtain ⟨L,e1,e2⟩:=hm
        have hl:L.1.length=sh.n:=by rw [← hn,← e2]
        obtain ⟨x1,x2⟩:=zs_val (σ:=σ) e1
        rw [hl] at x1 x2
        exact ⟨x1.trans e2,x2⟩
     exact ⟨_,v,rfl,j1,j2,by rw [Sh.r_val,hv,key.1],sh.r_df key.2⟩
    ·have hnn:=hf.2 h.ob (Nat.le_refl _) (Nat.lt_succ_self _)
     cases hk:Nat.beq (k%2) 0 with
     | true =>
       rw [hk] at ho1
       obtain ⟨L,e2⟩:=ho1
       have hl:L.length=sh.n:=by rw [← hn,← e2]; simp [bys]
       have hle:Le σ (σ.obj h.ob L):=Sg.obj_le hnn.1
       obtain ⟨x1,x2⟩:=xs_val (σ:=σ.obj h.ob L) (o:=h.ob) (L:=L) (if_pos rfl)
       rw [hl] at x1 x2
       obtain ⟨j1,j2⟩:=hs.more (me:=(k,args,h.ob)::h.me) hb hle rfl (fun n hn=>⟨if_neg hn,rfl⟩) (fun m hm=>by
        rcases List.mem_cons.1 hm with rfl | hm
        ·refine ⟨?_,fun l h1=>(vals_mono hle (hd l h1)).2,by rw [vals_args hle hd]; exact hpr⟩
         rw [hk,vals_args hle hd]
         exact ⟨L,if_pos rfl,e2⟩
        · exact (hs.me m hm).mono hle)
       refine ⟨_,v,rfl,j1,j2,?_,?_⟩
       ·rw [Sh.r_val,hv]
        unfold cel
        rw [hk,x1,e2]
       ·unfold cel
        rw [hk]
        exact sh.r_df x2
     | false =>
       rw [hk] at ho1
       obtain ⟨L,hL⟩ : ∃ L:Cl,L.1=c.G k (args.map (vals σ)):=⟨⟨_,ho1⟩,rfl⟩
       have hl:L.1.length=sh.n:=by rw [← hn,← hL]
       have hle:Le σ (σ.obz h.ob L):=Sg.obz_le hnn.2
       obtain ⟨x1,x2⟩:=zs_val (σ:=σ.obz h.ob L) (o:=h.ob) (L:=L) (if_pos rfl)
       rw [hl] at x1 x2
       obtain ⟨j1,j2⟩:=hs.more (me:=(k,args,h.ob)::h.me) hb hle rfl (fun n hn=>⟨rfl,if_neg hn⟩) (fun m hm=>by
        rcases List.mem_cons.1 hm with rfl | hm
        ·refine ⟨?_,fun l h1=>(vals_mono hle (hd l h1)).2,by rw [vals_args hle hd]; exact hpr⟩
         rw [hk,vals_args hle hd]
         exact ⟨L,if_pos rfl,hL⟩
        · exact (hs.me m hm).mono hle)
       refine ⟨_,v,rfl,j1,j2,?_,?_⟩
       ·rw [Sh.r_val,hv]
        unfold cel
        rw [hk,x1,hL]
       ·unfold cel
        rw [hk]
        exact sh.r_df x2
end Rn
end Go.Proofs.YtfodadedkilgdaaGreatDoor
