/- A part of the proof. Plain; no condition. -/
import Derived.Test.YtfodadedkilgdaaGreatDoorP16
namespace Go.Proofs.YtfodadedkilgdaaGreatDoor
set_option linter.unusedVariables false
set_option linter.unusedSimpArgs false
open Go.RowKit
namespace Ab
set_option warn.classDefReducibility false
attribute [local instance 100000] decEqI decLeI decLtI
def subI (k:IntKind) (a b:Int):T→Bool
 | .any=>true
 | .int k' a' b'=>decide (k=k'∧a'≤a∧b≤b')
 | _=>false
def subB:T→Bool
 | .any=>true
 | .bool=>true
 | _=>false
def subCb (x:Bool):T→Bool
 | .any=>true
 | .bool=>true
 | .cb y=>x==y
 | _=>false
def subAgg (l:List K):T→Bool
 | .any=>true
 | .agg l'=>kle l l'
 | _=>false
def subPtr (m:Bool) (l:List K) (o:Nat):T→Bool
 | .any=>true
 | .ptr m' l' o'=>(m || !m') && decide (l=l') && o==o'
 | _=>false
def subSl (n:Nat):T→Bool
 | .any=>true
 | .sl n'=>n==n'
 | .ss m κ a b=>n==1 && !m && decide (κ = .int .u8) && a==0 && decide (1000000≤b)
 | _=>false
def subNl:T→Bool
 | .any=>true
 | .nl=>true
 | .sl _=>true
 | .ss _ _ a _=>a==0
 | .ow _ a _=>a==0
 | _=>false
def subSs (m:Bool) (κ:K) (a b:Nat):T→Bool
 | .any=>true
 | .ss m' κ' a' b'=>(m || !m') && decide (κ=κ') && decide (a'≤a) && decide (b≤b')
 | .sl n=>decide (κ = .int .u8) && n==1 && decide (b≤1000000)
 | _=>false
def subOw (κs:List K) (a b:Nat):T→Bool
 | .any=>true
 | .ow κs' a' b'=>decide (κs=κs') && decide (a'≤a) && decide (b≤b')
 | .sl n=>decide (κs=List.replicate n (.int .u8)) && decide (b≤1000000)
 | .ss _ κ a' b'=>decide (κs = [κ]) && decide (a'≤a) && decide (b≤b')
 | _=>false
def subPk (m:Bool) (κ:K) (n:Nat):T→Bool
 | .any=>true
 | .pk m' κ' n'=>(m || !m') && decide (κ=κ') && decide (n'≤n)
 | _=>false
def subPr (m:Bool) (ks:List K):T→Bool
 | .any=>true
 | .pr m' ks'=>(m || !m') && decide (ks=ks')
 | _=>false
def subNp:T→Bool
 | .any=>true
 | .np=>true
 | _=>false
def subStr:T→Bool
 | .any=>true
 | .str=>true
 | _=>false
def subUnd:T→Bool
 | .any=>true
 | .und=>true
 | _=>false
def isAny:T→Bool
 | .any=>true
 | _=>false
def subCel (i:Tm) (j:Nat):T→Bool
 | .any=>true
 | .cel i' j'=>Tm.beq i i' && Nat.beq j j'
 | _=>false
def subBt (t:Tm):T→Bool
 | .any=>true
 | .bool=>true
 | .bt t'=>Tm.beq t t'
 | _=>false
def subOs (j o n:Nat) (c:Option Nat):T→Bool
 | .any=>true
 | .os j' o' n' c'=>Nat.beq j j' && (Nat.beq o o' && (Nat.beq n n' && (match c',c with | none,_=>true | some x,some y=>Nat.beq x y | _,_=>false)))
 | _=>false
def subOwn (j o n:Nat):T→Bool
 | .any=>true
 | .own j' o' n'=>j==j' && o==o' && n==n'
 | _=>false
def sub:T→T→Bool
 | .or a b,τ=>sub a τ && sub b τ
 | .t2 a b,τ=>match τ with
   | .any=>true
   | .t2 a' b'=>sub a a' && sub b b'
   | _=>false
 | .t3 a b d,τ=>match τ with
   | .any=>true
   | .t3 a' b' d'=>sub a a' && sub b b' && sub d d'
   | _=>false
 | .int k a b,τ=>subI k a b τ
 | .bool,τ=>subB τ
 | .cb x,τ=>subCb x τ
 | .agg l,τ=>subAgg l τ
 | .ptr m l o,τ=>subPtr m l o τ
 | .sl n,τ=>subSl n τ
 | .nl,τ=>subNl τ
 | .ss m κ a b,τ=>subSs m κ a b τ
 | .ow κs a b,τ=>subOw κs a b τ
 | .pk m κ n,τ=>subPk m κ n τ
 | .pr m ks,τ=>subPr m ks τ
 | .np,τ=>subNp τ
 | .str,τ=>subStr τ
 | .und,τ=>subUnd τ
 | .any,τ=>isAny τ
 | .cel i j,τ=>subCel i j τ
 | .own j o n,τ=>subOwn j o n τ
 | .bt t,τ=>subBt t τ
 | .os j o n c,τ=>subOs j o n c τ
theorem sub_ok {σ:S} : ∀ (τ τ':T) {v:Value},VT σ v τ→sub τ τ'=true→VT σ v τ':=by
 intro τ
 induction τ with
 | int k a b =>
   intro τ' v hv h
   simp only [sub] at h
   unfold subI at h
   split at h
   · trivial
   ·obtain ⟨n,rfl,h1,h2⟩:=hv
    simp only [decide_eq_true_eq] at h
    obtain ⟨rfl,h3,h4⟩:=h
    exact ⟨n,rfl,Int.le_trans h3 h1,Int.le_trans h2 h4⟩
   · cases h
 | bool=>intro τ' v hv h; simp only [sub] at h; unfold subB at h; split at h <;> first | trivial | exact hv | cases h
 | cb x =>
   intro τ' v hv h
   simp only [sub] at h
   unfold subCb at h
   split at h
   · trivial
   · exact ⟨_,hv⟩
   · rw [beq_iff_eq] at h; subst h; exact hv
   · cases h
 | agg l =>
   intro τ' v hv h
   simp only [sub] at h
   unfold subAgg at h
   split at h
   · trivial
   · obtain ⟨C,rfl,hC⟩:=hv; exact ⟨C,rfl,kle_ok h hC⟩
   · cases h
 | ptr m l o =>
   intro τ' v hv h
   simp only [sub] at h
   unfold subPtr at h
   split at h
   · trivial
   ·obtain ⟨b,m0,rfl,hb,hm⟩:=hv
    simp only [Bool.and_eq_true,decide_eq_true_eq,beq_iff_eq] at h
    obtain ⟨⟨h1,rfl⟩,rfl⟩:=h
    exact ⟨b,m0,rfl,hb,fun e=>hm (by simpa [e] using h1)⟩
   · cases h
 | sl n =>
   intro τ' v hv h
   simp only [sub] at h
   unfold subSl at h
   split at h
   · trivial
   · rw [beq_iff_eq] at h; subst h; exact hv
   ·simp only [Bool.and_eq_true,decide_eq_true_eq,beq_iff_eq,Bool.not_eq_true'] at h
    obtain ⟨⟨⟨⟨rfl,hm⟩,rfl⟩,rfl⟩,hb⟩:=h
    obtain ⟨q,len,cap,e,l1,l2,l3,l4,l5,l6⟩:=SL.ss hv
    refine ⟨q,len,cap,e,by omega,by omega,l3,l4,l5,fun p hp => ?_⟩
    obtain ⟨hs,m0,l,hb,_,hk⟩:=l6 p hp
    exact ⟨hs,m0,l,hb,(fun e=>by rw [hm] at e; cases e),hk⟩
   · cases h
 | nl =>
   intro τ' v hv h
   obtain rfl:v=_:=hv
   simp only [sub] at h
   unfold subNl at h
   split at h
   · trivial
   · exact rfl
   · exact SL_nil σ _
   · rw [beq_iff_eq] at h; subst h; exact ⟨none,0,0,rfl,Nat.le_refl _,Nat.zero_le _,Nat.le_refl _,Nat.zero_le _,fun _=>rfl,fun _ h=>nomatch h⟩
   · rw [beq_iff_eq] at h; subst h; exact .inl ⟨rfl,rfl⟩
   · cases h
 | np=>intro τ' v hv h; simp only [sub] at h; unfold subNp at h; split at h <;> first | trivial | exact hv | cases h
 | ss m κ a b =>
   intro τ' v hv h
   simp only [sub] at h
   unfold subSs at h
   split at h
   · trivial
   ·simp only [Bool.and_eq_true,decide_eq_true_eq] at h
    obtain ⟨⟨⟨h1,rfl⟩,h2⟩,h3⟩:=h
    obtain ⟨q,len,cap,e,l1,l2,l3,l4,l5,l6⟩:=hv
    refine ⟨q,len,cap,e,by omega,by omega,l3,l4,l5,fun p hp => ?_⟩
    obtain ⟨hs,m0,l,hb,hm,hk⟩:=l6 p hp
    exact ⟨hs,m0,l,hb,fun e=>hm (by simpa [e] using h1),hk⟩
   ·simp only [Bool.and_eq_true,decide_eq_true_eq,beq_iff_eq] at h
    obtain ⟨⟨rfl,rfl⟩,hb⟩:=h
    exact SS.sl hv hb
   · cases h
 | pk m κ n =>
   intro τ' v hv h
   simp only [sub] at h
   unfold subPk at h
   split at h
   · trivial
   ·simp only [Bool.and_eq_true,decide_eq_true_eq] at h
    obtain ⟨⟨h1,rfl⟩,h2⟩:=h
    obtain ⟨p,m0,l,e,hs,hb,hm,hk⟩:=hv
    exact ⟨p,m0,l,e,hs,hb,fun e=>hm (by simpa [e] using h1),fun i hi=>hk i (by omega)⟩
   · cases h
 | ow κs a b =>
   intro τ' v hv h
   simp only [sub] at h
   unfold subOw at h
   split at h
   · trivial
   ·simp only [Bool.and_eq_true,decide_eq_true_eq] at h
    obtain ⟨⟨rfl,h1⟩,h2⟩:=h
    exact OW.wide hv h1 h2
   ·simp only [Bool.and_eq_true,decide_eq_true_eq] at h
    obtain ⟨rfl,hb⟩:=h
    exact OW.sl hv hb
   ·simp only [Bool.and_eq_true,decide_eq_true_eq] at h
    obtain ⟨⟨rfl,h1⟩,h2⟩:=h
    obtain ⟨q,len,cap,e,l1,l2,l3,l4,l5,l6⟩:=OW.ss hv
    refine ⟨q,len,cap,e,by omega,by omega,l3,l4,l5,fun p hp => ?_⟩
    obtain ⟨hs,m0,l,hb,hm,hk⟩:=l6 p hp
    exact ⟨hs,m0,l,hb,fun _=>hm rfl,hk⟩
   · cases h
 | pr m ks =>
   intro τ' v hv h
   simp only [sub] at h
   unfold subPr at h
   split at h
   · trivial
   ·simp only [Bool.and_eq_true,decide_eq_true_eq] at h
    obtain ⟨h1,rfl⟩:=h
    obtain ⟨p,m0,l,e,hs,hb,hm,hk⟩:=hv
    exact ⟨p,m0,l,e,hs,hb,fun e=>hm (by simpa [e] using h1),hk⟩
   · cases h
 | str=>intro τ' v hv h; simp only [sub] at h; unfold subStr at h; split at h <;> first | trivial | exact hv | cases h
 | und=>intro τ' v hv h; simp only [sub] at h; unfold subUnd at h; split at h <;> first | trivial | exact hv | cases h
 | any=>intro τ' v hv h; simp only [sub] at h; unfold isAny at h; split at h <;> first | trivial | exact hv | cases h
 | cel i j =>
   intro τ' v hv h
   simp only [sub] at h
   unfold subCel at h
   split at h
   · trivial
   ·simp only [Bool.and_eq_true,Tm.beq_iff,Nat.beq_eq] at h
    obtain ⟨rfl,rfl⟩:=h
    exact hv
   · cases h
 | bt t =>
   intro τ' v hv h
   simp only [sub] at h
   unfold subBt at h
   split at h
   · trivial
   · exact hv.2
   · rw [Tm.beq_iff] at h; subst h; exact hv
   · cases h
 | os j o n c =>
   intro τ' v hv h
   simp only [sub] at h
   unfold subOs at h
   split at h
   · trivial
   ·rename_i j' o' n' c'
    simp only [Bool.and_eq_true,Nat.beq_eq] at h
    obtain ⟨rfl,rfl,rfl,hc⟩:=h
    obtain ⟨cap,e,h1,h2,h3,h4⟩:=hv
    refine ⟨cap,e,h1,h2,fun k hk => ?_,h4⟩
    subst hk
    cases c with
    | none=>cases hc
    | some y=>simp only [Nat.beq_eq] at hc; subst hc; exact h3 _ rfl
   · cases h
 | own j o n =>
   intro τ' v hv h
   simp only [sub] at h
   unfold subOwn at h
   split at h
   · trivial
   ·simp only [Bool.and_eq_true,beq_iff_eq] at h
    obtain ⟨⟨rfl,rfl⟩,rfl⟩:=h
    exact hv
   · cases h
 | t2 a b iha ihb =>
   intro τ' v hv h
   simp only [sub] at h
   split at h
   · trivial
   ·rw [Bool.and_eq_true] at h
    obtain ⟨x,y,rfl,hx,hy⟩:=hv
    exact ⟨x,y,rfl,iha _ hx h.1,ihb _ hy h.2⟩
   · cases h
 | t3 a b d iha ihb ihd =>
   intro τ' v hv h
   simp only [sub] at h
   split at h
   · trivial
   ·rw [Bool.and_eq_true,Bool.and_eq_true] at h
    obtain ⟨x,y,z,rfl,hx,hy,hz⟩:=hv
    exact ⟨x,y,z,rfl,iha _ hx h.1.1,ihb _ hy h.1.2,ihd _ hz h.2⟩
   · cases h
 | or a b iha ihb =>
   intro τ' v hv h
   simp only [sub] at h
   rw [Bool.and_eq_true] at h
   rcases hv with hv | hv
   · exact iha _ hv h.1
   · exact ihb _ hv h.2
theorem nl_ow {σ:S} {v:Value} (hv:v = .slice none 0 0) (κs:List K) (b:Nat):VT σ v (.ow κs 0 b) := .inl ⟨hv,rfl⟩
theorem nl_ss {σ:S} {v:Value} (hv:v = .slice none 0 0) (m:Bool) (κ:K) (b:Nat):VT σ v (.ss m κ 0 b):=⟨none,0,0,hv,Nat.le_refl _,Nat.zero_le _,Nat.le_refl _,Nat.zero_le _,fun _=>rfl,fun _ h=>nomatch h⟩
theorem ss_low {σ:S} {v:Value} {m:Bool} {κ:K} {a b:Nat} (hv:VT σ v (.ss m κ a b)):VT σ v (.ss m κ 0 b):=by
 obtain ⟨q,len,cap,e,l1,l2,l3⟩:=hv
 exact ⟨q,len,cap,e,Nat.zero_le _,l2,l3⟩
def join2I (k:IntKind) (a b:Int):T→T
 | .int k' a' b'=>if k=k' then .int k (min a a') (max b b') else .any
 | _ => .any
def join2C:T→T
 | .cb _ => .bool
 | _ => .any
def join2O (κs:List K) (a b:Nat):T→T
 | .ow κs' a' b'=>if κs=κs' then .ow κs (min a a') (max b b') else .any
 | .nl => .ow κs 0 b
 | _ => .any
def join2N:T→T
 | .ow κs _ b => .ow κs 0 b
 | .ss m κ _ b => .ss m κ 0 b
 | _ => .any
def join2S (m:Bool) (κ:K) (b:Nat):T→T
 | .nl => .ss m κ 0 b
 | _ => .any
def join2 (τ τ':T):T:=match τ with
    | .int k a b=>join2I k a b τ'
    | .cb _=>join2C τ'
    | .ow κs a b=>join2O κs a b τ'
    | .nl=>join2N τ'
    | .ss m κ _ b=>join2S m κ b τ'
    | _ => .any
def join (τ τ':T):T :=
 match sub τ τ' with
 | true=>τ'
 | false=>match sub τ' τ with
   | true=>τ
   | false=>join2 τ τ'
theorem join2_l {σ:S} {τ τ':T} {v:Value} (hv:VT σ v τ):VT σ v (join2 τ τ'):=by
 unfold join2
 split
 ·unfold join2I
  split
  ·obtain ⟨n,rfl,h1,h2⟩:=hv
   split
   · exact ⟨n,rfl,by omega,by omega⟩
   · trivial
  · trivial
 ·unfold join2C
  split
  · exact ⟨_,hv⟩
  · trivial
 ·unfold join2O
  split
  ·split
   · exact OW.wide hv (Nat.min_le_left ..) (Nat.le_max_left ..)
   · trivial
  · exact OW.wide hv (Nat.zero_le _) (Nat.le_refl _)
  · trivial
 ·unfold join2N
  split
  · exact nl_ow hv _ _
  · exact nl_ss hv _ _ _
  · trivial
 ·unfold join2S
  split
  · exact ss_low hv
  · trivial
 · trivial
theorem join2_r {σ:S} {τ τ':T} {v:Value} (hv:VT σ v τ'):VT σ v (join2 τ τ'):=by
 unfold join2
 split
 ·unfold join2I
  split
  ·obtain ⟨n,rfl,h1,h2⟩:=hv
   split
   · rename_i hk; subst hk; exact ⟨n,rfl,by omega,by omega⟩
   · trivial
  · trivial
 ·unfold join2C
  split
  · exact ⟨_,hv⟩
  · trivial
 ·unfold join2O
  split
  ·split
   · rename_i hk; subst hk; exact OW.wide hv (Nat.min_le_right ..) (Nat.le_max_right ..)
   · trivial
  · exact nl_ow hv _ _
  · trivial
 ·unfold join2N
  split
  · exact OW.wide hv (Nat.zero_le _) (Nat.le_refl _)
  · exact ss_low hv
  · trivial
 ·unfold join2S
  split
  · exact nl_ss hv _ _ _
  · trivial
 · trivial
theorem join_l {σ:S} {τ τ':T} {v:Value} (hv:VT σ v τ):VT σ v (join τ τ'):=by
 unfold join
 split
 · rename_i h; exact sub_ok _ _ hv h
 ·split
  · exact hv
  · exact join2_l hv
theorem join_r {σ:S} {τ τ':T} {v:Value} (hv:VT σ v τ'):VT σ v (join τ τ'):=by
 unfold join
 split
 · exact hv
 ·split
  · rename_i h; exact sub_ok _ _ hv h
  · exact join2_r hv
def jv:Option T→Option T→Option T
 | some x,some y=>some (join x y)
 | _,_=>none
noncomputable def joinTr (t:Tr):Tr→Tr :=
 Tr.rec (motive:=fun _=>Tr→Tr) (fun _ => .nil) (fun v _ _ il ir b=>match b with
  | .nil => .nil
  | .nd v' l' r' => .nd (jv v v') (il l') (ir r')) t
theorem joinTr_nd (v:Option T) (l r:Tr) (v':Option T) (l' r':Tr):joinTr (.nd v l r) (.nd v' l' r') = .nd (jv v v') (joinTr l l') (joinTr r r'):=rfl
theorem joinTr_nil (v:Option T) (l r:Tr):joinTr (.nd v l r) .nil = .nil:=rfl
theorem joinTr_get : ∀ (k:Nat) (t t':Tr) (n:Nat) (τ:T),(joinTr t t').get k n=some τ → ∃ x y,t.get k n=some x∧t'.get k n=some y∧τ=join x y
 | 0,_,_,_,_,h=>by cases h
 | k+1,t,t',n,τ,h=>by
   cases t with
   | nil =>
     have:joinTr .nil t' = .nil:=rfl
     rw [this,Tr.get_nil] at h
     cases h
   | nd v l r =>
     cases t' with
     | nil=>rw [joinTr_nil,Tr.get_nil] at h; cases h
     | nd v' l' r' =>
       rw [joinTr_nd] at h
       rw [Tr.get_succ] at h ⊢
       rw [Tr.get_succ]
       rcases way n with rfl | ⟨h1,h2,_⟩ | ⟨h1,h2,_⟩
       ·have h:jv v v'=some τ:=h
        show ∃ x y,v=some x∧v'=some y∧τ=join x y
        cases v with
        | none=>cases h
        | some x =>
          cases v' with
          | none=>cases h
          | some y=>cases h; exact ⟨x,y,rfl,rfl,rfl⟩
       · simp only [h1,h2,Tr.left] at h ⊢; exact joinTr_get k _ _ _ _ h
       · simp only [h1,h2,Tr.right] at h ⊢; exact joinTr_get k _ _ _ _ h
def rowOf (l:List (Nat×List K)) (j:Nat):Option (List K):=(l.find? fun x=>x.1==j).map (·.2)
theorem rowOf_mem {l:List (Nat×List K)} {j:Nat} {x:List K} (h:rowOf l j=some x):(j,x)∈l:=by
 unfold rowOf at h
 rw [Option.map_eq_some_iff] at h
 obtain ⟨⟨j',x'⟩,h1,h2⟩:=h
 have h3:=List.mem_of_find?_eq_some h1
 have h4:=List.find?_some h1
 simp at h4 h2
 subst h4 h2
 exact h3
def joinR (r r':List (Nat×List K)):List (Nat×List K):=r.filter fun x=>decide (rowOf r' x.1=some x.2)
noncomputable def joinE (Γ Γ':Env):Env:=match Nat.beq Γ.length Γ'.length with
 | true=>⟨Γ.length,joinTr Γ.tr Γ'.tr,joinR Γ.rows Γ'.rows,max Γ.next Γ'.next,[]⟩
 | false=>⟨0,.nil,[],max Γ.next Γ'.next,[]⟩
theorem joinE_next (Γ Γ':Env):(joinE Γ Γ').next=max Γ.next Γ'.next:=by unfold joinE; split <;> rfl
theorem joinE_pc (Γ Γ':Env):(joinE Γ Γ').pc = []:=by unfold joinE; split <;> rfl
theorem joinE_rows {Γ Γ':Env} {x:Nat×List K} (h:x∈(joinE Γ Γ').rows):x∈Γ.rows∧x∈Γ'.rows:=by
 unfold joinE at h
 split at h
 ·obtain ⟨h1,h2⟩:=List.mem_filter.1 h
  exact ⟨h1,rowOf_mem (of_decide_eq_true h2)⟩
 · cases h
theorem joinE_at {Γ Γ':Env} {t:Nat} {τ:T} (h:(joinE Γ Γ').at t=some τ) : ∃ x y,Γ.at t=some x∧Γ'.at t=some y∧τ=join x y:=by
 have hlt:=Env.lt h
 unfold joinE at h hlt
 split at h
 ·rename_i he
  simp only [he] at hlt
  have he':Γ.length=Γ'.length:=Nat.eq_of_beq_eq_true he
  rw [Env.at_ok (by exact hlt)] at h
  obtain ⟨x,y,h1,h2,h3⟩:=joinTr_get _ _ _ _ _ h
  exact ⟨x,y,by rw [Env.at_ok hlt]; exact h1,by rw [Env.at_ok (by rw [← he']; exact hlt),← he']; exact h2,h3⟩
 ·rename_i he
  simp only [he] at hlt
  exact absurd hlt (Nat.not_lt_zero _)
theorem joinE_l {σ:S} {a:Act} {Γ Γ':Env} (h:Typed σ a Γ):Typed σ a (joinE Γ Γ'):=by
 refine ⟨?_,⟨h.2.1.1,fun x hx=>by rw [joinE_pc] at hx; cases hx⟩,fun t τ ht => ?_,fun x hx=>h.2.2.2.1 x (joinE_rows hx).1,fun j hj=>h.2.2.2.2 j (by rw [joinE_next] at hj; omega)⟩
 ·unfold joinE
  split
  · exact h.1
  · exact Nat.zero_le _
 ·obtain ⟨x,y,h1,h2,rfl⟩:=joinE_at ht
  exact join_l (h.2.2.1 t x h1)
theorem joinE_r {σ:S} {a:Act} {Γ Γ':Env} (h:Typed σ a Γ'):Typed σ a (joinE Γ Γ'):=by
 refine ⟨?_,⟨h.2.1.1,fun x hx=>by rw [joinE_pc] at hx; cases hx⟩,fun t τ ht => ?_,fun x hx=>h.2.2.2.1 x (joinE_rows hx).2,fun j hj=>h.2.2.2.2 j (by rw [joinE_next] at hj; omega)⟩
 ·unfold joinE
  split
  ·rename_i he
   have he':Γ.length=Γ'.length:=Nat.eq_of_beq_eq_true he
   show Γ.length≤_
   rw [he']
   exact h.1
  · exact Nat.zero_le _
 ·obtain ⟨x,y,h1,h2,rfl⟩:=joinE_at ht
  exact join_r (h.2.2.1 t y h2)
def noOwn:T→Bool
 | .own .. => false
 | .os .. => false
 | .agg l=>l.all pK
 | .t2 a b=>noOwn a && noOwn b
 | .t3 a b d=>noOwn a && (noOwn b && noOwn d)
 | .or a b=>noOwn a && noOwn b
 | _=>true
def S.hide (σ:S):S := {σ with pv:=fun _=>none}
theorem CT.hide {σ:S} {C:List Value} {l:List K} (h:CT σ C l) (hp:l.all pK=true):CT σ.hide C l:=by
 refine ⟨h.1,fun i κ hi => ?_⟩
 obtain ⟨v,h1,h2⟩:=h.2 i κ hi
 have:=List.all_eq_true.1 hp κ (List.mem_of_getElem? hi)
 exact ⟨v,h1,by cases κ <;> first | exact h2 | cases this⟩
theorem VT.hide {σ:S} : ∀ {τ:T} {v:Value},noOwn τ=true→VT σ v τ→VT σ.hide v τ
 | .int ..,_,_,h=>h
 | .bool,_,_,h=>h
 | .cb _,_,_,h=>h
 | .agg _,_,hn,⟨C,e,hC⟩=>⟨C,e,hC.hide hn⟩
 | .ptr ..,_,_,h=>h
 | .sl _,_,_,h=>h
 | .ss ..,_,_,h=>h
 | .pk ..,_,_,h=>h
 | .pr ..,_,_,h=>h
 | .str,_,_,h=>h
 | .ow ..,_,_,h=>h
 | .nl,_,_,h=>h
 | .np,_,_,h=>h
 | .t2 ..,_,hn,⟨x,y,e,hx,hy⟩=>by
   simp only [noOwn,Bool.and_eq_true] at hn
   exact ⟨x,y,e,VT.hide hn.1 hx,VT.hide hn.2 hy⟩
 | .t3 ..,_,hn,⟨x,y,z,e,hx,hy,hz⟩=>by
   simp only [noOwn,Bool.and_eq_true] at hn
   exact ⟨x,y,z,e,VT.hide hn.1 hx,VT.hide hn.2.1 hy,VT.hide hn.2.2 hz⟩
 | .or ..,_,hn,hv=>by
   simp only [noOwn,Bool.and_eq_true] at hn
   exact hv.imp (VT.hide hn.1) (VT.hide hn.2)
 | .und,_,_,h=>h
 | .any,_,_,h=>h
 | .cel ..,_,_,h=>h
 | .own ..,_,hn,_=>by cases hn
 | .os ..,_,hn,_=>by cases hn
 | .bt ..,_,_,h=>h
theorem WT.hide {gt:Gt} {σ:S} {w:World} (h:WT gt σ w):WT gt σ.hide w :=
 ⟨fun v e=>⟨(h.old v e).1,(h.old v e).2.1,fun j l hj=>(by cases hj)⟩,h.rho,h.tab,h.fx,fun b m l hb=>by
  obtain ⟨C,t,f,h1,h2,h3⟩:=h.blk b m l hb
  exact ⟨C,t,f,h1,h2,h3.hide (h.pl b m l hb)⟩,fun j l hj=>(by cases hj),fun i j l l' hj=>(by cases hj),h.pl⟩
theorem Ans.bare {gt:Gt} {σ:S} {w w':World} {v:Value} {τ:T} (hw:WT gt σ w) (h:Ans gt σ.hide w v w' τ):Ans gt σ w v w' τ:=by
 obtain ⟨σ1,g,wt,vt⟩:=h
 have hle:Le σ1 {σ1 with pv:=σ.pv}:=⟨fun _ _ h=>h,fun _ _ _ h=>h,fun j l h=>by rw [g.pv] at h; cases h⟩
 have go:Go1 σ {σ1 with pv:=σ.pv} w w':=⟨g.same,g.os,g.tape,g.output,g.size,g.kept,g.rho,g.ad,rfl⟩
 refine ⟨{σ1 with pv:=σ.pv},go,⟨hw.old.go go.go,wt.rho,wt.tab,wt.fx,fun b m l hb => ?_,fun j l hj => ?_,fun i j l l' hi hj hij => ?_,wt.pl⟩,vt.mono hle⟩
 ·obtain ⟨C,t,f,h1,h2,h3⟩:=wt.blk b m l hb
  exact ⟨C,t,f,h1,h2,h3.mono hle⟩
 ·obtain ⟨h0,C,t,h1,h2⟩:=hw.pvt j l hj
  have hlt:σ.ad j<w.heap.size:=(Array.getElem?_eq_some_iff.1 h1).1
  have e:σ1.ad=σ.ad:=g.ad
  refine ⟨?_,C,t,?_,h2.mono (go.le hw)⟩
  ·show σ1.f (σ1.ad j)=none
   rw [e]; exact (g.same _ hlt).trans h0
  ·show w'.heap[σ1.ad j]? = _
   rw [e]
   exact (g.kept _ hlt (fun l e=>by
    have e:σ (σ.ad j)=some (true,l):=e
    rw [h0] at e; cases e)).trans h1
 ·show σ1.ad i≠σ1.ad j
  have e:σ1.ad=σ.ad:=g.ad
  rw [e]; exact hw.inj i j l l' hi hj hij
theorem VTs.hide {σ:S} {vs:List Value} {τs:List T} (hn:τs.all noOwn=true) (hv:VTs σ vs τs):VTs σ.hide vs τs:=⟨hv.1,fun i τ hi=>by
 obtain ⟨v,h1,h2⟩:=hv.2 i τ hi
 exact ⟨v,h1,h2.hide (List.all_eq_true.1 hn _ (List.mem_of_getElem? hi))⟩⟩
def subs:List T→List T→Bool
 | [],[]=>true
 | a::r,b::q=>sub a b && subs r q
 | _,_=>false
def Ctx.s0 (c:Ctx) (f:Nat):List (Nat×List T×T):=c.sg.filter fun x=>Nat.beq x.1 f
def Ctx.s (c:Ctx) (f:Nat) (τs:List T):Option T:=((c.s0 f).find? fun x=>subs τs x.2.1).map (·.2.2)
theorem subs_ok : ∀ {τs ρs:List T} {σ:S} {vs:List Value},subs τs ρs=true→VTs σ vs τs→VTs σ vs ρs
 | [],[],_,_,_,hv=>hv
 | τ::τs,ρ::ρs,σ,[],_,hv=>by have:=hv.1; simp at this
 | τ::τs,ρ::ρs,σ,v::vs,h,hv=>by
   simp only [subs,Bool.and_eq_true] at h
   have ih:=subs_ok (vs:=vs) h.2 (σ:=σ) ⟨by have:=hv.1; simpa using this,fun i τ hi=>by simpa using hv.2 (i+1) τ (by simpa using hi)⟩
   refine ⟨by simp [ih.1],fun i τ' hi => ?_⟩
   cases i with
   | zero =>
     obtain ⟨u,h1,h2⟩:=hv.2 0 τ rfl
     simp at hi h1
     subst hi h1
     exact ⟨_,rfl,sub_ok _ _ h2 h.1⟩
   | succ i=>simpa using ih.2 i τ' (by simpa using hi)
 | [],_::_,_,_,h,_=>by simp [subs] at h
 | _::_,[],_,_,h,_=>by simp [subs] at h
theorem Ctx.Ok.s {c:Ctx} (h:c.Ok) {f:Nat} {τs:List T} {τ:T} (hf:c.s f τs=some τ):SigOk c.P c.gt f τs τ:=by
 unfold Ctx.s at hf
 rw [Option.map_eq_some_iff] at hf
 obtain ⟨⟨f',ρs,τ'⟩,h1,h2⟩:=hf
 have h3:=List.mem_of_find?_eq_some h1
 have h4:=List.find?_some h1
 unfold Ctx.s0 at h3
 rw [List.mem_filter] at h3
 have h5:f'=f:=Nat.eq_of_beq_eq_true h3.2
 subst h5
 dsimp only at h2
 subst h2
 exact fun σ w vs hw hv=>h.sg _ h3.1 σ w vs hw (subs_ok h4 hv)
theorem VTs.evals {c:Ctx} {σ:S} {a:Act} {Γ:Env} (xs:List Operand) (h : ∀ x∈xs,VT σ (a.eval x) (ty c.gt Γ x)):VTs σ (xs.map a.eval) (xs.map (ty c.gt Γ)):=by
 refine ⟨by simp,fun i τ hi => ?_⟩
 rw [List.getElem?_map,Option.map_eq_some_iff] at hi
 obtain ⟨x,hx,rfl⟩:=hi
 exact ⟨a.eval x,by rw [List.getElem?_map,hx]; rfl,h x (List.mem_of_getElem? hx)⟩
noncomputable def aLen (c:Ctx) (Γ:Env) (x:Operand) (t:TypeId):Option T :=
 match c.t t with
  | some i=>if i.sl.isSome then lenT (ty c.gt Γ x) else none
  | none=>none
def aMin (x y:T):Option T :=
 match x,y with
  | .int k a b,.int k' a' b'=>if k=k' then some (.int k (min a a') (min b b')) else none
  | _,_=>none
def aCopy (c:Ctx) (t:TypeId) (x y:T):Option T :=
 match c.t t,x with
  | some i,.ss true (.int .u8) a b=>if i.sl=some 1∧b≤1000000∧sub y (.sl 1)=true then some (.int .i64 0 1000000) else none
  | _,_=>none
def dstK (κs:List K) (x:T):Option (Nat×Nat) :=
 match x with
  | .nl=>some (0,0)
  | .ow κs' a b=>if κs'=κs then some (a,b) else none
  | _=>none
def srcK (y:T):Option (List K×Nat×Nat) :=
 match y with
  | .ow κs a b=>some (κs,a,b)
  | .ss _ κ a b=>some ([κ],a,b)
  | .sl n=>if n=1 then some ([.int .u8],0,1000000) else none
  | _=>none
def aAppend (c:Ctx) (t t':TypeId) (x y:T):Option T :=
 match c.t t with
  | some i=>match srcK y with
    | some (κs,a',b')=>match dstK κs x with
      | some (a,b)=>if t=t'∧i.sl=some κs.length∧0<κs.length∧kle i.slz κs=true∧b+b'≤100000000 then some (.ow κs (a+a') (b+b')) else none
      | none=>none
    | none=>none
  | none=>none
noncomputable def aCall (c:Ctx) (Γ:Env) (f:Callee) (args:List Operand) (ts:List TypeId):Option T :=
 match f with
  | .value x=>match x with
    | .func f=>c.s f (args.map (ty c.gt Γ))
    | _=>none
  | .builtin b=>match args with
    | [x]=>match b,ts with
      | .len,[t]=>aLen c Γ x t
      | _,_=>none
    | [x,y]=>match b,ts with
      | .min,_=>aMin (ty c.gt Γ x) (ty c.gt Γ y)
      | .copy,[t,_]=>aCopy c t (ty c.gt Γ x) (ty c.gt Γ y)
      | .append,[t,t']=>aAppend c t t' (ty c.gt Γ x) (ty c.gt Γ y)
      | _,_=>none
    | _=>none
  | _=>none
noncomputable def aStore (c:Ctx) (Γ:Env) (t:TypeId) (x v:Operand):Option T :=
 match c.t t with
  | some i=>match knd (ty c.gt Γ v) with
    | some ks=>match ty c.gt Γ x with
      | .ptr true l off=>if ks.length=i.size∧kle ks (seg l off ks.length)=true∧off+ks.length≤l.length then some .any else none
      | .pk true κ n=>if i.size=1∧1≤n∧kle ks [κ]=true then some .any else none
      | _=>none
    | none=>none
  | none=>none
noncomputable def absC (c:Ctx) (Γ:Env) (o:Op):Option T :=
 match o with
 | .call k=>aCall c Γ k.callee k.args.toList k.argTypes.toList
 | .store t x v=>aStore c Γ t x v
 | o=>absOp c Γ o
section
variable {c:Ctx} {σ:S} {w:World} {a:Act} {Γ:Env}
theorem wp_of_value {o:Oper} {K:Act→World→Prop} {Q:Exit→Act→World→Prop} {v:Value} {w':World} (h:(execOp a.eval o).run c.P w = .ok (.value v) w') (hK:K (a.put o.dst v) w'):o.wp c.P a w K Q:=by
 unfold Oper.wp
 rw [h]
 exact hK
theorem wp_of_skip {o:Oper} {K:Act→World→Prop} {Q:Exit→Act→World→Prop} {w':World} (h:(execOp a.eval o).run c.P w = .ok .skip w') (hK:K (a.put o.dst undef) w'):o.wp c.P a w K Q:=by
 unfold Oper.wp
 rw [h]
 exact hK
theorem run_v {s:Sem Value} {v:Value} {w':World} (h:s.run c.P w = .ok v w'):((do pure (.value (← s)):Sem Next)).run c.P w = .ok (.value v) w':=by
 rw [Sem.run_bind,h]
 rfl
theorem dstK_ok {κs:List K} {x:T} {lo hi:Nat} (h:dstK κs x=some (lo,hi)) {v:Value} (hv:VT σ v x):OW σ v κs lo hi:=by
 unfold dstK at h
 split at h
 · cases h; exact .inl ⟨hv,rfl⟩
 ·split at h
  · rename_i e; cases h; subst e; exact hv
  · cases h
 · cases h
theorem srcK_ok {κs:List K} {y:T} {lo hi:Nat} (h:srcK y=some (κs,lo,hi)) {v:Value} (hv:VT σ v y):OW σ v κs lo hi ∨ ∃ m κ,κs = [κ]∧SS σ v m κ lo hi:=by
 unfold srcK at h
 split at h
 · cases h; exact .inl hv
 · rename_i m κ a b; cases h; exact .inr ⟨m,κ,rfl,hv⟩
 ·split at h
  · rename_i e; cases h; subst e; exact .inr ⟨false,_,rfl,SL.ss hv⟩
  · cases h
 · cases h
set_option maxHeartbeats 2000000 in
theorem op_ok (hc:c.Ok) (hw:WT c.gt σ w) (o:Oper) (hx : ∀ x∈o.op.operands,VT σ (a.eval x) (ty c.gt Γ x)) {τ:T} (h:absC c Γ o.op=some τ) {K:Act→World→Prop} {Q:Exit→Act→World→Prop}
 (hK : ∀ v σ' w',Go1 σ σ' w w'→WT c.gt σ' w'→VT σ' v τ→K (a.put o.dst v) w'):o.wp c.P a w K Q:=by
 have val : ∀ {s:Sem Value},(execOp a.eval o)=(do pure (.value (← s)):Sem Next)→Yl c σ w s τ→o.wp c.P a w K Q:=by
  intro s he ⟨v,w',hr,σ',h1,h2,h3⟩
  exact wp_of_value (by rw [he]; exact run_v hr) (hK v σ' w' h1 h2 h3)
 have stay : ∀ {v:Value},(execOp a.eval o).run c.P w = .ok (.value v) w→VT σ v τ→o.wp c.P a w K Q:=fun he hv=>wp_of_value he (hK _ σ w (Go1.refl _ _) hw hv)
 obtain ⟨dst,op,type,pos,after,guard⟩:=o
 cases op
 case move x=>cases h; exact stay rfl (hx x (by simp [Op.operands]))
 case assign x=>cases h; exact stay rfl (hx x (by simp [Op.operands]))
 case pick x y z =>
  have h1:=hx x (by simp [Op.operands])
  have h2:=hx y (by simp [Op.operands])
  have h3:=hx z (by simp [Op.operands])
  simp only [absC,absOp,aPick] at h
  split at h
  ·rename_i hb
   cases h
   rw [hb] at h1
   have h1:a.eval x = .bool true:=h1
   exact stay (v:=a.eval y) (by simp [execOp,h1,asBool]) h2
  ·rename_i hb
   cases h
   rw [hb] at h1
   have h1:a.eval x = .bool false:=h1
   exact stay (v:=a.eval z) (by simp [execOp,h1,asBool]) h3
  · cases h
 case alloc t =>
  simp only [absC,absOp,Option.map_eq_some_iff] at h
  obtain ⟨i,hi,rfl⟩:=h
  obtain ⟨it,z,d,hit,hsz,hz,hzk,hu,hr⟩:=(hc.t hi).info
  have hzk':CT σ z.cells.toList i.zero:=hzk.mono (Le.nil _)
  refine val (s:=Instr.alloc t true (.tuple #[])) rfl ?_
  have:=box_ok hw t hzk' (CT_pl (fun _=>rfl) hzk)
  obtain ⟨v,w',h1,h2⟩:=this
  exact ⟨v,w',by simpa [Instr.alloc,zeroValue,run_typeInfo w hit,hz,Instr.box] using h1,h2⟩
 case box t x =>
  simp only [absC,absOp,Option.map_eq_some_iff] at h
  obtain ⟨l,hl,rfl⟩:=h
  exact val (s:=Instr.box t (a.eval x)) rfl (box_ok hw t (knd_ok (hx x (by simp [Op.operands])) hl) (knd_pl hl))
 case build t ps =>
  simp only [absC,absOp,aBuild] at h
  split at h
  ·rename_i i qs hi hq
   refine val (s:=Instr.build t (ps.map fun (p:Nat×Operand)=>(p.1,a.eval p.2))) ?_ (build_ok hc hw hi (fun p hp=>hx p.2 (by simp only [Op.operands,List.mem_toArray,List.mem_map]; exact ⟨p,hp,rfl⟩)) hq h)
   rfl
  · cases h
 case load t x =>
  simp only [absC,absOp,aLoad] at h
  have h1:=hx x (by simp [Op.operands])
  split at h
  ·rename_i i hi
   split at h
   ·rename_i m l off hp
    rw [hp] at h1
    exact val (s:=Instr.loadAt t (a.eval x)) rfl (load_ok hc hw hi h1 h)
   ·rename_i m κ n hp
    rw [hp] at h1
    exact val (s:=Instr.loadAt t (a.eval x)) rfl (pk_load hc hw hi h1 h)
   ·rename_i m ks hp
    rw [hp] at h1
    exact val (s:=Instr.loadAt t (a.eval x)) rfl (pr_load hc hw hi h1 h)
   · cases h
  · cases h
 case nilCheck x =>
  simp only [absC,absOp,aNil] at h
  have h1:=hx x (by simp [Op.operands])
  split at h
  ·rename_i m l off hp
   rw [hp] at h1
   cases h
   obtain ⟨b,m',e,hb,hm⟩:=h1
   exact stay (v:=a.eval x) (by simp [execOp,e]) ⟨b,m',e,hb,hm⟩
  ·rename_i m κ n hp
   rw [hp] at h1
   cases h
   obtain ⟨p,m',l,e,hr⟩:=h1
   exact stay (v:=a.eval x) (by simp [execOp,e]) ⟨p,m',l,e,hr⟩
  ·rename_i m ks hp
   rw [hp] at h1
   cases h
   obtain ⟨p,m',l,e,hr⟩:=h1
   exact stay (v:=a.eval x) (by simp [execOp,e]) ⟨p,m',l,e,hr⟩
  · cases h
 case slice t x lw hg mx =>
  simp only [absC,absOp,aSlice] at h
  cases mx with
  | some _=>simp at h
  | none =>
    simp only at h
    have h1:=hx x (by simp [Op.operands])
    have hb : ∀ (y:Option Operand) (d k:Nat),bnd c Γ y d=some k→(∀ z,y=some z→VT σ (a.eval z) (ty c.gt Γ z))→(y.map a.eval=none∧k=d) ∨ ∃ q,y.map a.eval=some (.int q k):=by
     intro y d k hk hz
     cases y with
     | none=>simp [bnd] at hk; exact .inl ⟨rfl,hk.symm⟩
     | some z =>
       have hz:=hz z rfl
       simp only [bnd] at hk
       split at hk
       ·rename_i q lo hi hp
        rw [hp] at hz
        split at hk
        ·rename_i he
         cases hk
         obtain ⟨n,hn,g1,g2⟩:=hz
         refine .inr ⟨q,?_⟩
         rw [Option.map_some,hn]
         congr 2
         omega
        · cases hk
       · cases hk
    split at h
    ·rename_i i m l off hi hp
     rw [hp] at h1
     split at h
     ·rename_i n es ha
      split at h
      ·rename_i lo hi' e1 e2
       split at h
       ·rename_i hh
        obtain ⟨rfl,h2,h3,h4⟩:=hh
        have k1:=hb lw 0 lo e1 (fun z hz=>hx z (by subst hz; simp [Op.operands]))
        have k2:=hb hg n hi' e2 (fun z hz=>hx z (by subst hz; simp [Op.operands]))
        exact val (s:=Instr.sliceAt t (a.eval x) (lw.map a.eval) (hg.map a.eval) none) rfl (arrslice_ok hc hw hi ha h1 _ _ k1 k2 h2 h3 h4 h)
       · cases h
      · cases h
     · cases h
    · cases h
 case sliceToArrayPointer t x =>
  simp only [absC,absOp,aArr] at h
  have h1:=hx x (by simp [Op.operands])
  split at h
  ·rename_i i m κ lo hi' hi hp
   rw [hp] at h1
   split at h
   ·rename_i n ha
    split at h
    ·rename_i hh
     cases h
     exact val (s:=Instr.arrayAt t (a.eval x)) rfl (toarr_ok hc hw hi ha h1 hh.1 hh.2)
    · cases h
   · cases h
  · cases h
 case makeSlice t x y =>
  simp only [absC,absOp,aMake] at h
  have h1:=hx x (by simp [Op.operands])
  have h2:=hx y (by simp [Op.operands])
  split at h
  ·rename_i i k lo hi' k' lo' hi2 hi hp hq
   rw [hp] at h1
   rw [hq] at h2
   split at h
   ·rename_i κ hz
    split at h
    ·rename_i hh
     obtain ⟨hsl,rfl,rfl,rfl,h3,h4⟩:=hh
     cases h
     obtain ⟨n,hn,g1,g2⟩:=h1
     obtain ⟨n',hn',g3,g4⟩:=h2
     obtain rfl:n=lo:=by omega
     obtain rfl:n'=n:=by omega
     refine val (s:=Instr.makeSlice t (a.eval x) (a.eval y)) rfl ?_
     rw [hn,hn']
     exact make_ok hc hw hi hsl hz h3 h4
    · cases h
   · cases h
  · cases h
 case buildSlice t n ps =>
  simp only [absC,absOp,aBuildS] at h
  split at h
  ·rename_i i qs hi hq
   have hxs : ∀ p∈ps.toList,VT σ (a.eval p.2) (ty c.gt Γ p.2):=fun p hp=>hx p.2 (by simp only [Op.operands,List.mem_toArray,List.mem_map]; exact ⟨p,hp,rfl⟩)
   split at h
   ·rename_i es hsl
    refine val (s:=Instr.buildSlice t n (ps.map fun (p:Nat×Operand)=>(p.1,a.eval p.2))) ?_ (bs_ok hc hw hi hsl hxs hq h)
    rfl
   · cases h
  · cases h
 case store t x v =>
  simp only [absC,aStore] at h
  have h1:=hx x (by simp [Op.operands])
  have h2:=hx v (by simp [Op.operands])
  split at h
  ·rename_i i hi
   split at h
   ·rename_i ks hk
    split at h
    ·rename_i l off hp
     rw [hp] at h1
     split at h
     ·rename_i hh
      cases h
      have hls:(seg l off ks.length).length=ks.length:=by unfold seg; simp; omega
      obtain ⟨w',hr,g1,g2⟩:=store_ok hc hw hi h1 (kle_ok hh.2.1 (knd_ok h2 hk)) (by rw [hls]; exact hh.1) (by rw [hls]) (by rw [hls]; exact hh.2.2) (kle_nw hh.2.1)
      refine wp_of_skip (w':=w') ?_ (hK undef σ w' g1 g2 trivial)
      show ((do Instr.storeAt t (a.eval x) (a.eval v); pure .skip:Sem Next)).run c.P w=_
      rw [Sem.run_bind,hr]
      rfl
     · cases h
    ·rename_i κ n hp
     rw [hp] at h1
     split at h
     ·rename_i hh
      cases h
      obtain ⟨w',hr,g1,g2⟩:=pk_store hc hw hi h1 (kle_ok hh.2.2 (knd_ok h2 hk)) hh.1 hh.2.1 (kle_nw hh.2.2)
      refine wp_of_skip (w':=w') ?_ (hK undef σ w' g1 g2 trivial)
      show ((do Instr.storeAt t (a.eval x) (a.eval v); pure .skip:Sem Next)).run c.P w=_
      rw [Sem.run_bind,hr]
      rfl
     · cases h
    · cases h
   · cases h
  · cases h
 case fieldAddr t x f =>
  simp only [absC,absOp,aField] at h
  have h1:=hx x (by simp [Op.operands])
  split at h
  ·rename_i i m l off hi hp
   rw [hp] at h1
   split at h
   ·rename_i L hL
    split at h
    ·rename_i o' sz hf
     split at h
     · cases h
     ·rename_i hs
      cases h
      exact val (s:=Instr.fieldAt t (a.eval x) f) rfl (field_ok hc hw hi h1 hL hf hs)
    · cases h
   · cases h
  · cases h
 case indexAddr t x y =>
  simp only [absC,absOp,aIdxA] at h
  have h1:=hx x (by simp [Op.operands])
  have h2:=hx y (by simp [Op.operands])
  refine val (s:=Instr.indexAt t (a.eval x) (a.eval y)) rfl ?_
  split at h
  ·rename_i i hi
   split at h
   ·rename_i k lo hi' hq
    rw [hq] at h2
    obtain ⟨j,hj,h3,h4⟩:=h2
    rw [hj]
    split at h
    ·rename_i m l off hp
     rw [hp] at h1
     unfold aIdxP at h
     split at h
     ·rename_i n es r ha
      split at h
      ·rename_i hh
       cases h
       obtain rfl:j=lo:=by omega
       exact idx_ok hc hw hi h1 ha hh.2.1 hh.2.2
      · cases h
     · cases h
    ·rename_i m κ lw' hw' hp
     rw [hp] at h1
     unfold aIdxS at h
     split at h
     ·rename_i hh
      cases h
      exact slidx_ok hc hw hi hh.1 h1 (by omega) (by omega)
     · cases h
    ·rename_i κs lw' hw' hp
     rw [hp] at h1
     unfold aIdxO at h
     split at h
     ·unfold aIdxS at h
      split at h
      ·rename_i hh
       cases h
       exact slidx_ok hc hw hi hh.1 (OW.ss h1) (by omega) (by omega)
      · cases h
     ·split at h
      ·rename_i hh
       cases h
       exact owidx_ok hc hw hi hh.1 h1 (by omega) (by omega)
      · cases h
    · cases h
   · cases h
  · cases h
 case index t x y =>
  simp only [absC,absOp,aIndex] at h
  have h1:=hx x (by simp [Op.operands])
  have h2:=hx y (by simp [Op.operands])
  refine val (s:=Instr.index t (a.eval x) (a.eval y)) rfl ?_
  split at h
  ·rename_i i hi
   split at h
   ·rename_i l hp
    rw [hp] at h1
    split at h
    ·rename_i k lo hi' hq
     rw [hq] at h2
     split at h
     ·rename_i n es r ha
      split at h
      ·rename_i hh
       obtain ⟨j,hj,h3,h4⟩:=h2
       obtain rfl:j=lo:=by omega
       rw [hj]
       exact index_ok hc hw hi h1 ha hh.2.1 hh.2.2 h
      · cases h
     · cases h
    · cases h
   · cases h
  · cases h
 case binOp op t x y t' =>
  obtain ⟨v,h1,h2⟩:=bin_ok hc (w:=w) op t x y (hx x (by simp [Op.operands])) (hx y (by simp [Op.operands])) hw.rho (by simpa [absC,absOp] using h)
  exact val (s:=(do eqGuard op t x y (a.eval x) (a.eval y); binOp op t (a.eval x) (a.eval y))) rfl ⟨v,w,h1,.stay hw h2⟩
 case unOp op t x =>
  simp only [absC,absOp,aUn] at h
  have h1:=hx x (by simp [Op.operands])
  refine val (s:=Op.unary op (a.eval x)) rfl ?_
  split at h
  ·split at h
   ·rename_i k lo hi hp
    rw [hp] at h1
    obtain ⟨n,hn,h3,h4⟩:=h1
    cases h
    rw [hn]
    refine ⟨_,w,rfl,.stay hw ?_⟩
    split
    ·rename_i he
     obtain rfl:n=lo:=by omega
     exact cst_ok σ k _
    · exact full_ok σ k _
   · cases h
  ·split at h
   ·rename_i k lo hi hp
    rw [hp] at h1
    obtain ⟨n,hn,h3,h4⟩:=h1
    cases h
    rw [hn]
    exact ⟨_,w,rfl,.stay hw (full_ok σ k _)⟩
   · cases h
  ·split at h
   ·rename_i b hp
    rw [hp] at h1
    have h1:a.eval x = .bool b:=h1
    cases h
    rw [h1]
    exact ⟨_,w,rfl,.stay hw rfl⟩
   ·rename_i hp
    rw [hp] at h1
    obtain ⟨b,hb⟩:=h1
    cases h
    rw [hb]
    exact ⟨_,w,rfl,.stay hw ⟨_,rfl⟩⟩
   · cases h
  · cases h
 case convert t t' x =>
  simp only [absC,absOp,aConv] at h
  have h1:=hx x (by simp [Op.operands])
  refine val (s:=convert t t' (a.eval x)) rfl ?_
  split at h
  ·rename_i i0 hi0
   split at h
   ·rename_i i hi'
    have cs : ∀ {m:Bool} {κ:Ab.K} {lo hi:Nat},aConvS i0 i κ=some τ→SS σ (a.eval x) m κ lo hi→Yl c σ w (convert t t' (a.eval x)) τ:=by
     intro m κ lo hi h hs
     unfold aConvS at h
     split at h
     ·rename_i hh
      obtain ⟨hst,hsl,hz,rfl⟩:=hh
      cases h
      exact conv_ok hc hw hi0 hi' hst hsl hz hs
     · cases h
    split at h
    ·rename_i k lo hi hp
     rw [hp] at h1
     obtain ⟨n,hn,h3,h4⟩:=h1
     rw [Option.map_eq_some_iff] at h
     obtain ⟨k',hk',rfl⟩:=h
     obtain ⟨_,_,d0,_,_,_,_,hu0,_⟩:=(hc.t hi0).info
     have hu:=(hc.t hi').int k' hk'
     rw [hn]
     refine ⟨.int k' (k'.wrap n),w,?_,.stay hw ?_⟩
     · simp [convert,run_underlying hu0,run_underlying hu,Conv.intToInt]
     ·split
      ·rename_i he
       rw [wrap_same k' n (by omega) (by omega)]
       exact ⟨n,rfl,h3,h4⟩
      · exact full_ok σ k' _
    ·rename_i n hp
     rw [hp] at h1
     split at h
     · rename_i e; subst e; exact cs h (SL.ss h1)
     · cases h
    ·rename_i m κ lo hi hp
     rw [hp] at h1
     exact cs h h1
    ·rename_i κs lo hi hp
     rw [hp] at h1
     split at h
     · exact cs h (OW.ss h1)
     · cases h
    · cases h
   · cases h
  · cases h
 case extract x n =>
  simp only [absC,absOp,aExtract] at h
  have h1:=hx x (by simp [Op.operands])
  refine val (s:=Instr.extract (a.eval x) n) rfl ?_
  split at h
  ·rename_i t1 t2 hp
   rw [hp] at h1
   obtain ⟨u,v,e,hu,hv⟩:=h1
   split at h
   · cases h; rw [e]; exact ⟨u,w,rfl,.stay hw hu⟩
   · cases h; rw [e]; exact ⟨v,w,rfl,.stay hw hv⟩
   · cases h
  ·rename_i t1 t2 t3 hp
   rw [hp] at h1
   obtain ⟨u,v,y,e,hu,hv,hy⟩:=h1
   split at h
   · cases h; rw [e]; exact ⟨u,w,rfl,.stay hw hu⟩
   · cases h; rw [e]; exact ⟨v,w,rfl,.stay hw hv⟩
   · cases h; rw [e]; exact ⟨y,w,rfl,.stay hw hy⟩
   · cases h
  · cases h
 case call k =>
  obtain ⟨callee,args,argTypes⟩:=k
  simp only [absC] at h
  unfold aCall at h
  split at h
  ·split at h
   ·rename_i f
    have hsig:=hc.s h
    have hargs:VTs σ (args.map a.eval).toList (args.toList.map (ty c.gt Γ)):=by
     rw [Array.toList_map]
     exact VTs.evals _ (fun x hm=>hx x (by simp [Op.operands,Call.operands]; exact .inr (by simpa using hm)))
    have he:(execOp a.eval {dst:=dst,op := .call {callee := .value (.func f),args:=args,argTypes:=argTypes},type:=type,pos:=pos,after:=after,guard:=guard}).run c.P w=(callFunc f (args.map a.eval)).run c.P w:=by
     simp [execOp,resolve,Deferred.ofValue,Act.eval,invoke]
    rcases hsig σ w (args.map a.eval) hw hargs with ⟨v,w',hr,σ',g1,g2,g3⟩ | ⟨hr,hcall⟩
    · exact wp_of_value (he.trans hr) (hK v σ' w' g1 g2 g3)
    ·unfold Oper.wp
     rw [he,hr]
     refine Calls.mono hcall (fun e w' hh => ?_)
     obtain ⟨v,rfl,σ',g1,g2,g3⟩:=hh
     exact hK v σ' w' g1 g2 g3
   · cases h
  ·rename_i b
   split at h
   ·rename_i x h1
    have ha:args = #[x]:=by rw [← Array.toArray_toList (xs:=args),h1]
    subst ha
    split at h
    ·rename_i t h2
     have ht:argTypes = #[t]:=by rw [← Array.toArray_toList (xs:=argTypes),h2]
     subst ht
     unfold aLen at h
     split at h
     ·rename_i i hi
      split at h
      ·rename_i hsl
       obtain ⟨v,w',hr,hans⟩:=len_ok (ty:=type) hc hw hi hsl (hx x (by simp [Op.operands,Call.operands])) h
       obtain ⟨σ',g1,g2,g3⟩:=hans
       refine wp_of_value (v:=v) (w':=w') ?_ (hK v σ' w' g1 g2 g3)
       simp [execOp,resolve,invoke,builtin,hr]
      · cases h
     · cases h
    · cases h
   ·rename_i x y h1
    have ha:args = #[x,y]:=by rw [← Array.toArray_toList (xs:=args),h1]
    subst ha
    have hvx:=hx x (by simp [Op.operands,Call.operands])
    have hvy:=hx y (by simp [Op.operands,Call.operands])
    split at h
    ·unfold aMin at h
     split at h
     ·rename_i k lo hi k' lo' hi' hp hq
      rw [hp] at hvx
      rw [hq] at hvy
      split at h
      ·rename_i hk
       subst hk
       cases h
       obtain ⟨n,e1,g1,g2⟩:=hvx
       obtain ⟨m,e2,g3,g4⟩:=hvy
       refine wp_of_value (v := .int k (if m<n then m else n)) (w':=w) ?_ (hK _ σ w (Go1.refl _ _) hw ⟨_,rfl,by split <;> omega,by split <;> omega⟩)
       simp [execOp,resolve,invoke,builtin,e1,e2,run_min_int2]
      · cases h
     · cases h
    ·rename_i t t' h2
     have ht:argTypes = #[t,t']:=by rw [← Array.toArray_toList (xs:=argTypes),h2]
     subst ht
     unfold aCopy at h
     split at h
     ·rename_i i lo hi' hi hp
      rw [hp] at hvx
      split at h
      ·rename_i hh
       obtain ⟨hsl,hb,hsub⟩:=hh
       cases h
       obtain ⟨v,w',hr,hans⟩:=copy_ok (t':=t') (ty:=type) hc hw hi hsl hvx (sub_ok _ _ hvy hsub) hb
       obtain ⟨σ',g1,g2,g3⟩:=hans
       refine wp_of_value (v:=v) (w':=w') ?_ (hK v σ' w' g1 g2 g3)
       simp [execOp,resolve,invoke,builtin,hr]
      · cases h
     · cases h
    ·rename_i t t' h2
     have ht:argTypes = #[t,t']:=by rw [← Array.toArray_toList (xs:=argTypes),h2]
     subst ht
     unfold aAppend at h
     split at h
     ·rename_i i hi
      split at h
      ·rename_i κs lo' hi2 hs
       split at h
       ·rename_i lo hi' hd
        split at h
        ·rename_i hh
         obtain ⟨rfl,hsl,hk0,hz,hb⟩:=hh
         cases h
         obtain ⟨v,w',hr,hans⟩:=append_ok (ty:=type) hc hw hi hsl hk0 hz (dstK_ok hd hvx) (srcK_ok hs hvy) hb
         obtain ⟨σ',g1,g2,g3⟩:=hans
         refine wp_of_value (v:=v) (w':=w') ?_ (hK v σ' w' g1 g2 g3)
         simp [execOp,resolve,invoke,builtin,hr]
        · cases h
       · cases h
      · cases h
     · cases h
    · cases h
   · cases h
  · cases h
 all_goals (simp only [absC,absOp] at h; cases h)
end
end Ab
end Go.Proofs.YtfodadedkilgdaaGreatDoor
