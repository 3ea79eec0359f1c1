/- A part of the proof. Plain; no condition. -/
import Derived.Test.YtfodadedkilgdaaGreatDoorP9
import Derived.Test.YtfodadedkilgdaaGreatDoorP0
import Derived.LoopN
namespace Go.Proofs.YtfodadedkilgdaaGreatDoor
set_option linter.unusedVariables false
set_option linter.unusedSimpArgs false
open Go.RowKit Mem
namespace Rn
section
variable {α:Type}
def fN (n:Nat) (k:Nat→α):α:=match n with
 | 0=>k 0
 | m+1=>k (Nat.succ m)
def fI (n:Int) (k:Int→α):α:=match n with
 | .ofNat m=>fN m fun m=>k (.ofNat m)
 | .negSucc m=>fN m fun m=>k (.negSucc m)
def fY (y:Y) (k:Y→α):α:=match y with
 | .k n=>fN n fun n=>k (.k n)
 | .x o j=>fN o fun o=>fN j fun j=>k (.x o j)
def fYs (l:List Y) (k:List Y→α):α:=match l with
 | []=>k []
 | y::r=>fY y fun y=>fYs r fun r=>k (y::r)
def fC (c:Cap) (k:Cap→α):α:=match c with
 | .k n=>fN n fun n=>k (.k n)
 | .g n=>fN n fun n=>k (.g n)
def fV (x:V) (k:V→α):α:=match x with
 | .i q n=>fI n fun n=>k (.i q n)
 | .b true=>k (.b true)
 | .b false=>k (.b false)
 | .x o j=>fN o fun o=>fN j fun j=>k (.x o j)
 | .z o j=>fN o fun o=>fN j fun j=>k (.z o j)
 | .t l=>fYs l fun l=>k (.t l)
 | .np=>k .np
 | .p b o=>fN b fun b=>fN o fun o=>k (.p b o)
 | .ns=>k .ns
 | .s b o n c=>fN b fun b=>fN o fun o=>fN n fun n=>fC c fun c=>k (.s b o n c)
 | .se b o c l s=>fN b fun b=>fN o fun o=>fC c fun c=>fN l fun l=>fN s fun s=>k (.se b o c l s)
 | .nm=>k .nm
 | .m b=>fN b fun b=>k (.m b)
 | .nf=>k .nf
 | .f n=>fN n fun n=>k (.f n)
def fVs (l:List V) (k:List V→α):α:=match l with
 | []=>k []
 | x::r=>fV x fun x=>fVs r fun r=>k (x::r)
def fO (x:O) (k:O→α):α:=match x with
 | .v x=>fV x fun x=>k (.v x)
 | .a l=>fVs l fun l=>k (.a l)
def fOs (l:List O) (k:List O→α):α:=match l with
 | []=>k []
 | x::r=>fO x fun x=>fOs r fun r=>k (x::r)
def fR (x:R) (k:R→α):α:=match x with
 | .o x=>fO x fun x=>k (.o x)
 | .t l=>fOs l fun l=>k (.t l)
 | .u=>k .u
def fEs (l:List (V×O×Nat)) (k:List (V×O×Nat)→α):α:=match l with
 | []=>k []
 | x::r=>fV x.1 fun a=>fO x.2.1 fun b=>fN x.2.2 fun n=>fEs r fun r=>k ((a,b,n)::r)
def fB (x:B) (k:B→α):α:=match x with
 | .l c t none=>fVs c fun c=>fN t fun t=>k (.l c t none)
 | .l c t (some e)=>fVs c fun c=>fN t fun t=>fN e fun e=>k (.l c t (some e))
 | .m es n=>fEs es fun es=>fN n fun n=>k (.m es n)
theorem fN_eq (n:Nat) (k:Nat→α):fN n k=k n:=by cases n <;> rfl
theorem fI_eq (n:Int) (k:Int→α):fI n k=k n:=by cases n <;> simp only [fI,fN_eq]
theorem fY_eq (y:Y) (k:Y→α):fY y k=k y:=by cases y <;> simp only [fY,fN_eq]
theorem fYs_eq : ∀ (l:List Y) (k:List Y→α),fYs l k=k l
 | [],_=>rfl
 | y::r,k=>by simp only [fYs,fY_eq,fYs_eq r]
theorem fC_eq (c:Cap) (k:Cap→α):fC c k=k c:=by cases c <;> simp only [fC,fN_eq]
theorem fV_eq (x:V) (k:V→α):fV x k=k x:=by
 cases x with
 | b x=>cases x <;> rfl
 | _=>simp only [fV,fN_eq,fI_eq,fYs_eq,fC_eq]
theorem fVs_eq : ∀ (l:List V) (k:List V→α),fVs l k=k l
 | [],_=>rfl
 | x::r,k=>by simp only [fVs,fV_eq,fVs_eq r]
theorem fO_eq (x:O) (k:O→α):fO x k=k x:=by cases x <;> simp only [fO,fV_eq,fVs_eq]
theorem fOs_eq : ∀ (l:List O) (k:List O→α),fOs l k=k l
 | [],_=>rfl
 | x::r,k=>by simp only [fOs,fO_eq,fOs_eq r]
theorem fR_eq (x:R) (k:R→α):fR x k=k x:=by cases x <;> simp only [fR,fO_eq,fOs_eq]
theorem fEs_eq : ∀ (l:List (V×O×Nat)) (k:List (V×O×Nat)→α),fEs l k=k l
 | [],_=>rfl
 | x::r,k=>by simp only [fEs,fV_eq,fO_eq,fN_eq,fEs_eq r]
theorem fB_eq (x:B) (k:B→α):fB x k=k x:=by
 cases x with
 | l c t e=>cases e <;> simp only [fB,fVs_eq,fN_eq]
 | m es n=>simp only [fB,fEs_eq,fN_eq]
noncomputable def Tr.toK {β:Type} (k:Nat):Tr β→Nat→Option β→(Tr β→α)→α :=
 Nat.rec (motive:=fun _=>Tr β→Nat→Option β→(Tr β→α)→α) (fun t _ _ K=>K t)
  (fun _ ih t n x K=>match Nat.beq n 0 with
   | true=>match t with
     | .nil=>K (.nd x .nil .nil)
     | .nd _ l r=>K (.nd x l r)
   | false=>match Nat.beq (Nat.mod n 2) 1 with
     | true=>match t with
       | .nil=>ih .nil (Nat.div n 2) x fun l=>K (.nd none l .nil)
       | .nd v l r=>ih l (Nat.div n 2) x fun l=>K (.nd v l r)
     | false=>match t with
       | .nil=>ih .nil (Nat.pred (Nat.div n 2)) x fun r=>K (.nd none .nil r)
       | .nd v l r=>ih r (Nat.pred (Nat.div n 2)) x fun r=>K (.nd v l r)) k
theorem Tr.toK_eq {β:Type} : ∀ (f:Nat) (t:Tr β) (n:Nat) (x:Option β) (k:Tr β→α),Tr.toK f t n x k=k (Tr.to f t n x)
 | 0,_,_,_,_=>rfl
 | f+1,t,n,x,k=>by
   have ih := @Tr.toK_eq β f
   rw [Tr.to_succ]
   show (match Nat.beq n 0 with
    | true=>match t with
      | .nil=>k (.nd x .nil .nil)
      | .nd _ l r=>k (.nd x l r)
    | false=>match Nat.beq (Nat.mod n 2) 1 with
      | true=>match t with
        | .nil=>Tr.toK f .nil (Nat.div n 2) x fun l=>k (.nd none l .nil)
        | .nd v l r=>Tr.toK f l (Nat.div n 2) x fun l=>k (.nd v l r)
      | false=>match t with
        | .nil=>Tr.toK f .nil (Nat.pred (Nat.div n 2)) x fun r=>k (.nd none .nil r)
        | .nd v l r=>Tr.toK f r (Nat.pred (Nat.div n 2)) x fun r=>k (.nd v l r))=_
   cases t <;> (cases Nat.beq n 0 <;> (try cases Nat.beq (Nat.mod n 2) 1) <;> simp only [ih] <;> rfl)
noncomputable def H.newK (h:H) (x:B) (k:H→α):α:=match h with
 | ⟨t,nx,ob,mr,wr,me⟩=>fB x fun x=>Tr.toK dp t nx (some x) fun t=>fN (nx+1) fun nx=>k ⟨t,nx,ob,mr,wr,me⟩
theorem H.newK_eq (h:H) (x:B) (k:H→α):h.newK x k=k (h.new x):=by
 obtain ⟨t,nx,ob,mr,wr,me⟩:=h
 simp only [H.newK,fB_eq,Tr.toK_eq,fN_eq]
 rfl
noncomputable def H.putK (h:H) (b:Nat) (x:Option B) (k:H→α):α:=match h with
 | ⟨t,nx,ob,mr,wr,me⟩=>fN b fun b=>Tr.toK dp t b x fun t=>match Nat.blt b mr with
   | true=>k ⟨t,nx,ob,mr,b::wr,me⟩
   | false=>k ⟨t,nx,ob,mr,wr,me⟩
theorem H.putK_eq (h:H) (b:Nat) (x:Option B) (k:H→α):h.putK b x k=k (h.put b x):=by
 obtain ⟨t,nx,ob,mr,wr,me⟩:=h
 simp only [H.putK,Tr.toK_eq,fN_eq,H.put]
 cases Nat.blt b mr <;> rfl
noncomputable def Dl.onK (d:Dl) (h:H) (k:H→α):α:=match d with
 | .no=>k h
 | .put b x=>fB x fun x=>h.putK b (some x) k
 | .new x=>h.newK x k
 | .app none x=>h.newK x k
 | .app (some b) x=>h.putK b none fun h=>h.newK x k
 | .obj n=>match h with
   | ⟨t,nx,ob,mr,wr,me⟩=>fN (ob+n) fun ob=>k ⟨t,nx,ob,mr,wr,me⟩
theorem Dl.onK_eq (d:Dl) (h:H) (k:H→α):d.onK h k=k (d.on h):=by
 cases d with
 | app b x=>cases b <;> simp only [Dl.onK,H.putK_eq,H.newK_eq,Dl.on,strike]
 | obj n=>obtain ⟨t,nx,ob,mr,wr,me⟩:=h; simp only [Dl.onK,fN_eq,Dl.on]
 | _=>simp only [Dl.onK,H.putK_eq,H.newK_eq,Dl.on,fB_eq]
noncomputable def putTK (tm:Tm) (d:Option Tmp) (r:R) (k:Tm→α):α:=match d with
 | some d=>Tr.toK dp tm d (some r) k
 | none=>k tm
theorem putTK_eq (tm:Tm) (d:Option Tmp) (r:R) (k:Tm→α):putTK tm d r k=k (putT tm d r):=by
 cases d <;> simp only [putTK,putT,Tr.toK_eq]
end
structure H.Ok (h:H):Prop where
 lt : ∀ b x,h.at b=some x→b<h.nx
 mr:h.mr≤h.nx
structure Ev (h h':H):Prop where
 nx:h.nx≤h'.nx
 ob:h.ob≤h'.ob
 mr:h'.mr=h.mr
 wr : ∀ b,b∈h.wr→b∈h'.wr
 ch : ∀ b,b<h.mr→b∉h'.wr→h'.at b=h.at b
 nw : ∀ b x,h'.at b=some x→(∃ y,h.at b=some y)∨(h.nx≤b∧b<h'.nx)
variable {c:Cx} {σ σ':Sg} {h h1 h' h'':H} {w w':World}
theorem Ev.refl (h:H):Ev h h:=⟨Nat.le_refl _,Nat.le_refl _,rfl,fun _ h=>h,fun _ _ _=>rfl,fun _ x hx => .inl ⟨x,hx⟩⟩
theorem Ev.trans (s:Ev h h') (t:Ev h' h''):Ev h h'' where
 nx:=Nat.le_trans s.nx t.nx
 ob:=Nat.le_trans s.ob t.ob
 mr:=t.mr.trans s.mr
 wr:=fun b hb=>t.wr b (s.wr b hb)
 ch:=fun b hb hn=>(t.ch b (s.mr ▸ hb) hn).trans (s.ch b hb fun e=>hn (t.wr b e))
 nw:=fun b x hx=>by
  rcases t.nw b x hx with ⟨y,hy⟩ | ⟨h1,h2⟩
  · exact (s.nw b y hy).imp id fun e=>⟨e.1,Nat.lt_of_lt_of_le e.2 t.nx⟩
  · exact .inr ⟨Nat.le_trans s.nx h1,h2⟩
theorem Ev.ok (s:Ev h h') (o:h.Ok):h'.Ok:=⟨fun b x hx=>by
 rcases s.nw b x hx with ⟨y,hy⟩ | h2
 · exact Nat.lt_of_lt_of_le (o.lt b y hy) s.nx
 · exact h2.2,by rw [s.mr]; exact Nat.le_trans o.mr s.nx⟩
theorem Ev.put (b:Nat) (x:Option B) (hx : ∀ z,x=some z → ∃ y,h.at b=some y):Ev h (h.put b x) where
 nx:=Nat.le_refl _
 ob:=Nat.le_refl _
 mr:=rfl
 wr:=fun k=>H.put_wr.1
 ch:=fun k h1 h2=>H.put_ne (H.put_wr.2 h1 h2)
 nw:=fun k z hz=>by
  rcases H.put_at hz with ⟨rfl,e⟩ | ⟨_,hz⟩
  · exact .inl (hx z e)
  · exact .inl ⟨z,hz⟩
theorem Ev.new (o:h.Ok) (x:B):Ev h (h.new x) where
 nx:=Nat.le_succ _
 ob:=Nat.le_refl _
 mr:=rfl
 wr:=fun _ h=>h
 ch:=fun b hb _=>H.new_ne (by have:=o.mr; omega)
 nw:=fun b y hy=>by
  rcases H.new_at hy with ⟨rfl,_⟩ | ⟨_,hy⟩
  · exact .inr ⟨Nat.le_refl _,Nat.lt_succ_self _⟩
  · exact .inl ⟨y,hy⟩
def Dl.Has (h:H):Dl→Prop
 | .put b _ => ∃ y,h.at b=some y
 | _=>True
theorem Ev.on (o:h.Ok) {d:Dl} (hd:d.Has h):Ev h (d.on h):=by
 cases d with
 | no=>exact Ev.refl _
 | put b x=>exact Ev.put b _ fun _ _=>hd
 | new x=>exact Ev.new o x
 | app k x =>
   cases k with
   | none=>exact Ev.new o x
   | some b =>
     have s:=Ev.put (h:=h) b none (fun _ h=>nomatch h)
     exact s.trans (Ev.new (s.ok o) x)
 | obj n=>exact ⟨Nat.le_refl _,Nat.le_add_right _ _,rfl,fun _ h=>h,fun _ _ _=>rfl,fun _ x hx => .inl ⟨x,hx⟩⟩
theorem keep_has {r:Option R} {x:R} {d:Dl} (e:keep r=some (x,d)):d.Has h:=by rw [(keep_some e).2]; trivial
theorem storeA_has {P:Program} {t b o:Nat} {x:O} {d:Dl} (e:storeA P h t b o x=some d):d.Has h:=by
 unfold storeA at e
 split at e
 ·rename_i hb
  split at e
  ·split at e
   · cases e; exact ⟨_,hb⟩
   · cases e
  · cases e
 · cases e
theorem builtA_has {P:Program} {b:Builtin} {ts:List TypeId} {l:List R} {r:R} {d:Dl} (e:builtA P h b ts l=some (r,d)):d.Has h:=by
 unfold builtA at e
 split at e
 ·unfold apA at e
  repeat' (split at e)
  all_goals first | (cases e; trivial; done) | (cases e; done)
 · exact keep_has e
 · exact keep_has e
 ·unfold cpA at e
  split at e
  ·split at e
   ·rename_i hb
    split at e
    ·split at e
     · cases e; exact ⟨_,hb⟩
     · cases e
    · cases e
   · cases e
  · cases e
 ·obtain ⟨d,h1,h2⟩:=Option.map_eq_some_iff.1 e
  cases h2
  unfold delA at h1
  split at h1
  ·split at h1
   ·rename_i hb
    split at h1
    · cases h1; exact ⟨_,hb⟩
    · cases h1; exact ⟨_,hb⟩
    · cases h1
   · cases h1
  · cases h1
 ·obtain ⟨d,h1,h2⟩:=Option.map_eq_some_iff.1 e
  cases h2
  unfold clA at h1
  split at h1
  · split at h1 <;> cases h1; trivial
  · split at h1 <;> cases h1; trivial
  ·split at h1
   · split at h1 <;> cases h1; trivial
   ·split at h1
    ·split at h1
     ·rename_i hb
      split at h1
      · cases h1; exact ⟨_,hb⟩
      · cases h1
     · cases h1
    · cases h1
  ·split at h1
   ·rename_i hb
    cases h1; exact ⟨_,hb⟩
   · cases h1
  · cases h1
 · cases e; trivial
 · cases e
theorem op1_has {P:Program} {ev:Operand→Option R} {o:Op} {r:R} {d:Dl} (e:op1 P h ev o=some (r,d)):d.Has h:=by
 cases o <;> dsimp only [op1] at e
 case alloc t=>obtain ⟨l,_,h2⟩:=Option.map_eq_some_iff.1 e; cases h2; trivial
 case box t x=>split at e <;> cases e; trivial
 case buildSlice t n ps =>
  split at e
  ·unfold bs0 at e
   split at e
   · split at e <;> cases e; trivial
   · cases e
  split at e
  ·unfold bsA at e
   split at e
   ·split at e
    ·split at e
     · obtain ⟨l,_,h2⟩:=Option.map_eq_some_iff.1 e; cases h2; trivial
     · cases e
    · cases e
   · cases e
  · cases e
 case store t x y =>
  split at e
  · exact storeA_has (ofU_some e).1
  · cases e
 case binOp op t x y t' =>
  split at e
  · obtain ⟨l,_,h2⟩:=Option.map_eq_some_iff.1 e; cases h2; trivial
  · cases e
 case convert s t x =>
  split at e
  ·unfold convA at e
   split at e
   · cases e; trivial
   · cases e; trivial
   · split at e <;> cases e; trivial
   ·split at e
    ·split at e
     · obtain ⟨l,_,h2⟩:=Option.map_eq_some_iff.1 e; cases h2; trivial
     · cases e
    · cases e
   · split at e <;> cases e; trivial
   ·split at e
    ·rename_i hb _
     cases e; exact ⟨_,hb⟩
    · cases e
   · cases e
  · cases e
 case makeMap t r'=>split at e <;> cases e; trivial
 case makeSlice t l k =>
  split at e
  ·unfold mkS at e
   split at e
   ·split at e
    · split at e <;> cases e; trivial
    · cases e
   · cases e
  · cases e
 case mapUpdate t m k x =>
  split at e
  ·have e:=(ofU_some e).1
   unfold upA at e
   split at e
   ·split at e
    ·rename_i hb
     split at e
     · cases e; exact ⟨_,hb⟩
     · cases e; exact ⟨_,hb⟩
     · cases e
    · cases e
   · cases e
  · cases e
 case call cl =>
  split at e
  ·split at e
   · exact builtA_has e
   · cases e
  · cases e
 case pick x a b=>split at e <;> first | exact keep_has e | cases e
 all_goals first | exact keep_has e | (split at e <;> first | exact keep_has e | cases e) | cases e
abbrev Nx:=Dl ⊕ H
@[reducible] noncomputable def Nx.on (x:Nx) (h:H):H:=match x with
 | .inl d=>d.on h
 | .inr h'=>h'
noncomputable def Nx.onK {α:Type} (x:Nx) (h:H) (k:H→α):α:=match x with
 | .inl d=>d.onK h k
 | .inr h'=>k h'
theorem Nx.onK_eq {α:Type} (x:Nx) (h:H) (k:H→α):x.onK h k=k (x.on h):=by cases x <;> simp only [Nx.onK,Nx.on,Dl.onK_eq]
abbrev Fs:=FuncId→List R→H→Option (R×H)
noncomputable def fcall (F:Fs) (h:H) (ev:Operand→Option R) (c:Call):Option (R×Nx):=match c.callee with
 | .value f=>match ev f,evs ev c.args.toList with
   | some (.o (.v (.f g))),some l=>match F g l h with
     | some (r,h')=>some (r,.inr h')
     | none=>none
   | _,_=>none
 | _=>none
noncomputable def stepA (P:Program) (F:Fs) (h:H) (ev:Operand→Option R) (o:Op):Option (R×Nx):=match op1 P h ev o with
 | some (r,d)=>some (r,.inl d)
 | none=>match o with
   | .call c=>fcall F h ev c
   | _=>none
structure FOk (c:Cx) (F:Fs):Prop where
 ev : ∀ f l h r h',F f l h=some (r,h')→h.Ok→Ev h h'
 run : ∀ f l h r h' σ w,F f l h=some (r,h')→h.Ok→Hs c σ h w→(∀ x∈l,x.df σ)→Fr σ h h' →
  (∀ args w,(callFunc f args).run c.P w = .ok (.enter f args) w)∧Calls c.P f (l.map (R.val σ)).toArray w fun e w' => ∃ σ' v,e = .returned v∧Hs c σ' h' w'∧St σ σ' h h' w w'∧v=r.val σ'∧r.df σ'
def Does (c:Cx) (σ:Sg) (h:H) (w:World) (o:Oper) (a:Act) (r:R) (h':H):Prop :=
 ∀ (next:Act→World→Prop) (Q:Exit→Act→World→Prop),(∀ σ' w' v,Hs c σ' h' w'→St σ σ' h h' w w'→v=r.val σ'→r.df σ'→next (a.put o.dst v) w')→o.wp c.P a w next Q
theorem Goes.does {o:Oper} {a:Act} {r:R} (g:Goes c σ h w (execOp a.eval o) r h'):Does c σ h w o a r h':=by
 obtain ⟨n,v,σ',w',e,hn,h1,h2,h3,h4⟩:=g
 intro next Q k
 unfold Oper.wp
 rw [e]
 rcases hn with rfl | ⟨rfl,rfl⟩
 · exact k σ' w' v h1 h2 h3 h4
 · exact k σ' w' undef h1 h2 h3 h4
theorem stepA_ev {F:Fs} (hF:FOk c F) {P:Program} {ev:Operand→Option R} {o:Op} {r:R} {x:Nx} (e:stepA P F h ev o=some (r,x)) (ok:h.Ok):Ev h (x.on h):=by
 unfold stepA at e
 split at e
 ·rename_i h1
  cases e
  exact Ev.on ok (op1_has h1)
 ·split at e
  ·unfold fcall at e
   split at e
   ·split at e
    ·split at e
     ·rename_i h2
      cases e
      exact hF.ev _ _ _ _ _ h2 ok
     · cases e
    · cases e
   · cases e
  · cases e
theorem stepA_ok {F:Fs} (hF:FOk c F) (hs:Hs c σ h w) (ok:h.Ok) {a:Act} {o:Oper} {ev:Operand→Option R} (hρ : ∀ x r,x∈o.op.operands→ev x=some r→a.eval x=r.val σ∧r.df σ) {r:R} {x:Nx} (e:stepA c.P F h ev o.op=some (r,x)) (hf:Fr σ h (x.on h)) :
 Does c σ h w o a r (x.on h):=by
 unfold stepA at e
 split at e
 ·rename_i h1
  cases e
  exact (op1_ok hs hρ h1 hf ok.mr).does
 ·split at e
  ·rename_i cl hop
   unfold fcall at e
   split at e
   ·rename_i f hcl
    split at e
    ·rename_i g l hg hl
     split at e
     ·rename_i r' h2 hFe
      cases e
      obtain ⟨k1,k2⟩:=evs_ok (σ:=σ) (ρ:=a.eval) (fun x r hx=>hρ x r (by rw [hop]; simp [Op.operands,Call.operands,hcl]; exact .inr (by simpa using hx))) hl
      obtain ⟨k3,_⟩:=hρ f _ (by rw [hop]; simp [Op.operands,Call.operands,hcl]) hg
      obtain ⟨q1,q2⟩:=hF.run _ _ _ _ _ σ w hFe ok hs k2 hf
      intro next Q k
      unfold Oper.wp
      have e2:(execOp a.eval o).run c.P w = .ok (.enter g (l.map (R.val σ)).toArray) w:=by
       have e3:cl.args.map a.eval=(l.map (R.val σ)).toArray:=by
        apply Array.ext'
        simpa using k1
       have:=q1 (l.map (R.val σ)).toArray w
       rw [← this]
       simp [execOp,hop,resolve,hcl,k3,R.val,O.val,V.val,Deferred.ofValue,invoke,e3]
      rw [e2]
      refine Calls.mono q2 fun e w' he => ?_
      obtain ⟨σ',v,rfl,g1,g2,g3,g4⟩:=he
      exact k σ' w' v g1 g2 g3 g4
     · cases e
    · cases e
   · cases e
  · cases e
noncomputable def wantR (ops:List Oper) (tm:Tm) (o:Oper):Option Bool:=match o.guard with
 | none=>some true
 | some (g,b)=>match (ops[g]?).bind (·.dst) with
   | some d=>match Tr.at dp tm d with
     | some (.o (.v (.b x)))=>some (x==b)
     | some .u=>some false
     | _=>none
   | none=>none
noncomputable def listR (P:Program) (F:Fs) (ops:List Oper):List Oper→Tm→H→Option (Tm×H)
 | [],tm,h=>some (tm,h)
 | o::r,tm,h=>match wantR ops tm o with
   | none=>none
   | some false=>putTK tm o.dst .u fun tm=>listR P F ops r tm h
   | some true=>match stepA P F h (ev tm) o.op with
     | none=>none
     | some (x,n)=>fR x fun x=>n.onK h fun h=>putTK tm o.dst x fun tm=>listR P F ops r tm h
theorem yielded_of {ops:List Oper} {tmps:Array Value} {g d:Nat} {v:Value} (hd:(ops[g]?).bind (·.dst)=some d) (hv:tmps[d]? = some v):yielded ops.toArray tmps g=match v with
 | .bool b=>some b
 | _=>none:=by
 unfold yielded
 have:(ops.toArray[g]?).bind (·.dst)=some d:=by simpa using hd
 rw [this]
 simp only [Option.bind_some,hv]
 cases v <;> rfl
theorem want_ok {ops:List Oper} {a:Act} {tm:Tm} {o:Oper} {b:Bool} (ht : ∀ g b,o.guard=some (g,b) → ∀ d r,(ops[g]?).bind (·.dst)=some d→Tr.at dp tm d=some r→d<a.tmps.size∧a.tmps.getD d undef=r.val σ) (h:wantR ops tm o=some b):Region.wanted o (yielded ops.toArray a.tmps)=b:=by
 unfold wantR at h
 unfold Region.wanted
 cases hg:o.guard with
 | none=>simp only [hg] at h ⊢; cases h; rfl
 | some gb =>
   obtain ⟨g,b'⟩:=gb
   simp only [hg] at h ⊢
   cases hd:(ops[g]?).bind (·.dst) with
   | none=>simp [hd] at h
   | some d =>
     simp only [hd] at h
     have key : ∀ r,Tr.at dp tm d=some r→a.tmps[d]? = some (r.val σ):=fun r hr=>by
      obtain ⟨h1,h2⟩:=ht g b' hg d r hd hr
      rw [Array.getD_eq_getD_getElem?,Array.getElem?_eq_getElem h1] at h2
      rw [Array.getElem?_eq_getElem h1]
      exact congrArg some h2
     split at h
     ·rename_i x hr
      cases h
      have:=yielded_of hd (key _ hr)
      rw [this]
      cases x <;> cases b' <;> rfl
     ·rename_i hr
      cases h
      have:=yielded_of hd (key _ hr)
      rw [this]
      rfl
     · cases h
theorem put_size {a:Act} {d:Option Tmp} {v:Value}:(a.put d v).tmps.size=a.tmps.size:=by cases d <;> simp [Act.put]
def dstsB (n:Nat) (l:List Oper):Bool:=l.all fun o=>match o.dst with
 | some d=>Nat.blt d n
 | none=>true
theorem listR_ev {P:Program} {F:Fs} (hF:FOk c F) {ops:List Oper} : ∀ {l:List Oper} {tm tm':Tm} {h h':H},listR P F ops l tm h=some (tm',h')→h.Ok→Ev h h'
 | [],tm,tm',h,h',e,ok=>by cases e; exact Ev.refl _
 | o::r,tm,tm',h,h',e,ok=>by
   unfold listR at e
   split at e
   · cases e
   · rw [putTK_eq] at e; exact listR_ev hF e ok
   ·split at e
    · cases e
    ·rename_i x n hst
     rw [fR_eq,Nx.onK_eq,putTK_eq] at e
     have s:=stepA_ev hF hst ok
     exact s.trans (listR_ev hF e (s.ok ok))
theorem list_ok {F:Fs} (hF:FOk c F) {ops:List Oper} {Q:Exit→Act→World→Prop} : ∀ {l:List Oper} {tm tm':Tm} {h h':H} {σ:Sg} {a:Act} {w:World},listR c.P F ops l tm h=some (tm',h')→h.Ok→dstsB a.tmps.size l=true→Hs c σ h w→Ty σ a tm→Fr σ h h' →
 (∀ σ' a' w',Hs c σ' h' w'→St σ σ' h h' w w'→Ty σ' a' tm'→a'.tmps.size=a.tmps.size→Q .normal a' w')→wpList c.P ops.toArray Q l a w
 | [],tm,tm',h,h',σ,a,w,e,ok,hd,hs,ht,hf,k=>by cases e; exact k σ a w hs (St.refl hs) ht rfl
 | o::r,tm,tm',h,h',σ,a,w,e,ok,hd,hs,ht,hf,k=>by
   unfold dstsB at hd
   rw [List.all_cons,Bool.and_eq_true] at hd
   have hdo : ∀ t,o.dst=some t→t<a.tmps.size:=fun t hto=>by
    have:=hd.1
    rw [hto] at this
    exact blt_ok this
   unfold listR at e
   split at e
   · cases e
   ·rename_i hw
    rw [putTK_eq] at e
    have hw':=want_ok (σ:=σ) (fun g b hg d r _ hr=>⟨(ht.get d r hr).1,(ht.get d r hr).2.1⟩) hw
    unfold wpList
    rw [hw']
    simp only [Bool.false_eq_true,if_false]
    refine list_ok hF e ok (by rw [put_size]; exact hd.2) hs (ht.put hdo rfl trivial) hf fun σ' a' w' k1 k2 k3 k4=>k σ' a' w' k1 k2 k3 (k4.trans put_size)
   ·rename_i hw
    split at e
    · cases e
    ·rename_i x n hst
     rw [fR_eq,Nx.onK_eq,putTK_eq] at e
     have hw':=want_ok (σ:=σ) (fun g b hg d r _ hr=>⟨(ht.get d r hr).1,(ht.get d r hr).2.1⟩) hw
     unfold wpList
     rw [hw']
     simp only [if_true]
     have s:=stepA_ev hF hst ok
     have s2:=listR_ev hF e (s.ok ok)
     refine .inl (stepA_ok hF hs ok (fun y r _ hy=>ht.ev hy) hst (hf.fst s2.nx s2.ob) _ _ fun σ1 w1 v h1 h2 h3 h4 => ?_)
     have ht1:Ty σ1 (a.put o.dst v) (putT tm o.dst x):=(ht.mono h2.le).put hdo h3 h4
     exact list_ok hF e (s.ok ok) (by rw [put_size]; exact hd.2) h1 ht1 (hf.snd h2) fun σ' a' w' k1 k2 k3 k4=>k σ' a' w' k1 (h2.trans k2) k3 (k4.trans put_size)
end Rn
end Go.Proofs.YtfodadedkilgdaaGreatDoor
namespace Go.Proofs.YtfodadedkilgdaaGreatDoor
namespace S5
open Sha (bt be be_length be_succ)
abbrev W64:=BitVec 64
def rd (A:List W64) (j:Nat):W64:=A.getD j 0
def sml (x:W64) (p q r:Nat):W64:=x.rotateRight p ^^^ x.rotateRight q ^^^ x >>> r
def bg (x:W64) (p q r:Nat):W64:=x.rotateRight p ^^^ x.rotateRight q ^^^ x.rotateRight r
def by64 (b:UInt8):W64:=BitVec.ofNat 64 b.toNat
def spread1 (l:List UInt8):Nat→List W64
 | 0=>List.replicate 80 0
 | k+1=>(spread1 l k).set (k / 8) ((rd (spread1 l k) (k / 8) <<< 8) ||| by64 (bt l k))
def next1 (A:List W64) (i:Nat):W64:=rd A i+sml (rd A (i+1)) 1 8 7+rd A (i+9)+sml (rd A (i+14)) 19 61 6
def spread2 (A:List W64):Nat→List W64
 | 0=>A
 | i+1=>(spread2 A i).set (16+i) (next1 (spread2 A i) i)
def spread (l:List UInt8):List W64:=spread2 (spread1 l 128) 64
def KKn:List Nat := [0x428a2f98d728ae22,0x7137449123ef65cd,0xb5c0fbcfec4d3b2f,0xe9b5dba58189dbbc,0x3956c25bf348b538,0x59f111f1b605d019,0x923f82a4af194f9b,0xab1c5ed5da6d8118,0xd807aa98a3030242,0x12835b0145706fbe,0x243185be4ee4b28c,0x550c7dc3d5ffb4e2,0x72be5d74f27b896f,0x80deb1fe3b1696b1,0x9bdc06a725c71235,0xc19bf174cf692694,0xe49b69c19ef14ad2,0xefbe4786384f25e3,0x0fc19dc68b8cd5b5,0x240ca1cc77ac9c65,0x2de92c6f592b0275,0x4a7484aa6ea6e483,0x5cb0a9dcbd41fbd4,0x76f988da831153b5,0x983e5152ee66dfab,0xa831c66d2db43210,0xb00327c898fb213f,0xbf597fc7beef0ee4,0xc6e00bf33da88fc2,0xd5a79147930aa725,0x06ca6351e003826f,0x142929670a0e6e70,0x27b70a8546d22ffc,0x2e1b21385c26c926,0x4d2c6dfc5ac42aed,0x53380d139d95b3df,0x650a73548baf63de,0x766a0abb3c77b2a8,0x81c2c92e47edaee6,0x92722c851482353b,0xa2bfe8a14cf10364,0xa81a664bbc423001,0xc24b8b70d0f89791,0xc76c51a30654be30,0xd192e819d6ef5218,0xd69906245565a910,0xf40e35855771202a,0x106aa07032bbd1b8,0x19a4c116b8d2d0c8,0x1e376c085141ab53,0x2748774cdf8eeb99,0x34b0bcb5e19b48a8,0x391c0cb3c5c95a63,0x4ed8aa4ae3418acb,0x5b9cca4f7763e373,0x682e6ff3d6b2b8a3,0x748f82ee5defb2fc,0x78a5636f43172f60,0x84c87814a1f0ab72,0x8cc702081a6439ec,0x90befffa23631e28,0xa4506cebde82bde9,0xbef9a3f7b2c67915,0xc67178f2e372532b,0xca273eceea26619c,0xd186b8c721c0c207,0xeada7dd6cde0eb1e,0xf57d4f7fee6ed178,0x06f067aa72176fba,0x0a637dc5a2c898a6,0x113f9804bef90dae,0x1b710b35131c471b,0x28db77f523047d84,0x32caab7b40c72493,0x3c9ebe0a15c9bebc,0x431d67c49c100d4c,0x4cc5d4becb3e42b6,0x597f299cfc657e2a,0x5fcb6fab3ad6faec,0x6c44198c4a475817]
def HHn:List Nat := [0x6a09e667f3bcc908,0xbb67ae8584caa73b,0x3c6ef372fe94f82b,0xa54ff53a5f1d36f1,0x510e527fade682d1,0x9b05688c2b3e6c1f,0x1f83d9abfb41bd6b,0x5be0cd19137e2179]
def KK:List W64:=KKn.map (BitVec.ofNat 64)
def HH:List W64:=HHn.map (BitVec.ofNat 64)
def tee (v W:List W64) (i:Nat):W64:=rd v 7+bg (rd v 4) 14 18 41+((rd v 4 &&& rd v 5) ^^^ (~~~rd v 4 &&& rd v 6))+rd KK i+rd W i
def you (v:List W64):W64:=bg (rd v 0) 28 34 39+((rd v 0 &&& rd v 1) ^^^ (rd v 0 &&& rd v 2) ^^^ (rd v 1 &&& rd v 2))
def rnd (v W:List W64) (i:Nat):List W64 := [tee v W i+you v,rd v 0,rd v 1,rd v 2,rd v 3+tee v W i,rd v 4,rd v 5,rd v 6]
def rnds (v W:List W64):Nat→List W64
 | 0=>v
 | i+1=>rnd (rnds v W i) W i
def addw (h v:List W64):Nat→List W64
 | 0=>h
 | i+1=>(addw h v i).set i (rd (addw h v i) i+rd v i)
def press (h:List W64) (l:List UInt8):List W64:=addw h (rnds h (spread l) 80) 8
theorem KK_length:KK.length=80:=rfl
theorem HH_length:HH.length=8:=rfl
theorem rnds_length (v W:List W64) (hv:v.length=8) (i:Nat):(rnds v W i).length=8:=by
 cases i with
 | zero=>exact hv
 | succ i=>rfl
theorem addw_length (h v:List W64) (i:Nat):(addw h v i).length=h.length:=by
 induction i with
 | zero=>rfl
 | succ i ih=>simp [addw,ih]
theorem press_length (h:List W64) (l:List UInt8):(press h l).length=h.length:=addw_length _ _ _
theorem spread1_length (l:List UInt8) (k:Nat):(spread1 l k).length=80:=by
 induction k with
 | zero=>simp [spread1]
 | succ k ih=>simp [spread1,ih]
theorem spread2_length (A:List W64) (k:Nat):(spread2 A k).length=A.length:=by
 induction k with
 | zero=>simp [spread2]
 | succ k ih=>simp [spread2,ih]
theorem spread_length (l:List UInt8):(spread l).length=80:=by simp [spread,spread2_length,spread1_length]
def pressN:Nat→List W64→List UInt8→List W64
 | 0,H,_=>H
 | n+1,H,l=>pressN n (press H l) (l.drop 128)
theorem pressN_length (n:Nat) : ∀ (H:List W64) (l:List UInt8),(pressN n H l).length=H.length:=by
 induction n with
 | zero=>intro H l; rfl
 | succ n ih=>intro H l; rw [pressN,ih,press_length]
theorem pressN_succ (n:Nat) : ∀ (H:List W64) (l:List UInt8),pressN (n+1) H l=press (pressN n H l) (l.drop (128*n)):=by
 induction n with
 | zero=>intro H l; simp [pressN]
 | succ n ih =>
   intro H l
   rw [pressN,ih,pressN,List.drop_drop,show 128+128*n=128*(n+1) by omega]
def zc (r:Nat):Nat:=(239-r%128)%128
def padz (R:List UInt8) (j:Nat):List UInt8:=R++128::List.replicate j 0
def pad (R:List UInt8):List UInt8:=padz R (zc R.length)++List.replicate 8 0++be (8*R.length) 8
def by8 (x:W64):UInt8:=UInt8.ofNat x.toNat
def eight (x:W64) (k:Nat):List UInt8:=(List.range k).map fun i=>by8 (x >>> (8*(7-i)))
def outb (W:List W64):List UInt8:=W.flatMap fun x=>eight x 8
def sum (l:List UInt8):List UInt8:=outb (pressN ((pad l).length / 128) HH (pad l))
theorem padz_succ (R:List UInt8) (j:Nat):padz R (j+1)=padz R j ++ [0]:=by
 unfold padz; rw [List.replicate_succ']; simp
theorem zc_spec (r:Nat):(r+1+zc r)%128=112:=by unfold zc; omega
theorem zc_first (r j:Nat) (h:(r+1+j)%128=112):zc r≤j:=by unfold zc; omega
theorem zc_le (r:Nat):zc r≤127:=by unfold zc; omega
theorem eight_length (x:W64) (k:Nat):(eight x k).length=k:=by simp [eight]
theorem outb_length (W:List W64):(outb W).length=8*W.length:=by
 induction W with
 | nil=>rfl
 | cons x W ih=>simp only [outb,List.flatMap_cons,List.length_append,List.length_cons,eight_length] at ih ⊢; rw [ih]; omega
theorem outb_append (V W:List W64):outb (V++W)=outb V++outb W:=by simp [outb]
theorem sum_length (l:List UInt8):(sum l).length=64:=by
 rw [sum,outb_length,pressN_length,HH_length]
end S5
end Go.Proofs.YtfodadedkilgdaaGreatDoor
namespace Go.Proofs.YtfodadedkilgdaaGreatDoor
set_option linter.unusedVariables false
set_option linter.unusedSimpArgs false
namespace Kr
open Rn (fN fN_eq)
open S5
open Sha (bt)
variable {α:Type}
def fW (x:W64) (k:W64→α):α:=fN x.toNat fun n=>k (BitVec.ofNat 64 n)
theorem fW_eq (x:W64) (k:W64→α):fW x k=k x:=by unfold fW; rw [fN_eq,BitVec.ofNat_toNat,BitVec.setWidth_eq]
def flW (l:List W64) (k:List W64→α):α:=match l with
 | []=>k []
 | a::r=>fW a fun a=>flW r fun r=>k (a::r)
theorem flW_eq : ∀ (l:List W64) (k:List W64→α),flW l k=k l
 | [],_=>rfl
 | a::r,k=>by simp only [flW,fW_eq,flW_eq r]
def fU (x:UInt8) (k:UInt8→α):α:=fN x.toNat fun n=>k (UInt8.ofNat n)
theorem fU_eq (x:UInt8) (k:UInt8→α):fU x k=k x:=by unfold fU; rw [fN_eq,UInt8.ofNat_toNat]
def flU (l:List UInt8) (k:List UInt8→α):α:=match l with
 | []=>k []
 | a::r=>fU a fun a=>flU r fun r=>k (a::r)
theorem flU_eq : ∀ (l:List UInt8) (k:List UInt8→α),flU l k=k l
 | [],_=>rfl
 | a::r,k=>by simp only [flU,fU_eq,flU_eq r]
noncomputable def sp1 (l:List UInt8) (k:Nat):(List W64→α)→α :=
 Nat.rec (motive:=fun _=>(List W64→α)→α) (fun K=>K (List.replicate 80 0))
  (fun k ih K=>ih fun A=>fW ((rd A (k / 8) <<< 8) ||| by64 (bt l k)) fun x=>flW (A.set (k / 8) x) K) k
theorem sp1_eq (l:List UInt8) (k:Nat) (K:List W64→α):sp1 l k K=K (spread1 l k):=by
 induction k generalizing K with
 | zero=>rfl
 | succ k ih =>
   show sp1 l k (fun A=>fW ((rd A (k / 8) <<< 8) ||| by64 (bt l k)) fun x=>flW (A.set (k / 8) x) K)=_
   rw [ih,fW_eq,flW_eq]
   rfl
noncomputable def sp2 (A:List W64) (k:Nat):(List W64→α)→α :=
 Nat.rec (motive:=fun _=>(List W64→α)→α) (fun K=>K A)
  (fun i ih K=>ih fun B=>fW (next1 B i) fun x=>flW (B.set (16+i) x) K) k
theorem sp2_eq (A:List W64) (k:Nat) (K:List W64→α):sp2 A k K=K (spread2 A k):=by
 induction k generalizing K with
 | zero=>rfl
 | succ k ih =>
   show sp2 A k (fun B=>fW (next1 B k) fun x=>flW (B.set (16+k) x) K)=_
   rw [ih,fW_eq,flW_eq]
   rfl
noncomputable def rn1 (v W:List W64) (k:Nat):(List W64→α)→α :=
 Nat.rec (motive:=fun _=>(List W64→α)→α) (fun K=>K v)
  (fun i ih K=>ih fun u=>fW (tee u W i) fun t=>fW (you u) fun y=>flW [t+y,rd u 0,rd u 1,rd u 2,rd u 3+t,rd u 4,rd u 5,rd u 6] K) k
theorem rn1_eq (v W:List W64) (k:Nat) (K:List W64→α):rn1 v W k K=K (rnds v W k):=by
 induction k generalizing K with
 | zero=>rfl
 | succ k ih =>
   show rn1 v W k (fun u=>fW (tee u W k) fun t=>fW (you u) fun y=>flW [t+y,rd u 0,rd u 1,rd u 2,rd u 3+t,rd u 4,rd u 5,rd u 6] K)=_
   rw [ih,fW_eq,fW_eq,flW_eq]
   rfl
noncomputable def prs (h:List W64) (l:List UInt8) (K:List W64→α):α:=sp1 l 128 fun A=>sp2 A 64 fun W=>rn1 h W 80 fun v=>flW (addw h v 8) K
theorem prs_eq (h:List W64) (l:List UInt8) (K:List W64→α):prs h l K=K (press h l):=by
 unfold prs press spread
 rw [sp1_eq,sp2_eq,rn1_eq,flW_eq]
noncomputable def prN (n:Nat):List W64→List UInt8→(List W64→α)→α :=
 Nat.rec (motive:=fun _=>List W64→List UInt8→(List W64→α)→α) (fun H _ K=>K H)
  (fun _ ih H l K=>prs H l fun H'=>ih H' (l.drop 128) K) n
theorem prN_eq (n:Nat) : ∀ (H:List W64) (l:List UInt8) (K:List W64→α),prN n H l K=K (pressN n H l):=by
 induction n with
 | zero=>intro H l K; rfl
 | succ n ih =>
   intro H l K
   show prs H l (fun H'=>prN n H' (l.drop 128) K)=_
   rw [prs_eq,ih]
   rfl
noncomputable def sumK (l:List UInt8) (K:List UInt8→α):α:=flU (pad l) fun p=>fN (p.length / 128) fun n=>prN n HH p fun H=>flU (outb H) K
theorem sumK_eq (l:List UInt8) (K:List UInt8→α):sumK l K=K (S5.sum l):=by
 unfold sumK
 rw [flU_eq,fN_eq,prN_eq,flU_eq]
 rfl
end Kr
end Go.Proofs.YtfodadedkilgdaaGreatDoor
