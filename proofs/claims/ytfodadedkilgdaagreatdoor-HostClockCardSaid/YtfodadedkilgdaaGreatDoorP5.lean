/- A part of the proof. Plain; no condition. -/
import Derived.Test.YtfodadedkilgdaaGreatDoorP3
import Derived.Test.YtfodadedkilgdaaGreatDoorP4
import Derived.Deep.MidRow
namespace Go.Proofs.YtfodadedkilgdaaGreatDoor
set_option linter.unusedVariables false
set_option linter.unusedSimpArgs false
open Go.RowKit Mem
namespace Rn
inductive Tr (α:Type) where
 | nil
 | nd (v:Option α) (l r:Tr α)
section
variable {α:Type}
def Tr.val:Tr α→Option α
 | .nil=>none
 | .nd v _ _=>v
def Tr.left:Tr α→Tr α
 | .nil => .nil
 | .nd _ l _=>l
def Tr.right:Tr α→Tr α
 | .nil => .nil
 | .nd _ _ r=>r
noncomputable def Tr.at (k:Nat):Tr α→Nat→Option α :=
 Nat.rec (motive:=fun _=>Tr α→Nat→Option α) (fun _ _=>none)
  (fun _ ih t n=>match Nat.beq n 0 with
   | true=>t.val
   | false=>match Nat.beq (Nat.mod n 2) 1 with
     | true=>ih t.left (Nat.div n 2)
     | false=>ih t.right (Nat.pred (Nat.div n 2))) k
noncomputable def Tr.to (k:Nat):Tr α→Nat→Option α→Tr α :=
 Nat.rec (motive:=fun _=>Tr α→Nat→Option α→Tr α) (fun t _ _=>t)
  (fun _ ih t n x=>match Nat.beq n 0 with
   | true => .nd x t.left t.right
   | false=>match Nat.beq (Nat.mod n 2) 1 with
     | true => .nd t.val (ih t.left (Nat.div n 2) x) t.right
     | false => .nd t.val t.left (ih t.right (Nat.pred (Nat.div n 2)) x)) k
theorem way (n:Nat):(n=0)∨(Nat.beq n 0=false∧Nat.beq (Nat.mod n 2) 1=true∧n=2*Nat.div n 2+1)∨(Nat.beq n 0=false∧Nat.beq (Nat.mod n 2) 1=false∧n=2*Nat.pred (Nat.div n 2)+2):=by
 have e1:Nat.mod n 2=n%2:=rfl
 have e2:Nat.div n 2=n / 2:=rfl
 rw [e1,e2]
 by_cases h0:n=0
 · exact .inl h0
 ·right
  have hb:Nat.beq n 0=false:=by
   cases hh:Nat.beq n 0
   · rfl
   · exact absurd (Nat.eq_of_beq_eq_true hh) h0
  by_cases h1:n%2=1
  · refine .inl ⟨hb,by rw [h1]; rfl,by omega⟩
  ·have h2:n%2=0:=by omega
   refine .inr ⟨hb,by rw [h2]; rfl,?_⟩
   rw [Nat.pred_eq_sub_one]
   omega
theorem Tr.at_succ (k:Nat) (t:Tr α) (n:Nat):Tr.at (k+1) t n=(match Nat.beq n 0 with
 | true=>t.val
 | false=>match Nat.beq (Nat.mod n 2) 1 with
   | true=>Tr.at k t.left (Nat.div n 2)
   | false=>Tr.at k t.right (Nat.pred (Nat.div n 2))):=rfl
theorem Tr.to_succ (k:Nat) (t:Tr α) (n:Nat) (x:Option α):Tr.to (k+1) t n x=(match Nat.beq n 0 with
 | true => .nd x t.left t.right
 | false=>match Nat.beq (Nat.mod n 2) 1 with
   | true => .nd t.val (Tr.to k t.left (Nat.div n 2) x) t.right
   | false => .nd t.val t.left (Tr.to k t.right (Nat.pred (Nat.div n 2)) x)):=rfl
theorem Tr.at_to (x:Option α) : ∀ (k:Nat) (t:Tr α) (n:Nat),n+1<2^k→Tr.at k (Tr.to k t n x) n=x
 | 0,_,_,h=>by simp at h
 | k+1,t,n,h=>by
   rw [Tr.at_succ,Tr.to_succ]
   rw [Nat.pow_succ] at h
   rcases way n with rfl | ⟨h1,h2,h3⟩ | ⟨h1,h2,h3⟩
   · rfl
   · simp only [h1,h2,Tr.left]; exact Tr.at_to x k _ _ (by omega)
   · simp only [h1,h2,Tr.right]; exact Tr.at_to x k _ _ (by omega)
theorem Tr.at_to_ne (x:Option α) : ∀ (k:Nat) (t:Tr α) (n m:Nat),n≠m→Tr.at k (Tr.to k t n x) m=Tr.at k t m
 | 0,_,_,_,_=>rfl
 | k+1,t,n,m,h=>by
   rw [Tr.at_succ,Tr.to_succ,Tr.at_succ]
   rcases way n with rfl | ⟨h1,h2,h3⟩ | ⟨h1,h2,h3⟩ <;> rcases way m with rfl | ⟨k1,k2,k3⟩ | ⟨k1,k2,k3⟩
   · exact absurd rfl h
   · simp only [k1,k2,Tr.left]
   · simp only [k1,k2,Tr.right]
   · simp only [h1,h2,Tr.val]
   · simp only [h1,h2,k1,k2,Tr.left]; exact Tr.at_to_ne x k _ _ _ (by omega)
   · simp only [h1,h2,k1,k2,Tr.right]
   · simp only [h1,h2,Tr.val]
   · simp only [h1,h2,k1,k2,Tr.left]
   · simp only [h1,h2,k1,k2,Tr.right]; exact Tr.at_to_ne x k _ _ _ (by omega)
theorem Tr.at_nil : ∀ (k n:Nat),Tr.at k (.nil:Tr α) n=none
 | 0,_=>rfl
 | k+1,n=>by
   rw [Tr.at_succ]
   rcases way n with rfl | ⟨h1,h2,_⟩ | ⟨h1,h2,_⟩
   · rfl
   · simp only [h1,h2,Tr.left]; exact Tr.at_nil k _
   · simp only [h1,h2,Tr.right]; exact Tr.at_nil k _
theorem Tr.at_big : ∀ (k:Nat) (t:Tr α) (n:Nat),2^k≤n+1→Tr.at k t n=none
 | 0,_,_,_=>rfl
 | k+1,t,n,h=>by
   rw [Tr.at_succ]
   rw [Nat.pow_succ] at h
   have hk:=Nat.two_pow_pos k
   rcases way n with rfl | ⟨h1,h2,h3⟩ | ⟨h1,h2,h3⟩
   · omega
   · simp only [h1,h2]; exact Tr.at_big k _ _ (by omega)
   · simp only [h1,h2]; exact Tr.at_big k _ _ (by omega)
end
inductive Y where
 | k (n:Nat)
 | x (o j:Nat)
inductive Cap where
 | k (n:Nat)
 | g (d:Nat)
inductive V where
 | i (k:IntKind) (n:Int)
 | b (x:Bool)
 | x (o j:Nat)
 | z (o j:Nat)
 | t (l:List Y)
 | np
 | p (b o:Nat)
 | ns
 | s (b o n:Nat) (c:Cap)
 | se (b o:Nat) (c:Cap) (lo s:Nat)
 | nm
 | m (b:Nat)
 | nf
 | f (n:Nat)
inductive O where
 | v (x:V)
 | a (l:List V)
inductive R where
 | o (x:O)
 | t (l:List O)
 | u
inductive B where
 | l (c:List V) (t:TypeId) (e:Option Nat)
 | m (es:List (V×O×Nat)) (n:Nat)
abbrev Cl:Type := {l:List Value // ∀ v∈l,v.oneCell'=true}
structure Sg where
 ρ:Nat→Option (List UInt8)
 β:Nat→Option Nat
 γ:Nat→Nat
 ζ:Nat→Option Cl
def Sg.cl (σ:Sg) (o:Nat):List Value:=match σ.ζ o with
 | some l=>l.1
 | none => []
theorem Sg.cl_one (σ:Sg) (o j:Nat):((σ.cl o).getD j (.bool false)).oneCell'=true:=by
 have h : ∀ v∈σ.cl o,v.oneCell'=true:=by
  unfold Sg.cl
  split
  · rename_i l _; exact l.2
  · exact fun _ h=>nomatch h
 rw [List.getD_eq_getElem?_getD]
 cases e:(σ.cl o)[j]? with
 | none=>rfl
 | some v=>exact h v (List.mem_of_getElem? e)
def Sg.by (σ:Sg) (o:Nat):List UInt8:=(σ.ρ o).getD []
def Sg.bl (σ:Sg) (b:Nat):Nat:=(σ.β b).getD 0
structure Le (σ σ':Sg):Prop where
 b : ∀ b a,σ.β b=some a→σ'.β b=some a∧σ'.γ b=σ.γ b
 r : ∀ o l,σ.ρ o=some l→σ'.ρ o=some l
 z : ∀ o l,σ.ζ o=some l→σ'.ζ o=some l
theorem Le.refl (σ:Sg):Le σ σ:=⟨fun _ _ h=>⟨h,rfl⟩,fun _ _ h=>h,fun _ _ h=>h⟩
theorem Le.trans {σ σ' σ'':Sg} (h:Le σ σ') (h':Le σ' σ''):Le σ σ'':=⟨fun b a e=>⟨(h'.b b a (h.b b a e).1).1,((h'.b b a (h.b b a e).1).2).trans (h.b b a e).2⟩,fun o l e=>h'.r o l (h.r o l e),fun o l e=>h'.z o l (h.z o l e)⟩
def Y.u (σ:Sg):Y→UInt8
 | .k n=>UInt8.ofNat n
 | .x o j=>(σ.by o).getD j 0
def Y.df (σ:Sg):Y→Prop
 | .k _=>True
 | .x o _ => ∃ l,σ.ρ o=some l
def capOf (σ:Sg) (b:Nat):Cap→Nat
 | .k c=>c
 | .g d=>σ.γ b-d
def V.val (σ:Sg):V→Value
 | .i q a => .int q a
 | .b a => .bool a
 | .x r j => .int .u8 ((σ.by r).getD j 0).toNat
 | .z o j=>(σ.cl o).getD j (.bool false)
 | .t l => .string ⟨(l.map (Y.u σ)).toArray⟩
 | .np => .pointer none
 | .p r d => .pointer (some ⟨σ.bl r,d,none⟩)
 | .ns => .slice none 0 0
 | .s r d l c => .slice (some ⟨σ.bl r,d,none⟩) l (capOf σ r c)
 | .se r d c l a => .slice (some (if capOf σ r c=l then ⟨σ.bl r,d,none⟩ else ⟨σ.bl r,d+l*a,none⟩)) 0 (capOf σ r c-l)
 | .nm => .map none
 | .m r => .map (some (σ.bl r))
 | .nf => .nilFunc
 | .f l => .func (.func l) #[] #[]
def V.df (σ:Sg):V→Prop
 | .x r _ => ∃ l,σ.ρ r=some l
 | .z o _ => ∃ l,σ.ζ o=some l
 | .t l => ∀ y∈l,y.df σ
 | .p r _ => ∃ a,σ.β r=some a
 | .s r _ l c=>(∃ a,σ.β r=some a)∧l≤capOf σ r c
 | .se r _ c l _=>(∃ a,σ.β r=some a)∧l≤capOf σ r c
 | .m r => ∃ a,σ.β r=some a
 | _=>True
def vals (σ:Sg) (l:List V):List Value:=l.map (V.val σ)
def dfs (σ:Sg) (l:List V):Prop := ∀ x∈l,x.df σ
def O.val (σ:Sg):O→Value
 | .v x=>x.val σ
 | .a l => .agg (vals σ l).toArray
def O.cells:O→List V
 | .v x => [x]
 | .a l=>l
def O.df (σ:Sg) (x:O):Prop:=dfs σ x.cells
def R.val (σ:Sg):R→Value
 | .o x=>x.val σ
 | .t l => .tuple (l.map (O.val σ)).toArray
 | .u=>undef
def R.df (σ:Sg):R→Prop
 | .o x=>x.df σ
 | .t l => ∀ x∈l,x.df σ
 | .u=>True
section
variable {σ σ':Sg} {w w':World}
theorem Le.by (h:Le σ σ') {o:Nat} (hd : ∃ l,σ.ρ o=some l):σ'.by o=σ.by o:=by
 obtain ⟨l,hl⟩:=hd
 simp [Sg.by,hl,h.r o l hl]
theorem Le.bl (h:Le σ σ') {b:Nat} (hd : ∃ a,σ.β b=some a):σ'.bl b=σ.bl b∧σ'.γ b=σ.γ b:=by
 obtain ⟨a,ha⟩:=hd
 simp [Sg.bl,ha,h.b b a ha]
theorem Y.mono (h:Le σ σ') {y:Y} (hd:y.df σ):y.u σ'=y.u σ∧y.df σ':=by
 cases y with
 | k n=>exact ⟨rfl,trivial⟩
 | x o j=>exact ⟨by simp only [Y.u,h.by hd],hd.imp fun l hl=>h.r o l hl⟩
theorem V.mono (h:Le σ σ') {x:V} (hd:x.df σ):x.val σ'=x.val σ∧x.df σ':=by
 cases x with
 | x o j=>exact ⟨by simp only [V.val,h.by hd],hd.imp fun l hl=>h.r o l hl⟩
 | z o j =>
   obtain ⟨l,hl⟩:=hd
   exact ⟨by simp only [V.val,Sg.cl,hl,h.z o l hl],l,h.z o l hl⟩
 | t l=>exact ⟨by simp only [V.val]; rw [List.map_congr_left fun y hy=>(Y.mono h (hd y hy)).1],fun y hy=>(Y.mono h (hd y hy)).2⟩
 | p r d=>exact ⟨by simp only [V.val,(h.bl hd).1],hd.imp fun a ha=>(h.b r a ha).1⟩
 | s r d l c =>
   have e:capOf σ' r c=capOf σ r c:=by cases c <;> simp only [capOf,(h.bl hd.1).2]
   exact ⟨by simp only [V.val,(h.bl hd.1).1,e],hd.1.imp fun a ha=>(h.b r a ha).1,by rw [e]; exact hd.2⟩
 | se r d c l s =>
   have e:capOf σ' r c=capOf σ r c:=by cases c <;> simp only [capOf,(h.bl hd.1).2]
   exact ⟨by simp only [V.val,(h.bl hd.1).1,e],hd.1.imp fun a ha=>(h.b r a ha).1,by rw [e]; exact hd.2⟩
 | m r=>exact ⟨by simp only [V.val,(h.bl hd).1],hd.imp fun a ha=>(h.b r a ha).1⟩
 | _=>exact ⟨rfl,trivial⟩
theorem vals_mono (h:Le σ σ') {l:List V} (hd:dfs σ l):vals σ' l=vals σ l∧dfs σ' l :=
 ⟨List.map_congr_left fun x hx=>(V.mono h (hd x hx)).1,fun x hx=>(V.mono h (hd x hx)).2⟩
theorem O.mono (h:Le σ σ') {x:O} (hd:x.df σ):x.val σ'=x.val σ∧x.df σ':=by
 cases x with
 | v x=>exact ⟨(V.mono h (hd x (by simp [O.cells]))).1,(vals_mono h hd).2⟩
 | a l=>exact ⟨by simp only [O.val]; rw [(vals_mono h (l:=l) hd).1],(vals_mono h (l:=l) hd).2⟩
theorem R.mono (h:Le σ σ') {x:R} (hd:x.df σ):x.val σ'=x.val σ∧x.df σ':=by
 cases x with
 | o x=>exact O.mono h hd
 | t l=>exact ⟨by simp only [R.val]; rw [List.map_congr_left fun x hx=>(O.mono h (hd x hx)).1],fun x hx=>(O.mono h (hd x hx)).2⟩
 | u=>exact ⟨rfl,trivial⟩
theorem V.one (σ:Sg) (x:V):(x.val σ).oneCell'=true:=by
 cases x with
 | z o j=>exact σ.cl_one o j
 | _=>rfl
theorem O.cells_val (σ:Sg) (x:O):(x.val σ).cells.toList=vals σ x.cells:=by
 cases x with
 | v x =>
   cases x with
   | z o j =>
     have:=σ.cl_one o j
     simp only [O.val,V.val,O.cells,vals,List.map_cons,List.map_nil]
     revert this
     cases (σ.cl o).getD j (.bool false) <;> simp [Value.cells,Value.oneCell']
   | _=>simp [O.val,V.val,Value.cells,O.cells,vals]
 | a l=>simp [O.val,Value.cells,O.cells]
theorem vals_one (σ:Sg) (l:List V) : ∀ u∈vals σ l,u.oneCell'=true:=fun u hu=>by
 obtain ⟨x,_,rfl⟩:=List.mem_map.1 hu
 exact x.one σ
theorem vals_length (σ:Sg) (l:List V):(vals σ l).length=l.length:=List.length_map ..
def ent (σ:Sg) (e:V×O×Nat):MapEntry:=⟨e.1.val σ,e.2.1.val σ,e.2.2⟩
def Fz (f:Nat×Nat) (n:Nat):Prop := ∀ j,j<n → ¬ (f.1≤j∧j<f.2)
def Fq (f:Nat×Nat) (n:Nat):Prop:=f.1=f.2∨n≤f.1
theorem Fq.fz {f:Nat×Nat} {n:Nat} (h:Fq f n):Fz f n:=fun j hj ⟨h1,h2⟩=>by
 rcases h with h | h <;> omega
def B.df (σ:Sg):B→Prop
 | .l c _ _=>dfs σ c
 | .m es _ => ∀ e∈es,e.1.df σ∧e.2.1.df σ
def B.at (σ:Sg) (b:Nat) (w:World):B→Prop
 | .l c t none => ∃ f,w.heap[σ.bl b]? = some (.cells (vals σ c).toArray t f)∧Fq f c.length
 | .l c t (some e) => ∃ C f,w.heap[σ.bl b]? = some (.cells C t f)∧Fz f C.size∧C.size=σ.γ b*e∧C.toList.take c.length=vals σ c∧σ.γ b≤maxLen
 | .m es n=>w.heap[σ.bl b]? = some (.map (es.map (ent σ)).toArray n)
theorem B.lt {b:Nat} {x:B} (h:x.at σ b w):σ.bl b<w.heap.size:=by
 have go : ∀ {o:Obj},w.heap[σ.bl b]? = some o→σ.bl b<w.heap.size:=fun h=>(Array.getElem?_eq_some_iff.1 h).1
 cases x with
 | l c t e=>cases e with
   | none=>obtain ⟨f,h,_⟩:=h; exact go h
   | some e=>obtain ⟨C,f,h,_⟩:=h; exact go h
 | m es n=>exact go h
theorem B.keep {b:Nat} {x:B} (h:x.at σ b w) (hw:w'.heap[σ.bl b]? = w.heap[σ.bl b]?):x.at σ b w':=by
 cases x with
 | l c t e=>cases e with
   | none=>obtain ⟨f,h,r⟩:=h; exact ⟨f,hw.trans h,r⟩
   | some e=>obtain ⟨C,f,h,r⟩:=h; exact ⟨C,f,hw.trans h,r⟩
 | m es n=>exact hw.trans h
theorem ent_mono (h:Le σ σ') {es:List (V×O×Nat)} (hd : ∀ e∈es,e.1.df σ∧e.2.1.df σ):es.map (ent σ')=es.map (ent σ) ∧ ∀ e∈es,e.1.df σ'∧e.2.1.df σ' :=
 ⟨List.map_congr_left fun e he=>by simp only [ent,(V.mono h (hd e he).1).1,(O.mono h (hd e he).2).1],fun e he=>⟨(V.mono h (hd e he).1).2,(O.mono h (hd e he).2).2⟩⟩
theorem B.mono (h:Le σ σ') {b:Nat} {x:B} (hd:x.df σ) (hb : ∃ a,σ.β b=some a) (ha:x.at σ b w):x.at σ' b w∧x.df σ':=by
 have e1:=(h.bl hb).1
 have e2:=(h.bl hb).2
 cases x with
 | l c t e =>
   have hv:=vals_mono h (l:=c) hd
   refine ⟨?_,hv.2⟩
   cases e with
   | none =>
     obtain ⟨f,h1,h2⟩:=ha
     exact ⟨f,by rw [e1,hv.1]; exact h1,h2⟩
   | some e =>
     obtain ⟨C,f,h1,h2,h3,h4,h5⟩:=ha
     exact ⟨C,f,by rw [e1]; exact h1,h2,by rw [e2]; exact h3,by rw [hv.1]; exact h4,by rw [e2]; exact h5⟩
 | m es n =>
   have hv:=ent_mono h (es:=es) hd
   refine ⟨?_,hv.2⟩
   show w.heap[σ'.bl b]? = _
   rw [e1,hv.1]
   exact ha
end
end Rn
end Go.Proofs.YtfodadedkilgdaaGreatDoor
namespace Go.Proofs.YtfodadedkilgdaaGreatDoor
set_option linter.unusedVariables false
set_option linter.unusedSimpArgs false
open Go.RowKit Mem
namespace Rn
abbrev dp:Nat:=16
structure H where
 h:Tr B
 nx:Nat
 ob:Nat
 mr:Nat
 wr:List Nat
 me:List (Nat×List (List V)×Nat)
noncomputable def H.at (h:H) (b:Nat):Option B:=Tr.at dp h.h b
structure Cx where
 P:Program
 base:Nat
 inv:World→Prop
 fx:Nat→Option (List UInt8)
 G:Nat→List (List Value)→List Value
 pr:Nat→List (List Value)→Prop
 low : ∀ w w',inv w→Below base w w'→inv w'
def byO (o:Nat) (σ:Sg) (l:List Value):Prop := ∃ L,σ.ρ o=some L∧bys L=l
def ceO (o:Nat) (σ:Sg) (l:List Value):Prop := ∃ L,σ.ζ o=some L∧L.1=l
def MeOk (c:Cx) (σ:Sg) (m:Nat×List (List V)×Nat):Prop:=(match Nat.beq (m.1%2) 0 with
 | true=>byO m.2.2 σ (c.G m.1 (m.2.1.map (vals σ)))
 | false=>ceO m.2.2 σ (c.G m.1 (m.2.1.map (vals σ))))∧(∀ l∈m.2.1,dfs σ l)∧c.pr m.1 (m.2.1.map (vals σ))
theorem vals_args {σ σ':Sg} (hl:Le σ σ') {a:List (List V)} (hd : ∀ l∈a,dfs σ l):a.map (vals σ')=a.map (vals σ):=List.map_congr_left fun l h1=>(vals_mono hl (hd l h1)).1
theorem MeOk.mono {c:Cx} {σ σ':Sg} {m:Nat×List (List V)×Nat} (h:MeOk c σ m) (hl:Le σ σ'):MeOk c σ' m:=by
 refine ⟨?_,fun l h1=>(vals_mono hl (h.2.1 l h1)).2,by rw [vals_args hl h.2.1]; exact h.2.2⟩
 have h1:=h.1
 rw [vals_args hl h.2.1]
 split at h1
 ·obtain ⟨L,e1,e2⟩:=h1
  exact ⟨L,hl.r _ _ e1,e2⟩
 ·obtain ⟨L,e1,e2⟩:=h1
  exact ⟨L,hl.z _ _ e1,e2⟩
structure Hf (c:Cx) (σ:Sg) (f:Nat→Option B) (me:List (Nat×List (List V)×Nat)) (w:World):Prop where
 blk : ∀ b x,f b=some x→x.at σ b w∧x.df σ∧c.base≤σ.bl b ∧ ∃ a,σ.β b=some a
 inj : ∀ a b x y,f a=some x→f b=some y→σ.bl a=σ.bl b→a=b
 inv:c.inv w
 le:c.base≤w.heap.size
 fx : ∀ o l,c.fx o=some l→σ.ρ o=some l
 me : ∀ m∈me,MeOk c σ m
abbrev Hs (c:Cx) (σ:Sg) (h:H) (w:World):Prop:=Hf c σ h.at h.me w
structure St (σ σ':Sg) (h h':H) (w w':World):Prop where
 le:Le σ σ'
 sb : ∀ n,¬ (h.nx≤n∧n<h'.nx)→σ'.β n=σ.β n
 so : ∀ n,¬ (h.ob≤n∧n<h'.ob)→σ'.ρ n=σ.ρ n∧σ'.ζ n=σ.ζ n
 nx:h.nx≤h'.nx
 ob:h.ob≤h'.ob
 kp:Kp (fun k => ∃ b x,h.at b=some x∧σ.bl b=k) w w'
 mr:h'.mr=h.mr
 wr : ∀ b,b∈h.wr→b∈h'.wr
 ch : ∀ b,b<h.mr→b∉h'.wr→h'.at b=h.at b
 nw : ∀ b x,h'.at b=some x→(∃ y,h.at b=some y)∨(h.nx≤b∧b<h'.nx)
 ad : ∀ b x,h'.at b=some x→w.heap.size≤σ'.bl b ∨ ∃ b0 x0,h.at b0=some x0∧σ'.bl b=σ.bl b0
def Fr (σ:Sg) (h h':H):Prop:=(∀ n,h.nx≤n→n<h'.nx→σ.β n=none) ∧ ∀ n,h.ob≤n→n<h'.ob→σ.ρ n=none∧σ.ζ n=none
variable {c:Cx} {σ σ' σ'':Sg} {h h' h'':H} {w w' w'':World}
theorem St.refl (hs:Hs c σ h w):St σ σ h h w w :=
 ⟨Le.refl _,fun _ _=>rfl,fun _ _=>⟨rfl,rfl⟩,Nat.le_refl _,Nat.le_refl _,⟨rfl,rfl,rfl,Nat.le_refl _,fun _ _ _=>rfl⟩,rfl,fun _ h=>h,fun _ _ _=>rfl,fun b x hx => .inl ⟨x,hx⟩,fun b x hx => .inr ⟨b,x,hx,rfl⟩⟩
theorem St.trans (s:St σ σ' h h' w w') (t:St σ' σ'' h' h'' w' w''):St σ σ'' h h'' w w'' where
 le:=s.le.trans t.le
 sb:=fun n hn=>(t.sb n fun e=>hn ⟨Nat.le_trans s.nx e.1,e.2⟩).trans (s.sb n fun e=>hn ⟨e.1,Nat.lt_of_lt_of_le e.2 t.nx⟩)
 so:=fun n hn=>by
  have h1:=t.so n fun e=>hn ⟨Nat.le_trans s.ob e.1,e.2⟩
  have h2:=s.so n fun e=>hn ⟨e.1,Nat.lt_of_lt_of_le e.2 t.ob⟩
  exact ⟨h1.1.trans h2.1,h1.2.trans h2.2⟩
 nx:=Nat.le_trans s.nx t.nx
 ob:=Nat.le_trans s.ob t.ob
 kp:=s.kp.trans t.kp fun k hk ⟨b,x,hx,e⟩=>by
  rcases s.ad b x hx with hb | ⟨b0,x0,h0,e0⟩
  · omega
  · exact ⟨b0,x0,h0,e0 ▸ e⟩
 mr:=t.mr.trans s.mr
 wr:=fun b hb=>t.wr b (s.wr b hb)
 ch:=fun b hb hn=>(t.ch b (s.mr ▸ hb) hn).trans (s.ch b hb fun e=>hn (t.wr b e))
 nw:=fun b x hx=>by
  rcases t.nw b x hx with ⟨y,hy⟩ | ⟨h1,h2⟩
  · exact (s.nw b y hy).imp id fun e=>⟨e.1,Nat.lt_of_lt_of_le e.2 t.nx⟩
  · exact .inr ⟨Nat.le_trans s.nx h1,h2⟩
 ad:=fun b x hx=>by
  rcases t.ad b x hx with hb | ⟨b0,x0,h0,e0⟩
  · exact .inl (Nat.le_trans s.kp.size hb)
  ·rcases s.ad b0 x0 h0 with hb | ⟨b1,x1,h1,e1⟩
   · exact .inl (e0 ▸ hb)
   · exact .inr ⟨b1,x1,h1,e0.trans e1⟩
theorem Fr.fst (f:Fr σ h h'') (s:h'.nx≤h''.nx) (o:h'.ob≤h''.ob):Fr σ h h':=⟨fun n h1 h2=>f.1 n h1 (Nat.lt_of_lt_of_le h2 s),fun n h1 h2=>f.2 n h1 (Nat.lt_of_lt_of_le h2 o)⟩
theorem Fr.snd (f:Fr σ h h'') (s:St σ σ' h h' w w'):Fr σ' h' h'' :=
 ⟨fun n h1 h2=>(s.sb n (by omega)).trans (f.1 n (Nat.le_trans s.nx h1) h2),fun n h1 h2=>by
  have e1:=s.so n (by omega)
  have e2:=f.2 n (Nat.le_trans s.ob h1) h2
  exact ⟨e1.1.trans e2.1,e1.2.trans e2.2⟩⟩
theorem St.below (hs:Hs c σ h w) (s:St σ σ' h h' w w'):Below c.base w w':=s.kp.below hs.le fun k ⟨b,x,hx,e⟩=>e ▸ (hs.blk b x hx).2.2.1
theorem Hs.low (hs:Hs c σ h w) (hb:Below w.heap.size w w'):Hs c σ h w'∧St σ σ h h w w':=by
 refine ⟨⟨fun b x hx => ?_,hs.inj,c.low w w' hs.inv (hb.mono hs.le),Nat.le_trans hs.le hb.size,hs.fx,hs.me⟩,{St.refl hs with kp:=Kp.of_below hb}⟩
 obtain ⟨h1,h2⟩:=hs.blk b x hx
 exact ⟨B.keep h1 (hb.block _ (B.lt h1)),h2⟩
def Sg.name (σ:Sg) (n a g:Nat):Sg:=⟨σ.ρ,fun k=>if k=n then some a else σ.β k,fun k=>if k=n then g else σ.γ k,σ.ζ⟩
theorem Sg.name_le {n a g:Nat} (hn:σ.β n=none):Le σ (σ.name n a g):=⟨fun b x hx=>by
 have:b≠n:=fun e=>by rw [e,hn] at hx; cases hx
 exact ⟨(if_neg this).trans hx,if_neg this⟩,fun _ _ h=>h,fun _ _ h=>h⟩
theorem Sg.name_bl {n a g:Nat}:(σ.name n a g).bl n=a∧(σ.name n a g).γ n=g∧(σ.name n a g).β n=some a:=by simp [Sg.bl,Sg.name]
noncomputable def H.new (h:H) (x:B):H := {h with h:=Tr.to dp h.h h.nx (some x),nx:=h.nx+1}
theorem H.new_at {x y:B} {b:Nat} (e:(h.new x).at b=some y):(b=h.nx∧y=x)∨(b≠h.nx∧h.at b=some y):=by
 unfold H.at H.new at e
 dsimp only at e
 by_cases hb:b=h.nx
 ·subst hb
  by_cases hl:h.nx+1<2^dp
  ·rw [Tr.at_to _ _ _ _ hl] at e
   exact .inl ⟨rfl,(Option.some.inj e).symm⟩
  ·rw [Tr.at_big _ _ _ (by omega)] at e
   cases e
 ·rw [Tr.at_to_ne _ _ _ _ _ (Ne.symm hb)] at e
  exact .inr ⟨hb,e⟩
theorem H.new_ne {x:B} {b:Nat} (hb:b≠h.nx):(h.new x).at b=h.at b:=Tr.at_to_ne _ _ _ _ _ (Ne.symm hb)
theorem Hs.adopt (hs:Hs c σ h w) (hf:σ.β h.nx=none) (hm:h.mr≤h.nx) {x:B} {a g:Nat} (hb:Below w.heap.size w w') (ha:w.heap.size≤a) (hx:x.at (σ.name h.nx a g) h.nx w') (hd:x.df σ) :
 Hs c (σ.name h.nx a g) (h.new x) w'∧St σ (σ.name h.nx a g) h (h.new x) w w':=by
 have hle:Le σ (σ.name h.nx a g):=Sg.name_le hf
 have hdn:x.df (σ.name h.nx a g):=by
  cases x with
  | l c t e=>exact (vals_mono hle (l:=c) hd).2
  | m es n=>exact (ent_mono hle (es:=es) hd).2
 obtain ⟨hl,hst⟩:=hs.low hb
 have old : ∀ b y,h.at b=some y→y.at (σ.name h.nx a g) b w'∧y.df (σ.name h.nx a g)∧(σ.name h.nx a g).bl b=σ.bl b∧b≠h.nx:=fun b y hy=>by
  obtain ⟨h1,h2,h3,h4⟩:=hl.blk b y hy
  obtain ⟨k1,k2⟩:=B.mono hle h2 h4 h1
  exact ⟨k1,k2,(hle.bl h4).1,fun e=>by obtain ⟨z,hz⟩:=h4; rw [e,hf] at hz; cases hz⟩
 refine ⟨⟨fun b y hy => ?_,fun b1 b2 x1 x2 e1 e2 e => ?_,hl.inv,hl.le,hs.fx,fun m hm=>(hs.me m hm).mono hle⟩,?_⟩
 ·rcases H.new_at hy with ⟨rfl,rfl⟩ | ⟨hb',hy⟩
  · exact ⟨hx,hdn,by rw [Sg.name_bl.1]; exact Nat.le_trans hs.le ha,_,Sg.name_bl.2.2⟩
  ·obtain ⟨k1,k2,k3,k4⟩:=old b y hy
   exact ⟨k1,k2,by rw [k3]; exact (hs.blk b y hy).2.2.1,(hs.blk b y hy).2.2.2.imp fun z hz=>(hle.b b z hz).1⟩
 ·rcases H.new_at e1 with ⟨rfl,rfl⟩ | ⟨hb1,f1⟩ <;> rcases H.new_at e2 with ⟨rfl,rfl⟩ | ⟨hb2,f2⟩
  · rfl
  ·rw [Sg.name_bl.1,(old b2 x2 f2).2.2.1] at e
   have:=B.lt (hs.blk b2 x2 f2).1
   omega
  ·rw [Sg.name_bl.1,(old b1 x1 f1).2.2.1] at e
   have:=B.lt (hs.blk b1 x1 f1).1
   omega
  ·rw [(old b1 x1 f1).2.2.1,(old b2 x2 f2).2.2.1] at e
   exact hs.inj _ _ _ _ f1 f2 e
 ·refine ⟨hle,fun n hn=>if_neg fun e=>hn ⟨by omega,by subst e; exact Nat.lt_succ_self _⟩,fun _ _=>⟨rfl,rfl⟩,Nat.le_succ _,Nat.le_refl _,hst.kp,rfl,fun _ h=>h,fun b hb' _=>H.new_ne (by omega),fun b y hy => ?_,fun b y hy => ?_⟩
  ·rcases H.new_at hy with ⟨rfl,_⟩ | ⟨_,hy⟩
   · exact .inr ⟨Nat.le_refl _,Nat.lt_succ_self _⟩
   · exact .inl ⟨y,hy⟩
  ·rcases H.new_at hy with ⟨rfl,_⟩ | ⟨_,hy⟩
   · exact .inl (by rw [Sg.name_bl.1]; exact ha)
   · exact .inr ⟨b,y,hy,(old b y hy).2.2.1⟩
noncomputable def H.put (h:H) (b:Nat) (x:Option B):H := {h with h:=Tr.to dp h.h b x,wr:=match Nat.blt b h.mr with
 | true=>b::h.wr
 | false=>h.wr}
theorem H.put_at {x:Option B} {y:B} {b k:Nat} (e:(h.put b x).at k=some y):(k=b∧x=some y)∨(k≠b∧h.at k=some y):=by
 unfold H.at H.put at e
 dsimp only at e
 by_cases hb:k=b
 ·subst hb
  by_cases hl:k+1<2^dp
  ·rw [Tr.at_to _ _ _ _ hl] at e
   exact .inl ⟨rfl,e⟩
  ·rw [Tr.at_big _ _ _ (by omega)] at e
   cases e
 ·rw [Tr.at_to_ne _ _ _ _ _ (Ne.symm hb)] at e
  exact .inr ⟨hb,e⟩
theorem H.put_ne {x:Option B} {b k:Nat} (hb:k≠b):(h.put b x).at k=h.at k:=Tr.at_to_ne _ _ _ _ _ (Ne.symm hb)
theorem H.put_wr {x:Option B} {b k:Nat}:(k∈h.wr→k∈(h.put b x).wr)∧(k<h.mr→k∉(h.put b x).wr→k≠b):=by
 unfold H.put
 dsimp only
 split
 · exact ⟨List.mem_cons_of_mem _,fun _ hn e=>hn (e ▸ List.mem_cons_self ..)⟩
 ·rename_i hb
  refine ⟨id,fun hk _ e => ?_⟩
  subst e
  unfold Nat.blt at hb
  rw [Nat.ble_eq_true_of_le hk] at hb
  cases hb
theorem Hs.put (hs:Hs c σ h w) {b:Nat} {y:B} (hy:h.at b=some y) {x:Option B} (hk:Kp (fun k=>k=σ.bl b) w w') (hx : ∀ z,x=some z→z.at σ b w'∧z.df σ) :
 Hs c σ (h.put b x) w'∧St σ σ h (h.put b x) w w':=by
 obtain ⟨y1,y2,y3,y4⟩:=hs.blk b y hy
 have hb:Below c.base w w':=hk.below hs.le fun k e=>by have e:k=σ.bl b:=e; omega
 refine ⟨⟨fun k z hz => ?_,fun b1 b2 x1 x2 e1 e2 e => ?_,c.low w w' hs.inv hb,Nat.le_trans hs.le hk.size,hs.fx,hs.me⟩,Le.refl _,fun _ _=>rfl,fun _ _=>⟨rfl,rfl⟩,Nat.le_refl _,Nat.le_refl _,⟨hk.os,hk.tape,hk.output,hk.size,fun k h1 h2=>hk.block k h1 fun e=>h2 ⟨b,y,hy,Eq.symm e⟩⟩,rfl,fun k=>H.put_wr.1,fun k h1 h2=>H.put_ne (H.put_wr.2 h1 h2),fun k z hz => ?_,fun k z hz => ?_⟩
 ·rcases H.put_at hz with ⟨rfl,rfl⟩ | ⟨hne,hz⟩
  · exact ⟨(hx z rfl).1,(hx z rfl).2,y3,y4⟩
  ·obtain ⟨z1,z2⟩:=hs.blk k z hz
   exact ⟨B.keep z1 (hk.block _ (B.lt z1) fun e=>hne (hs.inj _ _ _ _ hz hy e)),z2⟩
 ·have old : ∀ {k z},(h.put b x).at k=some z → ∃ z',h.at k=some z':=fun {k z} hz=>by
   rcases H.put_at hz with ⟨rfl,_⟩ | ⟨_,hz⟩
   · exact ⟨_,hy⟩
   · exact ⟨_,hz⟩
  obtain ⟨_,f1⟩:=old e1
  obtain ⟨_,f2⟩:=old e2
  exact hs.inj _ _ _ _ f1 f2 e
 ·rcases H.put_at hz with ⟨rfl,_⟩ | ⟨_,hz⟩
  · exact .inl ⟨_,hy⟩
  · exact .inl ⟨_,hz⟩
 ·rcases H.put_at hz with ⟨rfl,_⟩ | ⟨_,hz⟩
  · exact .inr ⟨_,_,hy,rfl⟩
  · exact .inr ⟨_,_,hz,rfl⟩
noncomputable def strike (h:H):Option Nat→H
 | none=>h
 | some b=>h.put b none
inductive Dl where
 | no
 | put (b:Nat) (x:B)
 | new (x:B)
 | app (k:Option Nat) (x:B)
 | obj (n:Nat)
@[reducible] noncomputable def Dl.on (d:Dl) (h:H):H:=match d with
 | .no=>h
 | .put b x=>h.put b (some x)
 | .new x=>h.new x
 | .app k x=>(strike h k).new x
 | .obj n => {h with ob:=h.ob+n}
end Rn
end Go.Proofs.YtfodadedkilgdaaGreatDoor
namespace Go.Proofs.YtfodadedkilgdaaGreatDoor
set_option linter.unusedVariables false
set_option linter.unusedSimpArgs false
open Go.RowKit Mem
namespace Rn
def ofC:Value→Option V
 | .int k n=>some (.i k n)
 | .bool b=>some (.b b)
 | .string s=>some (.t (s.data.toList.map fun b => .k b.toNat))
 | .pointer none=>some .np
 | .slice none n m=>match n,m with
   | 0,0=>some .ns
   | _,_=>none
 | .map none=>some .nm
 | .nilFunc=>some .nf
 | .func (.func f) a b=>match a.toList,b.toList with
   | [],[]=>some (.f f)
   | _,_=>none
 | _=>none
theorem ofC_ok {v:Value} {x:V} (h:ofC v=some x) (σ:Sg):v=x.val σ∧x.df σ:=by
 unfold ofC at h
 split at h
 · cases h; exact ⟨rfl,trivial⟩
 · cases h; exact ⟨rfl,trivial⟩
 ·rename_i s
  cases h
  refine ⟨?_,fun y hy => ?_⟩
  ·simp only [V.val,List.map_map]
   have:(Y.u σ ∘ fun b:UInt8=>Y.k b.toNat)=id:=by funext b; simp [Y.u]
   rw [this,List.map_id]
  ·obtain ⟨b,_,rfl⟩:=List.mem_map.1 hy
   trivial
 · cases h; exact ⟨rfl,trivial⟩
 ·split at h
  · cases h; exact ⟨rfl,trivial⟩
  · cases h
 · cases h; exact ⟨rfl,trivial⟩
 · cases h; exact ⟨rfl,trivial⟩
 ·rename_i f a b
  split at h
  ·rename_i ha hb
   cases h
   have ea:a = #[]:=by rw [← Array.toArray_toList (xs:=a),ha]
   have eb:b = #[]:=by rw [← Array.toArray_toList (xs:=b),hb]
   subst ea eb
   exact ⟨rfl,trivial⟩
  · cases h
 · cases h
def ofCs:List Value→Option (List V)
 | []=>some []
 | v::r=>match ofC v,ofCs r with
   | some x,some l=>some (x::l)
   | _,_=>none
theorem ofCs_ok : ∀ {vs:List Value} {l:List V},ofCs vs=some l → ∀ σ,vs=vals σ l∧dfs σ l
 | [],l,h,σ=>by cases h; exact ⟨rfl,fun _ h=>nomatch h⟩
 | v::r,l,h,σ=>by
   unfold ofCs at h
   split at h
   ·rename_i x l' h1 h2
    cases h
    obtain ⟨e1,d1⟩:=ofC_ok h1 σ
    obtain ⟨e2,d2⟩:=ofCs_ok h2 σ
    refine ⟨by rw [e1,e2]; rfl,fun y hy => ?_⟩
    rcases List.mem_cons.1 hy with rfl | hy
    · exact d1
    · exact d2 y hy
   · cases h
def ofK:Value→Option R
 | .agg cs=>(ofCs cs.toList).map fun l => .o (.a l)
 | v=>(ofC v).map fun x => .o (.v x)
theorem O.df_one {σ:Sg} {x:V}:(O.v x).df σ↔x.df σ:=⟨fun h=>h x (by simp [O.cells]),fun h y hy=>by
 obtain rfl:y=x:=by simpa [O.cells] using hy
 exact h⟩
theorem ofK_ok {v:Value} {r:R} (h:ofK v=some r) (σ:Sg):v=r.val σ∧r.df σ:=by
 unfold ofK at h
 split at h
 ·rename_i cs
  obtain ⟨l,hl,rfl⟩:=Option.map_eq_some_iff.1 h
  obtain ⟨e,d⟩:=ofCs_ok hl σ
  exact ⟨by simp only [R.val,O.val,← e,Array.toArray_toList],d⟩
 ·obtain ⟨x,hx,rfl⟩:=Option.map_eq_some_iff.1 h
  obtain ⟨e,d⟩:=ofC_ok hx σ
  exact ⟨e,O.df_one.2 d⟩
abbrev Tm:=Tr R
noncomputable def ev (tm:Tm):Operand→Option R
 | .tmp t=>Tr.at dp tm t
 | .const v=>ofK v
 | .func f=>some (.o (.v (.f f)))
 | .global _=>none
structure Ty (σ:Sg) (a:Act) (tm:Tm):Prop where
 get : ∀ t r,Tr.at dp tm t=some r→t<a.tmps.size∧a.tmps.getD t undef=r.val σ∧r.df σ
 df:a.defers = []
theorem Ty.mono {σ σ':Sg} {a:Act} {tm:Tm} (h:Ty σ a tm) (hl:Le σ σ'):Ty σ' a tm:=⟨fun t r hr=>by
 obtain ⟨h1,h2,h3⟩:=h.get t r hr
 obtain ⟨k1,k2⟩:=R.mono hl h3
 exact ⟨h1,h2.trans k1.symm,k2⟩,h.df⟩
theorem Ty.ev {σ:Sg} {a:Act} {tm:Tm} (h:Ty σ a tm) {x:Operand} {r:R} (e:ev tm x=some r):a.eval x=r.val σ∧r.df σ:=by
 cases x with
 | tmp t=>exact (h.get t r e).2
 | const v=>exact ofK_ok e σ
 | func f=>cases e; exact ⟨rfl,O.df_one.2 trivial⟩
 | global g=>cases e
noncomputable def putT (tm:Tm) (d:Option Tmp) (r:R):Tm:=match d with
 | some d=>Tr.to dp tm d (some r)
 | none=>tm
theorem Ty.put {σ:Sg} {a:Act} {tm:Tm} (h:Ty σ a tm) {d:Option Tmp} (hd : ∀ t,d=some t→t<a.tmps.size) {v:Value} {r:R} (hv:v=r.val σ) (hr:r.df σ):Ty σ (a.put d v) (putT tm d r):=by
 cases d with
 | none=>exact h
 | some d =>
   refine ⟨fun t r' ht => ?_,h.df⟩
   have hsz:(a.put (some d) v).tmps.size=a.tmps.size:=by simp [Act.put]
   have hdl:=hd d rfl
   by_cases e:t=d
   ·subst e
    have ht:Tr.at dp (Tr.to dp tm t (some r)) t=some r':=ht
    by_cases hl:t+1<2^dp
    ·rw [Tr.at_to _ _ _ _ hl] at ht
     cases ht
     exact ⟨by rw [hsz]; exact hdl,by simp [Act.put,hdl,hv],hr⟩
    ·rw [Tr.at_big _ _ _ (by omega)] at ht
     cases ht
   ·have ht:Tr.at dp (Tr.to dp tm d (some r)) t=some r':=ht
    rw [Tr.at_to_ne _ _ _ _ _ (Ne.symm e)] at ht
    obtain ⟨h1,h2,h3⟩:=h.get t r' ht
    refine ⟨by rw [hsz]; exact h1,?_,h3⟩
    rw [← h2]
    simp only [Act.put,Array.getD_eq_getD_getElem?]
    rw [Array.getElem?_setIfInBounds_ne (Ne.symm e)]
end Rn
end Go.Proofs.YtfodadedkilgdaaGreatDoor
namespace Go.Proofs.YtfodadedkilgdaaGreatDoor
set_option linter.unusedVariables false
set_option linter.unusedSimpArgs false
open Go.RowKit Mem
namespace Rn
variable {c:Cx} {σ σ':Sg} {h h':H} {w w':World}
def seg (l:List V) (o n:Nat):List V:=(l.drop o).take n
theorem seg_df {l:List V} (hd:dfs σ l) (o n:Nat):dfs σ (seg l o n):=fun x hx=>hd x (List.mem_of_mem_drop (List.mem_of_mem_take hx))
theorem B.row {b:Nat} {l:List V} {t:TypeId} {e:Option Nat} (hx:(B.l l t e).at σ b w) (he:e=none∨l.length≤(vals σ l).length) : ∃ C f,w.heap[σ.bl b]? = some (.cells C t f)∧C.toList.take l.length=vals σ l∧l.length≤C.size∧Fz f l.length:=by
 cases e with
 | none =>
   obtain ⟨f,h1,h2⟩:=hx
   exact ⟨_,f,h1,by rw [List.toList_toArray,← vals_length σ l,List.take_length],by simp [vals_length],h2.fz⟩
 | some e =>
   obtain ⟨C,f,h1,h2,h3,h4,h5⟩:=hx
   have hl:l.length≤C.size:=by
    have:=congrArg List.length h4
    simp only [vals_length,List.length_take] at this
    have e2:C.toList.length=C.size:=Array.length_toList
    omega
   exact ⟨C,f,h1,h4,hl,fun j hj=>h2 j (by omega)⟩
noncomputable def loadA (P:Program) (h:H) (t:TypeId) (b o:Nat):Option R:=match h.at b with
 | some (.l l _ _)=>match P.underlying t with
   | some d=>match d.isRow with
     | true=>match P.info? t with
       | some i=>match Nat.ble (o+i.size) l.length with
         | true=>some (.o (.a (seg l o i.size)))
         | false=>none
       | none=>none
     | false=>(l[o]?).map fun x => .o (.v x)
   | none=>none
 | _=>none
theorem loadA_ok (hs:Hs c σ h w) {t:TypeId} {b o:Nat} {r:R} (e:loadA c.P h t b o=some r):(Instr.loadAt t (.pointer (some ⟨σ.bl b,o,none⟩))).run c.P w = .ok (r.val σ) w∧r.df σ:=by
 unfold loadA at e
 split at e
 ·rename_i l t' e' hb
  obtain ⟨h1,h2,_⟩:=hs.blk b _ hb
  obtain ⟨C,f,hr,ht,hl,_⟩:=B.row h1 (.inr (by rw [vals_length]; exact Nat.le_refl _))
  have hcell : ∀ j,j<l.length→w.cell? ⟨σ.bl b,j,none⟩=(vals σ l)[j]? := fun j hj=>by
   rw [cell_of_row w _ _ _ _ _ hr,← ht,List.getElem?_take,if_pos hj]
   simp
  split at e
  ·rename_i d hd
   split at e
   ·rename_i hrow
    split at e
    ·rename_i i hi
     split at e
     ·rename_i hle
      cases e
      have hle:=Nat.le_of_ble_eq_true hle
      have hln:(seg l o i.size).length=i.size:=by unfold seg; rw [List.length_take,List.length_drop]; omega
      refine ⟨?_,seg_df h2 o _⟩
      have:=run_loadAt_mid (P:=c.P) w (σ.bl b) o t (vals σ (seg l o i.size)) d (fun j u hj=>by
       have hj':j<i.size:=by have:=(List.getElem?_eq_some_iff.1 hj).1; rw [vals_length,hln] at this; exact this
       rw [hcell (o+j) (by omega),← hj]
       simp only [vals,seg,List.getElem?_map,List.getElem?_take,List.getElem?_drop,if_pos hj']) hd hrow (by rw [hi,vals_length,hln]; rfl)
      exact this
     · cases e
    · cases e
   ·rename_i hrow
    obtain ⟨x,hx,rfl⟩:=Option.map_eq_some_iff.1 e
    have hlt:=(List.getElem?_eq_some_iff.1 hx).1
    have hc:=hcell o hlt
    rw [show (vals σ l)[o]? = some (x.val σ) by simp [vals,hx]] at hc
    refine ⟨?_,O.df_one.2 (h2 x (List.mem_of_getElem? hx))⟩
    cases d <;> first | (simp at hrow; done) | simp [Instr.loadAt,Instr.sureAddr,loadVar,isAgg,run_underlying hd,hc,R.val,O.val]
  · cases e
 · cases e
def putL (l:List V) (o:Nat) (ks:List V):List V:=l.take o++(ks++l.drop (o+ks.length))
theorem putL_length {l ks:List V} {o:Nat} (h:o+ks.length≤l.length):(putL l o ks).length=l.length:=by unfold putL; simp; omega
theorem putL_df {l ks:List V} {o:Nat} (hl:dfs σ l) (hk:dfs σ ks):dfs σ (putL l o ks):=fun x hx=>by
 rcases List.mem_append.1 hx with hx | hx
 · exact hl x (List.mem_of_mem_take hx)
 ·rcases List.mem_append.1 hx with hx | hx
  · exact hk x hx
  · exact hl x (List.mem_of_mem_drop hx)
theorem putL_at {α:Type} {l ks:List α} {o:Nat} (h:o+ks.length≤l.length) (j:Nat):(l.take o++(ks++l.drop (o+ks.length)))[j]? = if o≤j∧j<o+ks.length∧j<l.length then ks[j-o]? else l[j]? := by
 rw [List.getElem?_append]
 have e:(l.take o).length=o:=by rw [List.length_take]; omega
 rw [e]
 split
 ·rename_i hj
  rw [List.getElem?_take,if_pos hj,if_neg (by omega)]
 ·rename_i hj
  rw [List.getElem?_append]
  split
  ·rename_i hk
   rw [if_pos (by omega)]
  ·rename_i hk
   rw [if_neg (by omega),List.getElem?_drop]
   congr 1
   omega
theorem store_cells (hs:Hs c σ h w) {b o:Nat} {l ks:List V} {t:TypeId} {e:Option Nat} (hb:h.at b=some (.l l t e)) (hk:dfs σ ks) (ho:o+ks.length≤l.length) :
 (storeCells ⟨σ.bl b,o,none⟩ (vals σ ks) 0).run c.P w = .ok () (w.setCells (σ.bl b) o (vals σ ks))∧Hs c σ (h.put b (some (.l (putL l o ks) t e))) (w.setCells (σ.bl b) o (vals σ ks))∧St σ σ h (h.put b (some (.l (putL l o ks) t e))) w (w.setCells (σ.bl b) o (vals σ ks)):=by
 obtain ⟨h1,h2,h3,h4⟩:=hs.blk b _ hb
 obtain ⟨C,f,hr,ht,hl,hf⟩:=B.row h1 (.inr (by rw [vals_length]; exact Nat.le_refl _))
 have hkl:(vals σ ks).length=ks.length:=vals_length ..
 have run:=run_storeCells_cells (P:=c.P) (σ.bl b) o (vals σ ks) 0 w (fun j hj=>by rw [cell_of_row w _ _ _ _ _ hr]; simp; omega) (fun j hj=>by
  have:=hf (o+0+j) (by omega)
  simp only [World.frozen?,hr]
  simpa using this) (vals_one σ ks)
 obtain ⟨C',k1,k2,k3,k4⟩:=setCells_block (σ.bl b) t f (vals σ ks) o w C hr
 have hx:(B.l (putL l o ks) t e).at σ b (w.setCells (σ.bl b) o (vals σ ks)):=by
  have htake:C'.toList.take l.length=vals σ (putL l o ks):=by
   apply List.ext_getElem?
   intro j
   rw [List.getElem?_take]
   have e2:vals σ (putL l o ks)=(vals σ l).take o++(vals σ ks++(vals σ l).drop (o+(vals σ ks).length)):=by simp [vals,putL]
   rw [e2,putL_at (by rw [vals_length,vals_length]; exact ho),hkl,vals_length]
   split
   ·rename_i hj
    rw [Array.getElem?_toList,k3]
    by_cases hc:o≤j∧j<o+ks.length
    · rw [if_pos ⟨hc.1,by rw [hkl]; exact hc.2,by omega⟩,if_pos ⟨hc.1,hc.2,hj⟩]
    · rw [if_neg (by rw [hkl]; omega),if_neg (by omega),← Array.getElem?_toList,← ht,List.getElem?_take,if_pos hj]
   ·rename_i hj
    rw [if_neg (by omega),List.getElem?_eq_none (by rw [vals_length]; omega)]
  cases e with
  | none =>
    obtain ⟨f',g1,g2⟩:=h1
    rw [hr] at g1
    cases g1
    have hs':C'.size=l.length:=by rw [k2]; simp [vals_length]
    refine ⟨f,?_,by rw [putL_length ho]; exact g2⟩
    rw [k1,← htake,List.take_of_length_le (by rw [Array.length_toList,hs']; exact Nat.le_refl _)]
  | some e =>
    obtain ⟨D,f',g1,g2,g3,g4,g5⟩:=h1
    rw [hr] at g1
    cases g1
    exact ⟨C',f,k1,by rw [k2]; exact g2,by rw [k2]; exact g3,by rw [putL_length ho]; exact htake,g5⟩
 obtain ⟨s1,s2⟩:=hs.put hb (x:=some (.l (putL l o ks) t e)) (w':=w.setCells (σ.bl b) o (vals σ ks)) ⟨k4.os,k4.tape,k4.output,k4.size,fun k hk hn=>k4.block k hk (fun e=>hn (Option.some.inj e))⟩ (fun z hz=>by
  cases hz
  exact ⟨hx,putL_df h2 hk⟩)
 exact ⟨by simpa using run,s1,s2⟩
noncomputable def storeA (P:Program) (h:H) (t:TypeId) (b o:Nat) (x:O):Option Dl:=match h.at b with
 | some (.l l t' e)=>match P.info? t with
   | some i=>match Nat.beq x.cells.length i.size,Nat.ble (o+x.cells.length) l.length with
     | true,true=>some (.put b (.l (putL l o x.cells) t' e))
     | _,_=>none
   | none=>none
 | _=>none
theorem storeA_ok (hs:Hs c σ h w) {t:TypeId} {b o:Nat} {x:O} {d:Dl} (hx:x.df σ) (e:storeA c.P h t b o x=some d) :
 ∃ w',(Instr.storeAt t (.pointer (some ⟨σ.bl b,o,none⟩)) (x.val σ)).run c.P w = .ok () w'∧Hs c σ (d.on h) w'∧St σ σ h (d.on h) w w':=by
 unfold storeA at e
 split at e
 ·rename_i l t' e' hb
  split at e
  ·rename_i i hi
   split at e
   ·rename_i e1 e2
    cases e
    obtain ⟨k1,k2,k3⟩:=store_cells hs hb hx (Nat.le_of_ble_eq_true e2)
    refine ⟨_,?_,k2,k3⟩
    have hv:=O.cells_val σ x
    have hl:(x.val σ).cells.size=i.size:=by
     have:=congrArg List.length hv
     rw [vals_length,Array.length_toList] at this
     rw [this]
     exact Nat.eq_of_beq_eq_true e1
    simp only [Instr.storeAt,Instr.sureAddr,Sem.run_bind,Sem.run_pure,Result.andThen_ok,storeVar,sizeOf,run_typeInfo w hi]
    rw [if_neg (by rw [hl]; simp),hv]
    exact k1
   · cases e
  · cases e
 · cases e
end Rn
end Go.Proofs.YtfodadedkilgdaaGreatDoor
