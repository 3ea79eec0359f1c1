/- A part of the proof. Plain; no condition. -/
import Derived.Test.YtfodadedkilgdaaGreatDoorP14
import Derived.Laws.Strings
namespace Go.Proofs.YtfodadedkilgdaaGreatDoor
set_option linter.unusedVariables false
set_option linter.unusedSimpArgs false
open Go.RowKit
namespace Ab
structure TI where
 size:Nat
 row:Bool
 zero:List K
 arr:Option (Nat×Nat×Bool):=none
 flds:Option (List (Nat×Nat)):=none
 int:Option IntKind:=none
 sl:Option Nat:=none
 slz:List K := []
 ptr:Bool:=false
 bl:Bool:=false
 str:Bool:=false
 u8:Bool:=false
def nil0:S:=⟨fun _=>none,fun _ => [],fun _=>0,fun _=>none⟩
theorem Le.nil (σ:S):Le nil0 σ:=⟨fun b x h=>(by cases h),fun i j v h=>by simp [nil0] at h,fun j l h=>by cases h⟩
def exz:K→K
 | .int k => .ci k 0
 | .bool => .cb false
 | .sl _ => .nl
 | .ow _ _ => .nl
 | κ=>κ
structure TiOk (P:Program) (t:TypeId) (i:TI):Prop where
 info : ∃ it z d,P.info? t=some it∧it.size=i.size∧it.zero=some z∧CT nil0 z.cells.toList i.zero∧P.underlying t=some d∧d.isRow=i.row
 arr : ∀ n es r,i.arr=some (n,es,r) → ∃ e ie d,P.underlying t=some (.array n e)∧P.info? e=some ie∧ie.size=es∧P.underlying e=some d∧d.isRow=r
 flds : ∀ L,i.flds=some L → ∃ fields,P.underlying t=some (.struct fields)∧fields.toList.mapM (fun f=>(P.info? f.type).map fun i=>(f.offset,i.size))=some L
 int : ∀ k,i.int=some k→P.underlying t=some (.int k)
 sl : ∀ n,i.sl=some n → ∃ e ie z,P.underlying t=some (.slice e)∧P.info? e=some ie∧ie.size=n∧ie.zero=some z∧CT nil0 z.cells.toList i.slz∧i.slz.length=n∧ie.bytes≤1024
 slx : ∀ n,i.sl=some n → ∃ e ie z,P.underlying t=some (.slice e)∧P.info? e=some ie∧ie.size=n∧ie.zero=some z∧CT nil0 z.cells.toList (i.slz.map exz)∧ie.bytes≤1024
 ptr:i.ptr=true → ∃ e,P.underlying t=some (.pointer e)
 bl:i.bl=true→P.underlying t=some .bool
 str:i.str=true→P.underlying t=some .string
 u8:i.u8=true → ∃ e,P.underlying t=some (.slice e)∧P.underlying e=some (.int .u8)
 zx : ∃ it z,P.info? t=some it∧it.zero=some z∧CT nil0 z.cells.toList (i.zero.map exz)
def kB (v:Value):K→Bool
 | .int k=>match v with | .int k' n=>decide (k'=k) && decide (klo k≤n) && decide (n≤khi k) | _=>false
 | .bool=>match v with | .bool _=>true | _=>false
 | .sl _=>match v with | .slice none 0 0=>true | _=>false
 | .ow _ _=>match v with | .slice none 0 0=>true | _=>false
 | .nl=>match v with | .slice none 0 0=>true | _=>false
 | .pt _=>false
 | .any=>v.oneCell'
 | .wild=>true
 | .ci k n=>match v with | .int k' m=>decide (k'=k) && ieq m n | _=>false
 | .cb b=>match v with | .bool c=>c==b | _=>false
 | .cel _ _=>false
 | .bt _=>false
 | .os .. => false
def ksB:List Value→List K→Bool
 | [],[]=>true
 | v::C,κ::l=>kB v κ && ksB C l
 | _,_=>false
theorem kB_ok {v:Value} {κ:K} (h:kB v κ=true):KT nil0 v κ:=by
 cases κ with
 | wild=>trivial
 | int k =>
   unfold kB at h
   dsimp only at h
   split at h
   ·rename_i k' n
    simp only [Bool.and_eq_true,decide_eq_true_eq] at h
    obtain ⟨⟨rfl,h1⟩,h2⟩:=h
    exact ⟨n,rfl,h1,h2⟩
   · cases h
 | bool =>
   unfold kB at h
   dsimp only at h
   split at h
   · exact ⟨_,rfl⟩
   · cases h
 | sl n =>
   unfold kB at h
   dsimp only at h
   split at h
   · exact SL_nil _ _
   · cases h
 | ow n hi =>
   unfold kB at h
   dsimp only at h
   split at h
   · exact .inl ⟨rfl,rfl⟩
   · cases h
 | nl =>
   unfold kB at h
   dsimp only at h
   split at h
   · exact rfl
   · cases h
 | pt i=>cases h
 | any=>exact h
 | ci k n =>
   unfold kB at h
   dsimp only at h
   split at h
   ·simp only [Bool.and_eq_true,decide_eq_true_eq] at h
    obtain ⟨rfl,h⟩:=h
    rw [ieq_iff.1 h]
    rfl
   · cases h
 | cb b =>
   unfold kB at h
   dsimp only at h
   split at h
   ·rw [beq_iff_eq] at h
    rw [h]
    rfl
   · cases h
 | cel i j=>cases h
 | bt t=>cases h
 | os j o n=>cases h
theorem ksB_ok : ∀ {C:List Value} {l:List K},ksB C l=true→CT nil0 C l
 | [],[],_=>⟨rfl,fun i κ hi=>by simp at hi⟩
 | v::C,κ::l,h=>by
   unfold ksB at h
   rw [Bool.and_eq_true] at h
   have ih:=ksB_ok h.2
   refine ⟨by simp [ih.1],fun i κ' hi => ?_⟩
   cases i with
   | zero=>simp at hi; subst hi; exact ⟨v,rfl,kB_ok h.1⟩
   | succ i=>simpa using ih.2 i κ' (by simpa using hi)
 | [],_::_,h=>by simp [ksB] at h
 | _::_,[],h=>by simp [ksB] at h
def placesB (P:Program) (fs:List Field):Option (List (Nat×Nat)):=fs.mapM (fun f=>(P.info? f.type).map fun i=>(f.offset,i.size))
def chkTi (P:Program) (t:Nat) (i:TI):Bool :=
 match P.info? t,P.underlying t with
 | some it,some d =>
   it.size==i.size && d.isRow==i.row && (match it.zero with | some z=>ksB z.cells.toList i.zero && ksB z.cells.toList (i.zero.map exz) | none=>false) &&
   (match i.arr with
    | none=>true
    | some (n,es,r)=>match d with
      | .array n' e=>n==n' && (match P.info? e,P.underlying e with | some ie,some de=>ie.size==es && de.isRow==r | _,_=>false)
      | _=>false) &&
   (match i.flds with | none=>true | some L=>match d with | .struct fs=>decide (placesB P fs.toList=some L) | _=>false) &&
   (match i.int with | none=>true | some k=>match d with | .int k'=>decide (k'=k) | _=>false) &&
   (match i.sl with | none=>true | some n=>match d with
    | .slice e=>(match P.info? e with | some ie=>ie.size==n && decide (ie.bytes≤1024) && (match ie.zero with | some z=>(ksB z.cells.toList i.slz && ksB z.cells.toList (i.slz.map exz)) && i.slz.length==n | none=>false) | none=>false)
    | _=>false) &&
   (match i.ptr with | false=>true | true=>match d with | .pointer _=>true | _=>false) &&
   (match i.bl with | false=>true | true=>match d with | .bool=>true | _=>false) &&
   (match i.str with | false=>true | true=>match d with | .string=>true | _=>false) &&
   (match i.u8 with | false=>true | true=>match d with | .slice e=>(match P.underlying e with | some (.int .u8)=>true | _=>false) | _=>false)
 | _,_=>false
theorem chkTi_ok {P:Program} {t:Nat} {i:TI} (h:chkTi P t i=true):TiOk P t i:=by
 unfold chkTi at h
 cases hi:P.info? t with
 | none=>simp [hi] at h
 | some it =>
   cases hu:P.underlying t with
   | none=>simp [hi,hu] at h
   | some d =>
     simp only [hi,hu,Bool.and_eq_true] at h
     obtain ⟨⟨⟨⟨⟨⟨⟨⟨⟨⟨h1,h2⟩,h3⟩,h4⟩,h5⟩,h6⟩,h7⟩,h8⟩,h9⟩,h10⟩,h11⟩:=h
     refine ⟨?_,?_,?_,?_,?_,?_,?_,?_,?_,?_,?_⟩
     ·cases hz:it.zero with
      | none=>simp [hz] at h3
      | some z =>
        simp only [hz,Bool.and_eq_true] at h3
        exact ⟨it,z,d,hi,by simpa using h1,hz,ksB_ok h3.1,hu,by simpa using h2⟩
     ·intro n es r ha
      simp only [ha] at h4
      cases d with
      | array n' e =>
        simp only [Bool.and_eq_true] at h4
        obtain ⟨k7,k8⟩:=h4
        cases he:P.info? e with
        | none=>simp [he] at k8
        | some ie =>
          cases hue:P.underlying e with
          | none=>simp [he,hue] at k8
          | some de =>
            simp only [he,hue,Bool.and_eq_true] at k8
            have k7':n=n':=by simpa using k7
            subst k7'
            exact ⟨e,ie,de,hu,he,by simpa using k8.1,hue,by simpa using k8.2⟩
      | _=>simp at h4
     ·intro L hL
      simp only [hL] at h5
      cases d with
      | struct fs =>
        simp only [decide_eq_true_eq] at h5
        exact ⟨fs,hu,h5⟩
      | _=>simp at h5
     ·intro k hk
      simp only [hk] at h6
      cases d with
      | int k' =>
        simp only [decide_eq_true_eq] at h6
        rw [hu,h6]
      | _=>simp at h6
     ·intro n hn
      simp only [hn] at h7
      cases d with
      | slice e =>
        simp only at h7
        cases hie:P.info? e with
        | none=>simp [hie] at h7
        | some ie =>
          simp only [hie,Bool.and_eq_true,beq_iff_eq,decide_eq_true_eq] at h7
          obtain ⟨⟨k1,k2⟩,k3⟩:=h7
          cases hz:ie.zero with
          | none=>simp [hz] at k3
          | some z =>
            simp only [hz,Bool.and_eq_true,beq_iff_eq] at k3
            exact ⟨e,ie,z,hu,hie,k1,hz,ksB_ok k3.1.1,k3.2,k2⟩
      | _=>simp at h7
     ·intro n hn
      simp only [hn] at h7
      cases d with
      | slice e =>
        simp only at h7
        cases hie:P.info? e with
        | none=>simp [hie] at h7
        | some ie =>
          simp only [hie,Bool.and_eq_true,beq_iff_eq,decide_eq_true_eq] at h7
          obtain ⟨⟨k1,k2⟩,k3⟩:=h7
          cases hz:ie.zero with
          | none=>simp [hz] at k3
          | some z =>
            simp only [hz,Bool.and_eq_true,beq_iff_eq] at k3
            exact ⟨e,ie,z,hu,hie,k1,hz,ksB_ok k3.1.2,k2⟩
      | _=>simp at h7
     ·intro hp
      simp only [hp] at h8
      cases d with
      | pointer e=>exact ⟨e,hu⟩
      | _=>simp at h8
     ·intro hp
      simp only [hp] at h9
      cases d with
      | bool=>exact hu
      | _=>simp at h9
     ·intro hp
      simp only [hp] at h10
      cases d with
      | string=>exact hu
      | _=>simp at h10
     ·intro hp
      simp only [hp] at h11
      cases d with
      | slice e=>exact ⟨e,hu,by revert h11; dsimp only; split <;> simp_all⟩
      | _=>simp at h11
     ·cases hz:it.zero with
      | none=>simp [hz] at h3
      | some z =>
        simp only [hz,Bool.and_eq_true] at h3
        exact ⟨it,z,hi,hz,ksB_ok h3.2⟩
def EqOk (P:Program) (t:TypeId) (l:List K):Prop :=
 ∀ (σ:S) (C D:Array Value) (w:World),CT σ C.toList l→CT σ D.toList l →
   (∀ op x y,(eqGuard op t x y (.agg C) (.agg D)).run P w = .ok () w) ∧
   ∃ b,(binOp .eql t (.agg C) (.agg D)).run P w = .ok (.bool b) w∧(binOp .neq t (.agg C) (.agg D)).run P w = .ok (.bool (!b)) w
inductive P1 where
 | t (κ:K)
 | r (es:Nat) (l:List K)
def P1K (σ:S) (κ:K):P1→Prop
 | .t κ'=>κ=κ'
 | .r es l => ∃ j o len r,κ = .os j o len∧len*es=l.length∧σ.pv j=some r∧(r.drop o).take l.length=l
inductive A where
 | t (τ:T)
 | rl (es:Nat) (l:List K)
 | rr (l:List P1)
def VA (σ:S) (v:Value):A→Prop
 | .t τ=>VT σ v τ
 | .rr l => ∃ j o len cap r,v = .slice (some ⟨σ.ad j,o,none⟩) len cap∧len≤cap∧cap≤maxLen∧len=l.length∧σ.pv j=some r∧((r.drop o).take len).length=len ∧ ∀ (i:Nat) (p:P1),l[i]? = some p → ∃ κ,((r.drop o).take len)[i]? = some κ∧P1K σ κ p
 | .rl es l => ∃ j o len cap r,v = .slice (some ⟨σ.ad j,o,none⟩) len cap∧len≤cap∧cap≤maxLen∧len*es=l.length∧σ.pv j=some r∧(r.drop o).take l.length=l
def VAs (σ:S) (vs:List Value) (azs:List A):Prop:=vs.length=azs.length ∧ ∀ (i:Nat) (x:A),azs[i]? = some x → ∃ v,vs[i]? = some v∧VA σ v x
structure Ctx where
 P:Program
 gt:Gt
 ti:List (Nat×TI)
 eqs:List (Nat×List K)
 sg:List (Nat×List T×T)
 own:Option (List Nat):=none
 eqx:List (Nat×List K×List K×Bool) := []
 ofam:Nat→List A→Option ((Nat→T)×Option (List K)):=fun _ _=>none
 oof:Op→List A→Option ((Nat→T)×Option (List K)):=fun _ _=>none
def EqxOk (P:Program) (gt:Gt) (x:Nat×List K×List K×Bool):Prop :=
 ∀ (σ:S) (C D:Array Value) (w:World),σ.rho=gt.rho→CT σ C.toList x.2.1→CT σ D.toList x.2.2.1 →
   (∀ op u v,(eqGuard op x.1 u v (.agg C) (.agg D)).run P w = .ok () w) ∧
   (binOp .eql x.1 (.agg C) (.agg D)).run P w = .ok (.bool x.2.2.2) w∧(binOp .neq x.1 (.agg C) (.agg D)).run P w = .ok (.bool (!x.2.2.2)) w
def VTs (σ:S) (vs:List Value) (τs:List T):Prop:=vs.length=τs.length ∧ ∀ (i:Nat) (τ:T),τs[i]? = some τ → ∃ v,vs[i]? = some v∧VT σ v τ
def Ans (gt:Gt) (σ:S) (w:World) (v:Value) (w':World) (τ:T):Prop := ∃ σ',Go1 σ σ' w w'∧WT gt σ' w'∧VT σ' v τ
def SigOk (P:Program) (gt:Gt) (f:FuncId) (τs:List T) (τ:T):Prop :=
 ∀ (σ:S) (w:World) (vs:Array Value),WT gt σ w→VTs σ vs.toList τs →
   (∃ v w',(callFunc f vs).run P w = .ok (.value v) w'∧Ans gt σ w v w' τ) ∨
   ((callFunc f vs).run P w = .ok (.enter f vs) w∧Calls P f vs w fun e w' => ∃ v,e = .returned v∧Ans gt σ w v w' τ)
def OAns (gt:Gt) (σ:S) (w:World) (v:Value) (w':World) (F:Nat→T):Option (List K)→Prop
 | none=>VT σ v (F 0)
 | some l => ∃ b C t,w.heap.size≤b∧w'.heap[b]? = some (.cells C t (0,0))∧CP σ C.toList l ∧ ∀ σ' n,Le σ σ'→σ'.rho=σ.rho→σ'.ad n=b→σ'.pv n=some l→VT σ' v (F n)
def OSigOk (P:Program) (gt:Gt) (f:FuncId) (azs:List A) (F:Nat→T) (e:Option (List K)):Prop :=
 ∀ (σ:S) (w:World) (vs:Array Value),WT gt σ w→VAs σ vs.toList azs →
   (callFunc f vs).run P w = .ok (.enter f vs) w∧Calls P f vs w fun x w' => ∃ v,x = .returned v∧Below w.heap.size w w'∧OAns gt σ w v w' F e
def OofOk (P:Program) (gt:Gt) (g:Op→List A→Option ((Nat→T)×Option (List K))):Prop :=
 ∀ (σ:S) (w:World) (a:Act) (o:Oper) (azs:List A) (F:Nat→T) (e:Option (List K)),WT gt σ w→VAs σ (o.op.operands.toList.map a.eval) azs→g o.op azs=some (F,e) → ∃ v w',(execOp a.eval o).run P w = .ok (.value v) w'∧Below w.heap.size w w'∧OAns gt σ w v w' F e
def PickOk (r:Tm→List Value):Prop:=(∀ b,(r (.bl b))[0]? = some (.bool b)) ∧ ∀ x y z b c,(r x)[0]? = some (.bool b)→(r (if b then y else z))[0]? = some (.bool c)→(r (.pick x y z))[0]? = some (.bool c)
structure Ctx.Ok (c:Ctx):Prop where
 order:c.P.follows .mixedOrders=true
 ti : ∀ x∈c.ti,TiOk c.P x.1 x.2
 eqs : ∀ x∈c.eqs,EqOk c.P x.1 x.2
 sg : ∀ x∈c.sg,SigOk c.P c.gt x.1 x.2.1 x.2.2
 eqx : ∀ x∈c.eqx,EqxOk c.P c.gt x
 ofam : ∀ f azs F e,c.ofam f azs=some (F,e)→OSigOk c.P c.gt f azs F e
 oof:OofOk c.P c.gt c.oof
 pick:c.own≠none→PickOk c.gt.rho
def Ctx.t (c:Ctx) (t:Nat):Option TI:=(c.ti.find? fun x=>x.1==t).map (·.2)
theorem Ctx.Ok.t {c:Ctx} (h:c.Ok) {t:Nat} {i:TI} (ht:c.t t=some i):TiOk c.P t i:=by
 unfold Ctx.t at ht
 rw [Option.map_eq_some_iff] at ht
 obtain ⟨⟨t',i'⟩,h1,h2⟩:=ht
 have h3:=List.mem_of_find?_eq_some h1
 have h4:=List.find?_some h1
 simp at h4 h2
 subst h4 h2
 exact h.ti _ h3
def full (k:IntKind):T := .int k (klo k) (khi k)
def cst (k:IntKind) (n:Int):T:=if klo k≤n∧n≤khi k then .int k n n else full k
def cmpB:BinOp→Int→Int→Option Bool
 | .eql,x,y=>some (x==y)
 | .neq,x,y=>some (x != y)
 | .lss,x,y=>some (decide (x<y))
 | .leq,x,y=>some (decide (x≤y))
 | .gtr,x,y=>some (decide (x>y))
 | .geq,x,y=>some (decide (x≥y))
 | _,_,_=>none
set_option warn.classDefReducibility false
attribute [local instance 100000] decEqI decLeI decLtI
def isB:T→Bool
 | .bool | .cb _=>true
 | _=>false
def isS:T→Bool
 | .sl _ | .ss .. | .ow .. | .nl=>true
 | _=>false
def nilB:T→T
 | .nl => .cb true
 | .ss _ _ a _=>if 0<a then .cb false else .bool
 | _ => .bool
def aCmp (op:BinOp) (a b a' b':Int):Option T :=
 if a=b∧a'=b' then (cmpB op a a').map .cb else match op with
  | .lss=>if b<a' then some (.cb true) else if b'≤a then some (.cb false) else some .bool
  | op=>(cmpB op a a').map fun _ => .bool
def aInt (op:BinOp) (k:IntKind) (a b:Int) (k':IntKind) (a' b':Int):Option T :=
    match op with
    | .shl | .shr=>if 0≤a'∧klo k≤a∧b≤khi k then some (full k) else none
    | .add=>if k=k' then some (if a=b∧a'=b' then cst k (a+a') else full k) else none
    | .sub=>if k=k' then some (if a=b∧a'=b' then cst k (a-a') else full k) else none
    | .mul=>if k=k' then some (if a=b∧a'=b' then cst k (a*a') else full k) else none
    | .quo=>if k=k'∧a=b∧a'=b'∧0≤a∧a≤khi k∧0<a' then some (.int k (a / a') (a / a')) else none
    | .rem=>if k=k'∧a=b∧a'=b'∧0≤a∧0<a' then some (.int k (a%a') (a%a')) else none
    | .and | .or | .xor | .andNot=>if k=k' then some (full k) else none
    | op=>if k=k' then aCmp op a b a' b' else none
def aInt1 (op:BinOp) (k:IntKind) (a b:Int):T→Option T
 | .int k' a' b'=>aInt op k a b k' a' b'
 | _=>none
def aAgx (c:Ctx) (op:BinOp) (t:TypeId) (l l':List K):Option T :=
 match c.eqx.find? fun x=>x.1==t && (decide (x.2.1=l) && decide (x.2.2.1=l')),op with
 | some x,.eql=>some (.cb x.2.2.2)
 | some x,.neq=>some (.cb (!x.2.2.2))
 | _,_=>none
def aAgg (c:Ctx) (op:BinOp) (t:TypeId) (l:List K):T→Option T
 | .agg l'=>match aAgx c op t l l' with
  | some τ=>some τ
  | none=>match op with
   | .eql | .neq=>if c.eqs.any (fun x=>x.1==t && decide (x.2=l) && decide (x.2=l')) then some .bool else none
   | _=>none
 | _=>none
def aPtr (c:Ctx) (op:BinOp) (t:TypeId):T→Option T
 | .np=>match c.t t with
   | some i=>if i.ptr then (match op with | .eql=>some (.cb false) | .neq=>some (.cb true) | _=>none) else none
   | none=>none
 | _=>none
def aStr (op:BinOp):T→Option T
 | .str=>match op with
   | .eql | .neq=>some .bool
   | _=>none
 | _=>none
def aRest (c:Ctx) (op:BinOp) (t:TypeId) (x:T):T→Option T
 | .nl=>match c.t t with
   | some i=>if i.sl.isSome && isS x then (match op with | .eql=>some (nilB x) | .neq=>some .bool | _=>none) else none
   | none=>none
 | y=>if isB x && isB y then (match op,c.t t with
   | .eql,some i | .neq,some i=>if i.bl then some .bool else none
   | _,_=>none) else none
def absBin (c:Ctx) (op:BinOp) (t:TypeId) (x y:T):Option T :=
 match x with
 | .int k a b=>aInt1 op k a b y
 | .agg l=>aAgg c op t l y
 | .ptr .. => aPtr c op t y
 | .str=>aStr op y
 | _=>aRest c op t x y
theorem eqIn_ptr {P:Program} {w:World} (d:Nat) {t e:TypeId} (h:P.underlying t=some (.pointer e)) (a:Addr):(Op.equalIn (d+1) t (.pointer (some a)) (.pointer none)).run P w = .ok false w:=by
 simp [Op.equalIn,run_underlying h]
theorem eqIn_sl {P:Program} {w:World} (d:Nat) {t e:TypeId} (h:P.underlying t=some (.slice e)) (a:Option Addr) (n k:Nat):(Op.equalIn (d+1) t (.slice a n k) (.slice none 0 0)).run P w = .ok a.isNone w:=by
 cases a <;> simp [Op.equalIn,run_underlying h]
theorem eql_of {P:Program} {w:World} {t:TypeId} {x y:Value} {b:Bool} (h:(Op.equal t x y).run P w = .ok b w) (hx:binOp .eql t x y=(do pure (.bool (← Op.equal t x y)))):(binOp .eql t x y).run P w = .ok (.bool b) w:=by
 rw [hx,Sem.run_bind,h]; rfl
theorem neq_of {P:Program} {w:World} {t:TypeId} {x y:Value} {b:Bool} (h:(Op.equal t x y).run P w = .ok b w) (hx:binOp .neq t x y=(do pure (.bool (!(← Op.equal t x y))))):(binOp .neq t x y).run P w = .ok (.bool (!b)) w:=by
 rw [hx,Sem.run_bind,h]; rfl
theorem guard_of {P:Program} {w:World} {s:Sem Value} {op:BinOp} {t:TypeId} {ox oy:Operand} {x y v:Value} (hg:eqGuard op t ox oy x y=pure ()) (h:(binOp op t x y).run P w = .ok v w) :
 ((do eqGuard op t ox oy x y; binOp op t x y:Sem Value)).run P w = .ok v w:=by
 rw [Sem.run_bind,hg]; exact h
theorem isB_ok {σ:S} {v:Value} : ∀ {τ:T},isB τ=true→VT σ v τ → ∃ b,v = .bool b
 | .bool,_,h=>h
 | .cb _,_,h=>⟨_,h⟩
theorem nilB_ok {σ:S} {q:Option Addr} {k z:Nat} : ∀ {τ:T},VT σ (.slice q k z) τ→VT σ (.bool q.isNone) (nilB τ)
 | .nl,h=>by cases h; rfl
 | .ss m κ a b,h=>by
   unfold nilB
   dsimp only
   split
   ·rename_i ha
    obtain ⟨_,_,_,e,h1,_,h3,_,h5,_⟩:=h
    cases e
    cases q with
    | none=>have:=h5 rfl; omega
    | some p=>rfl
   · exact ⟨_,rfl⟩
 | .int ..,_=>⟨_,rfl⟩ | .bool,_=>⟨_,rfl⟩ | .cb _,_=>⟨_,rfl⟩ | .agg _,_=>⟨_,rfl⟩ | .ptr ..,_=>⟨_,rfl⟩ | .sl _,_=>⟨_,rfl⟩ | .pk ..,_=>⟨_,rfl⟩ | .pr ..,_=>⟨_,rfl⟩ | .str,_=>⟨_,rfl⟩ | .ow ..,_=>⟨_,rfl⟩
 | .cel ..,_=>⟨_,rfl⟩ | .bt ..,_=>⟨_,rfl⟩ | .os ..,_=>⟨_,rfl⟩ | .own ..,_=>⟨_,rfl⟩ | .np,_=>⟨_,rfl⟩ | .t2 ..,_=>⟨_,rfl⟩ | .t3 ..,_=>⟨_,rfl⟩ | .or ..,_=>⟨_,rfl⟩ | .und,_=>⟨_,rfl⟩ | .any,_=>⟨_,rfl⟩
theorem isS_ok {σ:S} {v:Value} : ∀ {τ:T},isS τ=true→VT σ v τ → ∃ a n k,v = .slice a n k
 | .sl _,_,⟨a,n,k,e,_⟩=>⟨a,n,k,e⟩
 | .ss ..,_,⟨a,n,k,e,_⟩=>⟨a,n,k,e⟩
 | .ow ..,_,.inl ⟨e,_⟩=>⟨_,_,_,e⟩
 | .ow ..,_,.inr ⟨_,n,k,_,e,_⟩=>⟨_,n,k,e⟩
 | .nl,_,e=>⟨_,_,_,e⟩
theorem wrap_same (k:IntKind) (n:Int) (h1:klo k≤n) (h2:n≤khi k):k.wrap n=n:=by
 cases k <;> simp only [klo,khi] at h1 h2 <;> simp only [IntKind.wrap,IntKind.bits,IntKind.signed] <;> simp <;> (try split) <;> omega
theorem full_ok (σ:S) (k:IntKind) (n:Int):VT σ (.int k (k.wrap n)) (full k):=⟨_,rfl,(wrap_in k n).1,(wrap_in k n).2⟩
theorem cst_ok (σ:S) (k:IntKind) (n:Int):VT σ (.int k (k.wrap n)) (cst k n):=by
 unfold cst
 split
 ·rename_i h
  rw [wrap_same k n h.1 h.2]
  exact ⟨n,rfl,Int.le_refl _,Int.le_refl _⟩
 · exact full_ok σ k n
theorem fold_ok (σ:S) (k:IntKind) (r:Int→Int→Int) {a b a' b' x y:Int} (h1:a≤x) (h2:x≤b) (h3:a'≤y) (h4:y≤b') :
 VT σ (.int k (k.wrap (r x y))) (if a=b∧a'=b' then cst k (r a a') else full k):=by
 split
 ·rename_i h
  obtain rfl:x=a:=by omega
  obtain rfl:y=a':=by omega
  exact cst_ok σ k _
 · exact full_ok σ k _
theorem fdiv_in (k:IntKind) (x:Int) (n:Nat) (h1:klo k≤x) (h2:x≤khi k):klo k≤x.fdiv (2^n)∧x.fdiv (2^n)≤khi k:=by
 have hp:(0:Int)<2^n:=Int.pow_pos (by decide)
 have hk:klo k≤0:=by cases k <;> decide
 have hh:0≤khi k:=by cases k <;> decide
 have e:x.fdiv (2^n)=x / 2^n:=Int.fdiv_eq_ediv_of_nonneg x (Int.le_of_lt hp)
 rw [e]
 have hge:(1:Int)≤2^n:=hp
 constructor
 ·rcases Int.lt_or_le x 0 with hx | hx
  ·have:x≤x / 2^n:=by
    rw [Int.le_ediv_iff_mul_le hp]
    have:=Int.mul_le_mul_of_nonpos_left (a:=x) (Int.le_of_lt hx) hge
    omega
   omega
  ·have:=Int.ediv_nonneg hx (Int.le_of_lt hp)
   omega
 ·rcases Int.lt_or_le x 0 with hx | hx
  ·have:x / 2^n<0:=Int.ediv_neg_of_neg_of_pos hx hp
   omega
  ·have:=Int.ediv_le_self (2^n) hx
   omega
theorem bits_run {P:Program} {w:World} (σ:S) (op:BinOp) (k:IntKind) (x y:Int) (h:op = .and∨op = .or∨op = .xor∨op = .andNot) : ∃ v,(Op.intBits op k x y).run P w = .ok v w∧VT σ v (full k):=by
 rcases h with rfl | rfl | rfl | rfl <;> exact ⟨_,rfl,full_ok σ k _⟩
theorem guard_int {P:Program} {w:World} (op:BinOp) (t:TypeId) (x y:Operand) (k k':IntKind) (n m:Int):(eqGuard op t x y (.int k n) (.int k' m)).run P w = .ok () w:=by
 cases op <;> rfl
theorem aInt_ok {c:Ctx} (hc:c.Ok) {σ:S} {w:World} (op:BinOp) (t:TypeId) (ox oy:Operand) {x y:Value} {k k':IntKind} {a b a' b':Int} {ρ:T} (hx:VT σ x (.int k a b)) (hy:VT σ y (.int k' a' b')) (h:aInt op k a b k' a' b'=some ρ) :
 ∃ v,((do eqGuard op t ox oy x y; binOp op t x y:Sem Value)).run c.P w = .ok v w∧VT σ v ρ:=by
 unfold aInt at h
 obtain ⟨n,rfl,h1,h2⟩:=hx
 obtain ⟨m,rfl,h3,h4⟩:=hy
 have hg:=guard_int (P:=c.P) (w:=w) op t ox oy k k' n m
 simp only [Sem.run_bind,hg,Result.andThen_ok]
 cases op with
 | shl =>
   dsimp only at h
   split at h
   ·rename_i hh
    cases h
    have hm : ¬ m<0:=by omega
    refine ⟨_,?_,full_ok σ k (n*2^min m.toNat k.bits)⟩
    simp [binOp,Op.shift,hm]
   · cases h
 | shr =>
   dsimp only at h
   split at h
   ·rename_i hh
    cases h
    have hm : ¬ m<0:=by omega
    refine ⟨.int k (n.fdiv (2^min m.toNat k.bits)),by simp [binOp,Op.shift,hm],?_⟩
    have:=fdiv_in k n (min m.toNat k.bits) (by omega) (by omega)
    exact ⟨_,rfl,this.1,this.2⟩
   · cases h
 | add =>
   dsimp only at h
   split at h
   ·rename_i hk; cases h; subst hk
    exact ⟨_,by simp [binOp,Op.intArith],fold_ok σ k (fun x y=>x+y) h1 h2 h3 h4⟩
   · cases h
 | sub =>
   dsimp only at h
   split at h
   ·rename_i hk; cases h; subst hk
    exact ⟨_,by simp [binOp,Op.intArith],fold_ok σ k (fun x y=>x-y) h1 h2 h3 h4⟩
   · cases h
 | mul =>
   dsimp only at h
   split at h
   ·rename_i hk; cases h; subst hk
    exact ⟨_,by simp [binOp,Op.intArith],fold_ok σ k (fun x y=>x*y) h1 h2 h3 h4⟩
   · cases h
 | quo =>
   dsimp only at h
   split at h
   ·rename_i hh; cases h
    obtain ⟨rfl,rfl,rfl,h5,h6,h7⟩:=hh
    obtain rfl:n=a:=by omega
    obtain rfl:m=a':=by omega
    have hm:m≠0:=by omega
    have e:n.tdiv m=n / m:=Int.tdiv_eq_ediv_of_nonneg h5
    have h8:0≤n / m:=Int.ediv_nonneg h5 (by omega)
    have h9:n / m≤n:=Int.ediv_le_self m h5
    have hk:klo k≤0:=by cases k <;> decide
    refine ⟨.int k (n / m),?_,_,rfl,Int.le_refl _,Int.le_refl _⟩
    simp [binOp,Op.intDiv,hm,e,wrap_same k (n / m) (by omega) (by omega)]
   · cases h
 | rem =>
   dsimp only at h
   split at h
   ·rename_i hh; cases h
    obtain ⟨rfl,rfl,rfl,h5,h7⟩:=hh
    obtain rfl:n=a:=by omega
    obtain rfl:m=a':=by omega
    have hm:m≠0:=by omega
    have e:n.tmod m=n%m:=Int.tmod_eq_emod_of_nonneg h5
    refine ⟨.int k (n%m),?_,_,rfl,Int.le_refl _,Int.le_refl _⟩
    simp [binOp,Op.intDiv,hm,e]
   · cases h
 | and =>
   dsimp only at h
   split at h
   ·rename_i hk; cases h; subst hk
    obtain ⟨v,hv,hv'⟩:=bits_run (P:=c.P) (w:=w) σ .and k n m (by simp)
    exact ⟨v,by simpa [binOp] using hv,hv'⟩
   · cases h
 | or =>
   dsimp only at h
   split at h
   ·rename_i hk; cases h; subst hk
    obtain ⟨v,hv,hv'⟩:=bits_run (P:=c.P) (w:=w) σ .or k n m (by simp)
    exact ⟨v,by simpa [binOp] using hv,hv'⟩
   · cases h
 | xor =>
   dsimp only at h
   split at h
   ·rename_i hk; cases h; subst hk
    obtain ⟨v,hv,hv'⟩:=bits_run (P:=c.P) (w:=w) σ .xor k n m (by simp)
    exact ⟨v,by simpa [binOp] using hv,hv'⟩
   · cases h
 | andNot =>
   dsimp only at h
   split at h
   ·rename_i hk; cases h; subst hk
    obtain ⟨v,hv,hv'⟩:=bits_run (P:=c.P) (w:=w) σ .andNot k n m (by simp)
    exact ⟨v,by simpa [binOp] using hv,hv'⟩
   · cases h
 | _ =>
   dsimp only at h
   split at h
   ·rename_i hk
    subst hk
    unfold aCmp at h
    split at h
    ·rename_i he
     obtain rfl:n=a:=by omega
     obtain rfl:m=a':=by omega
     cases h
     exact ⟨_,by simp [binOp,Op.intCmp],rfl⟩
    ·dsimp only at h
     first
      | (cases h; exact ⟨_,by simp [binOp,Op.intCmp]; rfl,_,rfl⟩)
      | (split at h
         · cases h; exact ⟨.bool true,by simp [binOp,Op.intCmp]; omega,rfl⟩
         ·split at h
          · cases h; exact ⟨.bool false,by simp [binOp,Op.intCmp]; omega,rfl⟩
          · cases h; exact ⟨_,by simp [binOp,Op.intCmp]; rfl,_,rfl⟩)
   · cases h
theorem aAgg_ok {c:Ctx} (hc:c.Ok) {σ:S} {w:World} (op:BinOp) (t:TypeId) (ox oy:Operand) {x y:Value} {l l':List K} {ρ:T} (hx:VT σ x (.agg l)) (hy:VT σ y (.agg l')) (hrho:σ.rho=c.gt.rho) (h:aAgg c op t l (.agg l')=some ρ) :
 ∃ v,((do eqGuard op t ox oy x y; binOp op t x y:Sem Value)).run c.P w = .ok v w∧VT σ v ρ:=by
 unfold aAgg at h
 dsimp only at h
 obtain ⟨C,rfl,hC⟩:=hx
 obtain ⟨D,rfl,hD⟩:=hy
 have key : ∀ l0,(t,l0)∈c.eqs→l0=l→l0=l'→(op = .eql∨op = .neq)→ρ = .bool → ∃ v,((do eqGuard op t ox oy (.agg C) (.agg D); binOp op t (.agg C) (.agg D):Sem Value)).run c.P w = .ok v w∧VT σ v ρ:=by
  intro l0 hm e1 e2 hop hρ
  subst e1 hρ
  rw [← e2] at hD
  obtain ⟨hg,b,h1,h2⟩:=hc.eqs _ hm σ C D w hC hD
  simp only [Sem.run_bind,hg,Result.andThen_ok]
  rcases hop with rfl | rfl
  · exact ⟨_,h1,b,rfl⟩
  · exact ⟨_,h2,!b,rfl⟩
 have any:(c.eqs.any fun x=>x.1==t && decide (x.2=l) && decide (x.2=l'))=true → ∃ l0,(t,l0)∈c.eqs∧l0=l∧l0=l':=by
  intro ha
  rw [List.any_eq_true] at ha
  obtain ⟨⟨t0,l0⟩,hm,hx⟩:=ha
  simp only [Bool.and_eq_true,beq_iff_eq,decide_eq_true_eq] at hx
  obtain ⟨⟨e0,e1⟩,e2⟩:=hx
  rw [e0] at hm
  exact ⟨l0,hm,e1,e2⟩
 split at h
 ·rename_i τ hxx
  cases h
  unfold aAgx at hxx
  have mem : ∀ x,(c.eqx.find? fun x=>x.1==t && (decide (x.2.1=l) && decide (x.2.2.1=l')))=some x→_:=fun x hx=>by
   have h3:=List.mem_of_find?_eq_some hx
   have h4:=List.find?_some hx
   simp only [Bool.and_eq_true,beq_iff_eq,decide_eq_true_eq] at h4
   obtain ⟨e1,e2,e3⟩:=h4
   have:=hc.eqx x h3 σ C D w hrho (by rw [e2]; exact hC) (by rw [e3]; exact hD)
   rw [e1] at this
   exact this
  split at hxx
  ·rename_i x hf
   cases hxx
   obtain ⟨k1,k2,k3⟩:=mem x hf
   exact ⟨_,by simp only [Sem.run_bind,k1,Result.andThen_ok]; exact k2,rfl⟩
  ·rename_i x hf
   cases hxx
   obtain ⟨k1,k2,k3⟩:=mem x hf
   exact ⟨_,by simp only [Sem.run_bind,k1,Result.andThen_ok]; exact k3,rfl⟩
  · cases hxx
 split at h
 ·split at h
  ·rename_i ha
   cases h
   obtain ⟨l0,hm,e1,e2⟩:=any ha
   exact key l0 hm e1 e2 (.inl rfl) rfl
  · cases h
 ·split at h
  ·rename_i ha
   cases h
   obtain ⟨l0,hm,e1,e2⟩:=any ha
   exact key l0 hm e1 e2 (.inr rfl) rfl
  · cases h
 · cases h
theorem aPtr_ok {c:Ctx} (hc:c.Ok) {σ:S} {w:World} (op:BinOp) (t:TypeId) (ox oy:Operand) {x y:Value} {m:Bool} {l:List K} {off:Nat} {ρ:T} (hx:VT σ x (.ptr m l off)) (hy:VT σ y .np) (h:aPtr c op t .np=some ρ) :
 ∃ v,((do eqGuard op t ox oy x y; binOp op t x y:Sem Value)).run c.P w = .ok v w∧VT σ v ρ:=by
 unfold aPtr at h
 dsimp only at h
 obtain ⟨b,m',rfl,_,_⟩:=hx
 obtain rfl:=hy
 split at h
 ·rename_i i hi
  split at h
  ·rename_i hp
   obtain ⟨e,hu⟩:=(hc.t hi).ptr hp
   split at h
   ·cases h
    exact ⟨.bool false,guard_of (s:=pure undef) rfl (eql_of (eqIn_ptr 9999 hu _) rfl),rfl⟩
   ·cases h
    exact ⟨.bool true,guard_of (s:=pure undef) rfl (neq_of (eqIn_ptr 9999 hu _) rfl),rfl⟩
   · cases h
  · cases h
 · cases h
theorem aRest_ok {c:Ctx} (hc:c.Ok) {σ:S} {w:World} (op:BinOp) (t:TypeId) (ox oy:Operand) {x y:Value} {τ τ' ρ:T} (hx:VT σ x τ) (hy:VT σ y τ') (h:aRest c op t τ τ'=some ρ) :
 ∃ v,((do eqGuard op t ox oy x y; binOp op t x y:Sem Value)).run c.P w = .ok v w∧VT σ v ρ:=by
 unfold aRest at h
 split at h
 ·obtain rfl:=hy
  split at h
  ·rename_i i hi
   split at h
   ·rename_i hp
    rw [Bool.and_eq_true] at hp
    obtain ⟨n,hn⟩:=Option.isSome_iff_exists.1 hp.1
    obtain ⟨e,_,_,hu,_⟩:=(hc.t hi).sl n hn
    obtain ⟨q,k,z,rfl⟩:=isS_ok hp.2 hx
    split at h
    ·cases h
     exact ⟨.bool q.isNone,guard_of (s:=pure undef) rfl (eql_of (eqIn_sl 9999 hu q k z) rfl),nilB_ok hx⟩
    ·cases h
     exact ⟨.bool (!q.isNone),guard_of (s:=pure undef) rfl (neq_of (eqIn_sl 9999 hu q k z) rfl),_,rfl⟩
    · cases h
   · cases h
  · cases h
 ·split at h
  ·rename_i hb
   rw [Bool.and_eq_true] at hb
   obtain ⟨p,rfl⟩:=isB_ok hb.1 hx
   obtain ⟨q,rfl⟩:=isB_ok hb.2 hy
   split at h
   ·rename_i i hi
    split at h
    ·rename_i hbl
     cases h
     exact ⟨.bool (p==q),by simp [eqGuard,run_eql_bool w t p q ((hc.t hi).bl hbl)],_,rfl⟩
    · cases h
   ·rename_i i hi
    split at h
    ·rename_i hbl
     cases h
     exact ⟨.bool (!(p==q)),by simp [eqGuard,run_neq_bool w t p q ((hc.t hi).bl hbl)],_,rfl⟩
    · cases h
   · cases h
  · cases h
theorem aStr_ok {c:Ctx} (hc:c.Ok) {σ:S} {w:World} (op:BinOp) (t:TypeId) (ox oy:Operand) {x y:Value} {ρ:T} (hx:VT σ x .str) (hy:VT σ y .str) (h:aStr op .str=some ρ) :
 ∃ v,((do eqGuard op t ox oy x y; binOp op t x y:Sem Value)).run c.P w = .ok v w∧VT σ v ρ:=by
 unfold aStr at h
 dsimp only at h
 obtain ⟨p,rfl⟩:=hx
 obtain ⟨q,rfl⟩:=hy
 split at h
 ·cases h
  exact ⟨.bool (p.toList==q.toList),guard_of (s:=pure undef) rfl (by rw [binOp_string_eql]; rfl),_,rfl⟩
 ·cases h
  exact ⟨.bool !(p.toList==q.toList),guard_of (s:=pure undef) rfl (by rw [binOp_string_neq]; rfl),_,rfl⟩
 · cases h
theorem bin_ok {c:Ctx} (hc:c.Ok) {σ:S} {w:World} (op:BinOp) (t:TypeId) (ox oy:Operand) {x y:Value} {τ τ' ρ:T} (hx:VT σ x τ) (hy:VT σ y τ') (hrho:σ.rho=c.gt.rho) (h:absBin c op t τ τ'=some ρ) :
 ∃ v,((do eqGuard op t ox oy x y; binOp op t x y:Sem Value)).run c.P w = .ok v w∧VT σ v ρ:=by
 unfold absBin at h
 split at h
 ·unfold aInt1 at h
  split at h
  · exact aInt_ok hc op t ox oy hx hy h
  · cases h
 ·cases τ' with
  | agg l'=>exact aAgg_ok hc op t ox oy hx hy hrho h
  | _=>cases h
 ·cases τ' with
  | np=>exact aPtr_ok hc op t ox oy hx hy h
  | _=>cases h
 ·cases τ' with
  | str=>exact aStr_ok hc op t ox oy hx hy h
  | _=>cases h
 · exact aRest_ok hc op t ox oy hx hy h
end Ab
end Go.Proofs.YtfodadedkilgdaaGreatDoor
