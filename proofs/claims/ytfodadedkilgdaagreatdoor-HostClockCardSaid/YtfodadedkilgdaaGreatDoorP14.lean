/- A part of the proof. Plain; no condition. -/
import Derived.Test.YtfodadedkilgdaaGreatDoorP4
import Derived.Test.YtfodadedkilgdaaGreatDoorP1
import Derived.Laws.Tables
import Derived.Laws.StructEq
import Derived.Laws.CopyRow
import Derived.Deep.MidRow
import Derived.Laws.Externs
namespace Go.Proofs.YtfodadedkilgdaaGreatDoor
set_option linter.unusedVariables false
set_option linter.unusedSimpArgs false
open Go.RowKit
namespace Ab
inductive Tm where
 | at (i:Nat)
 | bl (b:Bool)
 | pick (x y z:Tm)
 | nil
 | cons (x l:Tm)
 | ap (g:Nat) (l:Tm)
 | ix (t:Tm) (j:Nat)
 | pk (s:Nat) (l:Tm)
def Tm.beq:Tm→Tm→Bool
 | .at i,.at j=>Nat.beq i j
 | .bl b,.bl c=>match b with | true=>c | false => !c
 | .pick x y z,.pick x' y' z'=>match Tm.beq x x' with | true=>(match Tm.beq y y' with | true=>Tm.beq z z' | false=>false) | false=>false
 | .nil,.nil=>true
 | .cons x l,.cons x' l'=>match Tm.beq x x' with | true=>Tm.beq l l' | false=>false
 | .ap g l,.ap g' l'=>match Nat.beq g g' with | true=>Tm.beq l l' | false=>false
 | .ix t j,.ix t' j'=>match Nat.beq j j' with | true=>Tm.beq t t' | false=>false
 | .pk g l,.pk g' l'=>match Nat.beq g g' with | true=>Tm.beq l l' | false=>false
 | _,_=>false
theorem Tm.beq_iff : ∀ {x y:Tm},Tm.beq x y=true↔x=y:=by
 intro x
 induction x with
 | «at» i=>intro y; cases y <;> simp [Tm.beq,Nat.beq_eq]
 | bl b=>intro y; cases y <;> simp [Tm.beq]; rename_i c; cases b <;> cases c <;> simp
 | pick a b d iha ihb ihd =>
   intro y
   cases y with
   | pick a' b' d' =>
     simp only [Tm.beq,Tm.pick.injEq]
     rw [← iha,← ihb,← ihd]
     cases Tm.beq a a' <;> cases Tm.beq b b' <;> simp
   | _=>simp [Tm.beq]
 | nil=>intro y; cases y <;> simp [Tm.beq]
 | cons a l iha ihl =>
   intro y
   cases y with
   | cons a' l' =>
     simp only [Tm.beq,Tm.cons.injEq]
     rw [← iha,← ihl]
     cases Tm.beq a a' <;> simp
   | _=>simp [Tm.beq]
 | ap g l ihl =>
   intro y
   cases y with
   | ap g' l' =>
     simp only [Tm.beq,Tm.ap.injEq]
     rw [← ihl,← Nat.beq_eq]
     cases Nat.beq g g' <;> simp
   | _=>simp [Tm.beq]
 | pk g l ihl =>
   intro y
   cases y with
   | pk g' l' =>
     simp only [Tm.beq,Tm.pk.injEq]
     rw [← ihl,← Nat.beq_eq]
     cases Nat.beq g g' <;> simp
   | _=>simp [Tm.beq]
 | ix l g ihl =>
   intro y
   cases y with
   | ix l' g' =>
     simp only [Tm.beq,Tm.ix.injEq]
     rw [← ihl,← Nat.beq_eq]
     cases Nat.beq g g' <;> simp
   | _=>simp [Tm.beq]
instance:DecidableEq Tm:=fun a b=>match h:Tm.beq a b with
 | true => .isTrue (Tm.beq_iff.1 h)
 | false => .isFalse fun e=>by rw [Tm.beq_iff.2 e] at h; cases h
inductive K where
 | int (k:IntKind)
 | bool
 | sl (n:Nat)
 | pt (i:Nat)
 | ow (n hi:Nat)
 | nl
 | any
 | wild
 | ci (k:IntKind) (n:Int)
 | cb (b:Bool)
 | cel (i:Tm) (j:Nat)
 | bt (t:Tm)
 | os (j o len:Nat)
def kid:IntKind→Nat
 | .i8=>0 | .i16=>1 | .i32=>2 | .i64=>3 | .u8=>4 | .u16=>5 | .u32=>6 | .u64=>7
def kcode:K→Nat
 | .int k=>16*kid k
 | .bool=>1
 | .sl n=>16*n+2
 | .pt i=>16*i+3
 | .ow n _=>16*n+4
 | .nl=>5
 | .any=>6
 | .wild=>7
 | .ci k _=>16*kid k+8
 | .cb _=>9
 | .cel _ _=>11
 | .bt _=>12
 | .os j _ _=>16*j+13
def icod:Int→Nat
 | .ofNat n=>2*n
 | .negSucc n=>2*n+1
theorem icod_inj {a b:Int} (h:icod a=icod b):a=b:=by
 cases a <;> cases b <;> simp only [icod] at h <;> first | (exfalso; omega) | (congr 1; omega)
theorem kid_inj {k k':IntKind} (h:kid k=kid k'):k=k':=by
 cases k <;> cases k' <;> first | rfl | (exfalso; revert h; decide)
def kcod2:K→Nat
 | .ow _ hi=>hi
 | .ci _ n=>icod n
 | .cb b=>b.toNat
 | .cel _ j=>j
 | .os _ o _=>o
 | _=>0
def kcod3:K→Tm
 | .cel i _=>i
 | .bt t=>t
 | .os _ _ n => .at n
 | _ => .nil
theorem kcode_inj {a b:K} (h:kcode a=kcode b) (h2:kcod2 a=kcod2 b) (h3:kcod3 a=kcod3 b):a=b:=by
 cases a <;> cases b <;> simp only [kcode,kcod2,kcod3,Tm.at.injEq] at h h2 h3 <;> first | rfl | (exfalso; omega) | skip
 all_goals congr 1
 all_goals first | exact h3 | omega | (exact kid_inj (by omega)) | (exact icod_inj h2) | (rename_i x y; cases x <;> cases y <;> first | rfl | cases h2)
instance:DecidableEq K:=fun a b=>if h:kcode a=kcode b then (if h2:kcod2 a=kcod2 b then (if h3:kcod3 a=kcod3 b then .isTrue (kcode_inj h h2 h3) else .isFalse (fun e=>h3 (by rw [e]))) else .isFalse (fun e=>h2 (by rw [e]))) else .isFalse (fun e=>h (by rw [e]))
def lay:Nat→List K
 | 0 => [.sl 1,.int .i64]
 | 1 => [.pt 0,.bool]
 | _ => []
def ile:Int→Int→Bool
 | .ofNat m,.ofNat n=>Nat.ble m n
 | .ofNat _,.negSucc _=>false
 | .negSucc _,.ofNat _=>true
 | .negSucc m,.negSucc n=>Nat.ble n m
def ieq:Int→Int→Bool
 | .ofNat m,.ofNat n=>Nat.beq m n
 | .ofNat _,.negSucc _=>false
 | .negSucc _,.ofNat _=>false
 | .negSucc m,.negSucc n=>Nat.beq n m
theorem ile_iff {a b:Int}:ile a b=true↔a≤b:=by
 cases a <;> cases b <;> simp only [ile]
 · rw [Nat.ble_eq]; simp
 · simp; omega
 · simp; omega
 · rw [Nat.ble_eq]; omega
theorem ieq_iff {a b:Int}:ieq a b=true↔a=b:=by
 cases a <;> cases b <;> simp only [ieq]
 · rw [Nat.beq_eq]; simp; omega
 · simp
 · simp
 · rw [Nat.beq_eq]; constructor <;> intro h <;> omega
def decEqI (a b:Int):Decidable (a=b):=match h:ieq a b with
 | true => .isTrue (ieq_iff.1 h)
 | false => .isFalse fun e=>by rw [ieq_iff.2 e] at h; cases h
def decLeI (a b:Int):Decidable (a≤b):=match h:ile a b with
 | true => .isTrue (ile_iff.1 h)
 | false => .isFalse fun e=>by rw [ile_iff.2 e] at h; cases h
def decLtI (a b:Int):Decidable (a<b):=decLeI (a+1) b
def klo:IntKind→Int
 | .i8 => -128 | .i16 => -32768 | .i32 => -2147483648 | .i64 => -9223372036854775808
 | .u8 | .u16 | .u32 | .u64=>0
def khi:IntKind→Int
 | .i8=>127 | .i16=>32767 | .i32=>2147483647 | .i64=>9223372036854775807
 | .u8=>255 | .u16=>65535 | .u32=>4294967295 | .u64=>18446744073709551615
theorem wrap_in (k:IntKind) (n:Int):klo k≤k.wrap n∧k.wrap n≤khi k:=by
 cases k <;> simp only [klo,khi,IntKind.wrap,IntKind.bits,IntKind.signed] <;> simp <;> (try split) <;> omega
structure S where
 f:Nat→Option (Bool×List K)
 rho:Tm→List Value
 ad:Nat→Nat
 pv:Nat→Option (List K)
instance:CoeFun S (fun _=>Nat→Option (Bool×List K)):=⟨S.f⟩
def SL (σ:S) (v:Value) (n:Nat):Prop :=
 ∃ a len cap,v = .slice a len cap∧len≤cap∧cap≤maxLen∧len≤1000000∧(a=none→cap=0) ∧
   ∀ p,a=some p→p.spot=none ∧ ∃ m l,σ p.block=some (m,l) ∧ ∀ i,i<len*n→l[p.off+i]? = some (.int .u8)
def OW (σ:S) (v:Value) (κs:List K) (lo hi:Nat):Prop :=
 (v = .slice none 0 0∧lo=0) ∨ ∃ b len cap l,v = .slice (some ⟨b,0,none⟩) len cap∧lo≤len∧len≤hi∧len≤cap∧cap≤maxLen∧σ b=some (true,l)∧l.length=cap*κs.length ∧
  ∀ (i j:Nat) (κ:K),i<cap→κs[j]? = some κ→l[i*κs.length+j]? = some κ
def KT (σ:S) (v:Value):K→Prop
 | .int k => ∃ n,v = .int k n∧klo k≤n∧n≤khi k
 | .bool => ∃ b,v = .bool b
 | .sl n=>SL σ v n
 | .pt i => ∃ b,v = .pointer (some ⟨b,0,none⟩)∧σ b=some (true,lay i)
 | .ow n hi=>OW σ v (List.replicate n (.int .u8)) 0 hi
 | .nl=>v = .slice none 0 0
 | .any=>v.oneCell'=true
 | .wild=>True
 | .ci k n=>v = .int k n
 | .cb b=>v = .bool b
 | .cel i j=>(σ.rho i)[j]? = some v∧v.oneCell'=true
 | .bt t=>(σ.rho t)[0]? = some v ∧ ∃ b,v = .bool b
 | .os j o len => ∃ cap,v = .slice (some ⟨σ.ad j,o,none⟩) len cap∧len≤cap∧cap≤maxLen ∧ ∃ l,σ.pv j=some l
def pK:K→Bool
 | .os .. => false
 | _=>true
def nw:K→Bool
 | .wild=>false
 | _=>true
structure Le (σ σ':S):Prop where
 le : ∀ b x,σ b=some x→σ' b=some x
 rho : ∀ (i:Tm) (j:Nat) (v:Value),(σ.rho i)[j]? = some v→(σ'.rho i)[j]? = some v
 own : ∀ j l,σ.pv j=some l→σ'.ad j=σ.ad j ∧ ∃ l',σ'.pv j=some l'∧l'.length=l.length
instance {σ σ':S}:CoeFun (Le σ σ') (fun _ => ∀ b x,σ b=some x→σ' b=some x):=⟨Le.le⟩
theorem SL.mono {σ σ':S} (h:Le σ σ') {v:Value} {n:Nat} (hv:SL σ v n):SL σ' v n:=by
 obtain ⟨a,len,cap,e,h1,h2,h0,h3,h4⟩:=hv
 refine ⟨a,len,cap,e,h1,h2,h0,h3,fun p hp => ?_⟩
 obtain ⟨hs,m,l,hb,h5⟩:=h4 p hp
 exact ⟨hs,m,l,h _ _ hb,h5⟩
theorem OW.mono {σ σ':S} (h:Le σ σ') {v:Value} {κs:List K} {lo hi:Nat} (hv:OW σ v κs lo hi):OW σ' v κs lo hi:=by
 rcases hv with hn | ⟨b,len,cap,l,e,h1,h2,h3,h4,hb,h5,h6⟩
 · exact .inl hn
 · exact .inr ⟨b,len,cap,l,e,h1,h2,h3,h4,h _ _ hb,h5,h6⟩
theorem OW.one {σ:S} {v:Value} {κs:List K} {lo hi:Nat} (hv:OW σ v κs lo hi):v.oneCell'=true:=by
 rcases hv with ⟨rfl,_⟩ | ⟨b,len,cap,l,rfl,_⟩ <;> rfl
theorem KT.mono {σ σ':S} (h:Le σ σ') {v:Value} {κ:K} (hv:KT σ v κ):KT σ' v κ:=by
 cases κ with
 | sl n=>exact SL.mono h hv
 | pt i=>obtain ⟨b,e,hb⟩:=hv; exact ⟨b,e,h _ _ hb⟩
 | ow n hi=>exact OW.mono h hv
 | cel i j=>exact ⟨h.rho _ _ _ hv.1,hv.2⟩
 | bt t=>exact ⟨h.rho _ _ _ hv.1,hv.2⟩
 | os j o len =>
   obtain ⟨cap,e,h1,h2,l,hl⟩:=hv
   obtain ⟨e1,l',h3,_⟩:=h.own j l hl
   exact ⟨cap,by rw [e1]; exact e,h1,h2,l',h3⟩
 | _=>exact hv
theorem KT.one {σ:S} {v:Value} {κ:K} (hn:nw κ=true) (hv:KT σ v κ):v.oneCell'=true:=by
 cases κ with
 | int k=>obtain ⟨n,rfl,_⟩:=hv; rfl
 | bool=>obtain ⟨b,rfl⟩:=hv; rfl
 | sl n=>obtain ⟨a,len,cap,rfl,_⟩:=hv; rfl
 | pt i=>obtain ⟨b,rfl,_⟩:=hv; rfl
 | ow n hi=>exact OW.one hv
 | nl=>obtain rfl:=hv; rfl
 | any=>exact hv
 | wild=>cases hn
 | ci k n=>obtain rfl:=hv; rfl
 | cb b=>obtain rfl:=hv; rfl
 | cel i j=>exact hv.2
 | bt t=>obtain ⟨_,b,rfl⟩:=hv; rfl
 | os j o len=>obtain ⟨cap,rfl,_⟩:=hv; rfl
def CT (σ:S) (C:List Value) (l:List K):Prop:=C.length=l.length ∧ ∀ (i:Nat) (κ:K),l[i]? = some κ → ∃ v,C[i]? = some v∧KT σ v κ
theorem CT.mono {σ σ':S} (h:Le σ σ') {C:List Value} {l:List K} (hv:CT σ C l):CT σ' C l:=by
 refine ⟨hv.1,fun i κ hi => ?_⟩
 obtain ⟨v,h1,h2⟩:=hv.2 i κ hi
 exact ⟨v,h1,h2.mono h⟩
theorem CT.one {σ:S} {C:List Value} {l:List K} (hn : ∀ κ∈l,nw κ=true) (h:CT σ C l) : ∀ u∈C,u.oneCell'=true:=by
 intro u hu
 obtain ⟨i,hi,rfl⟩:=List.mem_iff_getElem.1 hu
 obtain ⟨v,h1,h2⟩:=h.2 i (l[i]'(by rw [← h.1]; exact hi)) (List.getElem?_eq_getElem _)
 rw [List.getElem?_eq_getElem hi] at h1
 cases h1
 exact h2.one (hn _ (List.getElem_mem _))
theorem CT.seg {σ:S} {C:List Value} {l:List K} (h:CT σ C l) (o n:Nat):CT σ ((C.drop o).take n) ((l.drop o).take n):=by
 refine ⟨by simp [h.1],fun i κ hi => ?_⟩
 rw [List.getElem?_take] at hi ⊢
 split at hi
 ·rename_i hlt
  rw [if_pos hlt]
  rw [List.getElem?_drop] at hi ⊢
  exact h.2 _ _ hi
 · cases hi
def CP (σ:S) (C:List Value) (l:List K):Prop := ∃ r,CT σ C (l++List.replicate r .wild)
theorem CP.mono {σ σ':S} (h:Le σ σ') {C:List Value} {l:List K} (hv:CP σ C l):CP σ' C l:=hv.imp fun _ h'=>h'.mono h
theorem CT.cp {σ:S} {C:List Value} {l:List K} (h:CT σ C l):CP σ C l:=⟨0,by simpa using h⟩
structure Gt where
 l:List (Nat×List K)
 fx:List (Nat×Array Value)
 rho:Tm→List Value:=fun _ => []
 w0:Option World:=none
def Old (gt:Gt) (σ:S) (w:World):Prop := ∀ v,gt.w0=some v→Below v.heap.size v w∧(∀ b l,σ.f b=some (true,l)→v.heap.size≤b) ∧ ∀ j l,σ.pv j=some l→v.heap.size≤σ.ad j
structure WT (gt:Gt) (σ:S) (w:World):Prop where
 old:Old gt σ w
 rho:σ.rho=gt.rho
 tab : ∀ g l,(g,l)∈gt.l→σ g=some (false,l)
 fx : ∀ g C,(g,C)∈gt.fx→(∃ l,σ g=some (false,l)) ∧ ∃ t f,w.heap[g]? = some (.cells C t f)
 blk : ∀ b m l,σ b=some (m,l) → ∃ C t f,w.heap[b]? = some (.cells C t f)∧(m=true→f=(0,0))∧CT σ C.toList l
 pvt : ∀ j l,σ.pv j=some l→σ (σ.ad j)=none ∧ ∃ C t,w.heap[σ.ad j]? = some (.cells C t (0,0))∧CP σ C.toList l
 inj : ∀ i j l l',σ.pv i=some l→σ.pv j=some l'→i≠j→σ.ad i≠σ.ad j
 pl : ∀ b m l,σ b=some (m,l)→l.all pK=true
theorem WT.lt {gt:Gt} {σ:S} {w:World} (h:WT gt σ w) {b:Nat} {x:Bool×List K} (hb:σ b=some x):b<w.heap.size:=by
 obtain ⟨C,t,f,h1,_⟩:=h.blk b x.1 x.2 hb
 exact (Array.getElem?_eq_some_iff.1 h1).1
structure Go1 (σ σ':S) (w w':World):Prop where
 same : ∀ b,b<w.heap.size→σ' b=σ b
 os:w'.os=w.os
 tape:w'.tape=w.tape
 output:w'.output=w.output
 size:w.heap.size≤w'.heap.size
 kept : ∀ b,b<w.heap.size→(∀ l,σ b≠some (true,l))→w'.heap[b]? = w.heap[b]?
 rho:σ'.rho=σ.rho
 ad:σ'.ad=σ.ad
 pv:σ'.pv=σ.pv
theorem Go1.refl (σ:S) (w:World):Go1 σ σ w w:=⟨fun _ _=>rfl,rfl,rfl,rfl,Nat.le_refl _,fun _ _ _=>rfl,rfl,rfl,rfl⟩
theorem Go1.le {gt:Gt} {σ σ':S} {w w':World} (h:Go1 σ σ' w w') (hw:WT gt σ w):Le σ σ' :=
 ⟨fun b x hb=>(h.same b (hw.lt hb)).trans hb,fun i j v hv=>by rw [h.rho]; exact hv,fun j l hl=>⟨by rw [h.ad],l,by rw [h.pv]; exact hl,rfl⟩⟩
theorem Go1.trans {σ σ' σ'':S} {w w' w'':World} (h:Go1 σ σ' w w') (h':Go1 σ' σ'' w' w''):Go1 σ σ'' w w'':=by
 refine ⟨fun b hb=>(h'.same b (Nat.lt_of_lt_of_le hb h.size)).trans (h.same b hb),h'.os.trans h.os,h'.tape.trans h.tape,h'.output.trans h.output,Nat.le_trans h.size h'.size,fun b hb hn => ?_,h'.rho.trans h.rho,h'.ad.trans h.ad,h'.pv.trans h.pv⟩
 exact (h'.kept b (Nat.lt_of_lt_of_le hb h.size) (fun l hl=>hn l (by rw [← h.same b hb]; exact hl))).trans (h.kept b hb hn)
theorem WT.drew {gt:Gt} {σ:S} {w:World} (h:WT gt σ w):WT gt σ w.drew:=⟨fun v e=>⟨(h.old v e).1.drew,(h.old v e).2⟩,h.rho,h.tab,h.fx,h.blk,h.pvt,h.inj,h.pl⟩
theorem Go1.drew {σ σ':S} {w w':World} (h:Go1 σ σ' w w'):Go1 σ σ' w w'.drew:=⟨h.same,h.os,h.tape,h.output,h.size,h.kept,h.rho,h.ad,h.pv⟩
structure Go (σ σ':S) (w w':World):Prop where
 same : ∀ b,b<w.heap.size→σ' b=σ b
 os:w'.os=w.os
 tape:w'.tape=w.tape
 output:w'.output=w.output
 size:w.heap.size≤w'.heap.size
 kept : ∀ b,b<w.heap.size→(∀ l,σ b≠some (true,l))→(∀ j l,σ.pv j=some l→σ.ad j≠b)→w'.heap[b]? = w.heap[b]?
 rho:σ'.rho=σ.rho
 own : ∀ j l,σ.pv j=some l→σ'.ad j=σ.ad j ∧ ∃ l',σ'.pv j=some l'∧l'.length=l.length
 new : ∀ j l,σ'.pv j=some l→σ.pv j=none→w.heap.size≤σ'.ad j
theorem Go1.go {σ σ':S} {w w':World} (h:Go1 σ σ' w w'):Go σ σ' w w' :=
 ⟨h.same,h.os,h.tape,h.output,h.size,fun b hb hn _=>h.kept b hb hn,h.rho,fun j l hl=>⟨by rw [h.ad],l,by rw [h.pv]; exact hl,rfl⟩,fun j l hl hn=>by rw [h.pv,hn] at hl; cases hl⟩
theorem Go.le {gt:Gt} {σ σ':S} {w w':World} (h:Go σ σ' w w') (hw:WT gt σ w):Le σ σ' :=
 ⟨fun b x hb=>(h.same b (hw.lt hb)).trans hb,fun i j v hv=>by rw [h.rho]; exact hv,h.own⟩
theorem Go.trans {σ σ' σ'':S} {w w' w'':World} (h:Go σ σ' w w') (h':Go σ' σ'' w' w''):Go σ σ'' w w'':=by
 refine ⟨fun b hb=>(h'.same b (Nat.lt_of_lt_of_le hb h.size)).trans (h.same b hb),h'.os.trans h.os,h'.tape.trans h.tape,h'.output.trans h.output,Nat.le_trans h.size h'.size,fun b hb hn hp => ?_,h'.rho.trans h.rho,fun j l hl => ?_,fun j l hl hn => ?_⟩
 ·refine (h'.kept b (Nat.lt_of_lt_of_le hb h.size) (fun l hl=>hn l (by rw [← h.same b hb]; exact hl)) (fun j l hl => ?_)).trans (h.kept b hb hn hp)
  cases hj:σ.pv j with
  | none=>have:=h.new j l hl hj; omega
  | some l0=>rw [(h.own j l0 hj).1]; exact hp j l0 hj
 ·obtain ⟨e1,l1,h1,k1⟩:=h.own j l hl
  obtain ⟨e2,l2,h2,k2⟩:=h'.own j l1 h1
  exact ⟨e2.trans e1,l2,h2,k2.trans k1⟩
 ·cases hj:σ'.pv j with
  | none=>exact Nat.le_trans h.size (h'.new j l hl hj)
  | some l1=>rw [(h'.own j l1 hj).1]; exact h.new j l1 hj hn
theorem Old.go {gt:Gt} {σ σ':S} {w w':World} (h:Old gt σ w) (g:Go σ σ' w w'):Old gt σ' w':=by
 intro v e
 obtain ⟨h1,h2,h3⟩:=h v e
 refine ⟨⟨g.os.trans h1.os,g.tape.trans h1.tape,g.output.trans h1.output,Nat.le_trans h1.size g.size,fun b hb => ?_⟩,fun b l hb => ?_,fun j l hj => ?_⟩
 ·refine (g.kept b (Nat.lt_of_lt_of_le hb h1.size) (fun l hl => ?_) (fun j l hj e => ?_)).trans (h1.block b hb)
  · have:=h2 b l hl; omega
  · have:=h3 j l hj; omega
 ·rcases Nat.lt_or_ge b w.heap.size with hlt | hge
  ·have:=g.same b hlt
   exact h2 b l (this.symm.trans hb)
  · exact Nat.le_trans h1.size hge
 ·cases hj':σ.pv j with
  | none=>exact Nat.le_trans h1.size (g.new j l hj hj')
  | some l0=>rw [(g.own j l0 hj').1]; exact h3 j l0 hj'
theorem Go.drew {σ σ':S} {w w':World} (h:Go σ σ' w w'):Go σ σ' w w'.drew:=⟨h.same,h.os,h.tape,h.output,h.size,h.kept,h.rho,h.own,h.new⟩
theorem WT.low {gt:Gt} {σ:S} {w x:World} (h:WT gt σ w) (hx:Below w.heap.size w x):WT gt σ x∧Go1 σ σ w x:=by
 have g:Go1 σ σ w x:=⟨fun _ _=>rfl,hx.os,hx.tape,hx.output,hx.size,fun b hb _=>hx.block b hb,rfl,rfl,rfl⟩
 refine ⟨⟨h.old.go g.go,h.rho,h.tab,fun b C hb => ?_,fun b m l hb => ?_,fun j l hj => ?_,h.inj,h.pl⟩,g⟩
 ·obtain ⟨⟨l,hl⟩,t,f,hh⟩:=h.fx b C hb
  exact ⟨⟨l,hl⟩,t,f,(hx.block b (h.lt hl)).trans hh⟩
 ·obtain ⟨C,t,f,h1,h2,h3⟩:=h.blk b m l hb
  exact ⟨C,t,f,(hx.block b (h.lt hb)).trans h1,h2,h3⟩
 ·obtain ⟨h0,C,t,h1,h2⟩:=h.pvt j l hj
  exact ⟨h0,C,t,(hx.block _ (Array.getElem?_eq_some_iff.1 h1).1).trans h1,h2⟩
def more (σ:S) (b:Nat) (l:List K):S := {σ with f:=fun k=>if k=b then some (true,l) else σ k}
theorem Go1.alloc {gt:Gt} {σ:S} {w:World} (hw:WT gt σ w) (C:Array Value) (t:TypeId) (l:List K) (hC:CT σ C.toList l) (hp:l.all pK=true) :
 Go1 σ (more σ w.heap.size l) w (w.alloc (.cells C t))∧WT gt (more σ w.heap.size l) (w.alloc (.cells C t)):=by
 have hs : ∀ b,b<w.heap.size→more σ w.heap.size l b=σ b:=fun b hb=>by show (if b=w.heap.size then _ else _)=_; rw [if_neg (Nat.ne_of_lt hb)]
 have hle:Le σ (more σ w.heap.size l):=⟨fun b x hb=>(hs b (hw.lt hb)).trans hb,fun _ _ _ h=>h,fun j l h=>⟨rfl,l,h,rfl⟩⟩
 refine ⟨⟨hs,rfl,rfl,rfl,by rw [World.size_alloc]; omega,fun b hb _=>Rg.heap_alloc_past w _ b hb,rfl,rfl,rfl⟩,⟨hw.old.go (Go1.go ⟨hs,rfl,rfl,rfl,by rw [World.size_alloc]; omega,fun b hb _=>Rg.heap_alloc_past w _ b hb,rfl,rfl,rfl⟩),hw.rho,fun g l' hg=>hle _ _ (hw.tab g l' hg),fun g D hg => ?_,fun b m l' hb => ?_,fun j l' hj => ?_,hw.inj,fun b m l' hb => ?_⟩⟩
 ·obtain ⟨⟨l',hl⟩,t',f,hh⟩:=hw.fx g D hg
  exact ⟨⟨l',hle _ _ hl⟩,t',f,(Rg.heap_alloc_past w _ g (hw.lt hl)).trans hh⟩
 ·by_cases hb':b=w.heap.size
  ·subst hb'
   change (if w.heap.size=w.heap.size then some (true,l) else σ w.heap.size)=_ at hb
   rw [if_pos rfl] at hb
   cases hb
   exact ⟨C,t,(0,0),heap_alloc_last w _,fun _=>rfl,hC.mono hle⟩
  ·change (if b=w.heap.size then some (true,l) else σ b)=_ at hb
   rw [if_neg hb'] at hb
   obtain ⟨D,t',f,h1,h2,h3⟩:=hw.blk b m l' hb
   exact ⟨D,t',f,(Rg.heap_alloc_past w _ b (hw.lt hb)).trans h1,h2,h3.mono hle⟩
 ·obtain ⟨h0,D,t',h1,h2⟩:=hw.pvt j l' hj
  have hlt:σ.ad j<w.heap.size:=(Array.getElem?_eq_some_iff.1 h1).1
  exact ⟨(hs _ hlt).trans h0,D,t',(Rg.heap_alloc_past w _ _ hlt).trans h1,h2.mono hle⟩
 ·change (if b=w.heap.size then some (true,l) else σ b)=_ at hb
  split at hb
  · cases hb; exact hp
  · exact hw.pl b m l' hb
theorem Go1.set {gt:Gt} {σ:S} {w:World} (hw:WT gt σ w) {b:Nat} {l:List K} (hb:σ b=some (true,l)) (C:Array Value) (hC:CT σ C.toList l) :
 Go1 σ σ w (w.setRow b C)∧WT gt σ (w.setRow b C):=by
 have ho : ∀ k,k≠b→(w.setRow b C).heap[k]? = w.heap[k]? := fun k hk=>by
  unfold World.setRow
  exact (Array.getElem?_modify ..).trans (if_neg (Ne.symm hk))
 refine ⟨⟨fun _ _=>rfl,rfl,rfl,rfl,by simp [World.setRow],fun k hk hn=>ho k (fun e=>hn l (by rw [e]; exact hb)),rfl,rfl,rfl⟩,⟨hw.old.go (Go1.go ⟨fun _ _=>rfl,rfl,rfl,rfl,by simp [World.setRow],fun k hk hn=>ho k (fun e=>hn l (by rw [e]; exact hb)),rfl,rfl,rfl⟩),hw.rho,hw.tab,fun g D hg => ?_,fun k m l' hk => ?_,fun j l' hj => ?_,hw.inj,hw.pl⟩⟩
 ·obtain ⟨⟨l',hl⟩,t',f,hh⟩:=hw.fx g D hg
  exact ⟨⟨l',hl⟩,t',f,(ho g (fun e=>by rw [e,hb] at hl; cases hl)).trans hh⟩
 ·obtain ⟨D,t',f,h1,h2,h3⟩:=hw.blk k m l' hk
  by_cases hkb:k=b
  ·subst hkb
   rw [hb] at hk
   cases hk
   exact ⟨C,t',f,setRow_heap w k D C t' f h1,h2,hC⟩
  · exact ⟨D,t',f,(ho k hkb).trans h1,h2,h3⟩
 ·obtain ⟨h0,D,t',h1,h2⟩:=hw.pvt j l' hj
  exact ⟨h0,D,t',(ho _ (fun e=>by rw [e,hb] at h0; cases h0)).trans h1,h2⟩
inductive T where
 | int (k:IntKind) (lo hi:Int)
 | bool
 | cb (b:Bool)
 | agg (l:List K)
 | ptr (m:Bool) (l:List K) (off:Nat)
 | sl (n:Nat)
 | ss (m:Bool) (κ:K) (lo hi:Nat)
 | pk (m:Bool) (κ:K) (n:Nat)
 | pr (m:Bool) (ks:List K)
 | str
 | ow (κs:List K) (lo hi:Nat)
 | nl
 | np
 | t2 (a b:T)
 | t3 (a b c:T)
 | or (a b:T)
 | und
 | any
 | cel (i:Tm) (j:Nat)
 | own (j off n:Nat)
 | bt (t:Tm)
 | os (j off len:Nat) (cap:Option Nat)
def SS (σ:S) (v:Value) (m:Bool) (κ:K) (lo hi:Nat):Prop :=
 ∃ a len cap,v = .slice a len cap∧lo≤len∧len≤hi∧len≤cap∧cap≤maxLen∧(a=none→cap=0) ∧
   ∀ p,a=some p→p.spot=none ∧ ∃ m' l,σ p.block=some (m',l)∧(m=true→m'=true) ∧ ∀ i,i<len→l[p.off+i]? = some κ
def PK (σ:S) (v:Value) (m:Bool) (κ:K) (n:Nat):Prop :=
 ∃ p m' l,v = .pointer (some p)∧p.spot=none∧σ p.block=some (m',l)∧(m=true→m'=true) ∧ ∀ i,i<n→l[p.off+i]? = some κ
def PR (σ:S) (v:Value) (m:Bool) (ks:List K):Prop :=
 ∃ p m' l,v = .pointer (some p)∧p.spot=none∧σ p.block=some (m',l)∧(m=true→m'=true) ∧ ∀ i κ,ks[i]? = some κ→l[p.off+i]? = some κ
def VT (σ:S) (v:Value):T→Prop
 | .int k lo hi => ∃ n,v = .int k n∧lo≤n∧n≤hi
 | .bool => ∃ b,v = .bool b
 | .cb b=>v = .bool b
 | .agg l => ∃ C:Array Value,v = .agg C∧CT σ C.toList l
 | .ptr m l off => ∃ b m',v = .pointer (some ⟨b,off,none⟩)∧σ b=some (m',l)∧(m=true→m'=true)
 | .sl n=>SL σ v n
 | .ss m κ lo hi=>SS σ v m κ lo hi
 | .pk m κ n=>PK σ v m κ n
 | .pr m ks=>PR σ v m ks
 | .str => ∃ s,v = .string s
 | .ow κs lo hi=>OW σ v κs lo hi
 | .nl=>v = .slice none 0 0
 | .np=>v = .pointer none
 | .t2 a b => ∃ x y,v = .tuple #[x,y]∧VT σ x a∧VT σ y b
 | .t3 a b c => ∃ x y z,v = .tuple #[x,y,z]∧VT σ x a∧VT σ y b∧VT σ z c
 | .or a b=>VT σ v a∨VT σ v b
 | .und=>v=undef
 | .any=>True
 | .cel i j=>(σ.rho i)[j]? = some v∧v.oneCell'=true
 | .own j off n=>v = .pointer (some ⟨σ.ad j,off,none⟩) ∧ ∃ l,σ.pv j=some l∧l.length=n
 | .bt t=>(σ.rho t)[0]? = some v ∧ ∃ b,v = .bool b
 | .os j off len cap => ∃ c,v = .slice (some ⟨σ.ad j,off,none⟩) len c∧len≤c∧c≤maxLen∧(∀ k,cap=some k→c=k) ∧ ∃ l,σ.pv j=some l
theorem SS.mono {σ σ':S} (h:Le σ σ') {v:Value} {m:Bool} {κ:K} {lo hi:Nat} (hv:SS σ v m κ lo hi):SS σ' v m κ lo hi:=by
 obtain ⟨a,len,cap,e,h1,h2,h3,h4,h5,h6⟩:=hv
 refine ⟨a,len,cap,e,h1,h2,h3,h4,h5,fun p hp => ?_⟩
 obtain ⟨hs,m',l,hb,h7⟩:=h6 p hp
 exact ⟨hs,m',l,h _ _ hb,h7⟩
theorem PK.mono {σ σ':S} (h:Le σ σ') {v:Value} {m:Bool} {κ:K} {n:Nat} (hv:PK σ v m κ n):PK σ' v m κ n:=by
 obtain ⟨p,m',l,e,h1,hb,h2⟩:=hv
 exact ⟨p,m',l,e,h1,h _ _ hb,h2⟩
theorem PR.mono {σ σ':S} (h:Le σ σ') {v:Value} {m:Bool} {ks:List K} (hv:PR σ v m ks):PR σ' v m ks:=by
 obtain ⟨p,m',l,e,h1,hb,h2⟩:=hv
 exact ⟨p,m',l,e,h1,h _ _ hb,h2⟩
theorem VT.mono {σ σ':S} (h:Le σ σ') : ∀ {τ:T} {v:Value},VT σ v τ→VT σ' v τ
 | .int ..,_,hv=>hv
 | .bool,_,hv=>hv
 | .cb _,_,hv=>hv
 | .agg _,_,⟨C,e,hC⟩=>⟨C,e,hC.mono h⟩
 | .ptr ..,_,⟨b,m',e,hb,hm⟩=>⟨b,m',e,h _ _ hb,hm⟩
 | .sl _,_,hv=>SL.mono h hv
 | .ss ..,_,hv=>SS.mono h hv
 | .pk ..,_,hv=>PK.mono h hv
 | .pr ..,_,hv=>PR.mono h hv
 | .str,_,hv=>hv
 | .ow ..,_,hv=>OW.mono h hv
 | .nl,_,hv=>hv
 | .np,_,hv=>hv
 | .t2 ..,_,⟨x,y,e,hx,hy⟩=>⟨x,y,e,VT.mono h hx,VT.mono h hy⟩
 | .t3 ..,_,⟨x,y,z,e,hx,hy,hz⟩=>⟨x,y,z,e,VT.mono h hx,VT.mono h hy,VT.mono h hz⟩
 | .or ..,_,hv=>hv.imp (VT.mono h) (VT.mono h)
 | .und,_,hv=>hv
 | .any,_,_=>trivial
 | .cel ..,_,hv=>⟨h.rho _ _ _ hv.1,hv.2⟩
 | .own j _ _,_,⟨e,l,hl,hn⟩=>by
   obtain ⟨e1,l',h1,h2⟩:=h.own j l hl
   exact ⟨by rw [e1]; exact e,l',h1,h2.trans hn⟩
 | .bt _,_,hv=>⟨h.rho _ _ _ hv.1,hv.2⟩
 | .os j _ _ _,_,⟨c,e,k1,k2,k3,l,hl⟩=>by
   obtain ⟨e1,l',h1,h2⟩:=h.own j l hl
   exact ⟨c,by rw [e1]; exact e,k1,k2,k3,l',h1⟩
inductive Tr where
 | nil
 | nd (v:Option T) (l r:Tr)
def Tr.val:Tr→Option T
 | .nil=>none
 | .nd v _ _=>v
def Tr.left:Tr→Tr
 | .nil => .nil
 | .nd _ l _=>l
def Tr.right:Tr→Tr
 | .nil => .nil
 | .nd _ _ r=>r
noncomputable def Tr.get (k:Nat):Tr→Nat→Option T :=
 Nat.rec (motive:=fun _=>Tr→Nat→Option T) (fun _ _=>none)
  (fun _ ih t n=>match Nat.beq n 0 with
   | true=>t.val
   | false=>match Nat.beq (Nat.mod n 2) 1 with
     | true=>ih t.left (Nat.div n 2)
     | false=>ih t.right (Nat.pred (Nat.div n 2))) k
noncomputable def Tr.set (k:Nat):Tr→Nat→T→Tr :=
 Nat.rec (motive:=fun _=>Tr→Nat→T→Tr) (fun t _ _=>t)
  (fun _ ih t n τ=>match Nat.beq n 0 with
   | true => .nd (some τ) t.left t.right
   | false=>match Nat.beq (Nat.mod n 2) 1 with
     | true => .nd t.val (ih t.left (Nat.div n 2) τ) t.right
     | false => .nd t.val t.left (ih t.right (Nat.pred (Nat.div n 2)) τ)) k
theorem way (n:Nat):(n=0)∨(Nat.beq n 0=false∧Nat.beq (Nat.mod n 2) 1=true∧n=2*Nat.div n 2+1)∨(Nat.beq n 0=false∧Nat.beq (Nat.mod n 2) 1=false∧n=2*Nat.pred (Nat.div n 2)+2):=by
 have e1:Nat.mod n 2=n%2:=rfl
 have e2:Nat.div n 2=n / 2:=rfl
 rw [e1,e2]
 by_cases h0:n=0
 · exact .inl h0
 ·right
  have hb:Nat.beq n 0=false:=by
   cases hh:Nat.beq n 0
   · rfl
   · exact absurd (Nat.eq_of_beq_eq_true hh) h0
  by_cases h1:n%2=1
  · refine .inl ⟨hb,by rw [h1]; rfl,by omega⟩
  ·have h2:n%2=0:=by omega
   refine .inr ⟨hb,by rw [h2]; rfl,?_⟩
   rw [Nat.pred_eq_sub_one]
   omega
theorem Tr.get_succ (k:Nat) (t:Tr) (n:Nat):Tr.get (k+1) t n=(match Nat.beq n 0 with
 | true=>t.val
 | false=>match Nat.beq (Nat.mod n 2) 1 with
   | true=>Tr.get k t.left (Nat.div n 2)
   | false=>Tr.get k t.right (Nat.pred (Nat.div n 2))):=rfl
theorem Tr.set_succ (k:Nat) (t:Tr) (n:Nat) (τ:T):Tr.set (k+1) t n τ=(match Nat.beq n 0 with
 | true => .nd (some τ) t.left t.right
 | false=>match Nat.beq (Nat.mod n 2) 1 with
   | true => .nd t.val (Tr.set k t.left (Nat.div n 2) τ) t.right
   | false => .nd t.val t.left (Tr.set k t.right (Nat.pred (Nat.div n 2)) τ)):=rfl
theorem Tr.get_set (τ:T) : ∀ (k:Nat) (t:Tr) (n:Nat),n<k→Tr.get k (Tr.set k t n τ) n=some τ
 | 0,_,_,h=>absurd h (Nat.not_lt_zero _)
 | k+1,t,n,h=>by
   rw [Tr.get_succ,Tr.set_succ]
   rcases way n with rfl | ⟨h1,h2,h3⟩ | ⟨h1,h2,h3⟩
   · rfl
   · simp only [h1,h2,Tr.left]; exact Tr.get_set τ k _ _ (by omega)
   · simp only [h1,h2,Tr.right]; exact Tr.get_set τ k _ _ (by omega)
theorem Tr.get_set_ne (τ:T) : ∀ (k:Nat) (t:Tr) (n m:Nat),n≠m→Tr.get k (Tr.set k t n τ) m=Tr.get k t m
 | 0,_,_,_,_=>rfl
 | k+1,t,n,m,h=>by
   rw [Tr.get_succ,Tr.set_succ,Tr.get_succ]
   rcases way n with rfl | ⟨h1,h2,h3⟩ | ⟨h1,h2,h3⟩ <;> rcases way m with rfl | ⟨k1,k2,k3⟩ | ⟨k1,k2,k3⟩
   · exact absurd rfl h
   · simp only [k1,k2,Tr.left]
   · simp only [k1,k2,Tr.right]
   · simp only [h1,h2,Tr.val]
   · simp only [h1,h2,k1,k2,Tr.left]; exact Tr.get_set_ne τ k _ _ _ (by omega)
   · simp only [h1,h2,k1,k2,Tr.right]
   · simp only [h1,h2,Tr.val]
   · simp only [h1,h2,k1,k2,Tr.left]
   · simp only [h1,h2,k1,k2,Tr.right]; exact Tr.get_set_ne τ k _ _ _ (by omega)
theorem Tr.get_nil : ∀ (k n:Nat),Tr.get k .nil n=none
 | 0,_=>rfl
 | k+1,n=>by
   rw [Tr.get_succ]
   rcases way n with rfl | ⟨h1,h2,_⟩ | ⟨h1,h2,_⟩
   · rfl
   · simp only [h1,h2,Tr.left]; exact Tr.get_nil k _
   · simp only [h1,h2,Tr.right]; exact Tr.get_nil k _
structure Env where
 length:Nat
 tr:Tr
 rows:List (Nat×List K)
 next:Nat
 pc:List (Tm×Bool)
noncomputable def Env.at (Γ:Env) (t:Nat):Option T:=match Nat.blt t Γ.length with
 | true=>Γ.tr.get Γ.length t
 | false=>none
noncomputable def Env.set (Γ:Env) (t:Nat) (τ:T):Env:=⟨Γ.length,Γ.tr.set Γ.length t τ,Γ.rows,Γ.next,Γ.pc⟩
theorem blt_true {t n:Nat} (h:t<n):Nat.blt t n=true:=by unfold Nat.blt; rw [Nat.ble_eq]; exact h
theorem Env.lt {Γ:Env} {t:Nat} {τ:T} (h:Γ.at t=some τ):t<Γ.length:=by
 unfold Env.at at h
 split at h
 ·rename_i hb
  unfold Nat.blt at hb
  rw [Nat.ble_eq] at hb
  exact hb
 · cases h
theorem Env.at_ok {Γ:Env} {t:Nat} (h:t<Γ.length):Γ.at t=Γ.tr.get Γ.length t:=by unfold Env.at; rw [blt_true h]
theorem Env.set_self {Γ:Env} {t:Nat} {τ:T} (h:t<Γ.length):(Γ.set t τ).at t=some τ:=by
 rw [Env.at_ok (show t<(Γ.set t τ).length from h)]
 exact Tr.get_set τ _ _ _ h
theorem Env.set_ne {Γ:Env} {d t:Nat} {τ:T} (h:d≠t):(Γ.set d τ).at t=Γ.at t:=by
 unfold Env.at Env.set
 dsimp only
 split
 · exact Tr.get_set_ne τ _ _ _ _ h
 · rfl
def Typed (σ:S) (a:Act) (Γ:Env):Prop:=Γ.length≤a.tmps.size∧(a.defers = [] ∧ ∀ x∈Γ.pc,(σ.rho x.1)[0]? = some (.bool x.2))∧(∀ (t:Nat) (τ:T),Γ.at t=some τ→VT σ (a.tmps.getD t undef) τ)∧(∀ x∈Γ.rows,σ.pv x.1=some x.2) ∧ ∀ j,Γ.next≤j→σ.pv j=none
theorem Typed.mono {σ σ':S} (h:Le σ σ') (hp:σ'.pv=σ.pv) {a:Act} {Γ:Env} (ht:Typed σ a Γ):Typed σ' a Γ:=⟨ht.1,⟨ht.2.1.1,fun x hx=>h.rho _ _ _ (ht.2.1.2 x hx)⟩,fun t τ hτ=>(ht.2.2.1 t τ hτ).mono h,by rw [hp]; exact ht.2.2.2.1,by rw [hp]; exact ht.2.2.2.2⟩
noncomputable def putT (Γ:Env) (d:Option Tmp) (τ:T):Env:=match d with
 | some d=>Γ.set d τ
 | none=>Γ
theorem Typed.put {σ:S} {a:Act} {Γ:Env} (ht:Typed σ a Γ) {d:Option Tmp} {v:Value} {τ:T} (hv:VT σ v τ):Typed σ (a.put d v) (putT Γ d τ):=by
 cases d with
 | none=>exact ht
 | some d =>
   refine ⟨by simpa [putT,Act.put,Env.set] using ht.1,ht.2.1,fun t τ' hτ => ?_,ht.2.2.2.1,ht.2.2.2.2⟩
   have hlt:t<Γ.length:=Env.lt (Γ:=Γ.set d τ) hτ
   change (Γ.set d τ).at t=some τ' at hτ
   show VT σ ((a.tmps.setIfInBounds d v).getD t undef) τ'
   by_cases hd:d=t
   ·subst hd
    rw [Env.set_self hlt] at hτ
    cases hτ
    replace hlt:=Nat.lt_of_lt_of_le hlt ht.1
    simpa [Array.getD_eq_getD_getElem?,Array.getElem?_setIfInBounds_self_of_lt hlt] using hv
   ·rw [Env.set_ne hd] at hτ
    have:=ht.2.2.1 t τ' hτ
    rw [Array.getD_eq_getD_getElem?] at this ⊢
    rwa [Array.getElem?_setIfInBounds_ne hd]
def forceN {α:Type} (n:Nat) (k:Nat→α):α:=match n with
 | 0=>k 0
 | m+1=>k (Nat.succ m)
theorem forceN_eq {α:Type} (n:Nat) (k:Nat→α):forceN n k=k n:=by cases n <;> rfl
def forceI {α:Type} (n:Int) (k:Int→α):α:=match n with
 | .ofNat m=>forceN m fun m=>k (.ofNat m)
 | .negSucc m=>forceN m fun m=>k (.negSucc m)
theorem forceI_eq {α:Type} (n:Int) (k:Int→α):forceI n k=k n:=by cases n <;> simp only [forceI,forceN_eq]
def forceK {α:Type} (l:List K) (k:List K→α):α:=match l with
 | []=>k []
 | x::r=>match x with
   | .int i=>forceK r fun r=>k (.int i::r)
   | .sl n=>forceK r fun r=>k (.sl n::r)
   | .os j o n=>forceN o fun o=>forceN n fun n=>forceK r fun r=>k (.os j o n::r)
   | x=>forceK r fun r=>k (x::r)
theorem forceK_eq {α:Type} : ∀ (l:List K) (k:List K→α),forceK l k=k l
 | [],_=>rfl
 | x::r,k=>by cases x <;> simp only [forceK,forceN_eq,forceK_eq r]
def forceR {α:Type} (l:List (Nat×List K)) (k:List (Nat×List K)→α):α:=match l with
 | []=>k []
 | (j,x)::r=>forceN j fun j=>forceK x fun x=>forceR r fun r=>k ((j,x)::r)
theorem forceR_eq {α:Type} : ∀ (l:List (Nat×List K)) (k:List (Nat×List K)→α),forceR l k=k l
 | [],_=>rfl
 | (j,x)::r,k=>by simp only [forceR,forceN_eq,forceK_eq,forceR_eq r]
def forceT {α:Type} (τ:T) (k:T→α):α:=match τ with
 | .int i lo hi=>forceI lo fun lo=>forceI hi fun hi=>k (.int i lo hi)
 | .ptr m l o=>forceN o fun o=>k (.ptr m l o)
 | .ow κs a b=>forceN a fun a=>forceN b fun b=>k (.ow κs a b)
 | .ss m κ a b=>forceN a fun a=>forceN b fun b=>k (.ss m κ a b)
 | .agg l=>forceK l fun l=>k (.agg l)
 | .own j o n=>forceN j fun j=>forceN o fun o=>forceN n fun n=>k (.own j o n)
 | .os j o m c=>forceN j fun j=>forceN o fun o=>forceN m fun m=>k (.os j o m c)
 | τ=>k τ
theorem forceT_eq {α:Type} (τ:T) (k:T→α):forceT τ k=k τ:=by cases τ <;> simp only [forceT,forceI_eq,forceN_eq,forceK_eq]
noncomputable def Tr.setK {α:Type} (f:Nat):Tr→Nat→T→(Tr→α)→α :=
 Nat.rec (motive:=fun _=>Tr→Nat→T→(Tr→α)→α) (fun t _ _ k=>k t)
  (fun _ ih t n τ k=>match Nat.beq n 0 with
   | true=>match t with
     | .nil=>k (.nd (some τ) .nil .nil)
     | .nd _ l r=>k (.nd (some τ) l r)
   | false=>match Nat.beq (Nat.mod n 2) 1 with
     | true=>match t with
       | .nil=>ih .nil (Nat.div n 2) τ fun l=>k (.nd none l .nil)
       | .nd v l r=>ih l (Nat.div n 2) τ fun l=>k (.nd v l r)
     | false=>match t with
       | .nil=>ih .nil (Nat.pred (Nat.div n 2)) τ fun r=>k (.nd none .nil r)
       | .nd v l r=>ih r (Nat.pred (Nat.div n 2)) τ fun r=>k (.nd v l r)) f
theorem Tr.setK_eq {α:Type} : ∀ (f:Nat) (t:Tr) (n:Nat) (τ:T) (k:Tr→α),Tr.setK f t n τ k=k (Tr.set f t n τ)
 | 0,_,_,_,_=>rfl
 | f+1,t,n,τ,k=>by
   have ih := @Tr.setK_eq α f
   rw [Tr.set_succ]
   show (match Nat.beq n 0 with
    | true=>match t with
      | .nil=>k (.nd (some τ) .nil .nil)
      | .nd _ l r=>k (.nd (some τ) l r)
    | false=>match Nat.beq (Nat.mod n 2) 1 with
      | true=>match t with
        | .nil=>Tr.setK f .nil (Nat.div n 2) τ fun l=>k (.nd none l .nil)
        | .nd v l r=>Tr.setK f l (Nat.div n 2) τ fun l=>k (.nd v l r)
      | false=>match t with
        | .nil=>Tr.setK f .nil (Nat.pred (Nat.div n 2)) τ fun r=>k (.nd none .nil r)
        | .nd v l r=>Tr.setK f r (Nat.pred (Nat.div n 2)) τ fun r=>k (.nd v l r))=_
   cases t <;> (cases Nat.beq n 0 <;> (try cases Nat.beq (Nat.mod n 2) 1) <;> simp only [ih] <;> rfl)
noncomputable def putK {α:Type} (Γ:Env) (d:Option Tmp) (τ:T) (k:Env→α):α:=match d with
 | some d=>match Γ with
   | ⟨n,t,r,m,p⟩=>forceT τ fun τ=>Tr.setK n t d τ fun t=>k ⟨n,t,r,m,p⟩
 | none=>k Γ
theorem putK_eq {α:Type} (Γ:Env) (d:Option Tmp) (τ:T) (k:Env→α):putK Γ d τ k=k (putT Γ d τ):=by
 cases d with
 | none=>rfl
 | some d =>
   obtain ⟨n,t,r,m,p⟩:=Γ
   simp only [putK,forceT_eq,Tr.setK_eq]
   rfl
noncomputable def Tr.forceK {α:Type} (t:Tr):(Tr→α)→α :=
 Tr.rec (motive:=fun _=>(Tr→α)→α) (fun k=>k .nil) (fun v _ _ il ir k=>match v with
  | some τ=>forceT τ fun τ=>il fun l=>ir fun r=>k (.nd (some τ) l r)
  | none=>il fun l=>ir fun r=>k (.nd none l r)) t
theorem Tr.forceK_eq {α:Type} : ∀ (t:Tr) (k:Tr→α),Tr.forceK t k=k t
 | .nil,_=>rfl
 | .nd v l r,k=>by
   have hl := @Tr.forceK_eq α l
   have hr := @Tr.forceK_eq α r
   show (match v with
   | some τ=>forceT τ fun τ=>Tr.forceK l fun l=>Tr.forceK r fun r=>k (.nd (some τ) l r)
   | none=>Tr.forceK l fun l=>Tr.forceK r fun r=>k (.nd none l r))=_
   cases v <;> simp only [forceT_eq,hl,hr]
noncomputable def Env.forceK {α:Type} (Γ:Env) (k:Env→α):α:=match Γ with
 | ⟨n,t,r,m,p⟩=>forceN n fun n=>Tr.forceK t fun t=>forceR r fun r=>forceN m fun m=>k ⟨n,t,r,m,p⟩
theorem Env.forceK_eq {α:Type} (Γ:Env) (k:Env→α):Γ.forceK k=k Γ:=by
 obtain ⟨n,t,r,m,p⟩:=Γ
 simp only [Env.forceK,forceN_eq,Tr.forceK_eq,forceR_eq]
def gOf (gt:Gt) (g:Nat):Option (List K):=(gt.l.find? fun x=>x.1==g).map (·.2)
theorem gOf_mem {gt:Gt} {g:Nat} {l:List K} (h:gOf gt g=some l):(g,l)∈gt.l:=by
 unfold gOf at h
 rw [Option.map_eq_some_iff] at h
 obtain ⟨⟨g',l'⟩,h1,h2⟩:=h
 have h3:=List.mem_of_find?_eq_some h1
 have h4:=List.find?_some h1
 simp at h4 h2
 subst h4 h2
 exact h3
noncomputable def ty (gt:Gt) (Γ:Env):Operand→T
 | .tmp t=>(Γ.at t).getD .any
 | .const (.int k n) => .int k n n
 | .const (.bool b) => .cb b
 | .const (.slice none 0 0) => .nl
 | .const (.pointer none) => .np
 | .global g=>match gOf gt g with | some l => .ptr false l 0 | none => .any
 | _ => .any
theorem SL_nil (σ:S) (n:Nat):SL σ (.slice none 0 0) n:=⟨none,0,0,rfl,Nat.le_refl _,Nat.zero_le _,Nat.zero_le _,fun _=>rfl,fun _ h=>nomatch h⟩
theorem ty_ok {gt:Gt} {σ:S} {w:World} {a:Act} {Γ:Env} (hw:WT gt σ w) (ht:Typed σ a Γ) (x:Operand):VT σ (a.eval x) (ty gt Γ x):=by
 unfold ty
 split
 ·rename_i t
  cases h:Γ.at t with
  | none=>exact trivial
  | some τ=>exact ht.2.2.1 t τ h
 · exact ⟨_,rfl,Int.le_refl _,Int.le_refl _⟩
 · exact rfl
 · exact rfl
 · exact rfl
 ·rename_i g
  split
  ·rename_i l hl
   exact ⟨g,false,rfl,hw.tab g l (gOf_mem hl),fun h=>nomatch h⟩
  · exact trivial
 · exact trivial
def knd:T→Option (List K)
 | .int k lo hi=>if klo k≤lo∧hi≤khi k then some [.int k] else none
 | .bool=>some [.bool]
 | .cb _=>some [.bool]
 | .agg l=>if l.all pK=true then some l else none
 | .sl n=>some [.sl n]
 | .nl=>some [.nl]
 | .cel i j=>some [.cel i j]
 | .bt t=>some [.bt t]
 | .ss _ κ _ hi=>if κ = .int .u8∧hi≤1000000 then some [.sl 1] else some [.any]
 | .ow κs _ hi=>if κs=List.replicate κs.length (.int .u8)∧hi≤1000000 then some [.ow κs.length hi] else some [.any]
 | .ptr m l o=>if m=true∧o=0 then (if l=lay 0 then some [.pt 0] else if l=lay 1 then some [.pt 1] else some [.any]) else some [.any]
 | _=>none
theorem SS.sl {σ:S} {v:Value} {m:Bool} {lo hi:Nat} (h:SS σ v m (.int .u8) lo hi) (hb:hi≤1000000):SL σ v 1:=by
 obtain ⟨a,len,cap,e,h1,h2,h3,h4,h5,h6⟩:=h
 refine ⟨a,len,cap,e,h3,h4,by omega,h5,fun p hp => ?_⟩
 obtain ⟨hs,m',l,hb,_,h7⟩:=h6 p hp
 exact ⟨hs,m',l,hb,fun i hi=>h7 i (by omega)⟩
theorem OW.wide {σ:S} {v:Value} {κs:List K} {lo hi lo' hi':Nat} (h:OW σ v κs lo hi) (h1:lo'≤lo) (h2:hi≤hi'):OW σ v κs lo' hi':=by
 rcases h with ⟨rfl,rfl⟩ | ⟨b,len,cap,l,e,k1,k2,k3⟩
 · exact .inl ⟨rfl,by omega⟩
 · exact .inr ⟨b,len,cap,l,e,by omega,by omega,k3⟩
theorem CT_single {σ:S} {v:Value} {κ:K} (h:KT σ v κ):CT σ [v] [κ]:=⟨rfl,fun i κ' hi=>by
 match i with
 | 0=>simp at hi; subst hi; exact ⟨v,rfl,h⟩
 | i+1=>simp at hi⟩
theorem cells_single {v:Value} (h:v.oneCell'=true):v.cells.toList = [v]:=by
 cases v <;> first | rfl | (simp [Value.oneCell'] at h)
theorem knd_ok {σ:S} {v:Value} {τ:T} {l:List K} (hv:VT σ v τ) (h:knd τ=some l):CT σ v.cells.toList l:=by
 cases τ with
 | int k lo hi =>
   obtain ⟨n,rfl,h1,h2⟩:=hv
   unfold knd at h
   dsimp only at h
   split at h
   ·rename_i hr
    cases h
    exact CT_single ⟨n,rfl,Int.le_trans hr.1 h1,Int.le_trans h2 hr.2⟩
   · cases h
 | bool=>obtain ⟨b,rfl⟩:=hv; cases h; exact CT_single ⟨b,rfl⟩
 | cb b=>obtain rfl:=hv; cases h; exact CT_single ⟨b,rfl⟩
 | agg l =>
   obtain ⟨C,rfl,hC⟩:=hv
   unfold knd at h
   dsimp only at h
   split at h
   · cases h; exact hC
   · cases h
 | sl n =>
   have hv':SL σ v n:=hv
   cases h
   rw [cells_single (KT.one (κ := .sl n) rfl hv')]
   exact CT_single hv'
 | nl =>
   obtain rfl:v=_:=hv
   cases h
   exact CT_single (κ := .nl) rfl
 | cel i j =>
   have hv':KT σ v (.cel i j):=hv
   cases h
   rw [cells_single hv'.2]
   exact CT_single hv'
 | bt t =>
   have hv':KT σ v (.bt t):=hv
   cases h
   rw [cells_single (KT.one (κ := .bt t) rfl hv')]
   exact CT_single hv'
 | ss m κ lo hi =>
   have hv':SS σ v m κ lo hi:=hv
   unfold knd at h
   dsimp only at h
   split at h
   ·rename_i hk
    obtain ⟨rfl,hb⟩:=hk
    cases h
    have:=hv'.sl hb
    rw [cells_single (KT.one (κ := .sl 1) rfl this)]
    exact CT_single (κ := .sl 1) this
   ·cases h
    obtain ⟨a,len,cap,rfl,_⟩:=hv'
    exact CT_single (κ := .any) rfl
 | ow κs lo hi =>
   have hv':OW σ v κs lo hi:=hv
   have h1:=hv'.one
   unfold knd at h
   dsimp only at h
   rw [cells_single h1]
   split at h
   ·rename_i hk
    cases h
    refine CT_single (κ := .ow κs.length hi) ?_
    show OW σ v (List.replicate κs.length (.int .u8)) 0 hi
    rw [← hk.1]
    exact hv'.wide (Nat.zero_le _) (Nat.le_refl _)
   ·cases h
    exact CT_single (κ := .any) h1
 | ptr m l o =>
   obtain ⟨b,m',rfl,hb,hm⟩:=hv
   unfold knd at h
   dsimp only at h
   rw [cells_single rfl]
   split at h
   ·rename_i hk
    obtain ⟨rfl,rfl⟩:=hk
    rw [hm rfl] at hb
    split at h
    · rename_i hl; cases h; exact CT_single (κ := .pt 0) ⟨b,rfl,by rw [hb,hl]⟩
    ·split at h
     · rename_i hl; cases h; exact CT_single (κ := .pt 1) ⟨b,rfl,by rw [hb,hl]⟩
     · cases h; exact CT_single (κ := .any) rfl
   · cases h; exact CT_single (κ := .any) rfl
 | _=>cases h
theorem knd_pl {τ:T} {l:List K} (h:knd τ=some l):l.all pK=true:=by
 cases τ <;> simp only [knd] at h
 case agg=>split at h <;> cases h; assumption
 all_goals (repeat' (split at h)) <;> first | (cases h; rfl) | cases h
theorem CT_pl {σ:S} (hp : ∀ j,σ.pv j=none) {C:List Value} {l:List K} (h:CT σ C l):l.all pK=true:=by
 rw [List.all_eq_true]
 intro κ hκ
 obtain ⟨i,hi,rfl⟩:=List.mem_iff_getElem.1 hκ
 obtain ⟨v,_,h2⟩:=h.2 i _ (List.getElem?_eq_getElem hi)
 cases hk:l[i] with
 | os j o n=>rw [hk] at h2; obtain ⟨_,_,_,_,l',hl⟩:=h2; rw [hp] at hl; cases hl
 | _=>rfl
def ofK:K→T
 | .int k => .int k (klo k) (khi k)
 | .bool => .bool
 | .sl n => .sl n
 | .pt i => .ptr true (lay i) 0
 | .ow n hi => .ow (List.replicate n (.int .u8)) 0 hi
 | .nl => .nl
 | .any => .any
 | .wild => .any
 | .ci k n => .int k n n
 | .cb b => .cb b
 | .cel i j => .cel i j
 | .bt t => .bt t
 | .os j o m => .os j o m none
theorem ofK_ok {σ:S} {v:Value} {κ:K} (h:KT σ v κ):VT σ v (ofK κ):=by
 cases κ with
 | int k=>exact h
 | bool=>exact h
 | sl n=>exact h
 | pt i=>obtain ⟨b,e,hb⟩:=h; exact ⟨b,true,e,hb,fun _=>rfl⟩
 | ow n hi=>exact h
 | nl=>exact h
 | any=>exact trivial
 | wild=>exact trivial
 | ci k n=>exact ⟨n,h,Int.le_refl _,Int.le_refl _⟩
 | cb b=>exact h
 | cel i j=>exact h
 | bt t=>exact h
 | os j o m=>obtain ⟨c,e,h1,h2,l,hl⟩:=h; exact ⟨c,e,h1,h2,(fun k e=>nomatch e),l,hl⟩
def kndX:T→Option (List K)
 | .int k lo hi=>match ieq lo hi with
   | true=>some [.ci k lo]
   | false=>knd (.int k lo hi)
 | .cb b=>some [.cb b]
 | .agg l=>some l
 | .os j o m _=>some [.os j o m]
 | τ=>knd τ
theorem kndX_ok {σ:S} {v:Value} {τ:T} {l:List K} (hv:VT σ v τ) (h:kndX τ=some l):CT σ v.cells.toList l:=by
 cases τ with
 | int k lo hi =>
   unfold kndX at h
   dsimp only at h
   split at h
   ·rename_i he
    have he:=ieq_iff.1 he
    subst he
    cases h
    obtain ⟨n,rfl,h1,h2⟩:=hv
    exact CT_single (κ := .ci k lo) (by rw [Int.le_antisymm h2 h1]; rfl)
   · exact knd_ok hv h
 | cb b=>obtain rfl:=hv; cases h; exact CT_single (κ := .cb b) rfl
 | agg l=>obtain ⟨C,rfl,hC⟩:=hv; cases h; exact hC
 | os j o m c =>
   obtain ⟨cap,e,k1,k2,_,l,hl⟩:=hv
   have hv':KT σ v (.os j o m):=⟨cap,e,k1,k2,l,hl⟩
   cases h
   rw [cells_single (KT.one (κ := .os j o m) rfl hv')]
   exact CT_single hv'
 | _=>exact knd_ok hv h
end Ab
end Go.Proofs.YtfodadedkilgdaaGreatDoor
