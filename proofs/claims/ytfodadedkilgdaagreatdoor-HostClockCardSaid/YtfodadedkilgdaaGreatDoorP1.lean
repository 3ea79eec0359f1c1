/- A part of the proof. Plain; no condition. -/
import Derived.Test.YtfodadedkilgdaaGreatDoorP0
import Derived.Deep.AppendSrc
import Derived.Laws.OwnMore
import Derived.Laws.AppendOwnNone
import Derived.Below
namespace Go.Proofs.YtfodadedkilgdaaGreatDoor
open Go.RowKit Bits
namespace Sha
structure Tabs (w:World):Prop where
 start : ∃ t f,w.heap[(5:Nat)]? = some (.cells (cells HH) t f)
 rounds : ∃ t f,w.heap[(9:Nat)]? = some (.cells (cells KK) t f)
theorem lt_of_heap {w:World} {g:Nat} {o:Obj} (h:w.heap[g]? = some o):g<w.heap.size:=(Array.getElem?_eq_some_iff.1 h).1
theorem Tabs.lt1 {w:World} (h:Tabs w):(5:Nat)<w.heap.size:=by obtain ⟨_,_,h⟩:=h.start; exact lt_of_heap h
theorem Tabs.lt2 {w:World} (h:Tabs w):(9:Nat)<w.heap.size:=by obtain ⟨_,_,h⟩:=h.rounds; exact lt_of_heap h
theorem Tabs.below {w w':World} (h:Tabs w) (hb:Below w.heap.size w w'):Tabs w':=by
 obtain ⟨t,f,h1⟩:=h.start
 obtain ⟨t',f',h2⟩:=h.rounds
 exact ⟨⟨t,f,Rg.below_row hb h.lt1 h1⟩,⟨t',f',Rg.below_row hb h.lt2 h2⟩⟩
theorem info8:(Tryz.prog.info? 293).map (·.size)=some 8:=by kernel_rfl
set_option maxRecDepth 100000 in
set_option maxHeartbeats 1000000 in
theorem press_any (H:List (BitVec 32)) (l:List UInt8) (b off len cap:Nat) (w:World) (hH:H.length=8) (hT:Tabs w) (hl:64≤l.length) (hlen:l.length=len) (hcap:len≤cap) (hm:cap≤9223372036854775807)
 (hc : ∀ k,k<len→w.cell? ⟨b,off+k,none⟩=some (.int .u8 ((bt l k).toNat:Int))) :
 Calls Tryz.prog 168 #[.agg (cells H),.slice (some ⟨b,off,none⟩) len cap] w fun e w'=>e = .returned (.agg (cells (press H l)))∧Below w.heap.size w w':=by
 have hb:b<w.heap.size:=World.block_lt_of_cell? _ _ (hc 0 (by omega))
 have H1:=Lib.hid hlen
 have H2:=Lib.hid hc; clear hc
 have HL:=Lib.hid hH
 go_enter Tryz.func168,Tryz.ntmps168
 go_wp2_with fail
 refine (spread_any l b off len cap _ hl hlen hcap hm ?_).mono ?_
 ·intro k hk
  rw [World.cell?_alloc_past _ _ _ (by simp; omega),World.cell?_alloc_past _ _ _ hb]
  exact H2.out k hk
 ·rintro e w1 ⟨rfl,hB1⟩
  have g0:=Rg.below_row hB1 (g:=w.heap.size) (by simp; omega) ((Rg.heap_alloc_past _ _ _ (by simp)).trans (Rg.heap_alloc_at _ _ _ rfl))
  have g1:=Rg.below_row hB1 (g:=w.heap.size+1) (by simp) (Rg.heap_alloc_at _ _ _ (by simp))
  have z1:w.heap.size+1<w1.heap.size:=by have:=hB1.size; simp at this; omega
  have hBw:Below w.heap.size w w1:=(((Below.refl _ _).alloc (Nat.le_refl _) _).alloc (by simp) _).trans (hB1.mono (by simp; omega))
  have hT1:=hT.below hBw
  have hi64:(Tryz.prog.info? 336).map (·.size)=some (cells (spread l)).size:=by rw [cells_size,spread_length]; exact info64
  have hi8:(Tryz.prog.info? 293).map (·.size)=some (cells H).size:=by rw [cells_size,hH]; exact info8
  have hz64:(cells zeros64).size=(cells (spread l)).size:=by rw [cells_size,cells_size,spread_length]; rfl
  have hz8:(#[Value.int .u32 0,.int .u32 0,.int .u32 0,.int .u32 0,.int .u32 0,.int .u32 0,.int .u32 0,.int .u32 0]:Array Value).size=(cells H).size:=by rw [cells_size,hH]; rfl
  have HI64:=Lib.hid hi64; clear hi64
  have HI8:=Lib.hid hi8; clear hi8
  have HZ64:=Lib.hid hz64; clear hz64
  have HZ8:=Lib.hid hz8; clear hz8
  have G0:=Lib.hid g0; clear g0
  have G1:=Lib.hid g1; clear g1
  clear hB1
  generalize hS:spread l=S at *
  have HS:=Lib.hid hS; clear hS
  go_wp2_with (first | (refine Rg.store_row_new rfl 336 _ _ rfl w1.heap.size rfl rfl 336 (cells zeros64) (cells S) rfl HI64.out HZ64.out (cells_one _) ?_) | (refine wpList_load_row rfl 293 _ rfl w.heap.size rfl 293 (cells H) (0,0) _ (by exact (Rg.heap_alloc_past _ _ _ (by omega)).trans G0.out) Tryz.underlying293 rfl HI8.out ?_) | (refine Rg.store_row_new rfl 293 _ _ rfl (w1.heap.size+1) (by simp) rfl 293 _ (cells H) rfl HI8.out HZ8.out (cells_one _) ?_))
  have hSL:S.length=64:=by rw [← HS.out,spread_length]
  obtain ⟨tK,fK,hKrow⟩:=hT1.rounds
  have HK:Hid (∀ k,k<64→w1.cell? ⟨(9:Nat),k,none⟩=some (.int .u32 (n32 (rd KK k)))):=Lib.hid (fun k hk=>by
   rw [cell_of_row w1 _ k _ _ _ hKrow]; exact cells_get KK k (by rw [KK_length]; exact hk))
  have hlt2:=hT1.lt2
  have hlt0:0<w1.heap.size:=Nat.lt_of_le_of_lt (Nat.zero_le _) hlt2
  clear hKrow
  go_loopw [14] (fun i wr => ∃ k:Nat,k≤64∧i = .int .i64 k ∧ ∃ n,wr=((w1.alloc (.cells (cells S) 336)).alloc (.cells (cells (rnds H S k)) 293)).drewN n) (fun i _=>64-(intOf i).toNat)
  case atStart=>exact ⟨0,by omega,rfl,0,rfl⟩
  case round =>
   obtain ⟨k,hk,rfl,n,rfl⟩:=hrel
   have hVL:(rnds H S k).length=8:=rnds_length H S hH k
   by_cases hlt:k<64
   ·obtain ⟨V,hV⟩ : ∃ V,V=rnds H S k:=⟨_,rfl⟩
    rw [← hV]
    rw [← hV] at hVL
    have HV:=Lib.hid hV; clear hV
    have v0:=cells_get V 0 (by omega)
    have v1:=cells_get V 1 (by omega)
    have v2:=cells_get V 2 (by omega)
    have v3:=cells_get V 3 (by omega)
    have v4:=cells_get V 4 (by omega)
    have v5:=cells_get V 5 (by omega)
    have v6:=cells_get V 6 (by omega)
    have v7:=cells_get V 7 (by omega)
    have sk:=cells_get S k (by omega)
    have kk:=HK.out k hlt
    have q1:(k:Int)<64:=by omega
    have HVL:=Lib.hid hVL; clear hVL
    go_wp2
    refine Rg.whole (fun w' => ∃ n,w'=((w1.alloc (.cells (cells S) 336)).alloc (.cells (cells V) 293)).drewN n) (by kernel_rfl) (by kernel_rfl) ⟨n+1,rfl⟩ ?_
    repeat (refine Rg.stepK rfl ?_; intro K hK; apply Exists.intro; refine ⟨?_,?_⟩; (focus (intro w' hw'; obtain ⟨nq,rfl⟩:=hw'; go_simp; (first | (go_at_call 214; exact Calls.quiet_of_same ((big_any _ _ _ _ _ (by omega) (by omega) (by omega) (by omega) (by omega) (by omega)).mono fun _ _ h=>⟨h.1,h.2.symm⟩)) | ((try go_bits); (try go_simp); (try rfl))))); go_simp; refine hK _ ?_; clear hK K)
    refine wpQuiet_nil ?_; intro w' hw'; obtain ⟨nq,rfl⟩:=hw'
    go_wp2
    refine Rg.whole (fun w' => ∃ n,w'=((w1.alloc (.cells (cells S) 336)).alloc (.cells (cells V) 293)).drewN n) (by kernel_rfl) (by kernel_rfl) ⟨nq+1,rfl⟩ ?_
    repeat (refine Rg.stepK rfl ?_; intro K hK; apply Exists.intro; refine ⟨?_,?_⟩; (focus (intro w' hw'; obtain ⟨nq,rfl⟩:=hw'; go_simp; (first | (go_at_call 214; exact Calls.quiet_of_same ((big_any _ _ _ _ _ (by omega) (by omega) (by omega) (by omega) (by omega) (by omega)).mono fun _ _ h=>⟨h.1,h.2.symm⟩)) | ((try go_bits); (try go_simp); (try rfl))))); go_simp; refine hK _ ?_; clear hK K)
    refine wpQuiet_nil ?_; intro w' hw'; obtain ⟨nq,rfl⟩:=hw'
    have hs8:(cells V).size=(cells (rnd V S k)).size:=by rw [cells_size,HVL.out]; rfl
    have HS8:=Lib.hid hs8; clear hs8
    go_wp2_with (refine Rg.store_row rfl 293 _ _ rfl (w1.heap.size+1) rfl 293 (cells V) (cells (rnd V S k)) rfl (Rg.heap_alloc_at _ _ _ (by simp)) info8 HS8.out (cells_one _) ?_)
    go_roundw
    case rel=>exact ⟨k+1,by omega,by go_num,_,by rw [show rnds H S (k+1)=rnd V S k from by rw [HV.out]; rfl,Rg.setRow_drewN,Rg.setRow_alloc_at _ _ _ _ _ (by simp)]⟩
    case measure=>simp [intOf]; omega
   ·obtain rfl:k=64:=by omega
    rw [show ((64:Nat):Int)=64 from rfl]
    obtain ⟨V,hV⟩ : ∃ V,V=rnds H S 64:=⟨_,rfl⟩
    rw [← hV]
    rw [← hV] at hVL
    have HV:=Lib.hid hV; clear hV
    clear hk hlt
    go_wp2
    have e1:w1=w1.setRow w.heap.size (cells (addw H V 0)):=(Rg.setRow_self G0.out).symm
    have E1:=Lib.hid e1; clear e1
    go_loopw [86] (fun i wr => ∃ k:Nat,k≤8∧i = .int .i64 k ∧ ∃ n,wr=(((w1.setRow w.heap.size (cells (addw H V k))).alloc (.cells (cells S) 336)).alloc (.cells (cells V) 293)).drewN n) (fun i _=>8-(intOf i).toNat)
    case atStart=>exact ⟨0,by omega,rfl,n,by rw [← E1.out]⟩
    case round =>
     obtain ⟨k,hk,rfl,n,rfl⟩:=hrel
     by_cases hlt:k<8
     ·have hAL:(addw H V k).length=8:=by rw [addw_length,hH]
      have a0:=cells_get (addw H V k) k (by omega)
      have v0:=cells_get V k (by omega)
      have c0:(w1.setRow w.heap.size (cells (addw H V k))).cell? ⟨w.heap.size,k,none⟩=some (.int .u32 (n32 (rd (addw H V k) k))):=by rw [cell_setRow_same _ _ _ _ _ _ _ G0.out,a0]
      have z0:w.heap.size<w1.heap.size:=by omega
      have f0:(w1.setRow w.heap.size (cells (addw H V k))).frozen? ⟨w.heap.size,k,none⟩=false:=frozen_of_row _ _ _ _ _ (setRow_heap _ _ _ _ _ _ G0.out)
      have q1:(k:Int)<8:=by omega
      go_wp2
      refine Rg.tail (fun w' => ∃ n,w'=(((w1.setRow w.heap.size (cells (addw H V k))).alloc (.cells (cells S) 336)).alloc (.cells (cells V) 293)).drewN n) 8 (by kernel_rfl) (by kernel_rfl) ⟨n+1,rfl⟩ ?_; simp only [List.take_succ_cons,List.take_zero,List.drop_succ_cons,List.drop_zero]
      repeat (refine Rg.stepK rfl ?_; intro K hK; apply Exists.intro; refine ⟨?_,?_⟩; (focus (intro w' hw'; obtain ⟨nq,rfl⟩:=hw'; go_simp; (first | (fail) | ((try go_bits); (try go_simp); (try rfl))))); go_simp; refine hK _ ?_; clear hK K)
      refine wpQuiet_nil ?_; intro w' hw'; obtain ⟨nq,rfl⟩:=hw'
      go_wp2
      go_roundw
      case rel=>exact ⟨k+1,by omega,by go_num,nq,by rw [Rg.setCell_setRow G0.out,cells_set]; rfl⟩
      case measure=>simp [intOf]; omega
     ·obtain rfl:k=8:=by omega
      have hAL:(addw H V 8).length=8:=by rw [addw_length,hH]
      have hP:Hid (press H l=addw H V 8):=by rw [HV.out,← HS.out]; exact Lib.hid rfl
      generalize hA:addw H V 8=A at *
      have hiA:(Tryz.prog.info? 293).map (·.size)=some (cells A).size:=by rw [cells_size,hAL]; exact info8
      have hzA:(#[Value.int .u32 0,.int .u32 0,.int .u32 0,.int .u32 0,.int .u32 0,.int .u32 0,.int .u32 0,.int .u32 0]:Array Value).size=(cells A).size:=by rw [cells_size,hAL]; rfl
      have HIA:=Lib.hid hiA; clear hiA
      have HZA:=Lib.hid hzA; clear hzA
      have z0:w.heap.size<w1.heap.size:=by omega
      have z3:w.heap.size<(w1.setRow w.heap.size (cells A)).heap.size:=by simp; omega
      have z4:w.heap.size+1<(w1.setRow w.heap.size (cells A)).heap.size:=by simp; omega
      have GA:Hid ((w1.setRow w.heap.size (cells A)).heap[w.heap.size]? = some (.cells (cells A) 293 (0,0))):=Lib.hid (setRow_heap _ _ _ _ _ _ G0.out)
      have GB:Hid ((w1.setRow w.heap.size (cells A)).heap[w.heap.size+1]? = some (.cells _ 293 (0,0))):=Lib.hid ((setRow_other _ _ _ _ (by omega)).trans G1.out)
      go_wp2_with (first | (refine wpList_load_row rfl 293 _ rfl w.heap.size rfl 293 (cells A) (0,0) _ (by exact ((Rg.heap_alloc_past _ _ _ (by rw [World.size_alloc]; omega)).trans ((Rg.heap_alloc_past _ _ _ z3).trans GA.out))) Tryz.underlying293 rfl HIA.out ?_) | (refine Rg.store_row rfl 293 _ _ rfl (w.heap.size+1) rfl 293 _ (cells A) rfl (by exact ((Rg.heap_alloc_past _ _ _ (by rw [World.size_alloc]; omega)).trans ((Rg.heap_alloc_past _ _ _ z4).trans GB.out))) HIA.out HZA.out (cells_one _) ?_))
      refine bodyPost_ret (v := .agg (cells A)) (results_cell_row (P:=Tryz.prog) rfl _ _ (w.heap.size+1) 293 (cells A) (0,0) _ rfl (setRow_heap _ _ _ _ 293 _ ((Rg.heap_alloc_past _ _ _ (by rw [World.size_alloc]; omega)).trans ((Rg.heap_alloc_past _ _ _ z4).trans GB.out))) Tryz.underlying293 rfl HIA.out) rfl ⟨by rw [hP.out],?_⟩
      exact Rg.below_setRow (Rg.below_drewN (((Rg.below_setRow hBw (Nat.le_refl _) _).alloc (by omega) _).alloc (by simp; omega) _) _) (by omega) _
end Sha
end Go.Proofs.YtfodadedkilgdaaGreatDoor
namespace Go.Proofs.YtfodadedkilgdaaGreatDoor
open Go.RowKit
namespace Mem
def Rd (w:World) (size:Nat) (v:Value) (n:Nat) (xs:List Value):Prop :=
 xs.length=n*size∧((v = .slice none 0 0∧n=0) ∨
  ∃ b off cap,v = .slice (some ⟨b,off,none⟩) n cap∧b<w.heap.size∧n≤cap∧cap≤maxLen ∧ ∀ j u,xs[j]? = some u→w.cell? ⟨b,off+j,none⟩=some u)
section
variable {w w':World} {base size n m:Nat} {e:TypeId} {v x:Value} {xs news:List Value}
theorem Rd.nil (w:World) (size:Nat):Rd w size (.slice none 0 0) 0 []:=⟨by simp,.inl ⟨rfl,rfl⟩⟩
theorem addr_add (b o j:Nat):(⟨b,o,none⟩:Addr).add j=⟨b,o+j,none⟩:=by
 unfold Addr.add; split <;> simp_all
theorem Rd.of_own (h:w.ownsRow base e size v n xs):Rd w size v n xs:=by
 refine ⟨h.1,?_⟩
 rcases h.2 with hn | ⟨g,cap,cur,rfl,hb,hg,hnc,hcm,hcs,htake⟩
 · exact .inl hn
 ·refine .inr ⟨g,0,cap,rfl,(Array.getElem?_eq_some_iff.1 hg).1,hnc,hcm,fun j u hu => ?_⟩
  have:=h.cells (g:=g) rfl j u hu
  rwa [addr_add] at this
theorem Rd.kept (h:Rd w size v n xs) {row:Option Nat} (hg:w.grownBy w' row) (hne:v.ownBlock=none∨v.ownBlock≠row):Rd w' size v n xs:=by
 refine ⟨h.1,?_⟩
 rcases h.2 with hn | ⟨b,off,cap,rfl,hb,hnc,hcm,hc⟩
 · exact .inl hn
 ·refine .inr ⟨b,off,cap,rfl,Nat.lt_of_lt_of_le hb hg.size,hnc,hcm,fun j u hu => ?_⟩
  exact hg.cell (hc j u hu) (by simpa [Value.ownBlock] using hne)
theorem Rd.below (h:Rd w size v n xs) (hb:Below w.heap.size w w'):Rd w' size v n xs:=by
 refine ⟨h.1,?_⟩
 rcases h.2 with hn | ⟨b,off,cap,rfl,hlt,hnc,hcm,hc⟩
 · exact .inl hn
 · exact .inr ⟨b,off,cap,rfl,Nat.lt_of_lt_of_le hlt hb.size,hnc,hcm,fun j u hu=>(hb.cell (p:=⟨b,off+j,none⟩) hlt).trans (hc j u hu)⟩
theorem Rd.src {P:Program} {t e':TypeId} (hk:P.underlying t=some (.slice e')) (h:Rd w size x m news) (h1 : ∀ u∈news,u.oneCell'=true):Src P size t x m news w:=by
 rcases h.2 with ⟨rfl,rfl⟩ | ⟨b,off,cap,rfl,_,_,_,hc⟩
 ·have:news = []:=List.eq_nil_of_length_eq_zero (by simpa using h.1)
  subst this
  exact Src.ofNil w hk 0
 · exact Src.ofSlice w hk _ m cap news h.1 (fun j u hu=>by rw [addr_add]; exact hc j u hu) h1
theorem below_of_grown {B:Nat} {row:Option Nat} (hg:w.grownBy w' row) (hB:B≤w.heap.size) (hr : ∀ k,row=some k→B≤k):Below B w w' :=
 (Below.refl B w).grown hg hB hr
theorem app_own {P:Program} {ops:Array Oper} {rest:List Oper} {o:Oper} {a:Act} {Q:Exit→Act→World→Prop} (hgd:o.guard=none) (s y:Operand) (t:TypeId)
 (ho:o.op = .call {callee := .builtin .append,args := #[s,y],argTypes := #[t,t]})
 (base:Nat) (e:TypeId) (i:TypeInfo) (z:Value) (size bytes:Nat) (ht:P.underlying t=some (.slice e)) (hi:P.info? e=some i) (hz:i.zero=some z)
 (hsize:i.size=size) (hby:i.bytes=bytes) (hzs:z.cells.size=size) (hsz:0<size)
 (v:Value) (n:Nat) (xs:List Value) (hs:a.eval s=v) (hown:w.ownsRow base e size v n xs)
 (x:Value) (m:Nat) (news:List Value) (hx:a.eval y=x) (hsrc:Rd w size x m news) (h1 : ∀ u∈news,u.oneCell'=true)
 (h63:n+m≤maxLen) (hbytes:(n+m)*bytes≤140737488355328) (hbase:base≤w.heap.size)
 (h : ∀ v' w',w'.ownsRow base e size v' (n+m) (xs++news)→w.grownBy w' v.ownBlock→(v' = .slice none 0 0↔v = .slice none 0 0∧m=0)→wpList P ops Q rest (a.put o.dst v') w'):wpList P ops Q (o::rest) a w:=by
 rcases hsrc.2 with ⟨rfl,rfl⟩ | ⟨b,off,cap,rfl,_,_,_,hc⟩
 ·have hn:news = []:=List.eq_nil_of_length_eq_zero (by simpa using hsrc.1)
  subst hn
  refine wpList_append_own_none hgd s y t ho base e i size ht hi v n xs hs hown hx (h v w (by simpa using hown) ⟨rfl,rfl,rfl,Nat.le_refl _,fun _ _ _=>rfl⟩ ?_)
  simp
 · exact wpList_append_own w hgd s y t ho base e i z size bytes ht hi hz hsize hby hzs hsz v n xs hs hown ⟨b,off,none⟩ m cap news hx hsrc.1 (fun j u hu=>by rw [addr_add]; exact hc j u hu) h1 h63 hbytes hbase h
theorem zeroCells_size (z:Array Value) (n:Nat):(Builtin.zeroCells z n).size=n*z.size:=by simp [Builtin.zeroCells]
theorem app_full {P:Program} {ops:Array Oper} {rest:List Oper} {o:Oper} {a:Act} {Q:Exit→Act→World→Prop} (hgd:o.guard=none) (s y:Operand) (t:TypeId)
 (ho:o.op = .call {callee := .builtin .append,args := #[s,y],argTypes := #[t,t]})
 (e:TypeId) (i:TypeInfo) (z:Value) (size bytes:Nat) (ht:P.underlying t=some (.slice e)) (hi:P.info? e=some i) (hz:i.zero=some z)
 (hsize:i.size=size) (hby:i.bytes=bytes) (hzs:z.cells.size=size)
 (p:Option Addr) (n:Nat) (xs:List Value) (hs:a.eval s = .slice p n n) (hold:Rd w size (.slice p n n) n xs)
 (x:Value) (m:Nat) (news:List Value) (hx:a.eval y=x) (hsrc:Rd w size x m news) (h1 : ∀ u∈news,u.oneCell'=true)
 (h63:n+m≤maxLen) (hbytes:(n+m)*bytes≤140737488355328)
 (h : ∀ v' w',Rd w' size v' (n+m) (xs++news)→Below w.heap.size w w'→(v' = .slice p n n ∨ ∃ g cap,v' = .slice (some ⟨g,0,none⟩) (n+m) cap∧w.heap.size≤g)→wpList P ops Q rest (a.put o.dst v') w'):wpList P ops Q (o::rest) a w:=by
 subst hsize
 subst hby
 have hS:=hsrc.src ht h1
 have hlen:(xs++news).length=(n+m)*i.size:=by rw [List.length_append,hold.1,hsrc.1,Nat.add_mul]
 refine wpList_plain hgd fun K hK => ?_
 by_cases hm:m=0
 ·subst hm
  have hn:news = []:=List.eq_nil_of_length_eq_zero (by simpa using hsrc.1)
  subst hn
  have hrun:(Builtin.append_ #[t,t] o.type #[.slice p n n,x]).run P w = .ok (.slice p n n) w:=by
   have hc:=hS.cells
   cases p <;> simp [Builtin.append_,run_underlying ht,sizeOf,typeInfo,hi,hS.len,hc,storeCells]
  unfold Oper.wp
  simp [execOp,ho,resolve,invoke,builtin,hs,hx,hrun,Result.andThen]
  exact hK _ _ (h _ _ (by simpa using hold) (Below.refl _ _) (.inl rfl))
 ·have hfirst:(Builtin.firstCells i.size n (.slice p n n)).run P w.drew = .ok xs.toArray w.drew:=by
   have hold':=hold
   rcases hold'.2 with ⟨hv,hn⟩ | ⟨b,off,cap,hv,_,_,_,hc⟩
   ·cases hv
    have:xs = []:=List.eq_nil_of_length_eq_zero (by simpa using hold.1)
    subst this
    exact run_firstCells_none w.drew i.size 0 0 0
   ·cases hv
    exact run_firstCells_some w.drew i.size n ⟨b,off,none⟩ n _ xs hold.1 (fun j u hu=>by rw [addr_add]; simpa using hc j u hu)
  have hrun:=run_append_grow_src (P:=P) w t t o.type e i z ht hi hz p n n xs hfirst x m news hS (by omega) (by unfold maxLen at h63; omega) (growslice_fits (by omega) hbytes)
  unfold Oper.wp
  simp [execOp,ho,resolve,invoke,builtin,hs,hx,hrun,Result.andThen]
  refine hK _ _ (h _ _ ?_ ?_ (.inr ⟨_,_,rfl,Nat.le_refl _⟩))
  ·have hge:=grownCap_ge w (n+m) n e
   refine ⟨hlen,.inr ⟨w.heap.size,0,_,rfl,by simp,hge,grownCap_le_maxLen w (n+m) n e h63,fun j u hu => ?_⟩⟩
   rw [Nat.zero_add,World.alloc_drew,World.cell?_drew]
   have hj:=(List.getElem?_eq_some_iff.1 hu).1
   rw [World.cell?_alloc_at _ _ _ _ rfl,Array.getElem?_append_left (by simpa using hj)]
   simpa using hu
  · exact Below.drew ((Below.refl _ _).alloc (Nat.le_refl _) _)
end
theorem Rd_lit (w:World) (cs:Array Value) (e:TypeId) (size n:Nat) (hs:cs.size=n*size) (hm:n≤maxLen):Rd (w.alloc (.cells cs e)) size (.slice (some ⟨w.heap.size,0,none⟩) n n) n cs.toList :=
 Rd.of_own (World.ownsRow_lit (base:=0) w cs n (Nat.zero_le _) hm hs)
theorem q_load {P:Program} {ops:Array Oper} {C:World→Prop} {Q:Act→Prop} {a:Act} {o:Oper} {rest:List Oper} (hg:o.guard=none) (ty:TypeId) (y:Operand) (ho:o.op = .load ty y) (v:Value)
 (hrun : ∀ w,C w→(Instr.loadAt ty (a.eval y)).run P w = .ok v w)
 (h : ∀ K:Act→Prop,(∀ a,wpQuiet P ops C Q rest a→K a)→K (a.put o.dst v)):wpQuiet P ops C Q (o::rest) a :=
 Rg.step v hg (fun w hw=>by
  unfold Oper.quietAt execOp
  simp only [ho,Sem.run_bind,hrun w hw,Result.andThen_ok,Sem.run_pure]
  exact ⟨rfl,rfl⟩) (h _ (fun _ h=>h))
def bys (l:List UInt8):List Value:=l.map fun b=>Value.int .u8 (b.toNat:Int)
theorem bys_append (l r:List UInt8):bys (l++r)=bys l++bys r:=by simp [bys]
theorem bys_length (l:List UInt8):(bys l).length=l.length:=by simp [bys]
theorem bys_one (l:List UInt8) : ∀ u∈bys l,u.oneCell'=true:=by
 intro u hu; simp [bys] at hu; obtain ⟨x,_,rfl⟩:=hu; rfl
theorem bys_get (l:List UInt8) (k:Nat) (h:k<l.length):(bys l)[k]? = some (.int .u8 ((l.getD k 0).toNat:Int)):=by
 simp [bys,List.getD,h]
theorem l_load {P:Program} {ops:Array Oper} {Q:Exit→Act→World→Prop} {a:Act} {w:World} {o:Oper} {rest:List Oper} (hg:o.guard=none) (ty:TypeId) (y:Operand) (ho:o.op = .load ty y) (v:Value)
 (hrun:(Instr.loadAt ty (a.eval y)).run P w = .ok v w) (h:wpList P ops Q rest (a.put o.dst v) w):wpList P ops Q (o::rest) a w :=
 wpList_plain hg fun _ hK=>by
  unfold Oper.wp execOp
  simp only [ho,Sem.run_bind,hrun,Result.andThen_ok,Sem.run_pure]
  exact hK _ _ h
theorem below_app {B:Nat} {w0 w w':World} {base:Nat} {e:TypeId} {size n:Nat} {v:Value} {xs:List Value} {o:Obj} (hb:Below B w0 w) (hB:B≤w.heap.size) (hown:(w.alloc o).ownsRow base e size v n xs) (hbase:B≤base) (hg:(w.alloc o).grownBy w' v.ownBlock):Below B w0 w' :=
 (hb.alloc hB o).grown hg (by simp; omega) (fun k hk=>Nat.le_trans hbase (hown.lt k hk).1)
end Mem
end Go.Proofs.YtfodadedkilgdaaGreatDoor
namespace Go.Proofs.YtfodadedkilgdaaGreatDoor
open Go.RowKit Bits Mem
namespace Sha
theorem info1:(Tryz.prog.info? 5).map (fun i=>(i.zero,i.size,i.bytes))=some (some (.int .u8 0),1,1):=by kernel_rfl
def HashAt (w:World) (hb:Nat) (all:List UInt8):Prop :=
 ∃ p c t,w.heap[hb]? = some (.cells (cells (st all) ++ #[.slice p (rs all).length c,.int .i64 (all.length:Int)]) t (0,0)) ∧
   Rd w 1 (.slice p (rs all).length c) (rs all).length (bys (rs all))∧(Value.slice p (rs all).length c).ownBlock≠some hb
theorem set_last (A:Array Value) (a b v:Value) (n:Nat) (hA:A.size+1=n):(A ++ #[a,b]).setIfInBounds n v=A ++ #[a,v]:=by
 subst hA
 apply Array.ext'
 simp
theorem set_prev (A:Array Value) (a b v:Value) (n:Nat) (hA:A.size=n):(A ++ #[a,b]).setIfInBounds n v=A ++ #[v,b]:=by
 subst hA
 apply Array.ext'
 simp
theorem row_words (A B:List (BitVec 32)) (a b:Value) (hA:A.length=8) (hB:B.length=8) :
 ((cells A ++ #[a,b]).toList.take 0++(cells B).toList++(cells A ++ #[a,b]).toList.drop (0+(cells B).size)).toArray=cells B ++ #[a,b]:=by
 apply Array.ext'
 simp [cells,hA,hB]
theorem Tabs.ne {w:World} (h:Tabs w) {hb:Nat} {A:List (BitVec 32)} {a b:Value} {t:TypeId} {f:Nat×Nat} (hr:w.heap[hb]? = some (.cells (cells A ++ #[a,b]) t f)) (hA:A.length=8) :
 (5:Nat)≠hb∧(9:Nat)≠hb:=by
 obtain ⟨t1,f1,h1⟩:=h.start
 obtain ⟨t2,f2,h2⟩:=h.rounds
 constructor
 ·intro e; rw [e,hr] at h1
  have:=congrArg (fun o:Option Obj=>match o with | some (.cells c _ _)=>c.size | _=>0) h1
  simp [cells,hA] at this
  rw [HH_length] at this; omega
 ·intro e; rw [e,hr] at h2
  have:=congrArg (fun o:Option Obj=>match o with | some (.cells c _ _)=>c.size | _=>0) h2
  simp [cells,hA] at this
  rw [KK_length] at this; omega
theorem Tabs.grown {w w':World} (h:Tabs w) {hb:Nat} (hg:w.grownBy w' (some hb)) (h1:(5:Nat)≠hb) (h2:(9:Nat)≠hb):Tabs w':=by
 obtain ⟨t,f,k1⟩:=h.start
 obtain ⟨t',f',k2⟩:=h.rounds
 exact ⟨⟨t,f,(hg.block _ h.lt1 (by simpa using h1)).trans k1⟩,⟨t',f',(hg.block _ h.lt2 (by simpa using h2)).trans k2⟩⟩
theorem Rd_form {w:World} {size:Nat} {v:Value} {n:Nat} {xs:List Value} (h:Rd w size v n xs) : ∃ p c,v = .slice p n c:=by
 rcases h.2 with ⟨rfl,rfl⟩ | ⟨b,off,cap,rfl,_⟩
 · exact ⟨_,_,rfl⟩
 · exact ⟨_,_,rfl⟩
theorem Rd_cut {w:World} {size:Nat} {p:Option Addr} {c n:Nat} {xs:List Value} (h:Rd w size (.slice p n c) n xs):Rd w size (.slice p n n) n xs:=by
 refine ⟨h.1,?_⟩
 rcases h.2 with ⟨hv,rfl⟩ | ⟨b,off,cap,hv,hb,hnc,hcm,hc⟩
 · cases hv; exact .inl ⟨rfl,rfl⟩
 · cases hv; exact .inr ⟨b,off,n,rfl,hb,Nat.le_refl _,Nat.le_trans hnc hcm,hc⟩
theorem grown_trans {a b c:World} {r:Option Nat} (h:a.grownBy b r) (k:b.grownBy c r):a.grownBy c r :=
 ⟨k.os.trans h.os,k.tape.trans h.tape,k.output.trans h.output,Nat.le_trans h.size k.size,fun i hi hne=>(k.block i (Nat.lt_of_lt_of_le hi h.size) hne).trans (h.block i hi hne)⟩
theorem grown_below {a b:World} (h:Below a.heap.size a b) (r:Option Nat):a.grownBy b r:=⟨h.os,h.tape,h.output,h.size,fun k hk _=>h.block k hk⟩
theorem grown_setCell (a:World) (g o:Nat) (v:Value):a.grownBy (a.setCell ⟨g,o,none⟩ v) (some g) :=
 ⟨rfl,rfl,rfl,by simp,fun k _ hne=>heap_setCell_other _ _ _ _ (by intro e; apply hne; rw [e])⟩
theorem grown_setRow (a:World) (g:Nat) (c:Array Value):a.grownBy (a.setRow g c) (some g) :=
 ⟨rfl,rfl,rfl,by simp,fun k _ hne=>setRow_other _ _ _ _ (by intro e; apply hne; rw [e])⟩
def sliceLen:Value→Nat | .slice _ n _=>n | _=>0
theorem Rd_lt {w:World} {size:Nat} {p:Option Addr} {c n:Nat} {xs:List Value} (h:Rd w size (.slice p n c) n xs) (h0:0<n) :
 ∃ b off,p=some ⟨b,off,none⟩∧b<w.heap.size∧n≤c∧c≤maxLen ∧ ∀ j u,xs[j]? = some u→w.cell? ⟨b,off+j,none⟩=some u:=by
 rcases h.2 with ⟨_,h1⟩ | ⟨b,off,cap,hv,hb,hnc,hcm,hc⟩
 · omega
 ·have e:=Value.slice.inj hv
  obtain ⟨e1,_,e3⟩:=e
  subst e1 e3
  exact ⟨b,off,rfl,hb,hnc,hcm,hc⟩
theorem Rd_drop {w:World} {b off c n k:Nat} {l:List UInt8} (h:Rd w 1 (.slice (some ⟨b,off,none⟩) n c) n (bys l)) (hk:k≤n) :
 Rd w 1 (.slice (some ⟨b,off+k,none⟩) (n-k) (c-k)) (n-k) (bys (l.drop k)):=by
 obtain ⟨h1,h2⟩:=h
 rw [bys_length] at h1
 refine ⟨by rw [bys_length,List.length_drop]; omega,?_⟩
 rcases h2 with ⟨hv,_⟩ | ⟨b',off',cap,hv,hb,hnc,hcm,hc⟩
 · cases hv
 ·cases hv
  refine .inr ⟨b,off+k,c-k,rfl,hb,by omega,by omega,fun j u hu => ?_⟩
  have:(bys l)[k+j]? = some u:=by
   rw [← hu]; simp [bys,List.getElem?_drop]
  have:=hc (k+j) u this
  rwa [show off+k+j=off+(k+j) by omega]
theorem Rd_none {w:World} {b off c:Nat} {n:Nat} {xs:List Value} (h:Rd w 1 (.slice (some ⟨b,off,none⟩) n c) n xs) (c':Nat) (hc':c'≤maxLen):Rd w 1 (.slice (some ⟨b,off,none⟩) 0 c') 0 (bys []):=by
 refine ⟨rfl,?_⟩
 rcases h.2 with ⟨hv,_⟩ | ⟨b',off',cap,hv,hb,_⟩
 · cases hv
 · cases hv; exact .inr ⟨b,off,c',rfl,hb,Nat.zero_le _,hc',fun j u hu=>by simp [bys] at hu⟩
set_option maxRecDepth 100000 in
set_option maxHeartbeats 2000000 in
theorem write_any (hb:Nat) (all l:List UInt8) (q:Option Addr) (qc:Nat) (w:World) (hT:Tabs w) (hh:HashAt w hb all) (hl:Rd w 1 (.slice q l.length qc) l.length (bys l))
 (hq:(Value.slice q l.length qc).ownBlock≠some hb) (hsz:all.length+l.length≤70368744177664) :
 Calls Tryz.prog 121 #[.pointer (some ⟨hb,0,none⟩),.slice q l.length qc] w fun e w'=>e = .returned (.tuple #[])∧HashAt w' hb (all++l)∧w.grownBy w' (some hb):=by
 obtain ⟨p,c0,t,hrow,hrd,hne⟩:=hh
 have hn:=st_length all
 have c8:w.cell? ⟨hb,8,none⟩=some (.slice p (rs all).length c0):=by rw [cell_of_row w hb 8 _ _ _ hrow,Array.getElem?_append_right (by rw [cells_size]; omega),cells_size,hn]; rfl
 have c9:w.cell? ⟨hb,9,none⟩=some (.int .i64 (all.length:Int)):=by rw [cell_of_row w hb 9 _ _ _ hrow,Array.getElem?_append_right (by rw [cells_size]; omega),cells_size,hn]; rfl
 have f9:w.frozen? ⟨hb,9,none⟩=false:=frozen_of_row w hb 9 _ _ hrow
 generalize hR:rs all=R at *
 have HR:=Lib.hid hR; clear hR
 have HROW:=Lib.hid hrow; clear hrow
 have hn':=Lib.hid hn; clear hn
 go_enter Tryz.func121,Tryz.ntmps121
 go_wp2
 obtain ⟨w1,hw1⟩ : ∃ w1,w1=w.setCell ⟨hb,9,none⟩ (.int .i64 ((all.length:Int)+(l.length:Int))):=⟨_,rfl⟩
 rw [← hw1]
 have g1:w.grownBy w1 (some hb):=by rw [hw1]; exact grown_setCell _ _ _ _
 have ROW1:Hid (w1.heap[hb]? = some (.cells (cells (st all) ++ #[.slice p R.length c0,.int .i64 ((all.length:Int)+(l.length:Int))]) t (0,0))):=Lib.hid (by
  rw [hw1,heap_setCell_same _ _ _ _ _ _ HROW.out,set_last _ _ _ _ _ (by rw [cells_size,hn'.out])])
 have hrd1:=hrd.kept g1 (.inr hne)
 have hl1:=hl.kept g1 (.inr hq)
 have hT1:=hT.grown g1 (hT.ne HROW.out hn'.out).1 (hT.ne HROW.out hn'.out).2
 have d8:w1.cell? ⟨hb,8,none⟩=some (.slice p R.length c0):=by rw [cell_of_row w1 hb 8 _ _ _ ROW1.out,Array.getElem?_append_right (by rw [cells_size,hn'.out]; omega),cells_size,hn'.out]; rfl
 have hRl:R.length≤64:=by rw [← HR.out,rs_length]; omega
 have hnn:R.length≤c0:=by
  rcases hrd.2 with ⟨hv,h0⟩ | ⟨_,_,_,hv,_,hnc,_⟩
  · omega
  · have:=Value.slice.inj hv; omega
 have HW1:=Lib.hid hw1; clear hw1
 have HG1:=Lib.hid g1; clear g1
 clear c8 c9 f9 hrd hl hT
 obtain ⟨i0,hi,hz0,hz1,hz2⟩:=info_parts info1
 refine Rg.tail (fun w' => ∃ n,w'=(w1).drewN n) 16 (by kernel_rfl) (by kernel_rfl) ⟨0+1,rfl⟩ ?_; simp only [List.take_succ_cons,List.take_zero,List.drop_succ_cons,List.drop_zero]
 repeat (refine Rg.stepK rfl ?_; intro K hK; apply Exists.intro; refine ⟨?_,?_⟩; (focus (intro w' hw'; obtain ⟨nq,rfl⟩:=hw'; go_simp; (first | (fail) | ((try go_bits); (try go_simp); (try rfl))))); go_simp; refine hK _ ?_; clear hK K)
 refine wpQuiet_nil ?_; intro w' hw'; obtain ⟨nq,rfl⟩:=hw'
 go_wp2_with (refine app_full rfl _ _ 31 rfl 5 i0 (.int .u8 0) 1 1 Tryz.underlying31 hi hz0 hz1 hz2 rfl p R.length (bys R) rfl (Rd_cut hrd1) _ l.length (bys l) rfl hl1 (bys_one l) (by unfold maxLen; omega) (by omega) ?_; intro v2 w2 hrd2 hbel2 hv2)
 obtain ⟨C,hC⟩ : ∃ C,C=R++l:=⟨_,rfl⟩
 have hrdC:Rd w2 1 v2 C.length (bys C):=by rw [hC,bys_append,List.length_append]; exact hrd2
 have hCl:C.length=R.length+l.length:=by rw [hC,List.length_append]
 obtain ⟨q2,c2,rfl⟩:=Rd_form hrdC
 have hhb:hb<w1.heap.size:=lt_of_heap ROW1.out
 have hne2:(Value.slice q2 C.length c2).ownBlock≠some hb:=by
  rcases hv2 with hv2 | ⟨g,cap,hv2,hg⟩
  ·rw [hv2]
   cases p
   · simp [Value.ownBlock]
   · simpa [Value.ownBlock] using hne
  ·rw [hv2]; simp [Value.ownBlock]
   have:w1.heap.size≤g:=hg
   omega
 have hbel2':Below w1.heap.size w1 w2:=⟨hbel2.os,hbel2.tape,hbel2.output,hbel2.size,hbel2.block⟩
 have hg2:=grown_trans HG1.out (grown_below hbel2' (some hb))
 have hT2:=hT1.below hbel2'
 have ROW2:=Lib.hid (Rg.below_row hbel2' hhb ROW1.out)
 have HC:=Lib.hid hC
 have HCL:=Lib.hid hCl
 have HT2:=Lib.hid hT2
 clear hv2 hbel2 hrd1 hl1 hT1 d8 hrd2 hbel2' hC hCl hT2
 go_loopw [4] (fun v wr => ∃ k q c,64*k≤C.length∧v = .slice q (C.length-64*k) c∧Rd wr 1 (.slice q (C.length-64*k) c) (C.length-64*k) (bys (C.drop (64*k)))∧(Value.slice q (C.length-64*k) c).ownBlock≠some hb ∧
  wr.heap[hb]? = some (.cells (cells (pressN k (st all) C) ++ #[.slice p R.length c0,.int .i64 ((all.length:Int)+(l.length:Int))]) t (0,0))∧w.grownBy wr (some hb)∧Tabs wr) (fun v _=>sliceLen v)
 case atStart=>exact ⟨0,q2,c2,by omega,rfl,hrdC,hne2,ROW2.out,hg2,HT2.out⟩
 case round =>
  obtain ⟨k,qk,ck,hk,rfl,hrk,hnk,hrowk,hgk,hTk⟩:=hrel
  obtain ⟨D,hD⟩ : ∃ D,D=C.drop (64*k):=⟨_,rfl⟩
  have hDl:C.length-64*k=D.length:=by rw [hD,List.length_drop]
  have HD:=Lib.hid hD
  rw [← hD] at hrk
  rw [hDl] at hrk hnk ⊢
  clear hD
  have HDL:=Lib.hid hDl; clear hDl
  have hPl:(pressN k (st all) C).length=8:=by rw [pressN_length]; exact hn'.out
  obtain ⟨Hk,hHk⟩ : ∃ Hk,Hk=pressN k (st all) C:=⟨_,rfl⟩
  rw [← hHk] at hrowk hPl
  have HHK:=Lib.hid hHk; clear hHk
  have ROWK:=Lib.hid hrowk; clear hrowk
  have HPL:=Lib.hid hPl; clear hPl
  have hDm:D.length≤70368744177728:=by rw [← HDL.out]; have:=HCL.out; omega
  by_cases hge:64≤D.length
  ·obtain ⟨b2,off2,rfl,hb2,hnc,hcm,hcell⟩:=Rd_lt hrk (by omega)
   have hbn:b2≠hb:=by simpa [Value.ownBlock] using hnk
   have HPR:Hid (∀ w',Below wr.heap.size wr w'→Calls Tryz.prog 168 #[.agg (cells Hk),.slice (some ⟨b2,off2,none⟩) 64 ck] w' fun e w''=>e = .returned (.agg (cells (press Hk (D.take 64))))∧Below wr.heap.size wr w''):=Lib.hid (fun w' hw'=>by
    refine (press_any Hk (D.take 64) b2 off2 64 ck w' HPL.out (hTk.below hw') (by rw [List.length_take]; omega) (by rw [List.length_take]; omega) (by omega) ?_ ?_).mono fun e w'' h=>⟨h.1,hw'.trans (h.2.mono hw'.size)⟩
    · unfold maxLen at hcm; omega
    ·intro j hj
     rw [hw'.cell (p:=⟨b2,off2+j,none⟩) hb2]
     refine hcell j _ ?_
     rw [bys_get D j (by omega)]
     simp [bt,List.getD,hj])
   have HLD:Hid (∀ w',Below wr.heap.size wr w'→(Instr.loadAt 293 (.pointer (some ⟨hb,0,none⟩))).run Tryz.prog w' = .ok (.agg (cells Hk)) w'):=Lib.hid (fun w' hw'=>by
    have hrow':=Rg.below_row hw' (lt_of_heap ROWK.out) ROWK.out
    refine run_loadAt_mid w' hb 0 _ (cells Hk).toList _ ?_ Tryz.underlying293 rfl ?_
    ·intro j v hv
     rw [cell_of_row w' hb (0+j) _ _ _ hrow']
     have hj:j<(cells Hk).size:=by have:=(List.getElem?_eq_some_iff.1 hv).1; simpa using this
     rw [Nat.zero_add,Array.getElem?_append_left hj]; simpa using hv
    · rw [Array.length_toList,cells_size,HPL.out]; exact info8)
   have hgei:(64:Int)≤(D.length:Int):=by omega
   have hlt64:64≤ck:=by omega
   have hlt65:(64:Int)≤(ck:Int):=by omega
   have HCELL:=Lib.hid hcell; clear hcell
   have hcm2:ck≤9223372036854775807:=by unfold maxLen at hcm; exact hcm
   go_wp2
   refine Rg.tail (fun w'=>RowKit.Below (wr).heap.size (wr) w') 10 (by kernel_rfl) (by kernel_rfl) ((RowKit.Below.refl _ _).drew) ?_; simp only [List.take_succ_cons,List.take_zero,List.drop_succ_cons,List.drop_zero]
   repeat (first | (refine Mem.q_load rfl _ _ rfl _ (HLD.out) ?_; intro K hK; go_simp; refine hK _ ?_; clear hK K) | (refine Rg.stepK rfl ?_; intro K hK; apply Exists.intro; refine ⟨?_,?_⟩; (focus (intro w' hw';  go_simp; (first | (go_at_call 168; exact HPR.out _ hw') | ((try go_bits); (try go_simp); (try rfl))))); go_simp; refine hK _ ?_; clear hK K))
   refine wpQuiet_nil ?_; intro w' hw'
   have roww:=Rg.below_row hw' (lt_of_heap ROWK.out) ROWK.out
   have hPP:(press Hk (D.take 64)).length=8:=by rw [press_length]; exact HPL.out
   have HROWW:=Lib.hid roww; clear roww
   have HPP:=Lib.hid hPP; clear hPP
   refine Rg.store_part rfl 293 _ _ rfl hb 0 rfl t _ (cells (press Hk (D.take 64))) rfl HROWW.out (by rw [cells_size,HPP.out]; exact info8) (by rw [cells_size,HPP.out,Array.size_append,cells_size,HPL.out]; show 0+8≤8+2; omega) (cells_one _) ?_
   rw [row_words _ _ _ _ HPL.out HPP.out]
   obtain ⟨w3,hw3⟩ : ∃ w3,w3=w'.setRow hb (cells (press Hk (D.take 64)) ++ #[.slice p R.length c0,.int .i64 ((all.length:Int)+(l.length:Int))]):=⟨_,rfl⟩
   rw [← hw3]
   have g3:wr.grownBy w3 (some hb):=grown_trans (grown_below hw' (some hb)) (by rw [hw3]; exact grown_setRow _ _ _)
   have row3:w3.heap[hb]? = some (.cells (cells (pressN (k+1) (st all) C) ++ #[.slice p R.length c0,.int .i64 ((all.length:Int)+(l.length:Int))]) t (0,0)):=by
    rw [hw3,setRow_heap _ _ _ _ _ _ HROWW.out,pressN_succ,← HHK.out,← HD.out]
   have hT3:=hTk.grown g3 (hTk.ne ROWK.out HPL.out).1 (hTk.ne ROWK.out HPL.out).2
   have hrd3:Rd w3 1 (.slice (some ⟨b2,off2,none⟩) D.length ck) D.length (bys D):=hrk.kept g3 (.inr (by simpa [Value.ownBlock] using hbn))
   have hD':C.drop (64*(k+1))=D.drop 64:=by rw [HD.out,List.drop_drop]; congr 1
   have hN':C.length-64*(k+1)=D.length-64:=by have:=HDL.out; omega
   have hk':64*(k+1)≤C.length:=by have:=HDL.out; omega
   have HN':=Lib.hid hN'
   have HD':=Lib.hid hD'
   have HROW3:=Lib.hid row3
   have HT3:=Lib.hid hT3
   have HG3:=Lib.hid (grown_trans hgk g3)
   have HNM:=Lib.hid hcm
   clear hw3 g3 row3 hT3 hD' hN' hcm hgk hTk hw'
   by_cases h64:ck=64
   ·subst h64
    have hDn:D.length=64:=by omega
    have hr0:=Rd_none hrd3 0 (Nat.zero_le _)
    have HDN:=Lib.hid hDn; clear hDn
    have e0:D.drop 64 = []:=List.drop_of_length_le (by rw [HDN.out]; exact Nat.le_refl _)
    have HE0:=Lib.hid e0; clear e0
    go_wp2
    refine ⟨⟨k+1,some ⟨b2,off2,none⟩,0,hk',by rw [HN'.out,HDN.out],by rw [HN'.out,HD'.out,HE0.out,HDN.out]; exact hr0,by simpa [Value.ownBlock] using hbn,HROW3.out,HG3.out,HT3.out⟩,?_⟩
    show 0<D.length
    omega
   ·have h64':64<ck:=by omega
    have hr0:=Rd_drop (k:=64) hrd3 hge
    go_wp2
    refine ⟨⟨k+1,some ⟨b2,off2+64,none⟩,ck-64,hk',by rw [HN'.out],by rw [HN'.out,HD'.out]; exact hr0,by simpa [Value.ownBlock] using hbn,HROW3.out,HG3.out,HT3.out⟩,?_⟩
    show D.length-64<D.length
    omega
  ·have hDl64:D.length<64:=by omega
   have hkk:k=C.length / 64:=by have:=HDL.out; omega
   have hRS:rs (all++l)=D:=by rw [rs_append,HR.out,← HC.out,← hkk,HD.out]
   have hST:st (all++l)=Hk:=by rw [st_append,HR.out,← HC.out,← hkk,HHK.out]
   have HRS:=Lib.hid hRS
   have HST:=Lib.hid hST
   have HROWK2:=Lib.hid (lt_of_heap ROWK.out)
   have hown:=World.ownsRow_lit (base:=wr.heap.size) (e:=5) (size:=1) wr #[] 0 (Nat.le_refl _) (Nat.zero_le _) rfl
   have hrk':=hrk.kept (World.grownBy_alloc wr (.cells #[] 5) none) (by cases qk <;> simp [Value.ownBlock])
   have hnge : ¬ (64:Int)≤(D.length:Int):=by omega
   have HGK:=Lib.hid hgk
   have HNK:=Lib.hid hnk
   clear hkk hRS hST hgk hnk hk hTk
   go_wp2_with (at_builtin; refine app_own rfl _ _ 31 rfl wr.heap.size 5 i0 (.int .u8 0) 1 1 Tryz.underlying31 hi hz0 hz1 hz2 rfl (by decide) _ 0 [] rfl hown _ D.length (bys D) rfl hrk' (bys_one D) (by unfold maxLen; omega) (by omega) (by simp) ?_; intro v3 w3 hown3 hg3 _; go_must (obtain ⟨q3,c3,rfl⟩:=Rd_form (Rd.of_own hown3)); go_must (have ROW3:Hid (w3.heap[hb]? = some (.cells (cells Hk ++ #[.slice p R.length c0,.int .i64 ((all.length:Int)+(l.length:Int))]) t (0,0))):=Lib.hid ((hg3.block hb (by have:=HROWK2.out; simp; omega) (by intro e; have:=HROWK2.out; have e':hb=wr.heap.size:=Option.some.inj e; omega)).trans ((Rg.heap_alloc_past _ _ _ HROWK2.out).trans ROWK.out))); go_must (have c83:w3.cell? ⟨hb,8,none⟩=some (.slice p R.length c0):=(by rw [cell_of_row w3 hb 8 _ _ _ ROW3.out,Array.getElem?_append_right (by rw [cells_size,HPL.out]; omega),cells_size,HPL.out]; rfl)); go_must (have f83:w3.frozen? ⟨hb,8,none⟩=false:=frozen_of_row w3 hb 8 _ _ ROW3.out))
   rw [Nat.zero_add] at hown3
   have hnb:(Value.slice q3 D.length c3).ownBlock≠some hb:=by
    intro e
    have:=(hown3.lt hb e).1
    have:=HROWK2.out
    omega
   have hbel:Below wr.heap.size wr w3:=((Below.refl _ _).alloc (Nat.le_refl _) _).grown hg3 (by simp) (fun k hk=>by have e':wr.heap.size=k:=Option.some.inj hk; omega)
   go_end0
   refine ⟨rfl,?_,?_⟩
   ·unfold HashAt
    rw [HRS.out,HST.out]
    refine ⟨q3,c3,t,?_,?_,?_⟩
    · rw [heap_setCell_same _ _ _ _ _ _ ROW3.out,set_prev _ _ _ _ _ (by rw [cells_size,HPL.out]),List.length_append]; rfl
    · exact (Rd.of_own hown3).kept (grown_setCell w3 hb 8 _) (.inr hnb)
    · exact hnb
   · exact grown_trans HGK.out (grown_trans (grown_below hbel (some hb)) (grown_setCell _ _ _ _))
end Sha
end Go.Proofs.YtfodadedkilgdaaGreatDoor
