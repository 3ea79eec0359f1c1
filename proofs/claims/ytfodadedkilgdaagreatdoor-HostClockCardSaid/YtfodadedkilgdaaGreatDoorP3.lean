/- A part of the proof. Plain; no condition. -/
import Derived.Test.YtfodadedkilgdaaGreatDoorP2
import Derived.Test.YtfodadedkilgdaaGreatDoorP1
import Derived.Below
namespace Go.Proofs.YtfodadedkilgdaaGreatDoor
open Go.ChangeShapes Go.WideShapes Go.ChangeAt Go.RowKit Mem Sha
namespace Wrap
section
variable {H:Type} {enc:TypeId×Value→H} {W:World} {base:Nat} {d:DataW H} {p:List MemPlace} {v:Value}
set_option maxRecDepth 100000 in
theorem addr_plain {a:Addr} (h:a.spot=none):a=⟨a.block,a.off,none⟩:=by cases a; simp at h; subst h; rfl
set_option maxRecDepth 100000 in
theorem open_i64 (hv:Value.okWide Tryz.prog W .any base 3 v) : ∃ n,v = .int .i64 n ∧ -9223372036854775808≤n∧n≤9223372036854775807:=by
 unfold Value.okWide at hv
 rw [Tryz.underlying3] at hv
 cases v <;> simp only [Cell.okWide,Tryz.underlying3,Cell.ok] at hv
 rename_i k n
 obtain ⟨rfl,h⟩:=hv
 refine ⟨n,rfl,?_⟩
 simpa [IntKind.has,IntKind.min,IntKind.max,IntKind.signed,IntKind.bits] using h
set_option maxRecDepth 100000 in
theorem cellTypes32:Tryz.prog.cellTypes Tryz.prog.depth 22=some (List.replicate 32 5):=by kernel_rfl
set_option maxRecDepth 100000 in
theorem bytes_of (cs:List Value) (h : ∀ v∈cs,∃ b:UInt8,v = .int .u8 (b.toNat:Int)) : ∃ l:List UInt8,cs=bys l:=by
 induction cs with
 | nil=>exact ⟨[],rfl⟩
 | cons v cs ih =>
   obtain ⟨b,rfl⟩:=h v List.mem_cons_self
   obtain ⟨l,rfl⟩:=ih (fun v hv=>h v (List.mem_cons_of_mem _ hv))
   exact ⟨b::l,rfl⟩
set_option maxRecDepth 100000 in
theorem open_arr32 (hv:Value.okWide Tryz.prog W .any base 22 v) : ∃ l:List UInt8,v = .agg (bysA l)∧l.length=32:=by
 unfold Value.okWide at hv
 rw [Tryz.underlying22] at hv
 obtain ⟨cs,rfl,hsz,ts,hts,_,hc⟩:=hv
 obtain rfl:List.replicate 32 5=ts:=Option.some.inj (cellTypes32.symm.trans hts)
 have h32:cs.size=32:=hsz.trans (by kernel_rfl)
 obtain ⟨l,hl⟩:=bytes_of cs.toList (fun v hv=>by
  obtain ⟨i,hi⟩:=List.mem_iff_getElem?.1 hv
  obtain ⟨u,hu,hok⟩:=hc i v (by simpa using hi)
  have hu':u=5:=by
   have:=List.mem_of_getElem? hu
   simpa using this
  subst hu'
  cases v <;> simp only [Cell.okWide,Tryz.underlying5,Cell.ok] at hok
  rename_i k n
  obtain ⟨rfl,hr⟩:=hok
  have hr':0≤n∧n≤255:=by simpa [IntKind.has,IntKind.min,IntKind.max,IntKind.signed,IntKind.bits] using hr
  refine ⟨UInt8.ofNat n.toNat,?_⟩
  congr 1
  rw [UInt8.toNat_ofNat']
  omega)
 have hc':cs=bysA l:=by
  unfold bysA
  rw [← hl]
 refine ⟨l,by rw [hc'],?_⟩
 rw [hc',bysA_size] at h32
 exact h32
end
end Wrap
end Go.Proofs.YtfodadedkilgdaaGreatDoor
namespace Go.Proofs.YtfodadedkilgdaaGreatDoor
open Go.RowKit
namespace Mem
def Ow (w:World) (base:Nat) (e:TypeId) (size:Nat) (v:Value) (n:Nat) (xs:List Value):Prop :=
 xs.length=n*size ∧
 ((v = .slice none 0 0∧n=0) ∨
  ∃ g cap cur fz,v = .slice (some ⟨g,0,none⟩) n cap∧base≤g∧w.heap[g]? = some (.cells cur e fz)∧(∀ j,j<cur.size → ¬ (fz.1≤j∧j<fz.2))∧n≤cap∧cap≤maxLen∧cur.size=cap*size∧cur.toList.take (n*size)=xs)
section
variable {w w':World} {base size n m:Nat} {e:TypeId} {v x:Value} {xs news:List Value}
theorem Ow.nil (w:World) (base:Nat) (e:TypeId) (size:Nat):Ow w base e size (.slice none 0 0) 0 []:=⟨by simp,.inl ⟨rfl,rfl⟩⟩
theorem Ow.lt (h:Ow w base e size v n xs) : ∀ k,v.ownBlock=some k→base≤k∧k<w.heap.size:=by
 intro k hk
 rcases h.2 with ⟨rfl,_⟩ | ⟨g,cap,cur,fz,rfl,hb,hg,_⟩
 · cases hk
 · cases hk; exact ⟨hb,(Array.getElem?_eq_some_iff.1 hg).1⟩
theorem Ow.kept {row:Option Nat} (h:Ow w base e size v n xs) (hg:w.grownBy w' row) (hne:v.ownBlock=none∨v.ownBlock≠row):Ow w' base e size v n xs:=by
 refine ⟨h.1,?_⟩
 rcases h.2 with hn | ⟨g,cap,cur,fz,rfl,hb,hgg,rest⟩
 · exact .inl hn
 ·refine .inr ⟨g,cap,cur,fz,rfl,hb,?_,rest⟩
  rw [hg.block g (Array.getElem?_eq_some_iff.1 hgg).1 (by simpa [Value.ownBlock] using hne)]
  exact hgg
theorem Ow.alloc (h:Ow w base e size v n xs) (o:Obj):Ow (w.alloc o) base e size v n xs:=h.kept (World.grownBy_alloc w o none) (by cases hv:v.ownBlock <;> simp)
theorem Rd.of_ow (h:Ow w base e size v n xs):Rd w size v n xs:=by
 refine ⟨h.1,?_⟩
 rcases h.2 with hn | ⟨g,cap,cur,fz,rfl,hb,hg,_,hnc,hcm,hcs,htake⟩
 · exact .inl hn
 ·refine .inr ⟨g,0,cap,rfl,(Array.getElem?_eq_some_iff.1 hg).1,hnc,hcm,fun j u hu => ?_⟩
  rw [Nat.zero_add,cell_of_row w g j cur e fz hg]
  rw [← htake,List.getElem?_take] at hu
  split at hu
  · simpa using hu
  · cases hu
theorem setCells_block (g:Nat) (e:TypeId) (fz:Nat×Nat) : ∀ (vs:List Value) (o:Nat) (w:World) (cur:Array Value),w.heap[g]? = some (.cells cur e fz) →
 ∃ cur':Array Value,(w.setCells g o vs).heap[g]? = some (.cells cur' e fz)∧cur'.size=cur.size∧(∀ j,cur'[j]? = if o≤j∧j<o+vs.length∧j<cur.size then vs[j-o]? else cur[j]?)∧w.grownBy (w.setCells g o vs) (some g)
 | [],o,w,cur,h=>⟨cur,h,rfl,fun j=>by rw [if_neg (by simp; omega)],⟨rfl,rfl,rfl,Nat.le_refl _,fun _ _ _=>rfl⟩⟩
 | u::r,o,w,cur,h=>by
   have h1:(w.setCell ⟨g,o,none⟩ u).heap[g]? = some (.cells (cur.setIfInBounds o u) e fz):=by
    rw [setCell_eq_setRow w g o cur e fz u h]; exact setRow_heap w g cur _ e fz h
   obtain ⟨cur',h2,h3,h4,h5⟩:=setCells_block g e fz r (o+1) _ _ h1
   refine ⟨cur',h2,by rw [h3]; simp,fun j => ?_,⟨h5.os,h5.tape,h5.output,Nat.le_trans (by simp) h5.size,fun k hk hne=>(h5.block k (by simpa using hk) hne).trans (heap_setCell_other _ _ _ _ (by intro e'; apply hne; rw [e']))⟩⟩
   rw [h4 j]
   simp only [Array.size_setIfInBounds,List.length_cons]
   by_cases hj:j=o
   ·subst hj
    rw [if_neg (by omega)]
    by_cases hs:j<cur.size
    · rw [if_pos (by omega)]; simp [hs]
    · rw [if_neg (by omega)]; simp [hs]
   ·by_cases hj2:o+1≤j∧j<o+1+r.length∧j<cur.size
    · rw [if_pos hj2,if_pos (by omega),show j-o=(j-(o+1))+1 by omega]; simp
    ·rw [if_neg hj2]
     rw [Array.getElem?_setIfInBounds_ne (by omega),if_neg (by omega)]
theorem run_app_ow {P:Program} {t tx ty:TypeId} {i:TypeInfo} {z:Value} {bytes:Nat} (ht:P.underlying t=some (.slice e)) (hi:P.info? e=some i) (hz:i.zero=some z)
 (hsize:i.size=size) (hby:i.bytes=bytes) (hzs:z.cells.size=size)
 (hown:Ow w base e size v n xs) (hsrc:Src P size tx x m news w)
 (h63:n+m≤maxLen) (hbytes:(n+m)*bytes≤140737488355328) (hbase:base≤w.heap.size) :
 ∃ v' w',(Builtin.append_ #[t,tx] ty #[v,x]).run P w = .ok v' w'∧Ow w' base e size v' (n+m) (xs++news)∧w.grownBy w' v.ownBlock:=by
 subst hsize
 subst hby
 have hlen:(xs++news).length=(n+m)*i.size:=by rw [List.length_append,hown.1,hsrc.newsLen,Nat.add_mul]
 have hsmall:n+m≤9223372036854775807:=by simp only [maxLen] at h63; omega
 have grown : ∀ (p:Option Addr) (old:Nat),old<n+m→v = .slice p n old→(Builtin.firstCells i.size n (.slice p n old)).run P w.drew = .ok xs.toArray w.drew →
  ∃ v' w',(Builtin.append_ #[t,tx] ty #[v,x]).run P w = .ok v' w'∧Ow w' base e i.size v' (n+m) (xs++news)∧w.grownBy w' v.ownBlock:=by
  intro p old ho hv hf
  subst hv
  have hr:=run_append_grow_src (P:=P) w t tx ty e i z ht hi hz p n old xs hf x m news hsrc ho (by omega) (growslice_fits (by omega) hbytes)
  have hge:=grownCap_ge w (n+m) old e
  refine ⟨_,_,hr,⟨hlen,.inr ⟨w.heap.size,_,_,(0,0),rfl,hbase,heap_alloc_new w.drew _,fun j _=>by simp,hge,grownCap_le_maxLen w (n+m) old e h63,?_,?_⟩⟩,⟨rfl,rfl,rfl,by simp,fun k hk _=>Rg.heap_alloc_past w.drew _ k hk⟩⟩
  ·simp only [Array.size_append,List.size_toArray,zeroCells_size,hzs,hlen,← Nat.add_mul]
   congr 1
   omega
  ·simp only [Array.toList_append]
   rw [← hlen]
   exact List.take_left
 rcases hown.2 with ⟨rfl,rfl⟩ | ⟨g,cap,cur,fz,rfl,hbg,hg,hfz,hnc,hcm,hcs,htake⟩
 ·have hx:xs = []:=List.eq_nil_of_length_eq_zero (by simpa using hown.1)
  subst hx
  by_cases hm:m=0
  ·subst hm
   have hn:news = []:=List.eq_nil_of_length_eq_zero (by simpa using hsrc.newsLen)
   subst hn
   refine ⟨.slice none 0 0,w,?_,Ow.nil w base e i.size,⟨rfl,rfl,rfl,Nat.le_refl _,fun _ _ _=>rfl⟩⟩
   have hc:=hsrc.cells
   rcases hsrc.kind with ⟨e',hk⟩ | hk <;> simp [Builtin.append_,run_underlying ht,run_underlying hk,sizeOf,typeInfo,hi,hsrc.len,hc]
  · exact grown none 0 (by omega) rfl (run_firstCells_none w.drew i.size 0 0 0)
 ·by_cases hroom:n+m≤cap
  ·have hfit:n*i.size+news.length≤cur.size:=by rw [hsrc.newsLen,hcs,← Nat.add_mul]; exact Nat.mul_le_mul_right _ hroom
   have hr:=run_append_room_src (P:=P) w t tx ty e i ht hi g 0 n cap x m news hsrc hroom
    (fun j hj=>by rw [cell_of_row w g _ cur e fz hg]; have:0+n*i.size+j<cur.size:=by omega
                  rw [Array.getElem?_eq_getElem this]; rfl)
    (fun j hj=>by
     have:=hfz (0+n*i.size+j) (by omega)
     unfold World.frozen?; simp only [hg]
     obtain ⟨lo,hi'⟩:=fz
     simp only [Bool.and_eq_false_iff,decide_eq_false_iff_not]
     simp only [not_and] at this
     by_cases h:lo≤0+n*i.size+j
     · exact .inr (this h)
     · exact .inl h)
   obtain ⟨cur',h2,h3,h4,h5⟩:=setCells_block g e fz news (0+n*i.size) w cur hg
   refine ⟨_,_,hr,⟨hlen,.inr ⟨g,cap,cur',fz,rfl,hbg,h2,fun j hj=>hfz j (by omega),hroom,hcm,by omega,?_⟩⟩,h5⟩
   apply List.ext_getElem?
   intro j
   rw [List.getElem?_take]
   have hx:(xs:List Value)[j]? = if j<n*i.size then cur[j]? else none:=by
    rw [← htake,List.getElem?_take]; simp
   have hxl:=hown.1
   by_cases hj:j<(n+m)*i.size
   ·rw [if_pos hj]
    have hj':j<cur.size:=by
     have:=Nat.mul_le_mul_right i.size hroom; omega
    have e4:=h4 j
    simp only [Nat.zero_add] at e4
    rw [Array.getElem?_toList,e4]
    rw [← hlen,List.length_append] at hj
    by_cases hjn:n*i.size≤j
    · rw [if_pos (by omega),List.getElem?_append_right (by omega),hxl]
    · rw [if_neg (by omega),List.getElem?_append_left (by omega),hx,if_pos (by omega)]
   · rw [if_neg hj,List.getElem?_eq_none (by omega)]
  ·refine grown (some ⟨g,0,none⟩) cap (by omega) rfl ?_
   have hrd:=Rd.of_ow hown
   rcases hrd.2 with ⟨hv,_⟩ | ⟨b,off,cap',hv,_,_,_,hc⟩
   · cases hv
   ·cases hv
    exact run_firstCells_some w.drew i.size n ⟨g,0,none⟩ n cap xs hown.1 (fun j u hu=>by rw [addr_add]; simpa using hc j u hu)
theorem Ow_form {w:World} {base:Nat} {e:TypeId} {size:Nat} {v:Value} {n:Nat} {xs:List Value} (h:Ow w base e size v n xs) : ∃ p c,v = .slice p n c:=by
 rcases h.2 with ⟨rfl,rfl⟩ | ⟨g,cap,_,_,rfl,_⟩
 · exact ⟨_,_,rfl⟩
 · exact ⟨_,_,rfl⟩
theorem freeze_alloc (w:World) (c:Array Value) (e:TypeId):(w.alloc (.cells c e)).freeze {block:=w.heap.size,off:=c.size} 1=w.alloc (.cells c e (c.size,c.size+1)):=by
 unfold World.freeze World.alloc
 simp only [Nat.one_ne_zero,if_false]
 congr 1
 apply Array.ext_getElem?
 intro k
 rw [Array.getElem?_modify]
 by_cases hk:w.heap.size=k
 · subst hk; simp
 ·have hk':k≠w.heap.size:=fun e'=>hk e'.symm
  simp [hk,hk',Array.getElem?_push]
end
theorem push_bytes : ∀ (l:List UInt8) (acc:ByteArray),(l.map fun b=>(b.toNat:Int)).foldl (fun r n=>r.push (UInt8.ofNat n.toNat)) acc=⟨acc.data++l.toArray⟩
 | [],acc=>by simp
 | b::l,acc=>by
   rw [List.map_cons,List.foldl_cons,push_bytes l]
   simp [ByteArray.push]
theorem run_conv_str {P:Program} {w:World} {v:Value} {n:Nat} {l:List UInt8} (h:Rd w 1 v n (bys l)) (ts t e:TypeId) (hts:P.underlying ts=some .string) (ht:P.underlying t=some (.slice e)) (he:P.underlying e=some (.int .u8)) :
 (convert t ts v).run P w = .ok (.string ⟨l.toArray⟩) w:=by
 have hl:l.length=n:=by have:=h.1; rw [bys_length] at this; omega
 rcases h.2 with ⟨rfl,rfl⟩ | ⟨b,off,cap,rfl,_,_,_,hc⟩
 ·have:l = []:=List.eq_nil_of_length_eq_zero hl
  subst this
  simp [convert,run_underlying hts,run_underlying ht,run_underlying he,Conv.bytesToString]
  rfl
 ·have hld:(loadCells ⟨b,off,none⟩ n).run P w = .ok ((l.map fun b=>(b.toNat:Int)).map (Value.int .u8)).toArray w:=by
   have:=run_loadCells_list (P:=P) w ⟨b,off,none⟩ (bys l) (fun j u hu=>by rw [addr_add]; exact hc j u hu)
   rw [bys_length,hl] at this
   rw [this]; simp [bys]
  have:=run_bytesToString (P:=P) w ⟨b,off,none⟩ n cap _ hld
  rw [push_bytes] at this
  simp [convert,run_underlying hts,run_underlying ht,run_underlying he,this]
end Mem
end Go.Proofs.YtfodadedkilgdaaGreatDoor
namespace Go.Proofs.YtfodadedkilgdaaGreatDoor
open Go.RowKit Mem
namespace Mem
structure Kp (S:Nat→Prop) (w w':World):Prop where
 os:w'.os=w.os
 tape:w'.tape=w.tape
 output:w'.output=w.output
 size:w.heap.size≤w'.heap.size
 block : ∀ k,k<w.heap.size → ¬ S k→w'.heap[k]? = w.heap[k]?
theorem Kp.of_below {S:Nat→Prop} {w w':World} (h:Below w.heap.size w w'):Kp S w w':=⟨h.os,h.tape,h.output,h.size,fun k hk _=>h.block k hk⟩
theorem Kp.trans {S T:Nat→Prop} {w w' w'':World} (h:Kp S w w') (h':Kp T w' w'') (hT : ∀ k,k<w.heap.size→T k→S k):Kp S w w'' :=
 ⟨h'.os.trans h.os,h'.tape.trans h.tape,h'.output.trans h.output,Nat.le_trans h.size h'.size,fun k hk hn=>(h'.block k (Nat.lt_of_lt_of_le hk h.size) (fun ht=>hn (hT k hk ht))).trans (h.block k hk hn)⟩
theorem Kp.below {S:Nat→Prop} {w w':World} {B:Nat} (h:Kp S w w') (hB:B≤w.heap.size) (hS : ∀ k,S k→B≤k):Below B w w' :=
 ⟨h.os,h.tape,h.output,h.size,fun k hk=>h.block k (Nat.lt_of_lt_of_le hk hB) (fun hs=>by have:=hS k hs; omega)⟩
end Mem
end Go.Proofs.YtfodadedkilgdaaGreatDoor
