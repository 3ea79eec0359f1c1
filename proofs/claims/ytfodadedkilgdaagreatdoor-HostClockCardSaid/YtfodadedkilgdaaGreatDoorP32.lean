/- A part of the proof. Plain; no condition. -/
import Derived.Test.YtfodadedkilgdaaGreatDoorP31
import Derived.Test.YtfodadedkilgdaaGreatDoorP30
import Derived.Test.YtfodadedkilgdaaGreatDoorP10
import Derived.Test.YtfodadedkilgdaaGreatDoorP0
import Derived.Test.YtfodadedkilgdaaGreatDoorP1
import Derived.Test.YtfodadedkilgdaaGreatDoorP3
import Derived.WalkKit
import Derived.Test.YtfodadedkilgdaaGreatDoorChecked
namespace Go.Proofs.YtfodadedkilgdaaGreatDoor
set_option linter.unusedVariables false
set_option linter.unusedSimpArgs false
open Go.RowKit Bits Mem Sha
namespace Sca
open Fld hiding SubAt SubAt.start sub_any infoE
theorem of_stepN {D:List Nat} (hD : ∀ x∈D,x<WB) {k x:Nat} (hk:k / 8<D.length) (hx:x<256) (hv:val D<256^k) :
 D.getD (k / 8) 0 ||| x*2^(8*(k%8))<WB∧val (D.set (k / 8) (D.getD (k / 8) 0 ||| x*2^(8*(k%8))))=val D+x*256^k:=by
 have hd:D.getD (k / 8) 0<256^(k%8):=by
  rw [word_val D _ hD]
  refine Nat.lt_of_le_of_lt (Nat.mod_le _ _) (Nat.div_lt_of_lt_mul ?_)
  rw [← pow256]
  exact hv
 obtain ⟨d,hdd⟩ : ∃ d,d=D.getD (k / 8) 0:=⟨_,rfl⟩
 have hs:=val_set D (k / 8) (d ||| x*2^(8*(k%8))) hk
 rw [← hdd] at hd hs ⊢
 have ho:d ||| x*2^(8*(k%8))=x*256^(k%8)+d:=by
  rw [Nat.or_comm,Nat.mul_comm,← Nat.two_pow_add_eq_or_of_lt (by rw [pow2_8]; exact hd),pow2_8,Nat.mul_comm]
 rw [ho] at hs ⊢
 constructor
 ·have h1:256^(k%8+1)≤256^8:=Nat.pow_le_pow_right (by decide) (by omega)
  rw [Nat.pow_succ] at h1
  have h2:x*256^(k%8)≤255*256^(k%8):=Nat.mul_le_mul_right _ (by omega)
  have h3:(256:Nat)^8=WB:=by decide
  omega
 ·rw [Nat.add_mul,Nat.mul_assoc,Nat.mul_comm (256^(k%8)),← pow256] at hs
  omega
theorem val_rep : ∀ n,val (List.replicate n 0)=0
 | 0=>rfl
 | n+1=>by
   rw [List.replicate_succ]
   show 0+18446744073709551616*val (List.replicate n 0)=0
   rw [val_rep n]
theorem wN_rep (n:Nat):wN (List.replicate n 0)=Array.replicate n (.int .u64 0):=by simp [wN]
theorem made_words (n:Nat):madeCells #[.int .u64 0] n=wN (List.replicate n 0):=by
 rw [wN_rep]
 apply Array.ext
 · simp [madeCells]
 ·intro i h1 h2
  simp [madeCells,Nat.mod_one]
theorem make_words (N:Nat) (hN:N≤1000) (w:World):(Instr.makeSlice 213 (.int .i64 (N:Int)) (.int .i64 (N:Int))).run Tryz.prog w = .ok (.slice (some ⟨w.heap.size,0,none⟩) N N) (w.alloc (.cells (wN (List.replicate N 0)) 23)):=by
 have h1:(Tryz.prog.info? 23).map (fun i=>(i.zero,i.size,i.bytes))=some (some (.int .u64 0),1,8):=by kernel_rfl
 obtain ⟨i0,hi,hz,hs,hb⟩:=info_parts h1
 have h:=run_makeSlice (P:=Tryz.prog) w 213 23 i0 (.int .u64 0) Tryz.underlying213 hi hz .i64 .i64 (N:Int) (N:Int) (by omega) (Int.le_refl _) (by rw [hs]; simp; omega) (by rw [hb]; omega) (by omega)
 rw [hs,Nat.mul_one,Int.toNat_natCast,show Value.cells (.int .u64 0) = #[.int .u64 0] from rfl,made_words] at h
 exact h
theorem l_make {P:Program} {Q:Exit→Act→World→Prop} {ops:Array Oper} {a:Act} {w w':World} {o:Oper} {rest:List Oper} {v:Value} (hg:o.guard=none) (t:TypeId) (x y:Operand) (ho:o.op = .makeSlice t x y) (u u':Value) (hx:a.eval x=u) (hy:a.eval y=u') (hr:(Instr.makeSlice t u u').run P w = .ok v w') (h:wpList P ops Q rest (a.put o.dst v) w'):wpList P ops Q (o::rest) a w:=by
 refine wpList_plain hg fun K' hK' => ?_
 unfold Oper.wp
 have:(execOp a.eval o).run P w = .ok (.value v) w':=by simp [execOp,ho,hx,hy,hr]
 rw [this]
 exact hK' _ _ h
structure SfAt (w:World) (D:List Nat) (h:Nat) (wr:World):Prop where
 ro:wr.heap[w.heap.size]? = some (.cells (sn 0) 171 (0,0))
 rd:wr.heap[h]? = some (.cells (wN D) 23 (0,0))
 gt:w.heap.size<h
 be:Below w.heap.size w wr
set_option maxRecDepth 100000 in
set_option maxHeartbeats 1000000 in
theorem of_sn (L:List UInt8) (n:Nat) (hn:n≤800) (q:Option Addr) (c:Nat) (w:World) (hb:Rd w 1 (.slice q n c) n (bys L)) (hO:OT w):Calls Tryz.prog 59 #[.slice q n c] w fun e w'=>e = .returned (.agg (sn (leN L%Q)))∧Below w.heap.size w w':=by
 obtain ⟨w1,hw1⟩ : ∃ w1,w1=w.alloc (.cells (sn 0) 171):=⟨_,rfl⟩
 have hLn:L.length=n:=by have:=hb.1; rw [bys_length] at this; omega
 obtain ⟨N,hN⟩ : ∃ N,N=(n+7) / 8:=⟨_,rfl⟩
 have q1:IntKind.i64.wrap ((n:Int)+7)=(n:Int)+7:=by rw [IntKind.wrap_i64]; omega
 have q2:((n:Int)+7) / 8=(N:Int):=by omega
 have HW1:=Lib.hid hw1
 have HO:=Lib.hid hO
 have HLN:=Lib.hid hLn
 have HB:=Lib.hid hb
 have HN:=Lib.hid hN
 clear hw1 hO hLn hb hN
 go_enter Tryz.func59,Tryz.ntmps59
 go_upto_region 1 with fail
 rw [sn_zero,← HW1.out]
 obtain ⟨w2,hw2⟩ : ∃ w2,w2=w1.alloc (.cells (wN (List.replicate N 0)) 23):=⟨_,rfl⟩
 have HMK:=Lib.hid (make_words N (by have:=HN.out; omega) w1)
 rw [← hw2] at HMK
 have HST:Hid (SfAt w (List.replicate N 0) w1.heap.size w2):=Lib.hid (by
  have hw1:=HW1.out
  exact ⟨by rw [hw2,hw1]; exact (Rg.heap_alloc_past _ _ _ (by simp)).trans (Rg.heap_alloc_at w _ _ rfl),by rw [hw2]; exact Rg.heap_alloc_at _ _ _ rfl,by rw [hw1]; simp,by rw [hw2,hw1]; exact ((Below.refl _ _).alloc (Nat.le_refl _) _).alloc (by simp) _⟩)
 go_wp2_with (refine l_make rfl 213 _ _ rfl (.int .i64 (N:Int)) (.int .i64 (N:Int)) (congrArg (Value.int .i64) q2) (congrArg (Value.int .i64) q2) HMK.out ?_)
 obtain ⟨h,hh⟩ : ∃ h,h=w1.heap.size:=⟨_,rfl⟩
 rw [hw2] at HST
 rw [← hh] at HST ⊢
 clear hw2 HMK q1 q2 hh
 go_loopw [13] (fun v wr => ∃ k:Nat,k≤n∧v = .int .i64 (k:Int) ∧ ∃ D,Hid ((D.length=N ∧ ∀ x∈D,x<WB)∧val D=leN (L.take k))∧Hid (SfAt w D h wr)) (fun v _=>(n-intOf v).toNat)
 case atStart=>exact ⟨0,by omega,rfl,List.replicate N 0,Lib.hid ⟨⟨List.length_replicate,by intro x hx; rw [(List.mem_replicate.1 hx).2]; decide⟩,by rw [val_rep]; rfl⟩,HST⟩
 case round =>
  clear HST
  obtain ⟨k,hk,rfl,D,HD,HQ⟩:=hrel
  by_cases hlk:k<n
  ·have hlkI:(k:Int)<(n:Int):=by omega
   obtain ⟨b,off,rfl,hbl,hnc,hcm,hcell⟩:=Rd_lt (HB.out.below HQ.out.be) (by omega)
   have hck:=hcell k _ (bys_get L k (by rw [HLN.out]; exact hlk))
   obtain ⟨x,hx⟩ : ∃ x,x=(bt L k).toNat:=⟨_,rfl⟩
   replace hck:wr.cell? ⟨b,off+k,none⟩=some (.int .u8 (x:Int)):=by rw [hx]; exact hck
   have hx8:x<256:=by rw [hx]; exact (bt L k).toNat_lt
   have hvt:=leN_take L k (by rw [HLN.out]; exact hlk)
   rw [← hx] at hvt
   have hvl:val D<256^k:=by
    have h1:=leN_lt (L.take k)
    rw [List.length_take,HLN.out,Nat.min_eq_left (by omega)] at h1
    rw [HD.out.2]; exact h1
   have hk8:k / 8<N:=by have:=HN.out; omega
   have hstep:=of_stepN HD.out.1.2 (by rw [HD.out.1.1]; exact hk8) hx8 hvl
   have hdl:D.getD (k / 8) 0<18446744073709551616:=at_lt HD.out.1.2 _
   obtain ⟨d,hd⟩ : ∃ d,d=D.getD (k / 8) 0:=⟨_,rfl⟩
   rw [← hd] at hstep hdl
   obtain ⟨s,hs⟩ : ∃ s,s=x*2^(8*(k%8)):=⟨_,rfl⟩
   rw [← hs] at hstep
   have hs64:s<18446744073709551616:=by
    have h1:s≤d ||| s:=Nat.right_le_or
    have:=hstep.1
    unfold WB at this
    omega
   have hor:=u64_orN d s hdl hs64
   obtain ⟨y,hy⟩ : ∃ y,y=d ||| s:=⟨_,rfl⟩
   rw [← hy] at hstep hor
   have HD2:Hid (((D.set (k / 8) y).length=N ∧ ∀ x∈D.set (k / 8) y,x<WB)∧val (D.set (k / 8) y)=leN (L.take (k+1))):=Lib.hid ⟨⟨by rw [List.length_set]; exact HD.out.1.1,set_lt HD.out.1.2 hstep.1⟩,by rw [hstep.2,hvt,HD.out.2]⟩
   have HDC:Hid ((wN D)[k / 8]? = some (.int .u64 (d:Int))):=Lib.hid (by rw [hd]; exact wN_get D _ (by rw [HD.out.1.1]; exact hk8))
   have hcast:((x:Int)*(2:Int)^(8*(k%8)))=(s:Int):=by rw [hs]; simp
   have HLT:=Lib.hid (lt_of_heap HQ.out.rd)
   have q2:(0:Int)≤(k:Int) / 8:=by omega
   have q3:(k:Int) / 8<(N:Int):=by omega
   have q4:((k:Int) / 8).toNat=k / 8:=by omega
   have q5:(0:Int)≤(k:Int)%8:=by omega
   have q6:IntKind.i64.wrap (8*((k:Int)%8))=8*((k:Int)%8):=by rw [IntKind.wrap_i64]; omega
   have q7:(0:Int)≤8*((k:Int)%8):=by omega
   have q8:(8*((k:Int)%8)).toNat=8*(k%8):=by omega
   have q9:IntKind.u64.wrap ((x:Int)*(2:Int)^(8*(k%8)))=(s:Int):=by rw [hcast,IntKind.wrap_u64]; omega
   clear hcell hx hvt hvl hstep hd hs hy hcast HD hlk hbl hnc hcm
   go_wp2_with fail
   refine Re.region (fun j=>j<wr.heap.size∧j≠h) 14 [⟨13,[],[],some (fun _ _=>undef),fun _ _ _ y'=>y'.heap[h]? = some (.cells (wN (D.set (k / 8) y)) 23 (0,0)),(· = h),[4]⟩] [13] (by kernel_rfl) (Re.own_one (i:=13) HLT.out (by intro s hs; simp only [List.mem_cons,List.not_mem_nil,or_false] at hs; subst hs; exact .inr ⟨rfl,rfl⟩)) (by kernel_rfl) ?_; intro p; simp only [List.take,List.drop]
   iterate 4 (refine Re.rK rfl rfl ?_; intro K hK; apply Exists.intro; refine ⟨?_,?_⟩; (focus (intro x hx;  go_simp; (first | (fail) | ((try go_bits); (try go_simp); (try rfl))))); go_simp; refine hK _ ?_; clear hK K)
   refine Re.r_load rfl rfl _ _ rfl (.int .u64 (d:Int)) (fun x hx=>load_cellW ((cell_of_row _ _ _ _ _ _ ((hx.block h (.inr ⟨13,_,rfl,by simp,rfl⟩)).trans HQ.out.rd)).trans HDC.out)) ?_
   intro K hK; go_simp; refine hK _ ?_; clear hK K
   iterate 5 (refine Re.rK rfl rfl ?_; intro K hK; apply Exists.intro; refine ⟨?_,?_⟩; (focus (intro x hx;  go_simp; (first | (fail) | ((try go_bits); (try go_simp); (try rfl))))); go_simp; refine hK _ ?_; clear hK K)
   iterate 3 (refine Re.rK rfl rfl ?_; intro K hK; apply Exists.intro; refine ⟨?_,?_⟩; (focus (intro x hx;  go_simp; (first | (fail) | ((try go_bits); (try go_simp); (try rfl))))); go_simp; refine hK _ ?_; clear hK K)
   refine Re.cK rfl rfl rfl ?_ ?_
   ·intro x Fs hx ho hg' K hK
    have h8:x.heap[h]? = some (.cells (wN D) 23 (0,0)):=(ho _ rfl).trans HQ.out.rd
    have e1:x.cell? ⟨h,k / 8,none⟩=some (.int .u64 (d:Int)):=(cell_of_row _ _ _ _ _ _ h8).trans HDC.out
    have e2:x.frozen? ⟨h,k / 8,none⟩=false:=frozen_of_row _ _ _ _ _ h8
    have H8:=Lib.hid h8
    clear h8 hx ho hg'
    go_wp2_with fail
    have he:x.setCell ⟨h,k / 8,none⟩ (.int .u64 (y:Int))=x.setRow h (wN (D.set (k / 8) y)):=by rw [setCell_eq_setRow x h (k / 8) _ _ _ _ H8.out,wN_set]
    rw [he]
    have hgr:=grownBy_setRowE x h (wN (D.set (k / 8) y))
    have h8':=setRow_heap x h _ (wN (D.set (k / 8) y)) _ _ H8.out
    exact hK Rc.dflt _ ⟨hgr.os,hgr.tape,hgr.output,hgr.size,fun j hj hn=>hgr.block j hj fun e=>hn (.inr (by cases e; rfl))⟩ (fun y' hy=>(hy.block _ ((Array.getElem?_eq_some_iff.1 h8').1) (.inr (.inl (.inr rfl)))).trans h8')
   intro K hK; go_simp; refine hK _ ?_; clear hK K
   refine Re.done fun x2 Fs2 hx hg' => ?_
   have hr:SfAt w (D.set (k / 8) y) h x2:=by
    have hx':=Re.undrew hx
    have hlt:=HLT.out
    have hgt:=HQ.out.gt
    exact ⟨(hx'.block _ ⟨by omega,by omega⟩).trans HQ.out.ro,hg'.1,hgt,HQ.out.be.trans ⟨hx'.os,hx'.tape,hx'.output,hx'.size,fun j hj=>hx'.block j ⟨by have:=HQ.out.be.size; omega,by omega⟩⟩⟩
   have HR2:=Lib.hid hr
   clear hx hg' hr
   go_wp2_with fail
   refine NoPanic.normal ?_
   go_wp2_with fail
   exact ⟨⟨k+1,by omega,by congr 1,D.set (k / 8) y,HD2,HR2⟩,by simp only [intOf]; omega⟩
  ·obtain rfl:k=n:=by omega
   have hlkI : ¬ (k:Int)<(k:Int):=by omega
   have hv:val D=leN L:=by rw [HD.out.2,List.take_of_length_le (by rw [HLN.out]; exact Nat.le_refl _)]
   obtain ⟨v,hvv⟩ : ∃ v,v=leN L%Q:=⟨_,rfl⟩
   have HVV:=Lib.hid hvv
   have HCF:Hid (Calls Tryz.prog 90 #[.slice (some ⟨h,0,none⟩) N N] wr fun e w'=>e = .returned (.agg (sn v))∧Below wr.heap.size wr w'):=Lib.hid (by
    have h1:=fold_sn D HD.out.1.2 (by rw [HD.out.1.1]; have:=HN.out; omega) h N wr (lt_of_heap HQ.out.rd) (fun j hj=>(cell_of_row _ _ _ _ _ _ HQ.out.rd).trans (wN_get _ j hj)) (HO.out.below HQ.out.be)
    rw [HD.out.1.1,hv,← hvv] at h1
    exact h1)
   clear hvv hv HD hk hlk
   go_wp2_with fail
   refine HCF.out.mono ?_
   rintro e w3 ⟨rfl,hb⟩
   have HR3:=Lib.hid (Rp.row_le hb HQ.out.ro)
   have HB3:=Lib.hid (HQ.out.be.trans (hb.mono HQ.out.be.size))
   have HSZ:Hid ((sn 0).size=(sn v).size):=Lib.hid (by simp only [sn_size])
   clear hb HCF
   go_wp2_with (refine Rg.store_row rfl 171 _ _ rfl w.heap.size rfl 171 (sn 0) (sn v) rfl HR3.out (infoSn v) HSZ.out (sn_one _) ?_)
   refine bodyPost_ret (v := .agg (sn v)) (results_cell_row (P:=Tryz.prog) rfl _ _ w.heap.size 171 (sn v) (0,0) _ rfl (setRow_heap _ _ _ _ 171 _ HR3.out) Tryz.underlying171 rfl (infoSn v)) rfl ⟨by rw [HVV.out],Rg.below_setRow HB3.out (Nat.le_refl _) _⟩
end Sca
end Go.Proofs.YtfodadedkilgdaaGreatDoor
namespace Go.Proofs.YtfodadedkilgdaaGreatDoor
namespace B64
def n64 (a:BitVec 64):Int:=(a.toNat:Int)
theorem ofInt64 (a:BitVec 64):BitVec.ofInt 64 (n64 a)=a:=by
 unfold n64; rw [BitVec.ofInt_natCast]; simp
theorem wrapw (a:BitVec 64):IntKind.u64.wrap (a.toNat:Int)=n64 a:=by
 have:=a.isLt
 unfold n64
 rw [IntKind.wrap_u64]; omega
@[go_sem] theorem u64_same (a:BitVec 64):IntKind.u64.wrap (n64 a)=n64 a:=wrapw a
@[go_sem] theorem u64_add (a b:BitVec 64):IntKind.u64.wrap (n64 a+n64 b)=n64 (a+b):=by
 unfold n64; rw [IntKind.wrap_u64,BitVec.toNat_add]; omega
@[go_sem] theorem u64_add' (a b:BitVec 64):(n64 a+n64 b)%(18446744073709551616:Int)=n64 (a+b):=by
 unfold n64; rw [BitVec.toNat_add]; omega
@[go_sem] theorem u64_xor (a b:BitVec 64):bits .xor .u64 (n64 a) (n64 b)=n64 (a ^^^ b):=by
 show IntKind.u64.wrap ((BitVec.ofInt 64 (n64 a) ^^^ BitVec.ofInt 64 (n64 b)).toNat:Int)=_
 rw [ofInt64,ofInt64,wrapw]
@[go_sem] theorem u64_and (a b:BitVec 64):bits .and .u64 (n64 a) (n64 b)=n64 (a &&& b):=by
 show IntKind.u64.wrap ((BitVec.ofInt 64 (n64 a) &&& BitVec.ofInt 64 (n64 b)).toNat:Int)=_
 rw [ofInt64,ofInt64,wrapw]
@[go_sem] theorem u64_or (a b:BitVec 64):bits .or .u64 (n64 a) (n64 b)=n64 (a ||| b):=by
 show IntKind.u64.wrap ((BitVec.ofInt 64 (n64 a) ||| BitVec.ofInt 64 (n64 b)).toNat:Int)=_
 rw [ofInt64,ofInt64,wrapw]
@[go_sem] theorem u64_not (a:BitVec 64):bits .xor .u64 (18446744073709551615:Int) (n64 a)=n64 (~~~a):=by
 show IntKind.u64.wrap ((BitVec.ofInt 64 18446744073709551615 ^^^ BitVec.ofInt 64 (n64 a)).toNat:Int)=_
 rw [ofInt64,wrapw]
 have h:BitVec.ofInt 64 18446744073709551615=BitVec.allOnes 64:=by decide
 rw [h,BitVec.allOnes_xor]
@[go_sem] theorem u64_not' (a:BitVec 64):bits .xor .u64 (if IntKind.u64.signed=true then -1 else IntKind.u64.max) (n64 a)=n64 (~~~a):=by
 rw [if_neg (by decide),show IntKind.u64.max=(18446744073709551615:Int) from by decide]; exact u64_not a
@[go_sem] theorem u64_shr (a:BitVec 64) (n:Nat):n64 a / (2:Int)^n=n64 (a >>> n):=by
 unfold n64; rw [BitVec.toNat_ushiftRight,Nat.shiftRight_eq_div_pow]; simp
@[go_sem] theorem u64_shl (a:BitVec 64) (n:Nat):n64 a*(2:Int)^n%(18446744073709551616:Int)=n64 (a <<< n):=by
 unfold n64; rw [BitVec.toNat_shiftLeft,Nat.shiftLeft_eq]; simp
@[go_sem] theorem u64_shl8 (a:BitVec 64):n64 a*(256:Int)%(18446744073709551616:Int)=n64 (a <<< 8):=by
 have h:=u64_shl a 8; rw [show ((2:Int)^8)=256 from rfl] at h; exact h
@[go_sem] theorem u64_shl8' (a:BitVec 64):IntKind.u64.wrap (n64 a*(256:Int))=n64 (a <<< 8):=by
 rw [IntKind.wrap_u64]; exact u64_shl8 a
@[go_sem] theorem u64_shlw (a:BitVec 64) (n:Nat):IntKind.u64.wrap (n64 a*(2:Int)^n)=n64 (a <<< n):=by
 rw [IntKind.wrap_u64,u64_shl]
theorem rotRight (x:BitVec 64) (m:Nat) (h:m<64):(x <<< (64-m)) ||| (x >>> m)=x.rotateRight m:=by
 rw [BitVec.rotateRight,Nat.mod_eq_of_lt h,BitVec.rotateRightAux,BitVec.or_comm]
end B64
end Go.Proofs.YtfodadedkilgdaaGreatDoor
namespace Go.Proofs.YtfodadedkilgdaaGreatDoor
open Go.RowKit B64
namespace S5
open Sha (bt)
theorem rotArg64 (m:Nat) (h0:0<m) (h1:m<64):bits .and .u64 (IntKind.u64.wrap (-(m:Int))) 63=((64-m:Nat):Int):=by
 have e:IntKind.u64.wrap (-(m:Int))=((18446744073709551616-m:Nat):Int):=by rw [IntKind.wrap_u64]; omega
 rw [e]
 have h:=u64_and_nat (18446744073709551616-m) 63 (by omega) (by omega)
 rw [show ((63:Nat):Int)=63 from rfl] at h
 rw [h,show (63:Nat)=2^6-1 from rfl,Nat.and_two_pow_sub_one_eq_mod]
 omega
set_option maxRecDepth 100000 in
set_option maxHeartbeats 400000 in
theorem rot64_any (x:W64) (m:Nat) (w:World) (h0:0<m) (h1:m<64) :
 Calls Tryz.prog 216 #[.int .u64 (n64 x),.int .i64 (-(m:Int))] w fun e w'=>e = .returned (.int .u64 (n64 (x.rotateRight m)))∧w=w':=by
 have r1:=rotArg64 m h0 h1
 have r4:IntKind.u64.wrap (64-((64-m:Nat):Int))=(m:Int):=by rw [IntKind.wrap_u64]; omega
 have r5:=B64.rotRight x m h1
 go_enter Tryz.func216,Tryz.ntmps216
 go_wp2
 go_ret
 exact ⟨rfl,rfl⟩
set_option maxRecDepth 100000 in
set_option maxHeartbeats 400000 in
theorem turn_any (x:W64) (m:Nat) (w:World) (h0:0<m) (h1:m<64) :
 Calls Tryz.prog 177 #[.int .u64 (n64 x),.int .i64 (m:Int)] w fun e w'=>e = .returned (.int .u64 (n64 (x.rotateRight m)))∧w=w':=by
 go_enter Tryz.func177,Tryz.ntmps177
 go_wp2_with (go_at_call 216; refine (rot64_any _ _ _ h0 h1).mono ?_; rintro e w' ⟨rfl,rfl⟩)
 go_ret
 exact ⟨rfl,rfl⟩
theorem turn_int (x:W64) (p:Int) (w:World) (hp:0<p) (hp':p<64) :
 Calls Tryz.prog 177 #[.int .u64 (n64 x),.int .i64 p] w fun e w'=>e = .returned (.int .u64 (n64 (x.rotateRight p.toNat)))∧w=w':=by
 obtain ⟨p,rfl⟩:=Int.eq_ofNat_of_zero_le (Int.le_of_lt hp)
 exact turn_any x p w (by omega) (by omega)
def cells (A:List W64):Array Value:=(A.map fun x=>Value.int .u64 (n64 x)).toArray
theorem cells_get (A:List W64) (j:Nat) (h:j<A.length):(cells A)[j]? = some (.int .u64 (n64 (rd A j))):=by
 simp [cells,rd,List.getD,h]
theorem cells_size (A:List W64):(cells A).size=A.length:=by simp [cells]
theorem cells_one (A:List W64):(cells A).all (·.oneCell')=true:=by
 rw [Array.all_eq_true_iff_forall_mem]; intro v hv; simp [cells] at hv; obtain ⟨x,_,rfl⟩:=hv; rfl
theorem cells_set (A:List W64) (j:Nat) (x:W64):(cells A).setIfInBounds j (.int .u64 (n64 x))=cells (A.set j x):=by
 simp [cells,List.map_set]
@[go_sem] theorem by64_wrap (b:UInt8):IntKind.u64.wrap (b.toNat:Int)=n64 (by64 b):=by
 have:=b.toNat_lt
 rw [IntKind.wrap_u64]; unfold n64 by64; rw [BitVec.toNat_ofNat]; omega
@[go_sem] theorem by64_mod (b:UInt8):(b.toNat:Int)%18446744073709551616=n64 (by64 b):=by
 have:=by64_wrap b; rw [IntKind.wrap_u64] at this; exact this
@[go_sem] theorem u64_shr7 (a:W64):n64 a / (128:Int)=n64 (a >>> 7):=u64_shr a 7
@[go_sem] theorem u64_shr6 (a:W64):n64 a / (64:Int)=n64 (a >>> 6):=u64_shr a 6
def zeros80:List W64:=List.replicate 80 0
theorem cells_zero:cells zeros80=Array.replicate 80 (.int .u64 0):=by kernel_rfl
theorem info80:(Tryz.prog.info? 303).map (·.size)=some 80:=by kernel_rfl
set_option maxRecDepth 100000 in
set_option maxHeartbeats 1000000 in
theorem spread_any (l:List UInt8) (b off len cap:Nat) (w:World) (hl:128≤l.length) (hlen:l.length=len) (hcap:len≤cap) (hm:cap≤9223372036854775807)
 (hc : ∀ k,k<len→w.cell? ⟨b,off+k,none⟩=some (.int .u8 ((bt l k).toNat:Int))) :
 Calls Tryz.prog 176 #[.slice (some ⟨b,off,none⟩) len cap] w fun e w'=>e = .returned (.agg (cells (spread l)))∧Below w.heap.size w w':=by
 have h64:128≤len:=by omega
 have h64':128≤cap:=by omega
 have H1:=Lib.hid hlen; clear hlen
 have H2:=Lib.hid hc; clear hc
 go_enter Tryz.func176,Tryz.ntmps176
 go_wp2
 go_loopw [8] (fun i wr => ∃ k:Nat,k≤128∧i = .int .i64 k ∧ ∃ n,wr=((w.alloc (.cells (cells zeros80) 303)).alloc (.cells (cells (spread1 l k)) 303)).drewN n) (fun i _=>128-(intOf i).toNat)
 case atStart=>exact ⟨0,by omega,rfl,0,by rw [show spread1 l 0=zeros80 from rfl,cells_zero]; rfl⟩
 case round =>
  obtain ⟨k,hk,rfl,n,rfl⟩:=hrel
  by_cases hlt:k<128
  ·have hcell:=H2.out k (by omega)
   have hrd:=cells_get (spread1 l k) (k / 8) (by rw [spread1_length]; omega)
   have hb:b<w.heap.size:=World.block_lt_of_cell? _ _ hcell
   go_wp2
   have q1:(0:Int)≤(k:Int) / 8:=by omega
   have q2:(k:Int) / 8<80:=by omega
   have q3:(k:Int)<(len:Int):=by omega
   have q4:((k:Int) / 8).toNat=k / 8:=by omega
   have q5:k / 8<80:=by omega
   refine Rg.tail (fun w' => ∃ n,w'=((w.alloc (.cells (cells zeros80) 303)).alloc (.cells (cells (spread1 l k)) 303)).drewN n) 14 (by kernel_rfl) (by kernel_rfl) ⟨n+1,rfl⟩ ?_; simp only [List.take_succ_cons,List.take_zero,List.drop_succ_cons,List.drop_zero]
   repeat (refine Rg.stepK rfl ?_; intro K hK; apply Exists.intro; refine ⟨?_,?_⟩; (focus (intro w' hw'; obtain ⟨nq,rfl⟩:=hw'; go_simp; (first | (fail) | ((try go_bits); (try go_simp); (try rfl))))); go_simp; refine hK _ ?_; clear hK K)
   refine wpQuiet_nil ?_; intro w' hw'; obtain ⟨nq,rfl⟩:=hw'
   go_wp2
   go_roundw
   case rel=>exact ⟨k+1,by omega,by go_num,nq,by simp only [spread1]; rw [← cells_set]⟩
   case measure=>simp [intOf]; omega
  ·obtain rfl:k=128:=by omega
   rw [show ((128:Nat):Int)=128 from rfl]
   go_wp2
   obtain ⟨A0,hA0⟩ : ∃ A,A=spread1 l 128:=⟨_,rfl⟩
   have hL0:A0.length=80:=by rw [hA0,spread1_length]
   have HA:=Lib.hid hA0
   rw [← hA0]
   clear hA0
   go_loopw [5] (fun i wr => ∃ k:Nat,k≤64∧i = .int .i64 (16+k) ∧ ∃ n,wr=((w.alloc (.cells (cells zeros80) 303)).alloc (.cells (cells (spread2 A0 k)) 303)).drewN n) (fun i _=>80-(intOf i).toNat)
   case atStart=>exact ⟨0,by omega,rfl,n,rfl⟩
   case round =>
    obtain ⟨k,hk,rfl,n,rfl⟩:=hrel
    by_cases hlt:k<64
    ·have hL:(spread2 A0 k).length=80:=by rw [spread2_length]; exact hL0
     have hrd1:=cells_get (spread2 A0 k) k (by omega)
     have hrd2:=cells_get (spread2 A0 k) (k+1) (by omega)
     have hrd3:=cells_get (spread2 A0 k) (k+9) (by omega)
     have hrd4:=cells_get (spread2 A0 k) (k+14) (by omega)
     have hrd5:=cells_get (spread2 A0 k) (16+k) (by omega)
     have e1:IntKind.i64.wrap (16+(k:Int)-16)=(k:Int):=by rw [IntWalk.i64_in _ (by omega)]; omega
     have e2:IntKind.i64.wrap (16+(k:Int)-15)=(k:Int)+1:=by rw [IntWalk.i64_in _ (by omega)]; omega
     have e3:IntKind.i64.wrap (16+(k:Int)-7)=(k:Int)+9:=by rw [IntWalk.i64_in _ (by omega)]; omega
     have e4:IntKind.i64.wrap (16+(k:Int)-2)=(k:Int)+14:=by rw [IntWalk.i64_in _ (by omega)]; omega
     have f1:(k:Int)<80∧(k:Int)+1<80∧(k:Int)+9<80∧(k:Int)+14<80:=by omega
     have f2:(0:Int)≤(k:Int)+1∧(0:Int)≤(k:Int)+9∧(0:Int)≤(k:Int)+14:=by omega
     have f3:((k:Int)+1).toNat=k+1∧((k:Int)+9).toNat=k+9∧((k:Int)+14).toNat=k+14:=by omega
     have f5:(0:Int)≤16+(k:Int):=by omega
     have f6:(16+(k:Int)).toNat=16+k:=by omega
     go_wp2
     refine Rg.whole (fun w' => ∃ n,w'=((w.alloc (.cells (cells zeros80) 303)).alloc (.cells (cells (spread2 A0 k)) 303)).drewN n) (by kernel_rfl) (by kernel_rfl) ⟨n+1,rfl⟩ ?_
     repeat (refine Rg.stepK rfl ?_; intro K hK; apply Exists.intro; refine ⟨?_,?_⟩; (focus (intro w' hw'; obtain ⟨nq,rfl⟩:=hw'; go_simp; (first | (fail) | ((try go_bits); (try go_simp); (try rfl))))); go_simp; refine hK _ ?_; clear hK K)
     refine wpQuiet_nil ?_; intro w' hw'; obtain ⟨nq,rfl⟩:=hw'
     go_wp2
     refine Rg.tail (fun w' => ∃ n,w'=((w.alloc (.cells (cells zeros80) 303)).alloc (.cells (cells (spread2 A0 k)) 303)).drewN n) 29 (by kernel_rfl) (by kernel_rfl) ⟨nq+1,rfl⟩ ?_; simp only [List.take_succ_cons,List.take_zero,List.drop_succ_cons,List.drop_zero]
     repeat (refine Rg.stepK rfl ?_; intro K hK; apply Exists.intro; refine ⟨?_,?_⟩; (focus (intro w' hw'; obtain ⟨nq,rfl⟩:=hw'; go_simp; (first | (go_at_call 177; exact Calls.quiet_of_same ((turn_int _ _ _ (by omega) (by omega)).mono fun _ _ h=>⟨h.1,h.2.symm⟩)) | ((try go_bits); (try go_simp); (try rfl))))); go_simp; refine hK _ ?_; clear hK K)
     refine wpQuiet_nil ?_; intro w' hw'; obtain ⟨nq,rfl⟩:=hw'
     go_wp2
     go_roundw
     case rel=>exact ⟨k+1,by omega,by go_num,nq,by simp only [spread2,next1]; rw [← cells_set]; rfl⟩
     case measure=>simp [intOf]; omega
    ·obtain rfl:k=64:=by omega
     have hL:(spread2 A0 64).length=80:=by rw [spread2_length]; exact hL0
     have hi:(Tryz.prog.info? 303).map (·.size)=some (cells (spread2 A0 64)).size:=by rw [cells_size,hL]; exact info80
     have hz:(cells zeros80).size=(cells (spread2 A0 64)).size:=by rw [cells_size,cells_size,hL]; rfl
     have HF:Hid (spread l=spread2 A0 64):=by rw [HA.out]; exact Lib.hid rfl
     have H3:=Lib.hid hi; clear hi
     have H4:=Lib.hid hz; clear hz
     generalize hB:spread2 A0 64=B at *
     clear hB hL
     go_wp2_with (first | (refine wpList_load_row rfl 303 _ rfl (w.heap.size+1) rfl 303 (cells B) (0,0) _ (by exact Rg.heap_alloc_at _ _ _ (by simp)) Tryz.underlying303 rfl H3.out ?_) | (refine Rg.store_row rfl 303 _ _ rfl w.heap.size rfl 303 (cells zeros80) (cells B) rfl (by exact (Rg.heap_alloc_past _ _ _ (by simp)).trans (Rg.heap_alloc_at _ _ _ rfl)) H3.out H4.out (cells_one _) ?_))
     refine bodyPost_ret (v := .agg (cells B)) (results_cell_row (P:=Tryz.prog) rfl _ _ w.heap.size 303 (cells B) (0,0) _ rfl (setRow_heap _ _ (cells zeros80) _ 303 _ ((Rg.heap_alloc_past _ _ _ (by simp)).trans (Rg.heap_alloc_at _ _ _ rfl))) Tryz.underlying303 rfl H3.out) rfl ⟨by rw [HF.out],?_⟩
     exact Rg.below_setRow (Rg.below_drewN (((Below.refl _ _).alloc (Nat.le_refl _) _).alloc (by simp) _) _) (Nat.le_refl _) _
end S5
end Go.Proofs.YtfodadedkilgdaaGreatDoor
namespace Go.Proofs.YtfodadedkilgdaaGreatDoor
open Go.RowKit B64
namespace S5
open Sha (bt lt_of_heap)
structure Tabs (w:World):Prop where
 start : ∃ t f,w.heap[(3:Nat)]? = some (.cells (cells HH) t f)
 rounds : ∃ t f,w.heap[(6:Nat)]? = some (.cells (cells KK) t f)
theorem Tabs.lt1 {w:World} (h:Tabs w):(3:Nat)<w.heap.size:=by obtain ⟨_,_,h⟩:=h.start; exact lt_of_heap h
theorem Tabs.lt2 {w:World} (h:Tabs w):(6:Nat)<w.heap.size:=by obtain ⟨_,_,h⟩:=h.rounds; exact lt_of_heap h
theorem Tabs.below {w w':World} (h:Tabs w) (hb:Below w.heap.size w w'):Tabs w':=by
 obtain ⟨t,f,h1⟩:=h.start
 obtain ⟨t',f',h2⟩:=h.rounds
 exact ⟨⟨t,f,Rg.below_row hb h.lt1 h1⟩,⟨t',f',Rg.below_row hb h.lt2 h2⟩⟩
theorem info8:(Tryz.prog.info? 223).map (·.size)=some 8:=by kernel_rfl
set_option maxRecDepth 100000 in
set_option maxHeartbeats 1000000 in
theorem press_any (H:List (W64)) (l:List UInt8) (b off len cap:Nat) (w:World) (hH:H.length=8) (hT:Tabs w) (hl:128≤l.length) (hlen:l.length=len) (hcap:len≤cap) (hm:cap≤9223372036854775807)
 (hc : ∀ k,k<len→w.cell? ⟨b,off+k,none⟩=some (.int .u8 ((bt l k).toNat:Int))) :
 Calls Tryz.prog 135 #[.agg (cells H),.slice (some ⟨b,off,none⟩) len cap] w fun e w'=>e = .returned (.agg (cells (press H l)))∧Below w.heap.size w w':=by
 have hb:b<w.heap.size:=World.block_lt_of_cell? _ _ (hc 0 (by omega))
 have H1:=Lib.hid hlen
 have H2:=Lib.hid hc; clear hc
 have HL:=Lib.hid hH
 go_enter Tryz.func135,Tryz.ntmps135
 go_wp2_with fail
 refine (spread_any l b off len cap _ hl hlen hcap hm ?_).mono ?_
 ·intro k hk
  rw [World.cell?_alloc_past _ _ _ (by simp; omega),World.cell?_alloc_past _ _ _ hb]
  exact H2.out k hk
 ·rintro e w1 ⟨rfl,hB1⟩
  have g0:=Rg.below_row hB1 (g:=w.heap.size) (by simp; omega) ((Rg.heap_alloc_past _ _ _ (by simp)).trans (Rg.heap_alloc_at _ _ _ rfl))
  have g1:=Rg.below_row hB1 (g:=w.heap.size+1) (by simp) (Rg.heap_alloc_at _ _ _ (by simp))
  have z1:w.heap.size+1<w1.heap.size:=by have:=hB1.size; simp at this; omega
  have hBw:Below w.heap.size w w1:=(((Below.refl _ _).alloc (Nat.le_refl _) _).alloc (by simp) _).trans (hB1.mono (by simp; omega))
  have hT1:=hT.below hBw
  have hi64:(Tryz.prog.info? 303).map (·.size)=some (cells (spread l)).size:=by rw [cells_size,spread_length]; exact info80
  have hi8:(Tryz.prog.info? 223).map (·.size)=some (cells H).size:=by rw [cells_size,hH]; exact info8
  have hz64:(cells zeros80).size=(cells (spread l)).size:=by rw [cells_size,cells_size,spread_length]; rfl
  have hz8:(#[Value.int .u64 0,.int .u64 0,.int .u64 0,.int .u64 0,.int .u64 0,.int .u64 0,.int .u64 0,.int .u64 0]:Array Value).size=(cells H).size:=by rw [cells_size,hH]; rfl
  have HI64:=Lib.hid hi64; clear hi64
  have HI8:=Lib.hid hi8; clear hi8
  have HZ64:=Lib.hid hz64; clear hz64
  have HZ8:=Lib.hid hz8; clear hz8
  have G0:=Lib.hid g0; clear g0
  have G1:=Lib.hid g1; clear g1
  clear hB1
  generalize hS:spread l=S at *
  have HS:=Lib.hid hS; clear hS
  go_wp2_with (first | (refine Rg.store_row_new rfl 303 _ _ rfl w1.heap.size rfl rfl 303 (cells zeros80) (cells S) rfl HI64.out HZ64.out (cells_one _) ?_) | (refine wpList_load_row rfl 223 _ rfl w.heap.size rfl 223 (cells H) (0,0) _ (by exact (Rg.heap_alloc_past _ _ _ (by omega)).trans G0.out) Tryz.underlying223 rfl HI8.out ?_) | (refine Rg.store_row_new rfl 223 _ _ rfl (w1.heap.size+1) (by simp) rfl 223 _ (cells H) rfl HI8.out HZ8.out (cells_one _) ?_))
  have hSL:S.length=80:=by rw [← HS.out,spread_length]
  obtain ⟨tK,fK,hKrow⟩:=hT1.rounds
  have HK:Hid (∀ k,k<80→w1.cell? ⟨(6:Nat),k,none⟩=some (.int .u64 (n64 (rd KK k)))):=Lib.hid (fun k hk=>by
   rw [cell_of_row w1 _ k _ _ _ hKrow]; exact cells_get KK k (by rw [KK_length]; exact hk))
  have hlt2:=hT1.lt2
  have hlt0:0<w1.heap.size:=Nat.lt_of_le_of_lt (Nat.zero_le _) hlt2
  clear hKrow
  go_loopw [14] (fun i wr => ∃ k:Nat,k≤80∧i = .int .i64 k ∧ ∃ n,wr=((w1.alloc (.cells (cells S) 303)).alloc (.cells (cells (rnds H S k)) 223)).drewN n) (fun i _=>80-(intOf i).toNat)
  case atStart=>exact ⟨0,by omega,rfl,0,rfl⟩
  case round =>
   obtain ⟨k,hk,rfl,n,rfl⟩:=hrel
   have hVL:(rnds H S k).length=8:=rnds_length H S hH k
   by_cases hlt:k<80
   ·obtain ⟨V,hV⟩ : ∃ V,V=rnds H S k:=⟨_,rfl⟩
    rw [← hV]
    rw [← hV] at hVL
    have HV:=Lib.hid hV; clear hV
    have v0:=cells_get V 0 (by omega)
    have v1:=cells_get V 1 (by omega)
    have v2:=cells_get V 2 (by omega)
    have v3:=cells_get V 3 (by omega)
    have v4:=cells_get V 4 (by omega)
    have v5:=cells_get V 5 (by omega)
    have v6:=cells_get V 6 (by omega)
    have v7:=cells_get V 7 (by omega)
    have sk:=cells_get S k (by omega)
    have kk:=HK.out k hlt
    have q1:(k:Int)<80:=by omega
    have HVL:=Lib.hid hVL; clear hVL
    go_wp2
    refine Rg.whole (fun w' => ∃ n,w'=((w1.alloc (.cells (cells S) 303)).alloc (.cells (cells V) 223)).drewN n) (by kernel_rfl) (by kernel_rfl) ⟨n+1,rfl⟩ ?_
    repeat (refine Rg.stepK rfl ?_; intro K hK; apply Exists.intro; refine ⟨?_,?_⟩; (focus (intro w' hw'; obtain ⟨nq,rfl⟩:=hw'; go_simp; (first | (go_at_call 177; exact Calls.quiet_of_same ((turn_int _ _ _ (by omega) (by omega)).mono fun _ _ h=>⟨h.1,h.2.symm⟩)) | ((try go_bits); (try go_simp); (try rfl))))); go_simp; refine hK _ ?_; clear hK K)
    refine wpQuiet_nil ?_; intro w' hw'; obtain ⟨nq,rfl⟩:=hw'
    go_wp2
    refine Rg.whole (fun w' => ∃ n,w'=((w1.alloc (.cells (cells S) 303)).alloc (.cells (cells V) 223)).drewN n) (by kernel_rfl) (by kernel_rfl) ⟨nq+1,rfl⟩ ?_
    repeat (refine Rg.stepK rfl ?_; intro K hK; apply Exists.intro; refine ⟨?_,?_⟩; (focus (intro w' hw'; obtain ⟨nq,rfl⟩:=hw'; go_simp; (first | (go_at_call 177; exact Calls.quiet_of_same ((turn_int _ _ _ (by omega) (by omega)).mono fun _ _ h=>⟨h.1,h.2.symm⟩)) | ((try go_bits); (try go_simp); (try rfl))))); go_simp; refine hK _ ?_; clear hK K)
    refine wpQuiet_nil ?_; intro w' hw'; obtain ⟨nq,rfl⟩:=hw'
    have hs8:(cells V).size=(cells (rnd V S k)).size:=by rw [cells_size,HVL.out]; rfl
    have HS8:=Lib.hid hs8; clear hs8
    go_wp2_with (refine Rg.store_row rfl 223 _ _ rfl (w1.heap.size+1) rfl 223 (cells V) (cells (rnd V S k)) rfl (Rg.heap_alloc_at _ _ _ (by simp)) info8 HS8.out (cells_one _) ?_)
    go_roundw
    case rel=>exact ⟨k+1,by omega,by go_num,_,by rw [show rnds H S (k+1)=rnd V S k from by rw [HV.out]; rfl,Rg.setRow_drewN,Rg.setRow_alloc_at _ _ _ _ _ (by simp)]⟩
    case measure=>simp [intOf]; omega
   ·obtain rfl:k=80:=by omega
    rw [show ((80:Nat):Int)=80 from rfl]
    obtain ⟨V,hV⟩ : ∃ V,V=rnds H S 80:=⟨_,rfl⟩
    rw [← hV]
    rw [← hV] at hVL
    have HV:=Lib.hid hV; clear hV
    clear hk hlt
    go_wp2
    have e1:w1=w1.setRow w.heap.size (cells (addw H V 0)):=(Rg.setRow_self G0.out).symm
    have E1:=Lib.hid e1; clear e1
    go_loopw [102] (fun i wr => ∃ k:Nat,k≤8∧i = .int .i64 k ∧ ∃ n,wr=(((w1.setRow w.heap.size (cells (addw H V k))).alloc (.cells (cells S) 303)).alloc (.cells (cells V) 223)).drewN n) (fun i _=>8-(intOf i).toNat)
    case atStart=>exact ⟨0,by omega,rfl,n,by rw [← E1.out]⟩
    case round =>
     obtain ⟨k,hk,rfl,n,rfl⟩:=hrel
     by_cases hlt:k<8
     ·have hAL:(addw H V k).length=8:=by rw [addw_length,hH]
      have a0:=cells_get (addw H V k) k (by omega)
      have v0:=cells_get V k (by omega)
      have c0:(w1.setRow w.heap.size (cells (addw H V k))).cell? ⟨w.heap.size,k,none⟩=some (.int .u64 (n64 (rd (addw H V k) k))):=by rw [cell_setRow_same _ _ _ _ _ _ _ G0.out,a0]
      have z0:w.heap.size<w1.heap.size:=by omega
      have f0:(w1.setRow w.heap.size (cells (addw H V k))).frozen? ⟨w.heap.size,k,none⟩=false:=frozen_of_row _ _ _ _ _ (setRow_heap _ _ _ _ _ _ G0.out)
      have q1:(k:Int)<8:=by omega
      go_wp2
      refine Rg.tail (fun w' => ∃ n,w'=(((w1.setRow w.heap.size (cells (addw H V k))).alloc (.cells (cells S) 303)).alloc (.cells (cells V) 223)).drewN n) 8 (by kernel_rfl) (by kernel_rfl) ⟨n+1,rfl⟩ ?_; simp only [List.take_succ_cons,List.take_zero,List.drop_succ_cons,List.drop_zero]
      repeat (refine Rg.stepK rfl ?_; intro K hK; apply Exists.intro; refine ⟨?_,?_⟩; (focus (intro w' hw'; obtain ⟨nq,rfl⟩:=hw'; go_simp; (first | (fail) | ((try go_bits); (try go_simp); (try rfl))))); go_simp; refine hK _ ?_; clear hK K)
      refine wpQuiet_nil ?_; intro w' hw'; obtain ⟨nq,rfl⟩:=hw'
      go_wp2
      go_roundw
      case rel=>exact ⟨k+1,by omega,by go_num,nq,by rw [Rg.setCell_setRow G0.out,cells_set]; rfl⟩
      case measure=>simp [intOf]; omega
     ·obtain rfl:k=8:=by omega
      have hAL:(addw H V 8).length=8:=by rw [addw_length,hH]
      have hP:Hid (press H l=addw H V 8):=by rw [HV.out,← HS.out]; exact Lib.hid rfl
      generalize hA:addw H V 8=A at *
      have hiA:(Tryz.prog.info? 223).map (·.size)=some (cells A).size:=by rw [cells_size,hAL]; exact info8
      have hzA:(#[Value.int .u64 0,.int .u64 0,.int .u64 0,.int .u64 0,.int .u64 0,.int .u64 0,.int .u64 0,.int .u64 0]:Array Value).size=(cells A).size:=by rw [cells_size,hAL]; rfl
      have HIA:=Lib.hid hiA; clear hiA
      have HZA:=Lib.hid hzA; clear hzA
      have z0:w.heap.size<w1.heap.size:=by omega
      have z3:w.heap.size<(w1.setRow w.heap.size (cells A)).heap.size:=by simp; omega
      have z4:w.heap.size+1<(w1.setRow w.heap.size (cells A)).heap.size:=by simp; omega
      have GA:Hid ((w1.setRow w.heap.size (cells A)).heap[w.heap.size]? = some (.cells (cells A) 223 (0,0))):=Lib.hid (setRow_heap _ _ _ _ _ _ G0.out)
      have GB:Hid ((w1.setRow w.heap.size (cells A)).heap[w.heap.size+1]? = some (.cells _ 223 (0,0))):=Lib.hid ((setRow_other _ _ _ _ (by omega)).trans G1.out)
      go_wp2_with (first | (refine wpList_load_row rfl 223 _ rfl w.heap.size rfl 223 (cells A) (0,0) _ (by exact ((Rg.heap_alloc_past _ _ _ (by rw [World.size_alloc]; omega)).trans ((Rg.heap_alloc_past _ _ _ z3).trans GA.out))) Tryz.underlying223 rfl HIA.out ?_) | (refine Rg.store_row rfl 223 _ _ rfl (w.heap.size+1) rfl 223 _ (cells A) rfl (by exact ((Rg.heap_alloc_past _ _ _ (by rw [World.size_alloc]; omega)).trans ((Rg.heap_alloc_past _ _ _ z4).trans GB.out))) HIA.out HZA.out (cells_one _) ?_))
      refine bodyPost_ret (v := .agg (cells A)) (results_cell_row (P:=Tryz.prog) rfl _ _ (w.heap.size+1) 223 (cells A) (0,0) _ rfl (setRow_heap _ _ _ _ 223 _ ((Rg.heap_alloc_past _ _ _ (by rw [World.size_alloc]; omega)).trans ((Rg.heap_alloc_past _ _ _ z4).trans GB.out))) Tryz.underlying223 rfl HIA.out) rfl ⟨by rw [hP.out],?_⟩
      exact Rg.below_setRow (Rg.below_drewN (((Rg.below_setRow hBw (Nat.le_refl _) _).alloc (by omega) _).alloc (by simp; omega) _) _) (by omega) _
end S5
end Go.Proofs.YtfodadedkilgdaaGreatDoor
namespace Go.Proofs.YtfodadedkilgdaaGreatDoor
set_option linter.unusedVariables false
set_option linter.unusedSimpArgs false
open Go.RowKit Mem
namespace Apm
def nul (m:Nat):ByteArray:=⟨(List.replicate m (0:UInt8)).toArray⟩
theorem nul_size (m:Nat):(nul m).size=m:=by simp [nul,ByteArray.size]
theorem byteCells_nul (m:Nat):byteCells (nul m)=List.replicate m (.int .u8 0):=by simp [byteCells,nul]
theorem zeroCells_one (m:Nat):Builtin.zeroCells #[.int .u8 0] m=(List.replicate m (Value.int .u8 0)).toArray:=by
 unfold Builtin.zeroCells
 apply Array.ext
 · simp
 ·intro i h1 h2
  simp [Nat.mod_one]
set_option maxRecDepth 100000 in
set_option maxHeartbeats 1000000 in
theorem run_app_make {P:Program} {w:World} {t tn ts e ty:TypeId} {k:IntKind} {i:TypeInfo} (ht:P.underlying t=some (.slice e)) (hk:P.underlying tn=some (.int k)) (hts:P.underlying ts=some .string)
 (hi:P.info? e=some i) (hz:i.zero=some (.int .u8 0)) (hsize:i.size=1) (hby:i.bytes=1) (p:Option Addr) (n c m:Nat) (hm:n+m≤100000000) (olds:Array Value) (hold:(Builtin.firstCells 1 n (.slice p n c)).run P w.drew = .ok olds w.drew) :
 (Builtin.append_ #[t,tn] ty #[.slice p n c,.int .i64 (m:Int)]).run P w=(Builtin.append_ #[t,ts] ty #[.slice p n c,.string (nul m)]).run P w:=by
 have hs:=Src.ofString (P:=P) w hts (nul m)
 have h1:(Builtin.lenOf (.string (nul m))).run P w = .ok m w:=by have:=hs.len w; rwa [nul_size] at this
 have h2:=hs.cells
 have h3:=hs.cellsD
 rw [nul_size,byteCells_nul] at h2 h3
 have w1:IntKind.i64.wrap (m:Int)=(m:Int):=by rw [IntKind.wrap_i64]; omega
 have w2 : ¬ ((m:Int)<0):=by omega
 have w3 : ¬ ((281474976710656:Int)<(m:Int)):=by omega
 have hzc:=zeroCells_one m
 have ha0:(asInt (.int .i64 0)).run P w = .ok 0 w:=rfl
 have w0:IntKind.i64.wrap 0=0:=by rw [IntKind.wrap_i64]; omega
 have hz0:Builtin.zeroCells #[.int .u8 0] 0 = #[]:=by rw [zeroCells_one]; rfl
 have ha:(asInt (.int .i64 (m:Int))).run P w = .ok (m:Int) w:=rfl
 by_cases hr:n+m≤c
 ·by_cases h0:m=0
  ·subst h0
   rw [Nat.add_zero] at hr
   simp [Builtin.append_,run_underlying ht,run_underlying hk,run_underlying hts,sizeOf,typeInfo,zeroValue,hi,hz,hsize,hby,h1,h2,h3,w1,w2,w3,hr,hzc,Value.cells,ha,ha0,w0,hz0]
  · simp [Builtin.append_,run_underlying ht,run_underlying hk,run_underlying hts,sizeOf,typeInfo,zeroValue,hi,hz,hsize,hby,h1,h2,h3,w1,w2,w3,hr,hzc,h0,Value.cells,ha,ha0,w0,hz0]
 ·have h63 : ¬ (9223372036854775807<((n:Int)+(m:Int))):=by omega
  have hf:=growslice_fits (need:=n+m) (old:=c) (bytes:=1) (by omega) (by omega)
  have h48 : ¬ (281474976710656<Builtin.nextslicecap (n+m) c):=by omega
  by_cases h0:m=0
  ·subst h0
   rw [Nat.add_zero] at hr h48
   have h630 : ¬ (9223372036854775807<(n:Int)):=by omega
   simp [Builtin.append_,run_underlying ht,run_underlying hk,run_underlying hts,sizeOf,typeInfo,zeroValue,hi,hz,hsize,hby,h1,h2,h3,w1,w2,w3,hr,hzc,Value.cells,ha,ha0,w0,hz0,h630,h48,Question.forced,hold]
  · simp [Builtin.append_,run_underlying ht,run_underlying hk,run_underlying hts,sizeOf,typeInfo,zeroValue,hi,hz,hsize,hby,h1,h2,h3,w1,w2,w3,hr,hzc,h0,Value.cells,ha,ha0,w0,hz0,h63,h48,Question.forced,hold]
end Apm
end Go.Proofs.YtfodadedkilgdaaGreatDoor
