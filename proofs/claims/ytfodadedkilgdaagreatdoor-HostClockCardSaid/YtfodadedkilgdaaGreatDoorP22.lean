/- A part of the proof. Plain; no condition. -/
import Derived.Test.YtfodadedkilgdaaGreatDoorP0
import Derived.Test.YtfodadedkilgdaaGreatDoorP21
namespace Go.Proofs.YtfodadedkilgdaaGreatDoor
namespace Fld
def words (n:Nat):Nat→List Nat
 | 0 => []
 | k+1=>n%18446744073709551616::words (n / 18446744073709551616) k
theorem words_length (k:Nat) : ∀ n,(words n k).length=k:=by
 induction k with
 | zero=>intro n; rfl
 | succ k ih=>intro n; simp [words,ih]
theorem words_lt (k:Nat) : ∀ n,∀ x∈words n k,x<18446744073709551616:=by
 induction k with
 | zero=>intro n x hx; simp [words] at hx
 | succ k ih =>
   intro n x hx
   simp only [words,List.mem_cons] at hx
   rcases hx with rfl | hx
   · exact Nat.mod_lt _ (by decide)
   · exact ih _ x hx
def val:List Nat→Nat
 | []=>0
 | x::l=>x+18446744073709551616*val l
theorem words_val : ∀ l:List Nat,(∀ x∈l,x<18446744073709551616)→words (val l) l.length=l
 | [],_=>rfl
 | x::l,h=>by
   have hx:=h x (List.mem_cons_self ..)
   have ih:=words_val l (fun y hy=>h y (List.mem_cons_of_mem _ hy))
   have h1:(x+18446744073709551616*val l)%18446744073709551616=x:=by omega
   have h2:(x+18446744073709551616*val l) / 18446744073709551616=val l:=by omega
   simp only [List.length_cons,words,val,h1,h2,ih]
theorem val_lt : ∀ l:List Nat,(∀ x∈l,x<18446744073709551616)→val l<18446744073709551616^l.length
 | [],_=>by simp [val]
 | x::l,h=>by
   have hx:=h x (List.mem_cons_self ..)
   have ih:=val_lt l (fun y hy=>h y (List.mem_cons_of_mem _ hy))
   rw [List.length_cons,Nat.pow_succ]
   unfold val
   generalize 18446744073709551616^l.length=Q at ih ⊢
   omega
theorem val_words (k:Nat) : ∀ n,n<18446744073709551616^k→val (words n k)=n:=by
 induction k with
 | zero=>intro n hn; simp at hn; subst hn; rfl
 | succ k ih =>
   intro n hn
   rw [Nat.pow_succ] at hn
   simp only [words,val]
   rw [ih (n / 18446744073709551616) (by
    generalize 18446744073709551616^k=Q at hn ⊢
    omega)]
   omega
def subC:List Nat→List Nat→Nat→List Nat×Nat
 | x::a,y::b,u=>let r:=subC a b (if x<y+u then 1 else 0); ((x+18446744073709551616-y-u)%18446744073709551616::r.1,r.2)
 | _,_,u=>([],u)
theorem subC_words (k:Nat) : ∀ m n u,m<18446744073709551616^k→n<18446744073709551616^k→u≤1→subC (words m k) (words n k) u=(words (m+18446744073709551616^k-n-u) k,if m<n+u then 1 else 0):=by
 induction k with
 | zero =>
   intro m n u hm hn hu
   simp at hm hn
   subst hm hn
   simp only [words,subC]
   have:u=0∨u=1:=by omega
   rcases this with rfl | rfl <;> rfl
 | succ k ih =>
   intro m n u hm hn hu
   rw [Nat.pow_succ] at hm hn ⊢
   have hQ:18446744073709551616^k>0:=Nat.pow_pos (by decide)
   have h1:m / 18446744073709551616<18446744073709551616^k:=by generalize 18446744073709551616^k=Q at hm hn ⊢; omega
   have h2:n / 18446744073709551616<18446744073709551616^k:=by generalize 18446744073709551616^k=Q at hm hn ⊢; omega
   simp only [words,subC]
   by_cases hc:m%18446744073709551616<n%18446744073709551616+u
   ·rw [if_pos hc,ih _ _ 1 h1 h2 (by decide)]
    generalize 18446744073709551616^k=Q at hm hn hQ h1 h2 ⊢
    have e1:(m%18446744073709551616+18446744073709551616-n%18446744073709551616-u)%18446744073709551616=(m+Q*18446744073709551616-n-u)%18446744073709551616:=by omega
    have e2:(m+Q*18446744073709551616-n-u) / 18446744073709551616=m / 18446744073709551616+Q-n / 18446744073709551616-1:=by omega
    have e3:(if m / 18446744073709551616<n / 18446744073709551616+1 then 1 else 0)=(if m<n+u then 1 else 0):=by
     by_cases h:m<n+u
     · rw [if_pos h,if_pos (by omega)]
     · rw [if_neg h,if_neg (by omega)]
    simp only [e1,e2,e3]
   ·rw [if_neg hc,ih _ _ 0 h1 h2 (by decide)]
    generalize 18446744073709551616^k=Q at hm hn hQ h1 h2 ⊢
    have e1:(m%18446744073709551616+18446744073709551616-n%18446744073709551616-u)%18446744073709551616=(m+Q*18446744073709551616-n-u)%18446744073709551616:=by omega
    have e2:(m+Q*18446744073709551616-n-u) / 18446744073709551616=m / 18446744073709551616+Q-n / 18446744073709551616-0:=by omega
    have e3:(if m / 18446744073709551616<n / 18446744073709551616+0 then 1 else 0)=(if m<n+u then 1 else 0):=by
     by_cases h:m<n+u
     · rw [if_pos h,if_pos (by omega)]
     · rw [if_neg h,if_neg (by omega)]
    simp only [e1,e2,e3]
def addC:List Nat→List Nat→Nat→List Nat×Nat
 | x::a,y::b,o=>let r:=addC a b ((x+y+o) / 18446744073709551616); ((x+y+o)%18446744073709551616::r.1,r.2)
 | _,_,o=>([],o)
theorem addC_words (k:Nat) : ∀ m n o,m<18446744073709551616^k→n<18446744073709551616^k→o≤1→addC (words m k) (words n k) o=(words (m+n+o) k,(m+n+o) / 18446744073709551616^k):=by
 induction k with
 | zero =>
   intro m n o hm hn ho
   simp at hm hn
   subst hm hn
   simp [words,addC]
 | succ k ih =>
   intro m n o hm hn ho
   have h1:m / 18446744073709551616<18446744073709551616^k:=by rw [Nat.pow_succ] at hm; generalize 18446744073709551616^k=Q at hm ⊢; omega
   have h2:n / 18446744073709551616<18446744073709551616^k:=by rw [Nat.pow_succ] at hn; generalize 18446744073709551616^k=Q at hn ⊢; omega
   simp only [words,addC]
   rw [ih _ _ _ h1 h2 (by omega)]
   have e1:(m%18446744073709551616+n%18446744073709551616+o)%18446744073709551616=(m+n+o)%18446744073709551616:=by omega
   have e2:m / 18446744073709551616+n / 18446744073709551616+(m%18446744073709551616+n%18446744073709551616+o) / 18446744073709551616=(m+n+o) / 18446744073709551616:=by omega
   rw [e1,e2,Nat.div_div_eq_div_mul,Nat.pow_succ,Nat.mul_comm 18446744073709551616]
def rowC (x:Nat):List Nat→List Nat→Nat→List Nat×Nat
 | y::b,z::out,c=>let r:=rowC x b out ((x*y+z+c) / 18446744073709551616); ((x*y+z+c)%18446744073709551616::r.1,r.2)
 | _,_,c=>([],c)
theorem rowC_words (x:Nat) (k:Nat) : ∀ n z c,n<18446744073709551616^k→z<18446744073709551616^k→rowC x (words n k) (words z k) c=(words (x*n+z+c) k,(x*n+z+c) / 18446744073709551616^k):=by
 induction k with
 | zero =>
   intro n z c hn hz
   simp at hn hz
   subst hn hz
   simp [words,rowC]
 | succ k ih =>
   intro n z c hn hz
   have h1:n / 18446744073709551616<18446744073709551616^k:=by rw [Nat.pow_succ] at hn; generalize 18446744073709551616^k=Q at hn ⊢; omega
   have h2:z / 18446744073709551616<18446744073709551616^k:=by rw [Nat.pow_succ] at hz; generalize 18446744073709551616^k=Q at hz ⊢; omega
   simp only [words,rowC]
   rw [ih _ _ _ h1 h2]
   have hx:x*n=18446744073709551616*(x*(n / 18446744073709551616))+x*(n%18446744073709551616):=by
    have:=congrArg (x * ·) (Nat.div_add_mod n 18446744073709551616)
    simp only [Nat.mul_add] at this
    rw [← this]
    rw [Nat.mul_left_comm]
   rw [hx]
   generalize x*(n / 18446744073709551616)=p
   generalize x*(n%18446744073709551616)=q
   have e1:(q+z%18446744073709551616+c)%18446744073709551616=(18446744073709551616*p+q+z+c)%18446744073709551616:=by omega
   have e2:p+z / 18446744073709551616+(q+z%18446744073709551616+c) / 18446744073709551616=(18446744073709551616*p+q+z+c) / 18446744073709551616:=by omega
   rw [e1,e2,Nat.div_div_eq_div_mul,Nat.pow_succ,Nat.mul_comm (18446744073709551616^k)]
def P:Nat:=57896044618658097711785492504343953926634992332820282019728792003956564819949
def W4:Nat:=115792089237316195423570985008687907853269984665640564039457584007913129639936
theorem W4_P (x:Nat):W4*x=38*x+P*(2*x):=by unfold W4 P; omega
theorem mod_W4 (a x:Nat):(a+W4*x)%P=(a+38*x)%P:=by rw [W4_P,← Nat.add_assoc,Nat.add_mul_mod_self_left]
theorem more_mod (a n:Nat):((if W4≤a+n then a+n-W4+38 else a+n))%P=(a+n)%P:=by
 by_cases h:W4≤a+n
 ·rw [if_pos h]
  have:=mod_W4 (a+n-W4) 1
  rw [Nat.mul_one,Nat.mul_one,Nat.sub_add_cancel h] at this
  exact this.symm
 · rw [if_neg h]
theorem fold_mod (w:Nat):(w%W4+38*(w / W4))%P=w%P:=by
 have:=mod_W4 (w%W4) (w / W4)
 rw [Nat.mod_add_div] at this
 exact this.symm
end Fld
end Go.Proofs.YtfodadedkilgdaaGreatDoor
namespace Go.Proofs.YtfodadedkilgdaaGreatDoor
set_option linter.unusedVariables false
namespace Nt
def Pr (p:Nat):Prop:=2≤p ∧ ∀ a,a∣p→a=1∨a=p
theorem Pr.pos {p:Nat} (h:Pr p):0<p:=by have:=h.1; omega
theorem Pr.coprime {p a:Nat} (h:Pr p) (ha : ¬ p∣a):Nat.Coprime p a:=by
 rcases h.2 _ (Nat.gcd_dvd_left p a) with h1 | h1
 · exact h1
 · exact absurd (h1 ▸ Nat.gcd_dvd_right p a) ha
theorem Pr.dvd_mul {p a b:Nat} (h:Pr p) (hd:p∣a*b):p∣a∨p∣b:=by
 by_cases ha:p∣a
 · exact .inl ha
 · exact .inr ((h.coprime ha).dvd_of_dvd_mul_left hd)
def Eqm (p a b:Nat):Prop:=a%p=b%p
theorem Eqm.refl (p a:Nat):Eqm p a a:=rfl
theorem Eqm.symm {p a b:Nat} (h:Eqm p a b):Eqm p b a:=Eq.symm h
theorem Eqm.trans {p a b c:Nat} (h:Eqm p a b) (h':Eqm p b c):Eqm p a c:=Eq.trans h h'
theorem Eqm.mul {p a b c d:Nat} (h:Eqm p a b) (h':Eqm p c d):Eqm p (a*c) (b*d):=by
 unfold Eqm at *; rw [Nat.mul_mod,h,h',← Nat.mul_mod]
theorem Eqm.pow {p a b:Nat} (h:Eqm p a b) : ∀ k,Eqm p (a^k) (b^k)
 | 0=>rfl
 | k+1=>by rw [Nat.pow_succ,Nat.pow_succ]; exact (Eqm.pow h k).mul h
theorem Eqm.cancel {p c a b:Nat} (hp:Pr p) (hc : ¬ p∣c) (h:Eqm p (c*a) (c*b)):Eqm p a b:=by
 have key : ∀ a b,a≤b→Eqm p (c*a) (c*b)→Eqm p a b:=by
  intro a b hab h
  have h1:(c*b)%p=(c*a)%p:=h.symm
  have h2:p∣c*(b-a):=by
   rw [Nat.mul_sub]
   exact Nat.dvd_of_mod_eq_zero (Nat.sub_mod_eq_zero_of_mod_eq h1)
  have h3:p∣b-a:=(hp.dvd_mul h2).resolve_left hc
  obtain ⟨k,hk⟩:=h3
  have hb:b=a+p*k:=by omega
  unfold Eqm
  rw [hb,Nat.add_mul_mod_self_left]
 rcases Nat.le_total a b with hab | hab
 · exact key a b hab h
 · exact (key b a hab h.symm).symm
def prod:List Nat→Nat
 | []=>1
 | x::l=>x*prod l
theorem prod_append (a b:List Nat):prod (a++b)=prod a*prod b:=by
 induction a with
 | nil=>simp [prod]
 | cons x a ih=>simp [prod,ih,Nat.mul_assoc]
theorem prod_same : ∀ (l m:List Nat),l.Nodup→(∀ x∈l,x∈m)→m.length≤l.length→prod l=prod m
 | [],m,_,_,h=>by
   have:m = []:=List.eq_nil_of_length_eq_zero (by simpa using h)
   rw [this]
 | x::l,m,hn,hs,h=>by
   obtain ⟨s,t,rfl⟩:=List.append_of_mem (hs x (by simp))
   have hn':=List.nodup_cons.1 hn
   have ih:=prod_same l (s++t) hn'.2 (fun y hy=>by
    have hy':=hs y (by simp [hy])
    simp only [List.mem_append,List.mem_cons] at hy' ⊢
    rcases hy' with h1 | rfl | h1
    · exact .inl h1
    · exact absurd hy hn'.1
    · exact .inr h1) (by simp at h ⊢; omega)
   rw [prod,ih,prod_append,prod_append,prod,Nat.mul_left_comm]
theorem prod_map (p a:Nat) : ∀ l:List Nat,Eqm p (prod (l.map fun x=>a*x%p)) (a^l.length*prod l)
 | []=>by simp [prod]; rfl
 | x::l=>by
   simp only [List.map_cons,prod,List.length_cons]
   rw [Nat.pow_succ,show a^l.length*a*(x*prod l)=a*x*(a^l.length*prod l) by
    rw [Nat.mul_comm (a^l.length) a,Nat.mul_assoc,Nat.mul_assoc,Nat.mul_left_comm (a^l.length)]]
   exact Eqm.mul (Nat.mod_mod _ _) (prod_map p a l)
theorem prod_ndvd {p:Nat} (hp:Pr p) : ∀ l:List Nat,(∀ x∈l,¬ p∣x) → ¬ p∣prod l
 | [],_,h=>by
   have:=Nat.le_of_dvd (by decide) h
   have:=hp.1
   simp [prod] at *
   omega
 | x::l,hx,h=>by
   rcases hp.dvd_mul h with h1 | h1
   · exact hx x (by simp) h1
   · exact prod_ndvd hp l (fun y hy=>hx y (by simp [hy])) h1
theorem fermat {p a:Nat} (hp:Pr p) (ha : ¬ p∣a):Eqm p (a^(p-1)) 1:=by
 have h2:=hp.1
 let L:=List.range' 1 (p-1)
 have hL : ∀ x,x∈L↔1≤x∧x<p:=by
  intro x
  simp only [L,List.mem_range'_1]
  omega
 have hnd : ∀ x∈L,¬ p∣x:=by
  intro x hx hd
  have:=(hL x).1 hx
  have:=Nat.le_of_dvd (by omega) hd
  omega
 have hlen:L.length=p-1:=by simp [L]
 have h1:prod (L.map fun x=>a*x%p)=prod L:=by
  refine prod_same _ _ ?_ ?_ (by simp)
  ·refine List.pairwise_map.2 (List.Pairwise.imp_of_mem ?_ (List.nodup_range' (s:=1) (n:=p-1)))
   intro x y hx hy hne he
   apply hne
   have:=Eqm.cancel hp ha (a:=x) (b:=y) he
   unfold Eqm at this
   rw [Nat.mod_eq_of_lt ((hL x).1 hx).2,Nat.mod_eq_of_lt ((hL y).1 hy).2] at this
   exact this
  ·intro y hy
   obtain ⟨x,hx,rfl⟩:=List.mem_map.1 hy
   refine (hL _).2 ⟨?_,Nat.mod_lt _ hp.pos⟩
   rcases Nat.eq_zero_or_pos (a*x%p) with h0 | h0
   ·rcases hp.dvd_mul (Nat.dvd_of_mod_eq_zero h0) with h3 | h3
    · exact absurd h3 ha
    · exact absurd h3 (hnd x hx)
   · exact h0
 have h3:=prod_map p a L
 rw [h1,hlen] at h3
 refine Eqm.cancel hp (prod_ndvd hp L hnd) ?_
 rw [Nat.mul_comm,Nat.mul_one]
 exact h3.symm
theorem eqm_gcd {p b:Nat} : ∀ m n:Nat,Eqm p (b^m) 1→Eqm p (b^n) 1→Eqm p (b^Nat.gcd m n) 1:=by
 intro m n
 induction m,n using Nat.gcd.induction with
 | H0 n=>intro _ h; rwa [Nat.gcd_zero_left]
 | H1 m n hm ih =>
   intro h1 h2
   rw [Nat.gcd_rec]
   refine ih ?_ h1
   have h3:Eqm p (b^(m*(n / m)+n%m)) 1:=by rwa [Nat.div_add_mod]
   rw [Nat.pow_add,Nat.pow_mul] at h3
   have h4:Eqm p ((b^m)^(n / m)*b^(n%m)) (1*b^(n%m)):=by
    refine Eqm.mul ?_ (Eqm.refl _ _)
    have:=Eqm.pow h1 (n / m)
    rwa [Nat.one_pow] at this
   rw [Nat.one_mul] at h4
   exact h4.symm.trans h3
theorem has_prime : ∀ n:Nat,2≤n → ∃ p,Pr p∧p∣n:=by
 intro n
 induction n using Nat.strongRecOn with
 | _ n ih =>
   intro hn
   by_cases h:Pr n
   · exact ⟨n,h,Nat.dvd_refl n⟩
   ·have : ∃ a,a∣n∧a≠1∧a≠n:=by
     refine Classical.byContradiction fun hc=>h ⟨hn,fun a ha => ?_⟩
     by_cases h1:a=1
     · exact .inl h1
     ·by_cases h2:a=n
      · exact .inr h2
      · exact absurd ⟨a,ha,h1,h2⟩ hc
    obtain ⟨a,ha,h1,h2⟩:=this
    have hle:=Nat.le_of_dvd (by omega) ha
    have h0:a≠0:=fun e=>by rw [e] at ha; have:=Nat.eq_zero_of_zero_dvd ha; omega
    obtain ⟨p,hp,hd⟩:=ih a (by omega) (by omega)
    exact ⟨p,hp,Nat.dvd_trans hd ha⟩
theorem small_prime {n:Nat} (hn:2≤n) (h : ¬ Pr n) : ∃ p,Pr p∧p∣n∧p*p≤n:=by
 have : ∃ a,a∣n∧a≠1∧a≠n:=by
  refine Classical.byContradiction fun hc=>h ⟨hn,fun a ha => ?_⟩
  by_cases h1:a=1
  · exact .inl h1
  ·by_cases h2:a=n
   · exact .inr h2
   · exact absurd ⟨a,ha,h1,h2⟩ hc
 obtain ⟨a,⟨b,hb⟩,h1,h2⟩:=this
 have ha0:a≠0:=fun e=>by rw [e] at hb; omega
 have hb0:b≠0:=fun e=>by rw [e] at hb; omega
 have hb1:b≠1:=fun e=>by rw [e] at hb; omega
 rcases Nat.le_total a b with hab | hab
 ·obtain ⟨p,hp,hd⟩:=has_prime a (by omega)
  have:=Nat.le_of_dvd (by omega) hd
  exact ⟨p,hp,Nat.dvd_trans hd ⟨b,hb⟩,by rw [hb]; exact Nat.mul_le_mul this (by omega)⟩
 ·obtain ⟨p,hp,hd⟩:=has_prime b (by omega)
  have:=Nat.le_of_dvd (by omega) hd
  exact ⟨p,hp,Nat.dvd_trans hd ⟨a,by rw [hb,Nat.mul_comm]⟩,by rw [hb]; exact Nat.mul_le_mul (by omega) this⟩
theorem pock {n p q a:Nat} (hp:Pr p) (hpn:p∣n) (hq:Pr q) (hn:1<n) (hqn:q∣n-1) (h1:a^(n-1)%n=1) (h2:Nat.gcd (a^((n-1) / q)%n+(n-1)) n=1):q∣p-1:=by
 have hp2:=hp.1
 have red : ∀ b,b%n%p=b%p:=fun b=>Nat.mod_mod_of_dvd b hpn
 have e1:Eqm p (a^(n-1)) 1:=by
  unfold Eqm
  rw [← red,h1]
 have hpa : ¬ p∣a:=by
  intro hd
  obtain ⟨k,hk⟩:=hd
  have h3:p∣a^(n-1):=by
   rw [show n-1=(n-2)+1 by omega,Nat.pow_succ]
   exact Nat.dvd_trans ⟨k,hk⟩ (Nat.dvd_mul_left _ _)
  have h4:=Nat.mod_eq_zero_of_dvd h3
  unfold Eqm at e1
  rw [h4,Nat.mod_eq_of_lt (by omega)] at e1
  omega
 refine Classical.byContradiction fun hc => ?_
 obtain ⟨b,hb⟩ : ∃ b,b=a^((n-1) / q):=⟨_,rfl⟩
 have hbq:Eqm p (b^q) 1:=by
  rw [hb,← Nat.pow_mul,Nat.div_mul_cancel hqn]
  exact e1
 have hpb : ¬ p∣b:=by
  intro hd
  have h3:p∣b^q:=by
   rw [show q=(q-1)+1 by have:=hq.1; omega,Nat.pow_succ]
   exact Nat.dvd_trans hd (Nat.dvd_mul_left _ _)
  have h4:=Nat.mod_eq_zero_of_dvd h3
  unfold Eqm at hbq
  rw [h4,Nat.mod_eq_of_lt (by omega)] at hbq
  omega
 have hb1:=eqm_gcd q (p-1) hbq (fermat hp hpb)
 rw [hq.coprime hc,Nat.pow_one] at hb1
 have hd:p∣b%n+(n-1):=by
  refine Nat.dvd_of_mod_eq_zero ?_
  rw [Nat.add_mod,red]
  have:b%p=1%p:=hb1
  rw [this,← Nat.add_mod,show 1+(n-1)=n by omega]
  exact Nat.mod_eq_zero_of_dvd hpn
 rw [hb] at hd
 have:=Nat.dvd_gcd hd hpn
 rw [h2] at this
 have:=Nat.le_of_dvd (by decide) this
 omega
def pm (n:Nat):Nat→Nat→Nat→Nat
 | 0,_,_=>1%n
 | f+1,a,e=>if e%2=1 then a*pm n f (a*a%n) (e / 2)%n else pm n f (a*a%n) (e / 2)
theorem pm_eq (n:Nat) : ∀ f a e,e<2^f→pm n f a e=a^e%n
 | 0,a,e,h=>by
   have:e=0:=by simpa using h
   rw [this]; rfl
 | f+1,a,e,h=>by
   unfold pm
   rw [pm_eq n f _ _ (by rw [Nat.pow_succ] at h; omega)]
   have h2:(a*a%n)^(e / 2)%n=a^(2*(e / 2))%n:=by
    rw [← Nat.pow_mod,← Nat.pow_two,← Nat.pow_mul]
   split
   ·rename_i ho
    rw [h2,Nat.mul_mod,Nat.mod_mod,← Nat.mul_mod,Nat.mul_comm,← Nat.pow_succ,show (2*(e / 2)).succ=e by omega]
   · rw [h2,show 2*(e / 2)=e by omega]
def tri (n:Nat):Nat→Nat→Bool
 | 0,_=>true
 | f+1,k=>n%k != 0 && tri n f (k+1)
theorem tri_spec (n:Nat) : ∀ f k,tri n f k=true → ∀ j,k≤j→j<k+f → ¬ j∣n
 | 0,k,_,j,h1,h2,_=>by omega
 | f+1,k,h,j,h1,h2,hd=>by
   simp only [tri,Bool.and_eq_true,bne_iff_ne] at h
   by_cases hj:j=k
   · subst hj; exact h.1 (Nat.mod_eq_zero_of_dvd hd)
   · exact tri_spec n f (k+1) h.2 j (by omega) (by omega) hd
theorem prime_tri {n f:Nat} (hn:2≤n) (hf:n<(f+2)*(f+2)) (h:tri n f 2=true):Pr n:=by
 refine Classical.byContradiction fun hc => ?_
 obtain ⟨p,hp,hd,hl⟩:=small_prime hn hc
 by_cases hpf:p<2+f
 · exact tri_spec n f 2 h p hp.1 hpf hd
 ·have:(f+2)*(f+2)≤p*p:=Nat.mul_le_mul (by omega) (by omega)
  omega
theorem prime_pock1 {n q a f:Nat} (hn:1<n) (hf:n<2^f) (hq:Pr q) (hqn:q∣n-1) (h1:pm n f a (n-1)=1) (h2:Nat.gcd (pm n f a ((n-1) / q)+(n-1)) n=1) (hs:n<q*q):Pr n:=by
 rw [pm_eq n f a _ (by omega)] at h1
 rw [pm_eq n f a _ (Nat.lt_of_le_of_lt (Nat.div_le_self _ _) (by omega))] at h2
 refine Classical.byContradiction fun hc => ?_
 obtain ⟨p,hp,hd,hl⟩:=small_prime hn hc
 have hk:=pock hp hd hq hn hqn h1 h2
 have hp2:=hp.1
 have:=Nat.le_of_dvd (by omega) hk
 have:q*q≤p*p:=Nat.mul_le_mul (by omega) (by omega)
 omega
theorem prime_pock2 {n q r a c f:Nat} (hn:1<n) (hf:n<2^f) (hq:Pr q) (hr:Pr r) (hqr:q≠r) (hqn:q∣n-1) (hrn:r∣n-1) (h1:pm n f a (n-1)=1) (h2:Nat.gcd (pm n f a ((n-1) / q)+(n-1)) n=1)
 (h3:pm n f c (n-1)=1) (h4:Nat.gcd (pm n f c ((n-1) / r)+(n-1)) n=1) (hs:n<q*r*(q*r)):Pr n:=by
 rw [pm_eq n f a _ (by omega)] at h1
 rw [pm_eq n f a _ (Nat.lt_of_le_of_lt (Nat.div_le_self _ _) (by omega))] at h2
 rw [pm_eq n f c _ (by omega)] at h3
 rw [pm_eq n f c _ (Nat.lt_of_le_of_lt (Nat.div_le_self _ _) (by omega))] at h4
 refine Classical.byContradiction fun hc => ?_
 obtain ⟨p,hp,hd,hl⟩:=small_prime hn hc
 have hk:=pock hp hd hq hn hqn h1 h2
 have hk':=pock hp hd hr hn hrn h3 h4
 have hp2:=hp.1
 have hcop:Nat.Coprime q r:=hq.coprime fun hd=>by
  rcases hr.2 q hd with h | h
  · have:=hq.1; omega
  · exact hqr h
 have:=Nat.le_of_dvd (by omega) (hcop.mul_dvd_of_dvd_of_dvd hk hk')
 have:q*r*(q*r)≤p*p:=Nat.mul_le_mul (by omega) (by omega)
 omega
theorem pr_r2:Pr 1923133:=prime_tri (f:=1385) (by decide) (by decide) (by decide +kernel)
theorem pr_r3:Pr 75707:=prime_tri (f:=274) (by decide) (by decide) (by decide +kernel)
theorem pr_q4:Pr 8574133:=prime_tri (f:=2927) (by decide) (by decide) (by decide +kernel)
theorem pr_r4:Pr 127:=prime_tri (f:=10) (by decide) (by decide) (by decide +kernel)
theorem pr_q3:Pr 1919519569386763:=prime_pock2 (q:=8574133) (r:=127) (a:=2) (c:=2) (f:=51) (by decide) (by decide +kernel) pr_q4 pr_r4 (by decide) (by decide +kernel) (by decide +kernel) (by decide +kernel) (by decide +kernel) (by decide +kernel) (by decide +kernel) (by decide +kernel)
theorem pr_q2:Pr 75445702479781427272750846543864801:=prime_pock2 (q:=1919519569386763) (r:=75707) (a:=2) (c:=2) (f:=116) (by decide) (by decide +kernel) pr_q3 pr_r3 (by decide) (by decide +kernel) (by decide +kernel) (by decide +kernel) (by decide +kernel) (by decide +kernel) (by decide +kernel) (by decide +kernel)
theorem pr_q1:Pr 74058212732561358302231226437062788676166966415465897661863160754340907:=prime_pock2 (q:=75445702479781427272750846543864801) (r:=1923133) (a:=2) (c:=2) (f:=236) (by decide) (by decide +kernel) pr_q2 pr_r2 (by decide) (by decide +kernel) (by decide +kernel) (by decide +kernel) (by decide +kernel) (by decide +kernel) (by decide +kernel) (by decide +kernel)
theorem pr_P:Pr 57896044618658097711785492504343953926634992332820282019728792003956564819949:=prime_pock1 (q:=74058212732561358302231226437062788676166966415465897661863160754340907) (a:=2) (f:=255) (by decide) (by decide +kernel) pr_q1 (by decide +kernel) (by decide +kernel) (by decide +kernel) (by decide +kernel)
end Nt
end Go.Proofs.YtfodadedkilgdaaGreatDoor
namespace Go.Proofs.YtfodadedkilgdaaGreatDoor
set_option linter.unusedVariables false
namespace Ed
structure Fl {n:Nat} [NeZero n] (d i:Fin n):Prop where
 inv : ∀ a:Fin n,a≠0 → ∃ b,a*b=1
 ns : ∀ s t:Fin n,t≠0→s*s≠d*(t*t)
 ii:i*i = -1
 two:(2:Fin n)≠0
section
variable {n:Nat} [NeZero n] {d i:Fin n}
theorem Fl.cancel (h:Fl d i) {a b c:Fin n} (ha:a≠0) (he:a*b=a*c):b=c:=by
 obtain ⟨v,hv⟩:=h.inv a ha
 have:v*(a*b)=v*(a*c):=by rw [he]
 grind
theorem Fl.ne (h:Fl d i) {a b:Fin n} (ha:a≠0) (hb:b≠0):a*b≠0:=by
 intro he
 exact hb (h.cancel ha (by rw [he]; grind))
theorem Fl.dom (h:Fl d i) {a b:Fin n} (he:a*b=0):a=0∨b=0:=by
 by_cases ha:a=0
 · exact .inl ha
 ·by_cases hb:b=0
  · exact .inr hb
  · exact absurd he (h.ne ha hb)
theorem ident {d x1 y1 x2 y2:Fin n} (h1:y1*y1-x1*x1=1+d*(x1*x1)*(y1*y1)) (h2:y2*y2-x2*x2=1+d*(x2*x2)*(y2*y2)) :
 ((y1*y2+x1*x2)*(1+d*x1*x2*y1*y2))*((y1*y2+x1*x2)*(1+d*x1*x2*y1*y2))-((x1*y2+x2*y1)*(1-d*x1*x2*y1*y2))*((x1*y2+x2*y1)*(1-d*x1*x2*y1*y2))
 = ((1-d*x1*x2*y1*y2)*(1+d*x1*x2*y1*y2))*((1-d*x1*x2*y1*y2)*(1+d*x1*x2*y1*y2))+d*((x1*y2+x2*y1)*(x1*y2+x2*y1))*((y1*y2+x1*x2)*(y1*y2+x1*x2)):=by grind
theorem ident2 {d x3 y3 l r a b:Fin n} (ha:x3*l=a) (hb:y3*r=b) (hc:(b*l)*(b*l)-(a*r)*(a*r)=(r*l)*(r*l)+d*(a*a)*(b*b)):(l*r)*(l*r)*(y3*y3-x3*x3)=(l*r)*(l*r)*(1+d*(x3*x3)*(y3*y3)):=by
 subst ha hb
 grind
def On (d x y:Fin n):Prop:=y*y-x*x=1+d*(x*x)*(y*y)
theorem Fl.whole (h:Fl d i) {x1 y1 x2 y2 ε:Fin n} (h1:On d x1 y1) (h2:On d x2 y2) (he:d*x1*x2*y1*y2=ε) (h3:ε*ε=1):False:=by
 unfold On at h1 h2
 have hii:=h.ii
 have hne:d*x1*x2*y1*y2≠0:=by
  intro hz
  have h0:(0:Fin n)=1:=by rw [he] at hz; rw [hz] at h3; grind
  exact h.two (by grind)
 have hx1:x1≠0:=fun e=>hne (by rw [e]; grind)
 have hy1:y1≠0:=fun e=>hne (by rw [e]; grind)
 have hx2:x2≠0:=fun e=>hne (by rw [e]; grind)
 have hxy:x1*y1≠0:=h.ne hx1 hy1
 have ep:(i*x1+ε*y1)*(i*x1+ε*y1)=d*((x1*y1*(i*x2+y2))*(x1*y1*(i*x2+y2))):=by grind
 have em:(i*x1-ε*y1)*(i*x1-ε*y1)=d*((x1*y1*(i*x2-y2))*(x1*y1*(i*x2-y2))):=by grind
 by_cases hp:i*x2+y2=0
 ·by_cases hm:i*x2-y2=0
  ·have hi2:(2:Fin n)*(i*x2)=0:=by grind
   have hix:i*x2=0:=(h.dom hi2).resolve_left h.two
   have hi:i=0:=(h.dom hix).resolve_right hx2
   have h01:(1:Fin n)=0:=by rw [hi] at hii; grind
   exact h.two (by grind)
  · exact h.ns _ _ (h.ne hxy hm) em
 · exact h.ns _ _ (h.ne hxy hp) ep
theorem Fl.left (h:Fl d i) {x1 y1 x2 y2:Fin n} (h1:On d x1 y1) (h2:On d x2 y2):1+d*x1*x2*y1*y2≠0:=fun e =>
 h.whole (ε := -1) h1 h2 (by grind) (by grind)
theorem Fl.right (h:Fl d i) {x1 y1 x2 y2:Fin n} (h1:On d x1 y1) (h2:On d x2 y2):1-d*x1*x2*y1*y2≠0:=fun e =>
 h.whole (ε:=1) h1 h2 (by grind) (by grind)
structure Plus (d x1 y1 x2 y2 x3 y3:Fin n):Prop where
 x:x3*(1+d*x1*x2*y1*y2)=x1*y2+x2*y1
 y:y3*(1-d*x1*x2*y1*y2)=y1*y2+x1*x2
theorem Fl.on (h:Fl d i) {x1 y1 x2 y2 x3 y3:Fin n} (h1:On d x1 y1) (h2:On d x2 y2) (hp:Plus d x1 y1 x2 y2 x3 y3):On d x3 y3:=by
 have hl:=h.left h1 h2
 have hr:=h.right h1 h2
 have hk:=h.ne (h.ne hl hr) (h.ne hl hr)
 obtain ⟨px,py⟩:=hp
 exact h.cancel hk (ident2 px py (ident h1 h2))
end
end Ed
end Go.Proofs.YtfodadedkilgdaaGreatDoor
namespace Go.Proofs.YtfodadedkilgdaaGreatDoor
set_option linter.unusedVariables false
namespace Ed
open Nt
def fpow {p:Nat} [NeZero p] (a:Fin p) (e:Nat):Fin p:=⟨a.val^e%p,Nat.mod_lt _ (Nat.pos_of_ne_zero (NeZero.ne p))⟩
theorem fin_dvd {p:Nat} [NeZero p] {a:Fin p} (ha:a≠0) : ¬ p∣a.val:=by
 intro hd
 rcases Nat.eq_zero_or_pos a.val with h | h
 · exact ha (Fin.ext (by simpa using h))
 ·have:=Nat.le_of_dvd h hd
  have:=a.isLt
  omega
theorem inv_fpow {p:Nat} [NeZero p] (hp:Pr p) {a:Fin p} (ha:a≠0):a*fpow a (p-2)=1:=by
 have h2:=hp.1
 apply Fin.ext
 rw [Fin.val_mul]
 show a.val*(a.val^(p-2)%p)%p=_
 have h:=fermat hp (fin_dvd ha)
 unfold Eqm at h
 rw [Nat.mul_mod,Nat.mod_mod,← Nat.mul_mod,Nat.mul_comm,← Nat.pow_succ,show (p-2).succ=p-1 by omega,h]
 rfl
theorem no_root {p:Nat} [NeZero p] (hp:Pr p) (hodd:2*((p-1) / 2)=p-1) {d:Fin p} (hd:d.val^((p-1) / 2)%p=p-1) (hp3:2<p) (s t:Fin p) (ht:t≠0):s*s≠d*(t*t):=by
 intro he
 have h1:Eqm p (s.val*s.val) (d.val*(t.val*t.val)):=by
  have:=congrArg Fin.val he
  rw [Fin.val_mul,Fin.val_mul,Fin.val_mul] at this
  unfold Eqm
  rw [this,Nat.mul_mod,Nat.mod_mod,← Nat.mul_mod]
 have hd0 : ¬ p∣d.val:=by
  intro h
  have h3:p∣d.val^((p-1) / 2):=by
   rw [show (p-1) / 2=((p-1) / 2-1)+1 by omega,Nat.pow_succ]
   exact Nat.dvd_trans h (Nat.dvd_mul_left _ _)
  have:=Nat.mod_eq_zero_of_dvd h3
  omega
 have hs : ¬ p∣s.val:=by
  intro h
  have h3:p∣d.val*(t.val*t.val):=by
   refine Nat.dvd_of_mod_eq_zero ?_
   have h4:s.val*s.val%p=0:=Nat.mod_eq_zero_of_dvd (Nat.dvd_trans h (Nat.dvd_mul_left _ _))
   unfold Eqm at h1
   rw [← h1,h4]
  rcases hp.dvd_mul h3 with h4 | h4
  · exact hd0 h4
  · rcases hp.dvd_mul h4 with h5 | h5 <;> exact fin_dvd ht h5
 have h2:=Eqm.pow h1 ((p-1) / 2)
 rw [Nat.mul_pow,Nat.mul_pow,← Nat.pow_add,Nat.mul_pow,← Nat.pow_add,show (p-1) / 2+(p-1) / 2=p-1 by omega] at h2
 have h3:=(fermat hp hs).symm.trans (h2.trans (Eqm.mul (Eqm.refl p (d.val^((p-1) / 2))) (fermat hp (fin_dvd ht))))
 unfold Eqm at h3
 rw [Nat.mul_one,hd,Nat.mod_eq_of_lt (by omega)] at h3
 omega
abbrev FP:Type:=Fin Fld.P
instance:NeZero Fld.P:=⟨by decide⟩
theorem prP:Pr Fld.P:=pr_P
def dC:FP:=⟨37095705934669439343138083508754565189542113879843219016388785533085940283555,by decide⟩
def iC:FP:=⟨19681161376707505956807079304988542015446066515923890162744021073123829784752,by decide⟩
theorem dC_half:Nt.pm Fld.P 255 37095705934669439343138083508754565189542113879843219016388785533085940283555 ((Fld.P-1) / 2)=Fld.P-1:=by decide +kernel
theorem fl:Fl dC iC where
 inv:=fun a ha=>⟨_,inv_fpow prP ha⟩
 ns:=no_root prP (by decide) (by rw [← pm_eq Fld.P 255 _ _ (by decide)]; exact dC_half) (by decide)
 ii:=by apply Fin.ext; decide +kernel
 two:=by decide
end Ed
end Go.Proofs.YtfodadedkilgdaaGreatDoor
namespace Go.Proofs.YtfodadedkilgdaaGreatDoor
namespace R5
def lims (n:Nat):Nat→List Nat
 | 0 => []
 | k+1=>n%65536::lims (n / 65536) k
theorem lims_length (k:Nat) : ∀ n,(lims n k).length=k:=by
 induction k with
 | zero=>intro n; rfl
 | succ k ih=>intro n; simp [lims,ih]
end R5
end Go.Proofs.YtfodadedkilgdaaGreatDoor
namespace Go.Proofs.YtfodadedkilgdaaGreatDoor
open Go.RowKit
namespace Un
open Ab
open Ed (FP)
inductive U where
 | bo (b:Bool)
 | iv (n:Int)
 | i8 (n:UInt8)
 | i4 (n:Int)
 | fp (x:FP)
 | sc (n:Nat)
 | nm (x:FP)
 | nl (n:Nat)
 | st (l:List UInt8)
 | v (x : {x:Value // x.oneCell'=true})
 | bs (n:Nat) (l : {l:List UInt8 // l.length=n})
 | ar (n:Nat) (C : {C:Array Value // C.all (·.oneCell')=true∧C.size=n})
 | sn (n:Nat) (l : {l:List UInt8 // l.length=n})
def wL (l:List Nat):List Value:=l.map fun (x:Nat)=>Value.int .u64 (x:Int)
def rL (l:List Nat):List Value:=l.map fun x:Nat=>Value.int .i64 ((x:Nat):Int)
def cl:U→List Value
 | .bo b => [.bool b]
 | .iv n => [.int .i64 n]
 | .i8 n => [.int .u8 (n.toNat:Int)]
 | .i4 n => [.int .u64 n]
 | .fp x=>wL (Fld.words x.val 4)
 | .sc n=>wL (Fld.words n 4)
 | .nm x=>rL (R5.lims x.val 16)
 | .nl n=>rL (R5.lims n 16)
 | .st l => [.string ⟨l.toArray⟩]
 | .v x => [x.1]
 | .bs _ l=>Mem.bys l.1
 | .ar _ C=>C.1.toList
 | .sn _ l => [.string ⟨l.1.toArray⟩]
def srtU:U→Nat
 | .bo _=>0 | .iv _=>1 | .i8 _=>2 | .i4 _=>3 | .fp _=>5 | .sc _=>6 | .nm _=>7 | .nl _=>8 | .st _=>9 | .v _=>10
 | .bs n _=>2*n+11
 | .ar n _=>4*n+12
 | .sn n _=>4*n+14
def szU (s:Nat):Nat:=match s with
 | 0 | 1 | 2 | 3 | 4 | 9 | 10=>1
 | 5 | 6=>4
 | 7 | 8=>16
 | n+11=>match n%4 with
   | 1=>n / 4
   | 3=>1
   | _=>n / 2
def alU (s:Nat) (p:U→Prop):Prop:=match s with
 | 0 => ∀ b,p (.bo b)
 | 1 => ∀ n,p (.iv n)
 | 2 => ∀ n,p (.i8 n)
 | 3 => ∀ n,p (.i4 n)
 | 4=>True
 | 5 => ∀ x,p (.fp x)
 | 6 => ∀ n,p (.sc n)
 | 7 => ∀ x,p (.nm x)
 | 8 => ∀ n,p (.nl n)
 | 9 => ∀ l,p (.st l)
 | 10 => ∀ x,p (.v x)
 | n+11=>match n%4 with
   | 1 => ∀ C (h:C.all (·.oneCell')=true∧C.size=n / 4),p (.ar (n / 4) ⟨C,h⟩)
   | 3 => ∀ l (h:l.length=n / 4),p (.sn (n / 4) ⟨l,h⟩)
   | _ => ∀ l (h:l.length=n / 2),p (.bs (n / 2) ⟨l,h⟩)
def ixU (u:U) (j:Nat):U:=match u with
 | .bs _ l => .i8 (l.1.getD j 0)
 | .nm x => .iv ((R5.lims x.val 16).getD j 0:Nat)
 | _ => .bo false
def isU (s:Nat):Nat:=match s with
 | 7=>1
 | n+11=>match n%2 with
   | 0=>2
   | _=>0
 | _=>0
def ixB (s:Nat):Bool:=Nat.blt 0 (isU s)
def pkU (s:Nat):Option Nat:=match s with
 | n+11=>match n%2 with
   | 0=>some 2
   | _=>none
 | _=>none
def unB:U→UInt8
 | .i8 b=>b
 | _=>0
def padB (n:Nat) (l:List UInt8):List UInt8:=(l++List.replicate n 0).take n
theorem padB_len (n:Nat) (l:List UInt8):(padB n l).length=n:=by unfold padB; simp
def packU (s:Nat) (us:List U):U:=match s with
 | n+11=>match n%2 with
   | 0 => .bs (n / 2) ⟨padB (n / 2) (us.map unB),padB_len _ _⟩
   | _ => .bo false
 | _ => .bo false
abbrev H:Th where
 U:=U
 cl:=cl
 bo := .bo
 srt:=srtU
 sz:=szU
 al:=alU
 one u v h:=by
  cases u <;> simp only [cl,wL,rL,Mem.bys,List.mem_singleton,List.mem_map] at h
  all_goals first | (subst h; rfl) | (obtain ⟨_,_,rfl⟩:=h; rfl) | skip
  · subst h; rename_i x; exact x.2
  ·rename_i n C
   have:=C.2.1
   rw [Array.all_eq_true_iff_forall_mem] at this
   exact this v (by simpa using h)
 bo_cl _:=rfl
 bo_srt _:=rfl
 srt_bo u h:=by
  cases u <;> simp only [srtU] at h <;> first | exact ⟨_,rfl⟩ | (exfalso; omega)
 len u:=by
  cases u with
  | bs n l =>
    show (Mem.bys l.1).length=(match 2*n%4 with | 1=>2*n / 4 | 3=>1 | _=>2*n / 2)
    have e:(match 2*n%4 with | 1=>2*n / 4 | 3=>1 | _=>2*n / 2)=2*n / 2:=by
     rcases (by omega:2*n%4=0∨2*n%4=2) with h | h <;> rw [h] <;> rfl
    rw [e,show 2*n / 2=n by omega]
    simp [Mem.bys,l.2]
  | ar n C =>
    show C.1.toList.length=(match (4*n+1)%4 with | 1=>(4*n+1) / 4 | 3=>1 | _=>(4*n+1) / 2)
    rw [show (4*n+1)%4=1 by omega]
    show C.1.toList.length=(4*n+1) / 4
    rw [show (4*n+1) / 4=n by omega]
    simp [C.2.2]
  | sn n l =>
    show 1=(match (4*n+3)%4 with | 1=>(4*n+3) / 4 | 3=>1 | _=>(4*n+3) / 2)
    rw [show (4*n+3)%4=3 by omega]
    rfl
  | fp x=>simp [cl,srtU,szU,wL,Fld.words_length]
  | sc x=>simp [cl,srtU,szU,wL,Fld.words_length]
  | nm x=>simp [cl,srtU,szU,rL,R5.lims_length]
  | nl x=>simp [cl,srtU,szU,rL,R5.lims_length]
  | _=>rfl
 ix:=ixU
 isrt:=isU
 ixB:=ixB
 ix_srt u j:=by
  cases u with
  | bs n l =>
    show 2=(match 2*n%2 with | 0=>2 | _=>0)
    rw [show 2*n%2=0 by omega]; rfl
  | ar n l =>
    show 0=(match (4*n+1)%2 with | 0=>2 | _=>0)
    rw [show (4*n+1)%2=1 by omega]; rfl
  | sn n l =>
    show 0=(match (4*n+3)%2 with | 0=>2 | _=>0)
    rw [show (4*n+3)%2=1 by omega]; rfl
  | _=>rfl
 ix_cl u j v hb h:=by
  cases u with
  | bs n l =>
    have h:(l.1.map fun b=>Value.int .u8 (b.toNat:Int))[j]? = some v:=h
    rw [List.getElem?_map,Option.map_eq_some_iff] at h
    obtain ⟨b,h1,rfl⟩:=h
    show [Value.int .u8 ((l.1.getD j 0).toNat:Int)]=_
    rw [List.getD_eq_getElem?_getD,h1]
    rfl
  | nm x =>
    have h:((R5.lims x.val 16).map fun x:Nat=>Value.int .i64 ((x:Nat):Int))[j]? = some v:=h
    rw [List.getElem?_map,Option.map_eq_some_iff] at h
    obtain ⟨b,h1,rfl⟩:=h
    show [Value.int .i64 (((R5.lims x.val 16).getD j 0:Nat):Int)]=_
    rw [List.getD_eq_getElem?_getD,h1]
    rfl
  | ar n l =>
    exfalso
    have hb:Nat.blt 0 (match (4*n+1)%2 with | 0=>2 | _=>0)=true:=hb
    rw [show (4*n+1)%2=1 by omega] at hb
    cases hb
  | sn n C =>
    exfalso
    have hb:Nat.blt 0 (match (4*n+3)%2 with | 0=>2 | _=>0)=true:=hb
    rw [show (4*n+3)%2=1 by omega] at hb
    cases hb
  | _=>cases hb
 pk:=pkU
 pack:=packU
 pk_sz s e h:=by
  unfold pkU at h
  split at h
  ·split at h
   · cases h; rfl
   · cases h
  · cases h
 pack_srt s us:=by
  unfold packU pkU
  split
  ·rename_i n
   split
   ·rename_i h
    show 2*(n / 2)+11=n+11
    omega
   · rfl
  · rfl
 pack_cl s e us h hl he:=by
  unfold pkU at h
  split at h
  ·rename_i n
   split at h
   ·rename_i h2
    cases h
    have hp:packU (n+11) us = .bs (n / 2) ⟨padB (n / 2) (us.map unB),padB_len _ _⟩:=by unfold packU; simp only [h2]
    rw [hp]
    have e4:szU (n+11)=n / 2:=by
     show (match n%4 with | 1=>n / 4 | 3=>1 | _=>n / 2)=_
     rcases (by omega:n%4=0∨n%4=2) with h | h <;> rw [h] <;> rfl
    replace hl:us.length=n / 2:=hl.trans e4
    show (padB (n / 2) (us.map unB)).map (fun b=>Value.int .u8 (b.toNat:Int))=_
    unfold padB
    rw [List.take_left' (by rw [List.length_map]; exact hl)]
    clear hl hp
    induction us with
    | nil=>rfl
    | cons u us ih =>
      rw [List.map_cons,List.map_cons,List.flatMap_cons,ih (fun u hu=>he u (List.mem_cons_of_mem _ hu))]
      have:=he u (List.mem_cons_self ..)
      cases u <;> simp [srtU] at this
      all_goals first | rfl | omega
   · cases h
  · cases h
 al_ok s p h u e:=by
  subst e
  cases u with
  | bs n l =>
    obtain ⟨l,hl⟩:=l
    have e:2*n / 2=n:=by omega
    have : ∀ l (h:l.length=2*n / 2),p (.bs (2*n / 2) ⟨l,h⟩):=by
     have h:(match 2*n%4 with
      | 1 => ∀ C (h:C.all (·.oneCell')=true∧C.size=2*n / 4),p (.ar (2*n / 4) ⟨C,h⟩)
      | 3 => ∀ l (h:l.length=2*n / 4),p (.sn (2*n / 4) ⟨l,h⟩)
      | _ => ∀ l (h:l.length=2*n / 2),p (.bs (2*n / 2) ⟨l,h⟩)):=h
     revert h
     split
     · omega
     · omega
     · exact fun h=>h
    have:=this l (by rw [e]; exact hl)
    revert this
    generalize 2*n / 2=m at e
    subst e
    exact fun h=>h
  | ar n C =>
    obtain ⟨C,hC⟩:=C
    replace h:(match (4*n+1)%4 with
     | 1 => ∀ C (h:C.all (·.oneCell')=true∧C.size=(4*n+1) / 4),p (.ar ((4*n+1) / 4) ⟨C,h⟩)
     | 3 => ∀ l (h:l.length=(4*n+1) / 4),p (.sn ((4*n+1) / 4) ⟨l,h⟩)
     | _ => ∀ l (h:l.length=(4*n+1) / 2),p (.bs ((4*n+1) / 2) ⟨l,h⟩)):=h
    rw [show (4*n+1)%4=1 by omega] at h
    have e:(4*n+1) / 4=n:=by omega
    have:=h C (by rw [e]; exact hC)
    revert this
    generalize (4*n+1) / 4=m at e
    subst e
    exact fun h=>h
  | sn n l =>
    obtain ⟨l,hl⟩:=l
    replace h:(match (4*n+3)%4 with
     | 1 => ∀ C (h:C.all (·.oneCell')=true∧C.size=(4*n+3) / 4),p (.ar ((4*n+3) / 4) ⟨C,h⟩)
     | 3 => ∀ l (h:l.length=(4*n+3) / 4),p (.sn ((4*n+3) / 4) ⟨l,h⟩)
     | _ => ∀ l (h:l.length=(4*n+3) / 2),p (.bs ((4*n+3) / 2) ⟨l,h⟩)):=h
    rw [show (4*n+3)%4=3 by omega] at h
    have e:(4*n+3) / 4=n:=by omega
    have:=h l (by rw [e]; exact hl)
    revert this
    generalize (4*n+3) / 4=m at e
    subst e
    exact fun h=>h
  | _=>exact h _
end Un
end Go.Proofs.YtfodadedkilgdaaGreatDoor
