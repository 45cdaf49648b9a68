/- Walks of the search and of what it calls, part 17. -/
import Derived.Test.YtbhbainhmfjpdaaGreatDoorMp
set_option linter.unusedVariables false
set_option linter.unusedSectionVars false
set_option linter.unusedSimpArgs false
set_option maxRecDepth 100000
set_option maxHeartbeats 8000000
namespace Go.Proofs.YtbhbainhmfjpdaaGreatDoor
open Go.RowKit
abbrev On (is:List Bool) (i:Nat):Prop:=is[i]?=some true
def Ment (l:List Mm) (j:Nat):Prop:=∃m∈l,m.1.lo=(j:Int)+1∨m.1.hi=(j:Int)+1
theorem aev {is:List Bool} {i:Nat} (h:On is i):i < is.length:=(gs h).1
theorem agy {is:List Bool} {i j:Nat} (h:On is j):On (is.set i true) j:=by
 have hl:=aev h;show (is.set i true)[j]?=some true;rw[List.getElem?_set];by_cases hij:i=j
 ·subst hij;rw[if_pos rfl,if_pos hl]
 ·rw[if_neg hij];exact h
theorem yg {is:List Bool} {i:Nat} (h:i < is.length):On (is.set i true) i:=by
 show (is.set i true)[i]?=some true;rw[List.getElem?_set,if_pos rfl,if_pos h]
theorem yh {is:List Bool} {i j:Nat} (h:On (is.set i true) j):j=i∨On is j:=by
 by_cases hij:i=j
 ·exact .inl hij.symm
 ·refine .inr ?_;have h:(is.set i true)[j]?=some true:=h;rw[List.getElem?_set,if_neg hij] at h;exact h
def Ser (ls:List Lm) (one:Int→List Bool→List Bool) (k:Nat):Prop:=∀x is,is.length=ls.length→cntF is≤k→
 (one x is).length=ls.length∧cntF (one x is)≤cntF is∧(∀i,On is i→On (one x is) i)∧(∀j:Nat,j < ls.length→x=(j:Int)+1→On (one x is) j)∧
 (∀i,On (one x is) i→¬On is i→∀j,j < ls.length→Ment (atZ ls (i:Int)).proof j→On (one x is) j)∧
 (∀R:Nat→Prop,(∀i j,R i→j < ls.length→Ment (atZ ls (i:Int)).proof j→R j)→(∀i,On is i→R i)→(∀j:Nat,j < ls.length→x=(j:Int)+1→R j)→∀i,On (one x is) i→R i)
theorem a0l {ls:List Lm} {one:Int→List Bool→List Bool} {k:Nat} (h:Ser ls one k):∀(l:List Mm) (is:List Bool),is.length=ls.length→cntF is≤k→
 (addM one l is).length=ls.length∧cntF (addM one l is)≤cntF is∧(∀i,On is i→On (addM one l is) i)∧(∀j:Nat,j < ls.length→Ment l j→On (addM one l is) j)∧
 (∀i,On (addM one l is) i→¬On is i→∀j,j < ls.length→Ment (atZ ls (i:Int)).proof j→On (addM one l is) j)∧
 (∀R:Nat→Prop,(∀i j,R i→j < ls.length→Ment (atZ ls (i:Int)).proof j→R j)→(∀i,On is i→R i)→(∀j:Nat,j < ls.length→Ment l j→R j)→∀i,On (addM one l is) i→R i)
 | [],is,h1,h2=>⟨h1,nr _,fun _ h=>h,fun j _ ⟨m,hm,_⟩=>(by cases hm),fun i h1 h2=>(h2 h1).elim,fun R _ h _=>h⟩
 | m::l,is,h1,h2=>by
  obtain⟨a1,a2,a3,a4,a5,a6⟩:=h m.1.lo is h1 h2;obtain⟨b1,b2,b3,b4,b5,b6⟩:=h m.1.hi _ a1 (nt a2 h2);obtain⟨c1,c2,c3,c4,c5,c6⟩:=a0l h l _ b1 om;rw[addM];refine⟨c1,by omega,fun i hi=>c3 i (b3 i (a3 i hi)),fun j hj ⟨q,hq,he⟩=>?_,fun i hi hn j hj hm=>?_,fun R hR h0 hl=>c6 R hR (b6 R hR (a6 R hR h0 fun j hj e=>hl j hj ⟨m,mf ..,.inl e⟩) fun j hj e=>hl j hj ⟨m,mf ..,.inr e⟩) fun j hj ⟨q,hq,he⟩=>hl j hj ⟨q,List.mem_cons_of_mem _ hq,he⟩⟩
  ·rcases List.mem_cons.1 hq with rfl | hq
   ·rcases he with he | he
    ·exact c3 _ (b3 _ (a4 j hj he))
    ·exact c3 _ (b4 j hj he)
   ·exact c4 j hj ⟨q,hq,he⟩
  ·by_cases g2:On (one m.1.hi (one m.1.lo is)) i
   ·by_cases g1:On (one m.1.lo is) i
    ·exact c3 _ (b3 _ (a5 i g1 hn j hj hm))
    ·exact c3 _ (b5 i g2 g1 j hj hm)
   ·exact c5 i hi g2 j hj hm
theorem a4i {ls:List Lm}:∀k,Ser ls (oneM ls k) k
 | 0,x,is,h1,h2=>by
  refine⟨h1,nr _,fun _ h=>h,fun j hj hx=>?_,fun i h1 h2=>(h2 h1).elim,fun R _ h _=>h⟩;show is[j]?=some true;have hj':j < is.length:=by omega
  rw[ge hj'];cases hb:is[j] with
  | true=>rfl
  | false=>
   have:=zb (is:=is) (i:=j) (by rw[ge hj',hb]);omega
 | k+1,x,is,h1,h2=>by
  rw[oneM];cases hh:hitM ls x is with
  | false=>
   rw[cond_false];refine⟨h1,nr _,fun _ h=>h,fun j hj hx=>?_,fun i h1 h2=>(h2 h1).elim,fun R _ h _=>h⟩;subst hx;rw[hitM,dt om,dt om,Bool.true_and,Bool.true_and,Bool.not_eq_false',show (j:Int)+1 - 1=(j:Int) from by omega] at hh;show is[j]?=some true;rw[← hh,ah om]
  | true=>
   rw[cond_true];simp only[hitM,be,de,Bool.not_eq_true'] at hh;obtain⟨g1,g2,g3⟩:=hh;obtain⟨z,rfl⟩:∃z:Nat,x=(z:Int)+1:=⟨(x - 1).toNat,by omega⟩;rw[show (z:Int)+1 - 1=(z:Int) from by omega] at g3 ⊢;rw[show ((z:Int)).toNat=z from rfl];have hz:z < is.length:=by omega
   have h3:is[z]?=some false:=by rw[ah hz,g3]
   have h4:=zb h3;obtain⟨c1,c2,c3,c4,c5,c6⟩:=a0l (a4i k) (atZ ls (z:Int)).proof (is.set z true) (by rw[List.length_set];exact h1) om;refine⟨c1,by omega,fun i hi=>c3 i (agy hi),fun j hj e=>?_,fun i hi hn j hj hm=>?_,fun R hR h0 hx=>c6 R hR (fun i hi=>?_) fun j hj hm=>hR z j (hx z om rfl) hj hm⟩
   ·obtain rfl:z=j:=by omega
    exact c3 _ (yg hz)
   ·by_cases g:On (is.set z true) i
    ·rcases yh g with rfl | g
     ·exact c4 j hj hm
     ·exact (hn g).elim
    ·exact c5 i hi g j hj hm
   ·rcases yh hi with rfl | g
    ·exact hx i om rfl
    ·exact h0 i g
theorem ot {n i:Nat}:¬On (List.replicate n false) i:=fun h=>by
 have h:(List.replicate n false)[i]?=some true:=h;rw[List.getElem?_replicate] at h;split at h
 ·cases h
 ·cases h
theorem aba {is:List Bool} {z:Int} {i:Nat} (h:On is i):On (mk1 is z) i:=by
 unfold mk1;cases decide (0 < z)&&decide (z≤(is.length:Int)) with
 | true=>exact agy h
 | false=>exact h
theorem a6n {is:List Bool} {j:Nat} (h:j < is.length):On (mk1 is ((j:Int)+1)) j:=by
 unfold mk1;rw[dt om,dt om,show ((j:Int)+1 - 1).toNat=j from by omega];exact yg h
theorem ah0 {is:List Bool} {z:Int} {i:Nat} (h:On (mk1 is z) i):On is i∨z=(i:Int)+1∧i < is.length:=by
 unfold mk1 at h;cases hh:decide (0 < z)&&decide (z≤(is.length:Int)) with
 | true=>
  rw[hh,cond_true] at h;simp only[be,de] at hh;rcases yh h with rfl | h
  ·exact .inr ⟨by omega,by omega⟩
  ·exact .inl h
 | false=>rw[hh] at h;exact .inl h
theorem sd:∀(l:List Mm) {is:List Bool} {i:Nat},On is i→On (f9 l is) i
 | [],_,_,h=>h
 | m::l,_,_,h=>sd l (aba (aba h))
theorem ud:∀(l:List Mm) {is:List Bool} {j:Nat},j < is.length→Ment l j→On (f9 l is) j
 | [],_,_,_,⟨m,hm,_⟩=>by cases hm
 | m::l,is,j,hj,⟨q,hq,he⟩=>by
  rw[f9];rcases List.mem_cons.1 hq with rfl | hq
  ·rcases he with he | he
   ·rw[he];exact sd l (aba (a6n hj))
   ·rw[he];exact sd l (a6n (by rw[ma];exact hj))
  ·exact ud l (by rw[ma,ma];exact hj) ⟨q,hq,he⟩
theorem a1b:∀(l:List Mm) {is:List Bool} {i:Nat},On (f9 l is) i→On is i∨Ment l i∧i < is.length
 | [],_,_,h=>.inl h
 | m::l,is,i,h=>by
  rw[f9] at h;rcases a1b l h with h | ⟨⟨q,hq,he⟩,hl⟩
  ·rcases ah0 h with h | ⟨h,hl⟩
   ·rcases ah0 h with h | ⟨h,hl⟩
    ·exact .inl h
    ·exact .inr ⟨⟨m,mf ..,.inl h⟩,hl⟩
   ·exact .inr ⟨⟨m,mf ..,.inr h⟩,by rw[ma] at hl;exact hl⟩
  ·exact .inr ⟨⟨q,List.mem_cons_of_mem _ hq,he⟩,by rw[ma,ma] at hl;exact hl⟩
theorem air {is:List Bool} {i:Nat} (h:On is i):atZ is (i:Int)=true:=by
 have h1:=ah (aev h);have h:is[i]?=some true:=h;rw[h1] at h;injection h
theorem y8 (ls:List Lm):∀(n:Nat) {is:List Bool} {i:Nat},On is i→On (fu ls n is) i
 | 0,_,_,h=>h
 | n+1,is,i,h=>by
  rw[fu];cases atZ (fu ls n is) (n:Int) with
  | true=>exact sd _ (y8 ls n h)
  | false=>exact y8 ls n h
theorem aab {ls:List Lm} {is:List Bool} {i n m:Nat} (hnm:n≤m) (h:On (fu ls n is) i):On (fu ls m is) i:=by
 induction m with
 | zero=>
  obtain rfl:n=0:=by omega
  exact h
 | succ m ih=>
  by_cases e:n=m+1
  ·subst e;exact h
  ·have:=ih om;rw[fu];cases atZ (fu ls m is) (m:Int) with
   | true=>exact sd _ this
   | false=>exact this
theorem ae4 {ls:List Lm} {is:List Bool} (hl:is.length=ls.length) {i j:Nat} (hi:On is i) (hj:j < ls.length) (hm:Ment (atZ ls (i:Int)).proof j):On (fu ls ls.length is) j:=by
 have h1:i+1≤ls.length:=by have:=aev hi;omega
 refine aab h1 ?_;rw[fu,air (y8 ls i hi)];exact ud _ (by rw[ii,hl];exact hj) hm
theorem aaa {ls:List Lm} {R:Nat→Prop} (hR:∀i j,R i→j < ls.length→Ment (atZ ls (i:Int)).proof j→R j):∀(n:Nat) {is:List Bool},is.length=ls.length→n≤ls.length→(∀i,On is i→R i)→∀i,On (fu ls n is) i→R i
 | 0,_,_,_,h,i,hi=>h i hi
 | n+1,is,hl,hn,h,i,hi=>by
  rw[fu] at hi;have ih:=aaa hR n hl (Nat.le_of_succ_le hn) h;cases hb:atZ (fu ls n is) (n:Int) with
  | true=>
   rw[hb] at hi;rcases a1b _ hi with h1 | ⟨h1,h2⟩
   ·exact ih i h1
   ·refine hR n i (ih n ?_) (by rw[ii] at h2;omega) h1;show (fu ls n is)[n]?=some true;rw[ah (by rw[ii];omega),hb]
  | false=>rw[hb] at hi;exact ih i hi
theorem aha:∀{is is':List Bool},is'.length=is.length→(∀i,On is i→On is' i)→is'=is∨cntF is' < cntF is
 | [],[],_,_=>.inl rfl
 | [],_::_,h,_=>by cases h
 | _::_,[],h,_=>by cases h
 | b::is,c::is',h,hm=>by
  have h1:=aha (is:=is) (is':=is') (by simpa using h) fun i hi=>hm (i+1) hi
  have h0:=hm 0;cases b<;>cases c
  ·rcases h1 with rfl | h1
   ·exact .inl rfl
   ·exact .inr (by simpa [cntF] using h1)
  ·refine .inr ?_;rcases h1 with rfl | h1
   ·simp[cntF]
   ·simp only[cntF,List.countP_cons] at h1 ⊢;simp;omega
  ·exact absurd (h0 rfl) (by simp[On])
  ·rcases h1 with rfl | h1
   ·exact .inl rfl
   ·exact .inr (by simpa [cntF] using h1)
theorem anb (is:List Bool):cntF is≤is.length:=List.countP_le_length
theorem zw {ls:List Lm} {is:List Bool} (hl:is.length=ls.length):∀m,fu ls ls.length (dp ls m is)=dp ls m is∨cntF (dp ls m is)+m≤ls.length
 | 0=>.inr (by have:=anb is;rw[dp];omega)
 | m+1=>by
  rcases zw hl m with h | h
  ·refine .inl ?_;rw[dp,h,h]
  ·have hr:=j0 ls m is;rcases aha (is:=dp ls m is) (is':=dp ls (m+1) is) (by rw[dp,ii]) (fun i hi=>by rw[dp];exact y8 _ _ hi) with e | e
   ·refine .inl ?_;rw[e,← dp,e]
   ·exact .inr om
theorem a7f (ls:List Lm) (p:List Mm):pp ls p=gj ls p:=by
 have hl0:(List.replicate ls.length false).length=ls.length:=List.length_replicate;obtain⟨a1,a2,a3,a4,a5,a6⟩:=a0l (a4i (ls:=ls) ls.length) p (List.replicate ls.length false) hl0 (by rw[wm];exact nr _);have hlm:(f9 p (List.replicate ls.length false)).length=ls.length:=by rw[jc,hl0]
 have hst:fu ls ls.length (pp ls p)=pp ls p:=by
  rcases zw hlm (ls.length+1) with h | h
  ·exact h
  ·omega
 have hul:=a2c ls p;have hml:=uc ls p;have d1:∀i,On (pp ls p) i→On (gj ls p) i:=by
  have hR:∀i j,On (gj ls p) i→j < ls.length→Ment (atZ ls (i:Int)).proof j→On (gj ls p) j:=fun i j h=>a5 i h ot j
  have:∀m i,On (dp ls m (f9 p (List.replicate ls.length false))) i→On (gj ls p) i:=fun m=>by
   induction m with
   | zero=>
    intro i hi;rcases a1b p hi with h | ⟨h1,h2⟩
    ·exact (ot h).elim
    ·exact a4 i (by rw[hl0] at h2;exact h2) h1
   | succ m ih=>
    intro i hi;exact aaa hR ls.length (by rw[j0,hlm]) (nr _) ih i hi
  exact this _
 have d2:∀i,On (gj ls p) i→On (pp ls p) i:=by
  refine a6 (On (pp ls p)) (fun i j hi hj hm=>by rw[← hst];exact ae4 hul hi hj hm) (fun i hi=>(ot hi).elim) fun j hj hm=>?_
  have:∀m,On (dp ls m (f9 p (List.replicate ls.length false))) j:=fun m=>by
   induction m with
   | zero=>exact ud p (by rw[hl0];exact hj) hm
   | succ m ih=>exact y8 _ _ ih
  exact this _
 refine List.ext_getElem? fun i=>?_
 by_cases hi:i < ls.length
 ·rw[ah (l:=pp ls p) om,ah (l:=gj ls p) om];cases h1:atZ (pp ls p) (i:Int) with
  | true=>rw[air (d1 i (by show _=_;rw[ah om,h1]))]
  | false=>
   cases h2:atZ (gj ls p) (i:Int) with
   | false=>rfl
   | true=>rw[air (d2 i (by show _=_;rw[ah om,h2]))] at h1;cases h1
 ·rw[List.getElem?_eq_none om,List.getElem?_eq_none om]
def cT:List Bool→Nat→Nat
 | b::is,i+1=>(bif b then 1 else 0)+cT is i
 | _,_=>0
theorem anh:∀{is:List Bool} {i j:Nat},i≤j→cT is i≤cT is j
 | [],_,_,_=>nr _
 | b::is,0,_,_=>nq _
 | b::is,i+1,j+1,h=>Nat.add_le_add_left (anh (is:=is) (i:=i) (j:=j) om) _
theorem aju:∀{is:List Bool} {i j:Nat},On is i→i < j→cT is i < cT is j
 | [],i,j,h,_=>by cases h
 | b::is,0,j+1,h,_=>by
  have:b=true:=by injection h
  subst this;show 0 < 1+_;omega
 | b::is,i+1,j+1,h,hj=>Nat.add_lt_add_left (aju (is:=is) (i:=i) (j:=j) h om) _
theorem a4u:∀{is:List Bool} {i n:Nat},On is i→(ph n is)[i]?=some (((n+cT is i+1:Nat)):Int)
 | [],i,n,h=>by cases h
 | b::is,0,n,h=>by
  have:b=true:=by injection h
  subst this;rfl
 | b::is,i+1,n,h=>by
  have h':On is i:=h;rw[ph];cases b with
  | true=>rw[cond_true,List.getElem?_cons_succ,a4u h'];show some _=some (((n+(1+cT is i)+1:Nat)):Int);congr 2;omega
  | false=>rw[cond_false,List.getElem?_cons_succ,a4u h'];show some _=some (((n+(0+cT is i)+1:Nat)):Int);congr 2;omega
theorem a36:∀(is:List Bool) (n:Nat),(ph n is).length=is.length
 | [],_=>rfl
 | b::is,n=>by rw[ph];cases b<;>simp[a36 is]
theorem abm {to:List Int}:∀{is:List Bool} {ls:List Lm} {i:Nat} {m:Lm},On is i→ls[i]?=some m→(eg to is ls)[cT is i]?=some (renL to m)
 | [],ls,i,m,h,_=>by cases h
 | b::is,[],i,m,_,h=>by cases h
 | b::is,a::ls,0,m,h,hm=>by
  have:b=true:=by injection h
  subst this;injection hm with hm;subst hm;rfl
 | b::is,a::ls,i+1,m,h,hm=>by
  have h':On is i:=h;have:=abm (to:=to) (is:=is) (ls:=ls) h' hm;rw[eg];cases b with
  | true=>show (renL to a::eg to is ls)[1+cT is i]?=_;rw[Nat.add_comm,List.getElem?_cons_succ];exact this
  | false=>show (eg to is ls)[0+cT is i]?=_;rw[Nat.zero_add];exact this
theorem a1i {to:List Int}:∀{is:List Bool} {ls:List Lm} {c:Nat} {m':Lm},(eg to is ls)[c]?=some m'→∃i m,On is i∧ls[i]?=some m∧m'=renL to m∧cT is i=c
 | [],ls,c,m',h=>by cases ls<;>cases h
 | b::is,[],c,m',h=>by cases h
 | b::is,a::ls,c,m',h=>by
  rw[eg] at h;cases b with
  | true=>
   cases c with
   | zero=>injection h with h;exact⟨0,a,rfl,rfl,h.symm,rfl⟩
   | succ c=>
    obtain⟨i,m,h1,h2,h3,h4⟩:=a1i (c:=c) h;exact⟨i+1,m,h1,h2,h3,by show 1+cT is i=c+1;omega⟩
  | false=>
   obtain⟨i,m,h1,h2,h3,h4⟩:=a1i (c:=c) h;exact⟨i+1,m,h1,h2,h3,by show 0+cT is i=c;omega⟩
theorem a1h {to:List Int}:∀{is:List Bool} {ls:List Lm},is.length=ls.length→(eg to is ls).length=cT is ls.length
 | [],[],_=>rfl
 | b::is,a::ls,h=>by
  rw[eg];have:=a1h (to:=to) (is:=is) (ls:=ls) (by simpa using h);cases b with
  | true=>show (eg to is ls).length+1=1+cT is ls.length;omega
  | false=>show (eg to is ls).length=0+cT is ls.length;omega
def Vr (is:List Bool) (x:Int):Prop:=x=0∨∃j:Nat,x=(j:Int)+1∧On is j
theorem a9h {is:List Bool} {j:Nat} (h:On is j):reN (ci is) ((j:Int)+1)=(cT is j:Int)+1:=by
 have hl:=aev h;unfold reN;rw[dt om,dt (by unfold ci;rw[a36];omega)];have e:((j:Int)+1 - 1)=(j:Int):=by omega
 rw[e];have:=a4u (n:=0) h;show atZ (ph 0 is) (j:Int)=_;rw[bm this];omega
theorem anv (to:List Int):reN to 0=0:=rfl
theorem a5z {is:List Bool} {x y:Int} (hx:Vr is x) (hy:Vr is y) (h:x < y):reN (ci is) x < reN (ci is) y:=by
 rcases hy with rfl | ⟨j,rfl,hj⟩
 ·rcases hx with rfl | ⟨i,rfl,hi⟩<;>omega
 ·rw[a9h hj];rcases hx with rfl | ⟨i,rfl,hi⟩
  ·rw[anv];omega
  ·rw[a9h hi];have:=aju hi (j:=j) om;omega
abbrev RwV (is:List Bool) (r:Rw):Prop:=Vr is r.lo∧Vr is r.hi
theorem a1f {is:List Bool} {ls:List Lm} {x unit:Int} {up:Bool} {i:Nat} (hl:is.length=ls.length) (hi:i≤ls.length) (hx:Vr is x) (hx2:x≤((ls.take i).length:Int)):b8 ((eg (ci is) is ls).take (cT is i)) (reN (ci is) x) unit up=b8 (ls.take i) x unit up∧(reN (ci is) x == 0)=(x == 0):=by
 rcases hx with rfl | ⟨j,rfl,hj⟩
 ·exact⟨rfl,rfl⟩
 ·have hlt:j < i:=by rw[List.length_take] at hx2;omega
  have hc:=aju hj hlt;have hk:=abm (to:=ci is) hj (ge (show j < ls.length by omega));have hkl:cT is i≤(eg (ci is) is ls).length:=by rw[a1h hl];exact anh hi
  rw[a9h hj];refine⟨?_,by rw[beq_eq_false_iff_ne.2 om,beq_eq_false_iff_ne.2 om]⟩;have e1:b8 ((eg (ci is) is ls).take (cT is i)) ((cT is j:Int)+1) unit up=b8 (eg (ci is) is ls) ((cT is j:Int)+1) unit up:=by
   conv=>rhs;rw[← List.take_append_drop (cT is i) (eg (ci is) is ls)]
   exact (ow _ (by rw[List.length_take];omega)).symm
  have e2:b8 (ls.take i) ((j:Int)+1) unit up=b8 ls ((j:Int)+1) unit up:=by
   conv=>rhs;rw[← List.take_append_drop i ls]
   exact (ow _ hx2).symm
  rw[e1,e2];unfold b8;have f1:((cT is j:Int)+1 - 1)=((cT is j:Nat):Int):=by omega
  have f2:((j:Int)+1 - 1)=(j:Int):=by omega
  rw[f1,f2,bm hk,bm (ge (show j < ls.length by omega)),df (by omega:¬((cT is j:Int)+1 < 1)),df (by omega:¬((j:Int)+1 < 1)),df om,df om];rfl
theorem Ag.red {q:Qr} {path:List Dc} {is:List Bool} {ls:List Lm} {i:Nat} {m:Mm} (hl:is.length=ls.length) (hi:i≤ls.length) (h:RwG ⟨q,path,ls.take i⟩ m.1) (hv:RwV is m.1):Ag ⟨q,path,ls.take i⟩ ⟨q,path,(eg (ci is) is ls).take (cT is i)⟩ m.1 (renM (ci is) m).1:=
 ⟨rfl,rfl,fun _=>rfl,rfl,fun _ h=>h,fun _=>rfl,rfl,rfl,(a1f (unit:=0) (up:=false) hl hi hv.1 h.lo.2).2,(a1f (unit:=0) (up:=false) hl hi hv.2 h.hi.2).2,(a1f hl hi hv.1 h.lo.2).1,(a1f hl hi hv.2 h.hi.2).1⟩
theorem af2 {is:List Bool} {a b:Mm} (ha:RwV is a.1) (hb:RwV is b.1) (h:io a.1 b.1=true):io (renM (ci is) a).1 (renM (ci is) b).1=true:=by
 rw[a1e] at h ⊢;show a.1.kind < b.1.kind∨a.1.kind=b.1.kind∧(a.1.index < b.1.index∨a.1.index=b.1.index∧(reN _ a.1.lo < reN _ b.1.lo∨reN _ a.1.lo=reN _ b.1.lo∧reN _ a.1.hi < reN _ b.1.hi));rcases h with h | ⟨h1,h | ⟨h2,h | ⟨h3,h⟩⟩⟩
 ·exact .inl h
 ·exact .inr ⟨h1,.inl h⟩
 ·exact .inr ⟨h1,.inr ⟨h2,.inl (a5z ha.1 hb.1 h)⟩⟩
 ·exact .inr ⟨h1,.inr ⟨h2,.inr ⟨by rw[h3],a5z ha.2 hb.2 h⟩⟩⟩
theorem a41 {is:List Bool} {l:List Mm} (hv:∀m∈l,RwV is m.1) (h:fh l=true):fh (l.map (renM (ci is)))=true:=by
 refine ta (i:=l.length) (fun j hj=>?_) (by simp);have hb:badM l j=false:=by
  unfold fh at h;have:=List.all_eq_true.1 h j (List.mem_range.2 hj);simpa using this
 have e:∀k:Nat,k < l.length→atZ (l.map (renM (ci is))) (k:Int)=renM (ci is) (atZ l (k:Int)):=fun k hk=>by
  rw[bm (ge hk),bm (l:=l.map (renM (ci is))) (i:=k) (a:=renM (ci is) l[k]) (by simp[hk])]
 unfold badM at hb ⊢;rw[Bool.or_eq_false_iff] at hb ⊢;rw[e j hj];refine⟨hb.1,?_⟩;rcases Nat.eq_zero_or_pos j with rfl | h0
 ·rfl
 ·have h2:=hb.2;rw[dt om,Bool.true_and,Bool.not_eq_false'] at h2 ⊢;rw[e (j - 1) om];exact af2 (hv _ (mg (ah (show j - 1 < l.length by omega)))) (hv _ (mg (ah hj))) h2
theorem abb (ls:List Lm) (p:List Mm):(∀j:Nat,j < ls.length→Ment p j→On (gj ls p) j)∧∀i,On (gj ls p) i→∀j,j < ls.length→Ment (atZ ls (i:Int)).proof j→On (gj ls p) j:=by
 obtain⟨_,_,_,a4,a5,_⟩:=a0l (a4i (ls:=ls) ls.length) p (List.replicate ls.length false) (by simp) (by rw[wm];exact nr _);exact⟨a4,fun i hi=>a5 i hi ot⟩
theorem acr {is:List Bool} {n:Nat} {x:Int} (h:0≤x∧x≤(n:Int)) (hm:∀j:Nat,j < n→x=(j:Int)+1→On is j):Vr is x:=by
 rcases Int.lt_or_eq_of_le h.1 with h0 | h0
 ·refine .inr ⟨(x - 1).toNat,by omega,hm _ om om⟩
 ·exact .inl h0.symm
theorem a2n {q:Qr} {path:List Dc} {ls:List Lm} {p:List Mm} (hf:∀d∈path,dj q d=true) (hs:LmsG ⟨q,path,ls⟩) (hc:fh p=true) (hr:∀m∈p,RwG ⟨q,path,ls⟩ m.1) (hp:dv ⟨q,path,ls⟩ q.goal p=true):bz q (du ⟨path,ls,false,p⟩)=true:=by
 obtain⟨m1,m2⟩:=abb ls p;have hl:=uc ls p;unfold du bz En.sc;simp only;generalize gj ls p=is at*;have hv:∀m∈p,RwV is m.1:=fun m hm=>⟨acr (hr m hm).lo fun j hj e=>m1 j hj ⟨m,hm,.inl e⟩,acr (hr m hm).hi fun j hj e=>m1 j hj ⟨m,hm,.inr e⟩⟩
 have tk:(eg (ci is) is ls).take (cT is ls.length)=eg (ci is) is ls:=by rw[← a1h (to:=ci is) hl,List.take_length]
 rw[be]
 constructor
 ·unfold uo;simp only;rw[be]
  constructor
  ·rw[Bool.not_eq_true',List.any_eq_false];intro d hd;rw[hf d hd];decide
  ·rw[Bool.not_eq_true',List.any_eq_false];intro c hc;obtain⟨m',hm'⟩:∃m',(eg (ci is) is ls)[c]?=some m':=⟨_,ge (List.mem_range.1 hc)⟩;obtain⟨i,m,h1,h2,rfl,rfl⟩:=a1i hm';have hi:i < ls.length:=(gs h2).1;obtain⟨g1,g2,g3⟩:=hs i m h2;have hvm:∀y∈m.proof,RwV is y.1:=fun y hy=>by
    have lo:=(g2 y hy).lo;have hi2:=(g2 y hy).hi;simp only[List.length_take,Nat.min_eq_left (Nat.le_of_lt hi)] at lo hi2;have hmm:(atZ ls (i:Int))=m:=bm h2;exact⟨acr lo fun j hj e=>m2 i h1 j om (by rw[hmm];exact⟨y,hy,.inl e⟩),acr hi2 fun j hj e=>m2 i h1 j om (by rw[hmm];exact⟨y,hy,.inr e⟩)⟩
   unfold badL;simp only;rw[bm hm'];unfold gz at g3 ⊢;simp only at g3 ⊢;rw[show (renL (ci is) m).unit=m.unit from rfl];cases hu:decide (m.unit < 0)||decide ((q.g.units.length:Int)≤m.unit) with
   | true=>rw[hu] at g3;cases g3
   | false=>
    rw[hu,cond_false] at g3;rw[cond_false];have:=Ag.proves (f:=renM (ci is)) (s':=⟨q,path,(eg (ci is) is ls).take (cT is i)⟩) (fun _=>rfl) (fun y hy _=>Ag.red hl om (g2 y hy) (hvm y hy)) (a41 hvm g1) g3;rw[show lemF q (renL (ci is) m)=lemF q m from rfl,show (renL (ci is) m).proof=m.proof.map (renM (ci is)) from rfl,this]
    decide
 ·show dv _ _ _=true;have h:=Ag.proves (f:=renM (ci is)) (s:=⟨q,path,ls.take ls.length⟩) (s':=⟨q,path,(eg (ci is) is ls).take (cT is ls.length)⟩) (l:=p) (g:=q.goal) (fun _=>rfl) (fun y hy _=>Ag.red hl (nr _) (by rw[List.take_length];exact hr y hy) (hv y hy)) (a41 hv hc) (by rw[List.take_length];exact hp);rw[tk] at h;exact h
theorem ajf (g:Gm) (rg:Rgm) (f f':Fm) (path:List Dc) (lems:List Lm) (r:Rw):bq ⟨⟨g,rg,f⟩,path,lems⟩ r=bq ⟨⟨g,rg,f'⟩,path,lems⟩ r:=rfl
theorem a97 (g:Gm) (rg:Rgm) (f f':Fm) (path:List Dc) (lems:List Lm):∀(l:List Mm) (acc:Fm),fi ⟨⟨g,rg,f⟩,path,lems⟩ l acc=fi ⟨⟨g,rg,f'⟩,path,lems⟩ l acc
 | [],acc=>rfl
 | m::l,acc=>by
  rw[fi,fi,ajf g rg f f' path lems];simp only[a97 g rg f f' path lems l]
theorem vc (g:Gm) (rg:Rgm) (f f':Fm) (path:List Dc) (lems:List Lm):∀(l:List Tm) (acc:List Mm),bt ⟨⟨g,rg,f⟩,path,lems⟩ l acc=bt ⟨⟨g,rg,f'⟩,path,lems⟩ l acc
 | [],acc=>rfl
 | t::l,acc=>by
  rw[bt,bt,show j4 ⟨⟨g,rg,f⟩,path,lems⟩ t=j4 ⟨⟨g,rg,f'⟩,path,lems⟩ t from rfl];simp only[vc g rg f f' path lems l]
theorem um (g:Gm) (rg:Rgm) (f f':Fm) (path:List Dc) (lems:List Lm) (x:Fm):bj ⟨⟨g,rg,f⟩,path,lems⟩ x=bj ⟨⟨g,rg,f'⟩,path,lems⟩ x:=by
 unfold bj sumR;rw[vc g rg f f' path lems];simp only[a97 g rg f f' path lems]
theorem ku (g:Gm) (rg:Rgm) (f f':Fm) (path:List Dc) (lems:List Lm):∀j,ak ⟨⟨g,rg,f'⟩,path,lems⟩ j=⟨⟨g,rg,f'⟩,path,(ak ⟨⟨g,rg,f⟩,path,lems⟩ j).lems⟩
 | 0=>rfl
 | j+1=>by
  have ih:=ku g rg f f' path lems j;obtain⟨q1,q2⟩:=fq ⟨⟨g,rg,f⟩,path,lems⟩ j;have e:ak ⟨⟨g,rg,f⟩,path,lems⟩ j=⟨⟨g,rg,f⟩,path,(ak ⟨⟨g,rg,f⟩,path,lems⟩ j).lems⟩:=by
   generalize ak ⟨⟨g,rg,f⟩,path,lems⟩ j=t at*;obtain⟨a,b,c⟩:=t;simp only at q1 q2;rw[q1,q2]
  show zg (ak ⟨⟨g,rg,f'⟩,path,lems⟩ j) j=⟨_,_,(zg (ak ⟨⟨g,rg,f⟩,path,lems⟩ j) j).lems⟩;rw[ih];generalize (ak ⟨⟨g,rg,f⟩,path,lems⟩ j).lems=ls at*;rw[e];unfold zg;simp only;rw[um g rg f' f path ls,um g rg f' f path ls]
theorem amg (x y:Q):(minR x y).r≤x.r∧(minR x y).r≤y.r:=by
 unfold minR;have e:(Q.add x y.neg').r=x.r - y.r:=by rw[Q.add_r,Q.neg_r];grind
 cases h:decide (isg (Q.add x y.neg').neg (Q.add x y.neg').num≤0) with
 | true=>
  have h1:¬0 < (Q.add x y.neg').r:=fun h2=>abv h2 (of_decide_eq_true h)
  rw[cond_true,ze]
  constructor<;>grind
 | false=>
  have h1:=ah2 (q:=Q.add x y.neg') (by have:=of_decide_eq_false h;show 0 < isg _ _;omega);rw[cond_false,ze]
  constructor<;>grind
theorem ug {g:Gm} {rg:Rgm} {f f':Fm} (hf:f'.Cn) (ht:f'.terms=f.terms) (hv:∀t∈f'.terms,0≤t.1∧t.1 < ((g.inputs+g.units.length:Nat):Int)):∀(k:Nat) {path:List Dc} {lems:List Lm} (root:Bool),k≤g.units.length→o7 2 3 k ⟨⟨g,rg,f'⟩,path,lems⟩→LmsG ⟨⟨g,rg,f'⟩,path,lems⟩→(∀d∈path,dj ⟨g,rg,f'⟩ d=true)→0≤(ce k ⟨⟨g,rg,f⟩,path,lems⟩ root).2.r+(f'.const.r - f.const.r)→∀x∈entR k (ce k ⟨⟨g,rg,f'⟩,path,lems⟩ root).1 path (bif root then [] else lems),bz ⟨g,rg,f'⟩ (du x)=true
 | 0,path,lems,root,_,hg,hl,hp,h0,x,hx=>by
  obtain⟨b1,b2,y,hy⟩:=mq hl g.units.length (nr _) hg;have va:=hg g.units.length (nr _);have e:=ku g rg f' f' path lems g.units.length;have e0:=ku g rg f' f path lems g.units.length;have hB:dq ⟨⟨g,rg,f'⟩,path,lems⟩=⟨⟨g,rg,f'⟩,path,(ak ⟨⟨g,rg,f'⟩,path,lems⟩ g.units.length).lems⟩:=e;have hB0:dq ⟨⟨g,rg,f⟩,path,lems⟩=⟨⟨g,rg,f⟩,path,(ak ⟨⟨g,rg,f'⟩,path,lems⟩ g.units.length).lems⟩:=e0;have hx':x=⟨path,(bif root then [] else lems)++(dq ⟨⟨g,rg,f'⟩,path,lems⟩).lems.drop (bif root then 0 else lems.length),false,(bj (dq ⟨⟨g,rg,f'⟩,path,lems⟩) f').2.1⟩:=mj hx;have h0':0≤(bj (dq ⟨⟨g,rg,f⟩,path,lems⟩) f).1.r+(f'.const.r - f.const.r):=h0;rw[e] at b1 va;rw[hB] at hx';rw[hB0,um g rg f f'] at h0';simp only at hx';generalize (ak ⟨⟨g,rg,f'⟩,path,lems⟩ g.units.length).lems=ls at*;have hls:(bif root then [] else lems)++ls.drop (bif root then 0 else lems.length)=ls:=by
   cases root with
   | true=>rfl
   | false=>rw[hy];simp
  rw[hls] at hx';have is:=zk (s:=⟨⟨g,rg,f'⟩,path,ls⟩) (f:=f') b2 fun t h=>(hv t h).2
  have hc:(bj ⟨⟨g,rg,f'⟩,path,ls⟩ f').1.r=(bj ⟨⟨g,rg,f'⟩,path,ls⟩ f).1.r+(f'.const.r - f.const.r):=by
   obtain⟨M,hM⟩:=a28 (s:=⟨⟨g,rg,f'⟩,path,ls⟩) b2 (ts:=f'.terms) (acc:=[]) fun t h=>(hv t h).2
   unfold bj;rw[← ht,hM];simp only;rw[fm,fm];grind
  generalize hA:bj ⟨⟨g,rg,f'⟩,path,ls⟩ f'=A at*;obtain⟨v,M,o⟩:=A;simp only at is hc hx';subst is;obtain⟨c1,c2,c3⟩:=qr va hf hv hA;rw[hx'];exact a2n hp b1 c1 c2 (c3 f' hf rfl (by grind))
 | k+1,path,lems,root,hk,hg,hl,hp,h0,x,hx=>by
  obtain⟨g1,g2,_⟩:=hg;have hm:(minR (ce k ⟨⟨g,rg,f⟩,path++[⟨1,(k:Int),Q.zero⟩],lems⟩ false).2 (ce k ⟨⟨g,rg,f⟩,path++[⟨2,(k:Int),Q.zero⟩],lems⟩ false).2).r=(ce (k+1) ⟨⟨g,rg,f⟩,path,lems⟩ root).2.r:=rfl;obtain⟨m1,m2⟩:=amg (ce k ⟨⟨g,rg,f⟩,path++[⟨1,(k:Int),Q.zero⟩],lems⟩ false).2 (ce k ⟨⟨g,rg,f⟩,path++[⟨2,(k:Int),Q.zero⟩],lems⟩ false).2;have hps:∀(kd:Int),kd=1∨kd=2→∀d∈path++[(⟨kd,(k:Int),Q.zero⟩:Dc)],dj ⟨g,rg,f'⟩ d=true:=fun kd hkd d hd=>by
   rcases List.mem_append.1 hd with h | h
   ·exact hp d h
   ·rw[mj h];unfold dj;simp only;rw[dt (by omega:(0:Int)≤(k:Int)),dt (by omega:(k:Int) < (g.units.length:Int))];rcases hkd with rfl | rfl<;>rfl
  have hl2:∀(kd:Int),LmsG ⟨⟨g,rg,f'⟩,path++[(⟨kd,(k:Int),Q.zero⟩:Dc)],lems⟩:=fun kd=>hl.path fun d hd=>List.mem_append_left _ hd
  have e:(bif root then ([]:List Lm) else lems)++(bif root then lems else [])=lems:=by cases root<;>simp
  have hx':x∈entR k (ce k ⟨⟨g,rg,f'⟩,path++[⟨1,(k:Int),Q.zero⟩],lems⟩ false).1 (path++[⟨1,(k:Int),Q.zero⟩]) ((bif root then ([]:List Lm) else lems)++(bif root then lems else []))++entR k (ce k ⟨⟨g,rg,f'⟩,path++[⟨2,(k:Int),Q.zero⟩],lems⟩ false).1 (path++[⟨2,(k:Int),Q.zero⟩]) ((bif root then ([]:List Lm) else lems)++(bif root then lems else [])):=hx;rw[e] at hx';rcases List.mem_append.1 hx' with h | h
  ·exact ug hf ht hv k false om g1 (hl2 1) (hps 1 (.inl rfl)) (by grind) x h
  ·exact ug hf ht hv k false om g2 (hl2 2) (hps 2 (.inr rfl)) (by grind) x h
theorem a7i (L:List Nat):∀x∈entR (kh L) (mz L) [] [],bz (bo L) (du x)=true:=by
 obtain⟨q1,q2,q3,q4,q5⟩:=kq L;obtain⟨v1,v2,v3,v4⟩:=vi L;obtain⟨t1,t2,t3⟩:=lf L;have hb:=afs v1 v2 (by rw[t1];exact q2) (by rw[t1];exact q5);have hk:kh L≤(bo L).g.units.length:=by rw[t1];exact qx L _
 have l1:LmsG (dh (bo L)):=(mq (s:=⟨bo L,[],[]⟩) (fun i m h=>by cases h) (bo L).g.units.length (nr _) hb).1;have e1:dh (bo L)=⟨bo L,[],(dh (bo L)).lems⟩:=by
  obtain⟨h1,h2⟩:=ic (bo L);generalize dh (bo L)=t at*;obtain⟨a,b,c⟩:=t;simp only at h1 h2;rw[h1,h2]
 have hvar:∀t∈(bo L).goal.terms,0≤t.1∧t.1 < (((bo L).g.inputs+(bo L).g.units.length:Nat):Int):=fun t ht=>by
  have:=v1.q.ok.each t ht;exact⟨this.1,this.2.1⟩
 have hcn:=v4.cn;have hr:0≤(ce (kh L) (dh (am L).1) true).2.r+((bo L).goal.const.r - (am L).1.goal.const.r):=by
  unfold bo;cases h:decide (sgQ (ce (ct L (am L).1.g.units.length) (dh (am L).1) true).2 < 0) with
  | true=>
   show 0≤_+((Q.add (am L).1.goal.const (ce (kh L) (dh (am L).1) true).2.neg').r - _);rw[Q.add_r,Q.neg_r];grind
  | false=>
   have h1:=ama (q:=(ce (kh L) (dh (am L).1) true).2) (of_decide_eq_false h);show 0≤_+((am L).1.goal.const.r - (am L).1.goal.const.r)
   grind
 have e2:dh (am L).1=⟨⟨(bo L).g,(bo L).rg,(am L).1.goal⟩,[],(dh (bo L)).lems⟩:=by
  have:=ku (bo L).g (bo L).rg (bo L).goal (am L).1.goal [] [] (bo L).g.units.length;have h1:(⟨(bo L).g,(bo L).rg,(am L).1.goal⟩:Qr)=(am L).1:=by rw[t1,t2]
  rw[h1] at this;show ak ⟨(am L).1,[],[]⟩ (am L).1.g.units.length=_;rw[h1,← t1];exact this
 rw[e1] at v3 l1;rw[e2] at hr;intro x hx;unfold mz at hx;rw[e1] at hx;exact ug (g:=(bo L).g) (rg:=(bo L).rg) (f:=(am L).1.goal) (f':=(bo L).goal) hcn t3 hvar (kh L) true hk v3 l1 (fun d hd=>by cases hd) hr x hx
def tmEq (x y:Tm):Bool:=x.1 == y.1&&decide (x.2=y.2)
def fmEq (x y:Fm):Bool:=eqL tmEq x.terms y.terms&&decide (x.const=y.const)
theorem ajg {x y:Fm} (h:fmEq x y=true):x=y:=by
 obtain⟨a,b⟩:=x;obtain⟨c,d⟩:=y;unfold fmEq eqL at h;simp only[be,beq_iff_eq,List.all_eq_true,List.mem_range,de] at h;obtain⟨⟨h1,h2⟩,rfl⟩:=h;have:a=c:=List.ext_getElem h1 fun i g1 g2=>by
  have h3:=h2 i g1;rw[bm (ge g1),bm (ge g2)] at h3;unfold tmEq at h3;rw[be,beq_iff_eq,de] at h3;exact Prod.ext h3.1 h3.2
 rw[this]
def kf (a b:List Fm):Nat→List Int
 | 0=>[]
 | i+1=>bif !fmEq (atZ a (i:Int)) (atZ b (i:Int)) then kf a b i++[(i:Int)] else kf a b i
theorem a3v (a b:List Fm):∀i,(kf a b i).length≤i
 | 0=>nr _
 | i+1=>by
  have:=a3v a b i;rw[kf];cases !fmEq (atZ a (i:Int)) (atZ b (i:Int))
  ·show (kf a b i).length≤i+1;omega
  ·show (kf a b i++[(i:Int)]).length≤i+1;rw[List.length_append];show _+1≤_;omega
theorem an5:ElemS Tryz.prog 71 3 1 8:=kr (by kernel_rfl)
theorem ao0 (x y:Fm) (h9:x.terms.length≤1000000):PCalls Tryz.prog [] 115 [fmP x,fmP y] (bP (fmEq x y)):=by
 refine pcA [37] Tryz.func115 (fun D=>?_);refine a2 (fun e13=>?_) (fun e13=>?_)
 ·have hn:x.terms.length≠y.terms.length:=a3k e13;exact ar (c:=(show bP false=bP (fmEq x y) from congrArg bP (by rw[fmEq,a3u hn];rfl)))
 ·have hl:x.terms.length=y.terms.length:=a3l e13;refine ac (c:=uq) ?_;refine a2 (fun e20=>?_) (fun e20=>?_)
  ·exact ar (c:=(show bP false=bP (fmEq x y) from congrArg bP (by simp_all [fmEq])))
  ·refine au ?_;refine pl (ι:={i:Nat // i≤x.terms.length∧∀j,j < i→tmEq (atZ x.terms (j:Int)) (atZ y.terms (j:Int))=true}) (fun i=>[(2,.box 2 0),(3,.box 3 0),(5,.pv (iP (i.1:Int)))]) (fun i=>[(2,.box 37 [.pv (bu x.terms),.pv (bP x.const.neg),.pv (.nat x.const.num),.pv (.nat x.const.den)]),(3,.box 37 [.pv (bu y.terms),.pv (bP y.const.neg),.pv (.nat y.const.num),.pv (.nat y.const.den)])]) [37] (fun i=>x.terms.length - i.1) ⟨0,nq _,fun j hj=>absurd hj (Nat.not_lt_zero j)⟩ (ai Y (ai Y (ai Y trivial))) (ai Y (ai Y trivial)) (fun _=>rfl) ?_;intro ⟨i,hi0,hg⟩;refine a2 (fun e25=>?_) (fun e25=>?_)
   ·have hi:i < x.terms.length:=db e25;have hib:i < y.terms.length:=hl▸hi;refine ax (c:=(aj (ah hi))) ?_;refine ax (c:=(aj (ah hib))) ?_;refine a2 (fun e41=>?_) (fun e41=>?_)
    ·exact ar (c:=(show bP false=bP (fmEq x y) from congrArg bP (by rw[fmEq,ka hi (by simp_all [tmEq])];rfl)))
    ·refine ax (c:=(aj (ah hi))) ?_;refine ax (c:=(aj (ah hib))) ?_;refine ac (c:=uq) ?_;refine a2 (fun e56=>?_) (fun e56=>?_)
     ·exact ar (c:=(show bP false=bP (fmEq x y) from congrArg bP (by rw[fmEq,ka hi (by simp_all [tmEq])];rfl)))
     ·refine aa (c:=ae (by show i≤_;omega)) ?_;refine au ?_;exact pe ⟨i+1,hi,my (p:=fun j=>tmEq (atZ x.terms (j:Int)) (atZ y.terms (j:Int))=true) hg (by simp_all [tmEq])⟩ (ai Y (ai Y (ai Y trivial))) (ai Y (ai Y trivial)) Y (by show x.terms.length - (i+1) < x.terms.length - i;omega)
   ·have hj:x.terms.length≤i:=dw e25;exact ar (c:=(show bP true=bP (fmEq x y) from congrArg bP (by rw[fmEq,a3t hl hj hg];simp_all)))
theorem xx {a b:List Fm} (hl:a.length=b.length) (h9:a.length≤100000) (ht:∀f∈a,f.terms.length≤1000000):PCalls Tryz.prog [] 58 [b7 a,b7 b] (z0 (kf a b a.length)):=by
 refine pcA [3] Tryz.func58 (fun D=>?_);refine au ?_;refine tks (t:=5) (id:=99) (e:=3) (k:=1) (ts:=[]) Y ?_;refine pl (ι:={i:Nat // i≤a.length}) (fun i=>[(0,.pv (b7 a)),(1,.pv (b7 b)),(5,.tok 99),(6,.pv (iP (i.1:Int)))]) (fun i=>[(99,.tok 3 1 [] ((kf a b i.1).map fun x=>[iP x]))]) [3] (fun i=>a.length - i.1) ⟨0,nq _⟩ (ai Y (ai Y (ai Y (ai Y trivial)))) (ai Y trivial) (fun _=>rfl) ?_;intro ⟨i,hi0⟩;refine a2 (fun e10=>?_) (fun e10=>?_)
 ·have hi:i < a.length:=db e10;refine ax (c:=(aj (ah hi))) ?_;refine ax (c:=(aj (ah (hl▸hi)))) ?_;refine ac (c:=ao0 _ _ (ht _ (mg (ah hi)))) ?_;refine a2 (fun e22=>?_) (fun e22=>?_)
  ·replace e22:=gq e22;refine pr0' (qg 2 ?_);refine rl0 Y Y Y Y Y Y Y ?_;refine rp0 an5 (by rw[List.length_map];have:=a3v a b i;simp;omega) Y Y Y Y Y Y Y Y ?_;refine aa (c:=ae (by show i≤_;omega)) ?_;refine au ?_;exact pe ⟨i+1,hi⟩ (ai Y (ai Y (ai Y (ai Y trivial)))) (ai (congrArg (fun x=>some (Res.tok 3 1 [] x)) (by show _=(kf a b (i+1)).map _;rw[kf,e22];simp)) trivial) Y (by show a.length - (i+1) < a.length - i;omega)
  ·replace e22:=i7 e22;refine aa (c:=ae (by show i≤_;omega)) ?_;refine au ?_;exact pe ⟨i+1,hi⟩ (ai Y (ai Y (ai Y (ai Y trivial)))) (ai (congrArg (fun x=>some (Res.tok 3 1 [] x)) (by show _=(kf a b (i+1)).map _;rw[kf,e22];rfl)) trivial) Y (by show a.length - (i+1) < a.length - i;omega)
 ·have hj:a.length≤i:=dw e10;exact ar (c:=congrArg z0 (show kf a b i=kf a b a.length from by rw[show i=a.length from by omega]))
theorem al4 {g h:Gm} (hg:g.Va) (hh:h.Va) (h1:g.inputs=h.inputs) (h2:g.units.length=h.units.length) (h3:g.outputs.length=h.outputs.length) (ht:∀f,f∈g.units∨f∈g.outputs→f.terms.length≤1000000):PCalls Tryz.prog [] 21 [gmP g,gmP h] (.tup [z0 (kf g.units h.units g.units.length),z0 (kf g.outputs h.outputs g.outputs.length),iP 0]):=by
 have hu9:=hg.u9;have ho9:=hg.o9;refine pcA [27] Tryz.func21 (fun D=>?_);refine ac (c:=vr hg) ?_;refine ac (c:=vr hh) ?_;refine akF (c:=by exact (show _=false from by rw[h1];simp)) ?_;refine akF (c:=by exact (show _=false from by rw[List.length_map,List.length_map,h2];simp)) ?_;refine akF (c:=by exact (show _=false from by rw[List.length_map,List.length_map,h3];simp)) ?_;refine ac (c:=xx h2 om fun f hf=>ht f (.inl hf)) ?_;refine ac (c:=xx h3 om fun f hf=>ht f (.inr hf)) ?_;exact ar (c:=rfl)
theorem lenK {α β:Type} {f:α→β} {l:List α} {k:Nat} (h:((k:Int) == ((l.map f).length:Int))=true):k=l.length:=by
 have:=eq_of_beq h;rw[List.length_map] at this;omega
theorem lenN {α β:Type} {f:α→β} {l:List α} {k:Nat} (h:((k:Int) == ((l.map f).length:Int))=false):k≠l.length:=by
 have:=beq_eq_false_iff_ne.1 h;rw[List.length_map] at this;omega
theorem amv {l:List Fm} {k:Nat} {u f:Fm}:([]++l.map fmC).set k (spl (fmC u) 0 (fmC f))=(l.set k f).map fmC:=by
 rw[List.nil_append,show spl (fmC u) 0 (fmC f)=fmC f from rfl,List.map_set]
theorem a9x {x:Sv} {L:List Nat} {q:Qr} (hl:∀y∈L,y < 256) (hn:L.length≤1000) (hok:q.g.Ok) (hg:q.goal.S 3 8):PCallsW (By x L) Tryz.prog TQ 10 [qyP q,.raw x.v] (qyP (cf q L)):=by
 have g1:=hok.i9;have g2:=hok.u9;have hF0:=Fdp.one hl hn;have k9:=qh (n:=q.g.units.length+1) om L;refine pcW [135,39,37] (by kernel_rfl) Tryz.func10 rfl rfl (fun D hF hM hH=>?_);refine au ?_;refine rsc0 (fun _ _ g=>hH.gr (g.gr hM)) (fun _=>hF) (akx hn) ?_;refine aa (c:=afu om) ?_;refine rsc0 (fun _ _ _=>trivial) (fun e=>by cases e) (ut (n:=q.g.units.length+1) hF0 om) ?_;refine a2 (fun e23=>?_) (fun e23=>?_)
 ·refine au ?_;refine rsc0 (fun _ _ _=>trivial) (fun e=>by cases e) (og (v:=q.g.inputs) (hF0.nx _) om) ?_;refine au ?_;refine rsc0 (fun _ _ _=>trivial) (fun e=>by cases e) (ra ((hF0.nx _).form _)) ?_;refine ac (c:=ig (f:=(ep q.g.inputs (nx (q.g.units.length+1) L).2).1) (jk (gw ..)) (xi (di _)) dx dx om) ?_;refine ac (c:=a2r hg ((jk (gw ..)).scaleR (xi (di _))) dx om) ?_;exact ar (c:=by rw[cf,if_pos (lenK e23)];rfl)
 ·have hk:(nx (q.g.units.length+1) L).1 < q.g.units.length:=by have:=lenN e23;omega
  refine au ?_;refine rp0 su (by rw[List.length_map];show 0+q.g.units.length≤_;omega) Y Y Y Y Y Y Y Y ?_;refine aa (c:=a23 om om) ?_;refine rsc0 (fun _ _ _=>trivial) (fun e=>by cases e) (og (v:=q.g.inputs+(nx (q.g.units.length+1) L).1) (hF0.nx _) om) ?_;refine ro0 Y Y Y (fun hd=>fv (i:=(nx (q.g.units.length+1) L).1) al Y Y Y Y Y Y dx Y (aj (ah hk)) hd) ?_;refine ro0 Y Y Y (fun hd=>a87 (i:=(nx (q.g.units.length+1) L).1) (j:=0) al Y Y Y Y Y Y Y Y (aj (ah hk)) Y (nr 4) Y Y Y) ?_;exact ar (c:=by rw[cf,if_neg (lenN e23)];exact congrArg (fun l=>PV.agg [iP q.g.inputs,.rows 37 4 [138,200] l,b7 q.g.outputs,cz q.rg.lo,cz q.rg.hi,b7 q.rg.rows,bu q.goal.terms,bP q.goal.const.neg,.nat q.goal.const.num,.nat q.goal.const.den]) amv)
theorem a8h {q:Qr} (L:List Nat) (h:q.Va 2) (hg:q.g.Ok) (hs:q.goal.S 3 8) (h8:q.g.inputs+q.g.units.length≤8):(cf q L).Va 2∧(cf q L).goal.S 100 8∧(cf q L).g.inputs+(cf q L).g.units.length≤8:=by
 have i9:=hg.i9;have u9:=hg.u9;unfold cf;split
 ·have hf:=gw q.g.inputs (nx (q.g.units.length+1) L).2;have hc:=di (ep q.g.inputs (nx (q.g.units.length+1) L).2).2;generalize (ep q.g.inputs (nx (q.g.units.length+1) L).2).1=f at*;generalize (numQ (ep q.g.inputs (nx (q.g.units.length+1) L).2).2).1=c at*;have hfS:=jk hf;have k:(Fm.scaleR f c).S (1+1) q.g.inputs:=hfS.scaleR (xi hc);have a:=hs.addR k;have ov:(Fm.addR q.goal (Fm.scaleR f c)).Ok (q.g.inputs+q.g.units.length):=a.cn.ok (a7c (P:=fun v=>0≤v∧v < ((q.g.inputs+q.g.units.length:Nat):Int)) hs.cn k.cn (fun t ht=>⟨(h.ok.each t ht).1,(h.ok.each t ht).2.1⟩) (js (P:=fun v=>0≤v∧v < ((q.g.inputs+q.g.units.length:Nat):Int)) hfS.cn fun t ht=>⟨(hf.ok.each t ht).1,by have:=(hf.ok.each t ht).2.1;omega⟩));have each:∀t∈(Fm.addR q.goal (Fm.scaleR f c)).terms,t.2.S 100:=fun t ht=>(a.each t ht).up dx
  have const:(Fm.addR q.goal (Fm.scaleR f c)).const.S 100:=a.const.up dx;exact⟨⟨h.g,h.us,h.rg,ov,⟨a.cn,each,const,ab4 ov⟩⟩,⟨a.cn,each,const,nt (ab4 ov) h8⟩,h8⟩
 ·have hf:=gw (q.g.inputs+(nx (q.g.units.length+1) L).1) (nx (q.g.units.length+1) L).2;generalize (ep (q.g.inputs+(nx (q.g.units.length+1) L).1) (nx (q.g.units.length+1) L).2).1=f at*;generalize (nx (q.g.units.length+1) L).1=k at*;have hp:=Gm.put_ok hg hf;have hl:(q.g.put k f).units.length=q.g.units.length:=List.length_set;have hi:(q.g.put k f).inputs=q.g.inputs:=rfl;refine⟨⟨hp.va,fun x hx=>?_,h.rg,?_,?_⟩,hs.up dx (nr _),?_⟩
  ·have hx:x∈(q.g.put k f).units:=hx;obtain⟨j,hj,rfl⟩:=List.mem_iff_getElem.1 hx;have hsm:=hp.us j _ (ge hj);exact (jk hsm).up dx (by show (q.g.put k f).inputs+j≤(q.g.put k f).inputs+(q.g.put k f).units.length;omega)
  ·show q.goal.Ok ((q.g.put k f).inputs+(q.g.put k f).units.length);rw[hl,hi];exact h.ok
  ·show q.goal.S 100 ((q.g.put k f).inputs+(q.g.put k f).units.length);rw[hl,hi];exact h.goal
  ·show (q.g.put k f).inputs+(q.g.put k f).units.length≤8;rw[hl,hi];exact h8
def tt (l:List Mm) (u:Int):Bool:=l.any fun m=>decide (5≤m.1.kind)&&(m.1.index == u)
def vd (ls:List Lm) (p:List Mm) (u:Int):Bool:=tt p u||ls.any fun m=>(m.unit == u)||tt m.proof u
theorem uz (q:Qr) (L:List Nat):(cf q L).g.inputs=q.g.inputs∧(cf q L).g.units.length=q.g.units.length∧(cf q L).g.outputs=q.g.outputs∧(cf q L).rg=q.rg∧((cf q L).g=q.g∨(cf q L).goal=q.goal):=by
 unfold cf;split
 ·exact⟨rfl,rfl,rfl,rfl,.inl rfl⟩
 ·exact⟨rfl,List.length_set,rfl,rfl,.inr rfl⟩
structure Off (q p:Qr) (u:Int):Prop where
 n:p.g.inputs=q.g.inputs
 us:p.g.units.length=q.g.units.length
 rg:p.rg=q.rg
 goal:p.goal=q.goal
 at_:∀j:Int,0≤j→j < (q.g.units.length:Int)→j≠u→atZ p.g.units j=atZ q.g.units j
section
variable {q p:Qr} {u:Int} {path:List Dc} {ls:List Lm} {l:List Mm}
theorem Off.ag (h:Off q p u) (hr:tt l u=false):∀m∈l,(bq ⟨q,path,ls⟩ m.1).2=true→Ag ⟨q,path,ls⟩ ⟨p,path,ls⟩ m.1 (id m).1:=fun m hm ok=>
 have rg (h5:5≤m.1.kind):0≤m.1.index∧m.1.index < (q.g.units.length:Int):=by
  unfold bq cg at ok;rw[dt h5] at ok;cases hu:decide (m.1.index < 0)||decide ((q.g.units.length:Int)≤m.1.index) with
  | true=>simp only[hu] at ok;cases ok
  | false=>rw[Bool.or_eq_false_iff] at hu;exact⟨by have:=of_decide_eq_false hu.1;omega,by have:=of_decide_eq_false hu.2;omega⟩
 ⟨h.n,h.us,fun h5=>h.at_ _ (rg h5).1 (rg h5).2 fun e=>by
  have:=List.any_eq_false.1 hr m hm;rw[dt h5,e] at this;simp at this,h.rg,fun _ h=>h,fun _=>rfl,rfl,rfl,rfl,rfl,rfl,rfl⟩
theorem ahk {s:Sc} (h:((Go.Proofs.YtbhbainhmfjpdaaGreatDoor.sumR s l).2 != 0)=false):fh (l.map id)=true:=by
 rw[List.map_id];cases hc:fh l with
 | true=>rfl
 | false=>rw[xj hc] at h;cases h
theorem Off.sum (h:Off q p u) (hr:tt l u=false) (h2:((Go.Proofs.YtbhbainhmfjpdaaGreatDoor.sumR ⟨q,path,ls⟩ l).2 != 0)=false):Go.Proofs.YtbhbainhmfjpdaaGreatDoor.sumR ⟨p,path,ls⟩ l=Go.Proofs.YtbhbainhmfjpdaaGreatDoor.sumR ⟨q,path,ls⟩ l:=by
 have:=Ag.sumR (f:=id) (fun _=>rfl) (h.ag hr) (ahk h2) h2;rwa [List.map_id] at this
theorem Off.proves (h:Off q p u) (hr:tt l u=false) {g:Fm} (hp:dv ⟨q,path,ls⟩ g l=true):dv ⟨p,path,ls⟩ g l=true:=by
 unfold dv at hp ⊢;cases h1:(Go.Proofs.YtbhbainhmfjpdaaGreatDoor.sumR ⟨q,path,ls⟩ l).2 != 0 with
 | true=>rw[h1] at hp;cases hp
 | false=>rw[h.sum hr h1];exact hp
theorem Off.refutes (h:Off q p u) (hr:tt l u=false) (hp:ff ⟨q,path,ls⟩ l=true):ff ⟨p,path,ls⟩ l=true:=by
 unfold ff at hp ⊢;cases h1:(Go.Proofs.YtbhbainhmfjpdaaGreatDoor.sumR ⟨q,path,ls⟩ l).2 == 0 with
 | true=>rw[h.sum hr (by rw[bne,h1];rfl)];exact hp
 | false=>rw[h1] at hp;cases hp
theorem Off.lemma (h:Off q p u) {m:Lm} (hm:m.unit≠u) (hr:tt m.proof u=false) (hp:gz ⟨q,path,ls⟩ m=true):gz ⟨p,path,ls⟩ m=true:=by
 unfold gz at hp ⊢;simp only at hp ⊢;rw[h.us];cases hu:decide (m.unit < 0)||decide ((q.g.units.length:Int)≤m.unit) with
 | true=>rw[hu] at hp;cases hp
 | false=>
  rw[hu] at hp;rw[Bool.or_eq_false_iff] at hu;have e:lemF p m=lemF q m:=by
   unfold lemF;rw[h.at_ _ (by have:=of_decide_eq_false hu.1;omega) (by have:=of_decide_eq_false hu.2;omega) hm]
  rw[e];exact h.proves hr hp
theorem Off.applies (h:Off q p u) {x:En} (hx:vd x.lems x.proof u=false) (hp:bz q x=true):bz p x=true:=by
 unfold vd at hx;rw[Bool.or_eq_false_iff] at hx;obtain⟨h1,h2⟩:=hx;unfold bz En.sc at hp ⊢;rw[be] at hp ⊢;refine⟨?_,?_⟩
 ·have hs:=hp.1;unfold uo at hs ⊢;simp only at hs ⊢;rw[be,Bool.not_eq_true',Bool.not_eq_true',List.any_eq_false,List.any_eq_false] at hs ⊢;refine⟨fun d hd=>by rw[z9 h.n h.us];exact hs.1 d hd,fun i hi=>?_⟩;have hb:=hs.2 i hi;have hil:=List.mem_range.1 hi;have hm:=mg (ah hil);have h3:=List.any_eq_false.1 h2 _ hm;unfold badL at hb ⊢;simp only[Bool.not_eq_true,Bool.not_eq_false'] at hb ⊢;simp only[Bool.not_eq_true,Bool.or_eq_false_iff,beq_eq_false_iff_ne] at h3;exact h.lemma h3.1 h3.2 hb
 ·have ha:=hp.2;rw[h.goal];cases he:x.empty with
  | true=>rw[he] at ha;exact h.refutes h1 ha
  | false=>rw[he] at ha;exact h.proves h1 ha
end
theorem a78 (a b:List Fm):∀n,∀i:Nat,i < n→fmEq (atZ a (i:Int)) (atZ b (i:Int))=false→(i:Int)∈kf a b n
 | 0,i,hi,_=>by omega
 | n+1,i,hi,h=>by
  rw[kf];rcases Nat.lt_or_ge i n with g | g
  ·have:=a78 a b n i g h;cases !fmEq (atZ a (n:Int)) (atZ b (n:Int))
   ·exact this
   ·exact List.mem_append_left _ this
  ·obtain rfl:i=n:=by omega
   rw[h];exact List.mem_append_right _ (List.mem_singleton_self _)
theorem a0a {a:List Fm} (hr:∀x:Fm,fmEq x x=true):∀n,kf a a n=[]
 | 0=>rfl
 | n+1=>by rw[kf,hr,a0a hr n];rfl
theorem ac1 (x:Fm):fmEq x x=true:=by
 unfold fmEq;rw[sr (fun t=>by unfold tmEq;simp),dt rfl];rfl
theorem am4 {q:Qr} {L:List Nat} {u:Int} (h:kf q.g.units (cf q L).g.units q.g.units.length=[u]):Off q (cf q L) u:=by
 obtain⟨h1,h2,h3,h4,h5⟩:=uz q L;refine⟨h1,h2,h4,?_,fun j h0 h6 hj=>?_⟩
 ·rcases h5 with e | e
  ·rw[e,a0a ac1] at h;cases h
  ·exact e
 ·obtain⟨k,rfl⟩:=Int.eq_ofNat_of_zero_le h0;cases he:fmEq (atZ q.g.units (k:Int)) (atZ (cf q L).g.units (k:Int)) with
  | true=>exact (ajg he).symm
  | false=>
   have:=a78 q.g.units (cf q L).g.units q.g.units.length k om he;rw[h] at this;exact absurd (mj this) hj
theorem a76 {α:Type} [Inhabited α] {f:α→α→Bool} {a b:List α} (hf:∀x y,f x y=true→x=y) (h:eqL f a b=true):a=b:=by
 unfold eqL at h;simp only[be,beq_iff_eq,List.all_eq_true,List.mem_range] at h;exact List.ext_getElem h.1 fun i g1 g2=>by
  have h3:=h.2 i g1;rw[bm (ge g1),bm (ge g2)] at h3;exact hf _ _ h3
theorem ab9 {x y:Mm} (h:mmEq x y=true):x=y:=by
 unfold mmEq at h;rw[r4,be,de,de] at h;exact Prod.ext h.1 h.2
theorem ajo {x y:En} (h:enEq x y=true):x=y:=by
 obtain⟨a,b,c,d⟩:=x;obtain⟨a',b',c',d'⟩:=y;unfold enEq at h;simp only[be,beq_iff_eq] at h;obtain⟨h1,h2,h3,h4⟩:=h;have e1:=a76 (fun x y h=>by
  obtain⟨a,b,c⟩:=x;obtain⟨d,e,f⟩:=y;unfold dcEq at h;simp only[be,beq_iff_eq,de] at h;rw[h.1,h.2.1,h.2.2]) h1
 have e3:=a76 (fun x y h=>by
  obtain⟨a,b,c,d⟩:=x;obtain⟨a',b',c',d'⟩:=y;unfold lmEq at h;simp only[be,beq_iff_eq,de] at h;rw[h.1,h.2.1,h.2.2.1,a76 (fun _ _=>ab9) h.2.2.2]) h3
 rw[e1,h2,e3,a76 (fun _ _=>ab9) h4]
theorem af1 {A B:List En} {P:En→Bool} {i k:Nat} (hi:i < A.length) (hB:∀y∈B,P y=true) (h:B.drop k=(A.drop i).filter P):
  (k < B.length→enEq (atZ A (i:Int)) (atZ B (k:Int))=true→B.drop (k+1)=(A.drop (i+1)).filter P)∧((¬k < B.length∨enEq (atZ A (i:Int)) (atZ B (k:Int))=false)→P (atZ A (i:Int))=false∧B.drop k=(A.drop (i+1)).filter P):=by
 rw[List.drop_eq_getElem_cons hi,List.filter_cons,← show atZ A (i:Int)=A[i] from bm (ge hi)] at h;cases hp:P (atZ A (i:Int)) with
 | true=>
  rw[hp,if_pos rfl] at h;have hk:k < B.length:=by
   rcases Nat.lt_or_ge k B.length with g | g
   ·exact g
   ·rw[List.drop_of_length_le g] at h;cases h
  rw[List.drop_eq_getElem_cons hk] at h;injection h with h1 h2;have e:atZ B (k:Int)=atZ A (i:Int):=by rw[bm (ge hk)];exact h1
  refine⟨fun _ _=>h2,fun hn=>?_⟩;rw[e,ac6] at hn;rcases hn with hn | hn
  ·exact absurd hk hn
  ·cases hn
 | false=>
  rw[hp,if_neg dx] at h;refine⟨fun hk he=>?_,fun _=>⟨rfl,h⟩⟩;have:=hB _ (mg (ah hk));rw[← ajo he,hp] at this;cases this
def redU (is:List Bool) (x:En):En:=⟨x.path,eg (ci is) is x.lems,x.empty,x.proof.map (renM (ci is))⟩
theorem a9s {x:En} (h9:x.lems.length≤1000) (hx:EnOk x):PCalls Tryz.prog [] 43 [enP x] (enP (redU (pp x.lems x.proof) x)):=by
 have hl:(pp x.lems x.proof).length=x.lems.length:=a2c _ _;have hm:=akq (e:=x.empty) (p:=x.proof) (show x.lems.length≤100000 by omega) (nt hx.proof.len dx) (fun m hm=>nt (hx.lems m hm).proof.len dx);generalize pp x.lems x.proof=is at*;refine pcA [77,4,3,46,100] Tryz.func43 (fun D=>?_);refine ac (c:=hm) ?_;refine qg 1 ?_;refine rn Y (pr0 (qg 2 ?_));refine rmk0 (n:=(bsC is).length) 31 (by rw[List.length_map];show is.length*1≤_;omega) (a1p (by kernel_rfl)) Y Y Y Y Y Y Y Y Y Y Y ?_;refine au ?_;refine pwk ?_;refine pl (ι:={p:Nat×Nat×List Int // p.1≤is.length∧p.2.1≤p.1∧p.2.2.length=p.1∧p.2.2++ph p.2.1 (is.drop p.1)=ci is}) (fun p=>[(1,.box 1 0),(2,.box 2 0),(3,.pv (.rows 4 1 [] (bsC is))),(4,.tok 31),(5,.pv (iP (p.1.2.1:Int))),(6,.pv (iP (p.1.1:Int)))]) (fun p=>[(1,.box 77 [.pv (dcsP x.path),.pv (lmsP x.lems),.pv (iP 0),.pv (iP 0),.pv (bP false),.pv (.nat 0),.pv (.nat 0),.pv (.rows 46 9 ndT []),.pv (bP x.empty),.pv (mmsP x.proof)]),(2,.box 77 [.pv (dcsP []),.pv (lmsP []),.pv (iP 0),.pv (iP 0),.pv (bP false),.pv (.nat 0),.pv (.nat 0),.pv (.rows 46 9 ndT []),.pv (bP false),.pv (mmsP [])]),(31,.tok 3 1 [] (isC (p.1.2.2++List.replicate (is.length - p.1.1) 0)))]) [77,4,3,46,100] (fun p=>is.length - p.1.1) ⟨(0,0,[]),nq _,nr _,rfl,rfl⟩ (c6 Y Y Y Y Y Y trivial) (c2 Y Y (ai (congrArg (fun x=>some (Res.tok _ _ _ x)) (by rw[List.length_map];exact agc _)) trivial)) (fun _=>rfl) ?_;intro ⟨(i,n,done),hi0,hn,hd0,hg⟩;simp only at hi0 hn hd0 hg;refine a2 (fun e19=>?_) (fun e19=>?_)
 ·have hi:i < is.length:=by have h:(i:Int) < ((bsC is).length:Int):=of_decide_eq_true e19;rw[List.length_map] at h;omega
  refine ax (c:=(aj (ah hi))) ?_;refine a2 (fun e25=>?_) (fun e25=>?_)
  ·refine aa (c:=ae (by show n≤_;omega)) ?_;refine qg 1 ?_;refine rn Y (pr0' (qg 3 ?_));refine ro0 Y Y Y (fun hd=>fv (i:=i) al Y Y Y Y Y Y dx Y (a17 hd0 hi) hd) ?_;refine ro0 Y Y Y (fun hd=>eb (i:=i) (j:=0) al Y Y Y Y Y Y Y (a17 hd0 hi) Y Y Y Y Y) ?_;refine aa (c:=ae (by show i≤_;omega)) ?_;refine au ?_;exact pe ⟨(i+1,n+1,done++[((n+1:Nat):Int)]),hi,by show n+1≤i+1;omega,by show (done++_).length=i+1;rw[List.length_append,hd0];rfl,rp hi e25 hg⟩ (c6 Y Y Y Y Y Y trivial) (c2 Y Y (ai (congrArg (fun x=>some (Res.tok _ _ _ x)) (a6h hd0 hi)) trivial)) Y (by show is.length - (i+1) < is.length - i;omega)
  ·refine aa (c:=ae (by show i≤_;omega)) ?_;refine au ?_;exact pe ⟨(i+1,n,done++[0]),hi,by show n≤i+1;omega,by show (done++_).length=i+1;rw[List.length_append,hd0];rfl,rp hi e25 hg⟩ (c6 Y Y Y Y Y Y trivial) (c2 Y Y (ai (congrArg (fun x=>some (Res.tok _ _ _ x)) (a35 hi)) trivial)) Y (by show is.length - (i+1) < is.length - i;omega)
 ·have hj:is.length≤i:=by have h:¬(i:Int) < ((bsC is).length:Int):=of_decide_eq_false e19;rw[List.length_map] at h;omega
  have ht:=a6i hj hg;refine ac (c:=ur (to:=done++List.replicate (is.length - i) 0) (nt hx.proof.len dx) (by simp;omega)) ?_;refine au ?_;refine tkb (b:=7) (off:=0) (id:=88) (e:=100) (k:=6) (ts:=[200,98]) Y ?_;refine pl (ι:={p:Nat×List Lm // p.1≤x.lems.length∧p.2.length≤p.1∧p.2++eg (ci is) (is.drop p.1) (x.lems.drop p.1)=eg (ci is) is x.lems}) (fun p=>[(1,.box 1 0),(2,.box 2 0),(3,.pv (.rows 4 1 [] (bsC is))),(4,.tok 31),(7,.box 7 0),(8,.pv (iP (p.1.1:Int)))]) (fun p=>[(1,.box 77 [.pv (dcsP x.path),.pv (lmsP x.lems),.pv (iP 0),.pv (iP 0),.pv (bP false),.pv (.nat 0),.pv (.nat 0),.pv (.rows 46 9 ndT []),.pv (bP x.empty),.pv (mmsP x.proof)]),(2,.box 77 [.pv (dcsP []),.pv (lmsP []),.pv (iP 0),.pv (iP 0),.pv (bP false),.pv (.nat 0),.pv (.nat 0),.pv (.rows 46 9 ndT []),.pv (bP false),.pv (mmsP [])]),(31,.tok 3 1 [] (isC (ci is))),(7,.box 46 [.tok 88,.pv (iP 0),.pv (iP 0),.pv (bP false),.pv (.nat 0),.pv (.nat 0),.nil 46 9 ndT,.pv (bP x.empty),.pv (mmsP (x.proof.map (renM (ci is))))]),(88,.tok 100 6 [200,98] (p.1.2.map lmC))]) [77,4,3,46,100] (fun p=>x.lems.length - p.1.1) ⟨(0,[]),nq _,nr _,rfl⟩ (c6 Y Y Y Y Y Y trivial) (c2 Y Y (ai (congrArg (fun t=>some (Res.tok _ _ _ (isC t))) ht) (ai (congrArg (fun t=>some (Res.box _ [.tok 88,.pv (iP 0),.pv (iP 0),.pv (bP false),.pv (.nat 0),.pv (.nat 0),.nil 46 9 ndT,.pv (bP x.empty),.pv (mmsP (x.proof.map (renM t)))])) ht) (ai Y trivial)))) (fun _=>rfl) ?_;intro ⟨(i,acc),hi0,ha9,hg⟩;simp only at hi0 ha9 hg;refine a2 (fun e44=>?_) (fun e44=>?_)
  ·have hi:i < x.lems.length:=by have h:(i:Int) < ((bsC is).length:Int):=of_decide_eq_true e44;rw[List.length_map] at h;omega
   refine ax (c:=(aj (ah (show i < is.length by omega)))) ?_;refine a2 (fun e50=>?_) (fun e50=>?_)
   ·refine ax (c:=(aj (ah hi))) ?_;refine ac (c:=ur (to:=(ci is)) (nt (hx.lems _ (bi (l:=x.lems) (z:=(i:Int)) om om)).proof.len dx) (by rw[← ht];simp;omega)) ?_;refine au ?_;refine rp0 el_Lemma (by simp;omega) Y Y Y Y Y Y Y Y ?_;refine aa (c:=ae (by show i≤_;omega)) ?_;refine au ?_;exact pe ⟨(i+1,acc++[renL (ci is) (atZ x.lems (i:Int))]),hi,by show (acc++_).length≤i+1;rw[List.length_append];exact Nat.succ_le_succ ha9,sn hl hi e50 hg⟩ (c6 Y Y Y Y Y Y trivial) (c4 Y Y Y Y (ai (congrArg (fun x=>some (Res.tok _ _ _ x)) (show acc.map lmC++[lmC (renL (ci is) (atZ x.lems (i:Int)))]=(acc++[renL (ci is) (atZ x.lems (i:Int))]).map lmC from by rw[List.map_append];rfl)) trivial)) Y (by show x.lems.length - (i+1) < x.lems.length - i;omega)
   ·refine aa (c:=ae (by show i≤_;omega)) ?_;refine au ?_;exact pe ⟨(i+1,acc),hi,Nat.le_succ_of_le ha9,sn hl hi e50 hg⟩ (c6 Y Y Y Y Y Y trivial) (c5 Y Y Y Y Y trivial) Y (by show x.lems.length - (i+1) < x.lems.length - i;omega)
  ·have hj:x.lems.length≤i:=by have h:¬(i:Int) < ((bsC is).length:Int):=of_decide_eq_false e44;rw[List.length_map] at h;omega
   exact ar (c:=congrArg (fun l=>enP ⟨x.path,l,x.empty,x.proof.map (renM (ci is))⟩) (a6s hl hj hg))
theorem a0u {s:Sc} {f:Fm} {l:List Mm} {a b v:Nat} (h:s.Va a b) (hf:f.S 100 8) (hv:f.Ok v) (hv9:v≤4611686018427387904) (hl:PfOk l):PCalls Tryz.prog TF 149 [scP s,fmP f,mmsP l] (bP (dv s f l)):=by
 have hs:=hl.sum h;have hr:=hf.subR hs;refine pcA [85,37] Tryz.func149 (fun D=>?_);refine ac (c:=ahs (n:=500) h hl.each (by have:=hl.len;omega) dx (by have:=hl.len;omega)) ?_;refine a2 (fun e18=>?_) (fun e18=>?_)
 ·exact ar (c:=by (try simp only[List.length_map] at *);simp only[dv,e18,sb]<;>rfl)
 ·refine ac (c:=r_v7 (v:=4611686018427387904) (hf.fsm dx (hv.mono hv9))) ?_;refine ac (c:=mu hf hs dx dx) ?_;refine a2 (fun e30=>?_) (fun e30=>?_)
  ·refine ac (c:=iz (hr.const.sm dx)) ?_;exact ar (c:=by (try simp only[List.length_map] at *);simp only[dv,e18,e30,sb]<;>rfl)
  ·exact ar (c:=by (try simp only[List.length_map] at *);simp only[dv,e18,e30,sb]<;>rfl)
theorem a9r {s:Sc} {l:List Mm} {a b:Nat} (h:s.Va a b) (hl:PfOk l):PCalls Tryz.prog TF 148 [scP s,mmsP l] (bP (ff s l)):=by
 have hs:=hl.sum h;refine pcA [85,37] Tryz.func148 (fun D=>?_);refine ac (c:=ahs (n:=500) h hl.each (by have:=hl.len;omega) dx (by have:=hl.len;omega)) ?_;refine a2 (fun e15=>?_) (fun e15=>?_)
 ·refine a2 (fun e21=>?_) (fun e21=>?_)
  ·refine ac (c:=iz (hs.const.sm dx)) ?_;exact ar (c:=by (try simp only[List.length_map] at *);simp only[ff,e15,e21,sb]<;>rfl)
  ·exact ar (c:=by (try simp only[List.length_map] at *);simp only[ff,e15,e21,sb]<;>rfl)
 ·exact ar (c:=by (try simp only[List.length_map] at *);simp only[ff,e15,sb]<;>rfl)
theorem adr {s:Sc} {m:Lm} {a b:Nat} (h:s.Va a b) (hm:LmOk m):PCalls Tryz.prog TF 147 [scP s,lmP m] (bP (gz s m)):=by
 refine pcA [85,100,37] Tryz.func147 (fun D=>?_);refine ac (c:=r8 h.q) ?_;refine a2 (fun e15=>?_) (fun e15=>?_)
 ·exact ar (c:=by (try simp only[List.length_map] at *);simp only[gz,e15,sb]<;>rfl)
 ·have g0:=uw e15;refine a2 (fun e25=>?_) (fun e25=>?_)
  ·exact ar (c:=by (try simp only[List.length_map] at *);simp only[gz,e15,e25,sb]<;>rfl)
  ·have g1:=yu e25;obtain⟨k1,k2⟩:=abk h.q g0 g1 hm.value h.a9 h.n9;have hp:(atZ s.q.g.units m.unit).S 2 8:=(h.q.us _ (bi g0 g1)).up h.a9 h.n9;have hs:(Fm.subR (atZ s.q.g.units m.unit) (numR m.value)).S 12 8:=hp.subR (dm hm.value);refine ac (c:=nf (hm.value.sm dx) hm.value.ok) ?_;refine ay (z:=toN g0) (c:=(aj (dy g0 g1))) ?_;refine ac (c:=a2q) ?_;refine ac (c:=mu hp (dm hm.value) dx dx) ?_;refine a2 (fun e44=>?_) (fun e44=>?_)
   ·have ef:Fm.scaleR (Fm.subR (atZ s.q.g.units m.unit) (numR m.value)) Q.mone=lemF s.q m:=by unfold lemF;rw[e44];rfl
    refine ac (c:=r_of (-1) dx dx) ?_;refine ac (c:=ig (q:=Q.mone) hs ez dx dx dx) ?_;refine ac (c:=a0u (f:=Fm.scaleR (Fm.subR (atZ s.q.g.units m.unit) (numR m.value)) Q.mone) h (ef▸k1.up dx dx) (ef▸k2) (by have:=h.n9;omega) hm.proof) ?_;exact ar (c:=by rw[ef];(try simp only[List.length_map] at *);simp only[gz,e15,e25,e44,sb]<;>rfl)
   ·have ef:Fm.subR (atZ s.q.g.units m.unit) (numR m.value)=lemF s.q m:=by unfold lemF;rw[e44];rfl
    refine ac (c:=a0u (f:=Fm.subR (atZ s.q.g.units m.unit) (numR m.value)) h (ef▸k1.up dx dx) (ef▸k2) (by have:=h.n9;omega) hm.proof) ?_;exact ar (c:=by rw[ef];(try simp only[List.length_map] at *);simp only[gz,e15,e25,e44,sb]<;>rfl)
theorem al6 {q:Qr} {d:Dc} {a n:Nat} (h:q.Va a) (hd:d.at_.S n) (hn:n≤10000):PCalls Tryz.prog TU 93 [qyP q,dcP d] (bP (dj q d)):=by
 refine pcA [39,42] Tryz.func93 (fun D=>?_);refine ac (c:=r8 h) ?_;refine ac (c:=a9w hd hn) ?_;exact ar (c:=rfl)
def SV.fz (id:Nat) (p:PV):SV→SV
 | .tok i=>bif Nat.beq i id then .pv p else .tok i
 | s=>bif s.ids.contains id then .any else s
def Res.fz (id:Nat) (p:PV):Res→Res
 | .box ty cs=>.box ty (cs.map (SV.fz id p))
 | r=>r
def aoc (id:Nat) (p:PV):Option SV→Option SV
 | some s=>some (s.fz id p)
 | none=>none
def am1 (id:Nat) (p:PV):Option Res→Option Res
 | some r=>some (r.fz id p)
 | none=>none
def St.fz (st:St) (id:Nat) (p:PV):St:=⟨fun t=>aoc id p (st.slot t),fun i=>bif Nat.beq i id then none else am1 id p (st.res i),st.tys⟩
theorem SV.fz_or (id:Nat) (p:PV) (s:SV):(s=.tok id∧s.fz id p=.pv p)∨s.fz id p=.any∨(id ∉ s.ids∧s.fz id p=s):=by
 have key:(bif s.ids.contains id then SV.any else s)=.any∨(id ∉ s.ids∧(bif s.ids.contains id then SV.any else s)=s):=by
  cases h:s.ids.contains id with
  | true=>exact .inl rfl
  | false=>exact .inr ⟨fun hm=>(by rw[List.contains_iff_mem.2 hm] at h;cases h),rfl⟩
 cases s with
 | tok i=>
  cases h:Nat.beq i id with
  | true=>exact .inl ⟨(by rw[Nat.eq_of_beq_eq_true h]),by show (bif Nat.beq i id then SV.pv p else SV.tok i)=_;rw[h];rfl⟩
  | false=>exact .inr (.inr ⟨(by rw[SV.ids,List.mem_singleton];intro e;rw[e,Nat.beq_refl] at h;cases h),by show (bif Nat.beq i id then SV.pv p else SV.tok i)=_;rw[h];rfl⟩)
 | _=>exact .inr key
theorem SV.fz_ids {id:Nat} {p:PV} {s:SV} {j:Nat} (h:j∈(s.fz id p).ids):j∈s.ids∧j≠id:=by
 rcases SV.fz_or id p s with ⟨_,e⟩ | e | ⟨hn,e⟩
 ·rw[e] at h;cases h
 ·rw[e] at h;cases h
 ·rw[e] at h;exact⟨h,fun e=>hn (e▸h)⟩
theorem SV.fzL_ids {id:Nat} {p:PV} {j:Nat}:∀{cs:List SV},j∈SV.idsL (cs.map (SV.fz id p))→j∈SV.idsL cs∧j≠id
 | [],h=>by cases h
 | c::cs,h=>by
  rw[List.map_cons,SV.idsL] at h;rw[SV.idsL];rcases List.mem_append.1 h with h | h
  ·have:=SV.fz_ids h;exact⟨List.mem_append_left _ this.1,this.2⟩
  ·have:=SV.fzL_ids h;exact⟨List.mem_append_right _ this.1,this.2⟩
section
variable {C:Cx} {st:St} {a:Act} {w:World} {Q:Exit→St→Prop} {c:Code}
theorem amu {id e k:Nat} {ts:List Nat} {xs:List (List PV)} (hr:st.res id=some (.tok e k ts xs)) (h:Inv C st a w):Inv C (st.fz id (.rows e k ts xs)) a w:=by
 obtain⟨B,T,h⟩:=h;have hs:∀t s,(st.fz id (.rows e k ts xs)).slot t=some s→∃s0,st.slot t=some s0∧s=s0.fz id (.rows e k ts xs):=fun t s e=>by
  simp only[St.fz] at e;cases h0:st.slot t with
  | none=>rw[h0] at e;cases e
  | some s0=>rw[h0] at e;injection e with e;exact⟨s0,rfl,e.symm⟩
 have hre:∀i r,(st.fz id (.rows e k ts xs)).res i=some r→i≠id∧∃r0,st.res i=some r0∧r=r0.fz id (.rows e k ts xs):=fun i r e=>by
  simp only[St.fz] at e;cases hb:Nat.beq i id with
  | true=>rw[hb] at e;cases e
  | false=>
   rw[hb] at e;refine⟨fun e2=>(by rw[e2,Nat.beq_refl] at hb;cases hb),?_⟩;cases h0:st.res i with
   | none=>rw[h0] at e;cases e
   | some s0=>rw[h0] at e;injection e with e;exact⟨s0,rfl,e.symm⟩
 have dom:∀i,i≠id→(st.res i).isSome=true→((st.fz id (.rows e k ts xs)).res i).isSome=true:=fun i hn hi=>by
  simp only[St.fz];have hb:Nat.beq i id=false:=by
   cases hb:Nat.beq i id with
   | true=>exact (hn (Nat.eq_of_beq_eq_true hb)).elim
   | false=>rfl
  rw[hb];cases h0:st.res i with
  | none=>rw[h0] at hi;cases hi
  | some r=>rfl
 have blk:∀(r:Res) b x,(r.fz id (.rows e k ts xs)).blk b x=r.blk b x:=fun r b x=>by cases r<;>rfl
 have X0:∀b,Own0 C (st.fz id (.rows e k ts xs)) B T b→Own0 C st B T b∧(T id).v.ownBlock≠some b:=fun b hb=>by
  rcases hb with hb | ⟨i,r,h1,h2⟩
  ·refine⟨.inl hb,fun e=>?_⟩;have hlo:=((h.inn id _ hr).lo (show (Res.tok _ k ts xs).blk (B id) (T id)=some b from e)).1;rcases hlo with g | g
   ·exact absurd (C.old b hb) (Nat.not_lt.2 g)
   ·exact C.hM b hb g
  ·obtain⟨hn,r0,h3,rfl⟩:=hre i r h1;rw[blk] at h2;exact⟨.inr ⟨i,r0,h3,h2⟩,fun e=>hn (h.apart i r0 id _ b h3 hr h2 e)⟩
 have S:∀ts',Still w w (Own0 C st B T) (Own0 C (st.fz id (.rows e k ts xs)) B T) ts':=fun ts'=>⟨nr _,fun b cs t fr hx hh ht=>⟨rfl,fun hb=>hx (X0 b hb).1⟩⟩
 have rep:∀s v,SV.Rep w (Own0 C st B T) B T s v→SV.Rep w (Own0 C (st.fz id (.rows e k ts xs)) B T) B T (s.fz id (.rows e k ts xs)) v:=fun s v hv=>by
  rcases SV.fz_or id (.rows e k ts xs) s with ⟨rfl,e⟩ | e | ⟨hn,e⟩
  ·rw[e,SV.Rep];rw[SV.Rep] at hv;subst hv;exact a5g h hr X0
  ·rw[e,SV.Rep];trivial
  ·rw[e];exact hv.still (S _) fun _ _=>⟨rfl,rfl⟩
 have repL:∀(cs:List SV) (us:List Value),SV.RepL w (Own0 C st B T) B T cs us→SV.RepL w (Own0 C (st.fz id (.rows e k ts xs)) B T) B T (cs.map (SV.fz id (.rows e k ts xs))) us:=fun cs=>by
  induction cs with
  | nil=>intro us h;exact h
  | cons c cs ih=>
   intro us h;rw[SV.RepL] at h;obtain⟨u,us',rfl,h1,h2⟩:=h;exact SV.RepL.cons (rep c u h1) (ih us' h2)
 refine⟨B,T,h.size,h.dfr,h.gr,fun t s e=>?_,fun t s e i hi=>?_,fun i r e=>?_,fun i r e j hj=>?_,fun i r j q b e1 e2 h1 h2=>?_⟩
 ·obtain⟨s0,h1,rfl⟩:=hs t s e;exact rep s0 _ (h.slot t s0 h1)
 ·obtain⟨s0,h1,rfl⟩:=hs t s e;have:=SV.fz_ids hi;exact dom i this.2 (h.live t s0 h1 i this.1)
 ·obtain⟨hn,r0,h1,rfl⟩:=hre i r e;have hin:=h.inn i r0 h1;cases r0 with
  | box ty cells=>
   obtain⟨g1,us,g2,g3⟩:=hin;exact⟨g1,us,g2,repL _ _ g3⟩
  | tok e k ts xs=>
   obtain⟨us,g1,g2,g3,g4⟩:=hin;exact⟨us,g1,PV.RepLL.still (ts:=ts) g2 (S _) fun r hr c hc=>((g3 r hr).2 c hc).2,g3,g4⟩
 ·obtain⟨hn,r0,h1,rfl⟩:=hre i r e;cases r0 with
  | box ty cells=>
   have:=SV.fzL_ids hj;exact dom j this.2 (h.alive i _ h1 j this.1)
  | tok e k ts xs=>cases hj
 ·obtain⟨_,r0,k1,rfl⟩:=hre i r e1;obtain⟨_,q0,k2,rfl⟩:=hre j q e2;rw[blk] at h1 h2;exact h.apart i r0 j q0 b k1 k2 h1 h2
theorem pfz {e k:Nat} {ts:List Nat} {xs:List (List PV)} (id:Nat) (hr:st.res id=some (.tok e k ts xs)) (h:PW C c (st.fz id (.rows e k ts xs)) Q):PW C c st Q:=fun a w ht hi=>h a w (fun i r e=>by
 simp only[St.fz] at e;cases hb:Nat.beq i id with
 | true=>rw[hb] at e;cases e
 | false=>
  rw[hb] at e;cases h0:st.res i with
  | none=>rw[h0] at e;cases e
  | some r0=>
   rw[h0] at e;injection e with e;subst e;have:=ht i r0 h0;cases r0<;>exact this) (amu hr hi)
end
def r6 (q:Qr) (path:List Dc) (ls:List Lm) (e:Bool) (p:List Mm):Bool:=!((List.range ls.length).any (badL ⟨q,path,ls⟩))&&(bif e then ff ⟨q,path,ls⟩ p else dv ⟨q,path,ls⟩ q.goal p)
theorem uk {q:Qr} {x:En}:bz q x=(!(x.path.any fun d=>!dj q d)&&r6 q x.path x.lems x.empty x.proof):=by
 unfold bz uo r6;rw[Bool.and_assoc];rfl
theorem ahe {l:List Dc} {f:Dc→Bool} {i:Nat} (h:∀j:Nat,j < i→f (atZ l (j:Int))=false) (hi:l.length≤i):l.any f=false:=by
 rw[List.any_eq_false];intro d hd;obtain⟨j,hj,rfl⟩:=List.mem_iff_getElem.1 hd;have:=h j om;rw[bm (ge hj)] at this;rw[this];exact Bool.false_ne_true
theorem a9p:PCalls Tryz.prog [] 95 [dcP dc0,dcP dc0] (bP true):=by
 have h:=a0t dc0 dc0;rw[show dcEq dc0 dc0=true from by simp[dcEq]] at h;exact h
theorem ahv {q:Qr} {path:List Dc} {ls:List Lm} {e:Bool} {p:List Mm} {a b:Nat} (h:(⟨q,path,ls⟩:Sc).Va a b) (hl:∀m∈ls,LmOk m) (hp:PfOk p) (hg:q.goal.S 100 8):PCalls Tryz.prog TF 94 [scP ⟨q,path,[]⟩,.agg [lmsP ls,iP 0,iP 0,bP false,.nat 0,.nat 0,.rows 46 9 ndT [],bP e,mmsP p],iP 1] (.tup [bP (r6 q path ls e p),iP 0]):=by
 refine pcA [85,46,100] Tryz.func94 (fun D=>?_);refine aa (c:=cw dx dx dx dx) ?_;refine akF (c:=by exact (show _=false from rfl)) ?_;refine au ?_;refine pwk ?_;refine pl (ι:={i:Nat // i≤ls.length∧∀j,j < i→badL ⟨q,path,ls⟩ j=false}) (fun i=>[(2,.pv (iP 0)),(3,.box 3 0),(4,.box 4 0),(8,.pv (iP (i.1:Int)))]) (fun i=>[(3,.box 85 [.pv (iP q.g.inputs),.pv (b7 q.g.units),.pv (b7 q.g.outputs),.pv (cz q.rg.lo),.pv (cz q.rg.hi),.pv (b7 q.rg.rows),.pv (bu q.goal.terms),.pv (bP q.goal.const.neg),.pv (.nat q.goal.const.num),.pv (.nat q.goal.const.den),.pv (dcsP path),.pv (.rows 100 6 [200,98] ((ls.take i.1).map lmC))]),(4,.box 46 [.pv (lmsP ls),.pv (iP 0),.pv (iP 0),.pv (bP false),.pv (.nat 0),.pv (.nat 0),.pv (.rows 46 9 ndT []),.pv (bP e),.pv (mmsP p)])]) [85,46,100] (fun i=>ls.length - i.1) ⟨0,nq _,fun j hj=>by omega⟩ (ai Y (ai Y (ai Y (ai Y trivial)))) (ai Y (ai Y trivial)) (fun _=>rfl) ?_;intro ⟨i,hi0,hnb⟩;refine a2 (fun e23=>?_) (fun e23=>?_)
 ·have hi:i < ls.length:=db e23;have hm:=hl _ (mg (ah hi));refine ax (c:=(aj (ah hi))) ?_;refine ac (c:=adr (s:=⟨q,path,ls.take i⟩) (h.take i) hm) ?_;refine a2 (fun e33=>?_) (fun e33=>?_)
  ·replace e33:=gq e33;exact ar (c:=by rw[show r6 q path ls e p=false from by unfold r6;rw[a2p hi (show badL ⟨q,path,ls⟩ i=true by unfold badL;rw[e33];rfl)];try rfl])
  ·replace e33:=i7 e33;refine au ?_;refine rp0 el_Lemma (by have h9:ls.length≤1000:=h.l9;simp;omega) Y Y Y Y Y Y Y Y ?_;refine ax (c:=(aj (ah hi))) ?_;refine au ?_;refine rp0 el_Lemma (by have h9:ls.length≤1000:=h.l9;simp;omega) Y Y Y Y Y Y Y Y ?_;refine qg 2 ?_;refine rn (by kernel_rfl) ?_;refine pfz 35 Y ?_;refine aa (c:=ae (by have h9:ls.length≤1000:=h.l9;show i≤_;omega)) ?_;refine au ?_;exact pe ⟨i+1,hi,kv hnb (by unfold badL;rw[e33];rfl)⟩ (ai Y (ai Y (ai Y (ai Y trivial)))) (ai (congrArg (fun x=>some (Res.box 85 [.pv (iP q.g.inputs),.pv (b7 q.g.units),.pv (b7 q.g.outputs),.pv (cz q.rg.lo),.pv (cz q.rg.hi),.pv (b7 q.rg.rows),.pv (bu q.goal.terms),.pv (bP q.goal.const.neg),.pv (.nat q.goal.const.num),.pv (.nat q.goal.const.den),.pv (dcsP path),.pv (.rows 100 6 [200,98] x)])) (show _=(ls.take (i+1)).map lmC from by rw[List.take_add_one,ah hi,List.map_append];rfl)) (ai Y trivial)) Y (by show ls.length - (i+1) < ls.length - i;omega)
 ·have hj:ls.length≤i:=dw e23;have ht:ls.take i=ls:=List.take_of_length_le hj;refine akT (c:=by exact (show _=true from rfl)) ?_;refine ac (c:=a9p) ?_;refine a2 (fun e58=>?_) (fun e58=>?_)
  ·refine ac (c:=a9r (s:=⟨q,path,ls.take i⟩) (h.take i) hp) ?_;exact ar (c:=by rw[show r6 q path ls e p=ff ⟨q,path,ls.take i⟩ p from by unfold r6;rw[xw hnb hj,ht,e58];try rfl])
  ·refine ac (c:=a0u (s:=⟨q,path,ls.take i⟩) (h.take i) hg h.q.ok (by have:=h.n9;show q.g.inputs+q.g.units.length≤_;have:q.g.inputs+q.g.units.length≤8:=h.n9;omega) hp) ?_;exact ar (c:=by rw[show r6 q path ls e p=dv ⟨q,path,ls.take i⟩ q.goal p from by unfold r6;rw[xw hnb hj,ht,e58];try rfl])
theorem a9z {q:Qr} {x:En} {a b:Nat} (h:(x.sc q).Va a b) (hx:EnOk x) (hg:q.goal.S 100 8):PCalls Tryz.prog TF 44 [qyP q,enP x] (bP (bz q x)):=by
 refine pcA [39,77] Tryz.func44 (fun D=>?_);refine au ?_;refine pl (ι:={i:Nat // i≤x.path.length∧∀j:Nat,j < i→(!dj q (atZ x.path (j:Int)))=false}) (fun i=>[(2,.box 2 0),(3,.box 3 0),(5,.pv (iP (i.1:Int)))]) (fun _=>[(2,.box 39 [.pv (iP q.g.inputs),.pv (b7 q.g.units),.pv (b7 q.g.outputs),.pv (cz q.rg.lo),.pv (cz q.rg.hi),.pv (b7 q.rg.rows),.pv (bu q.goal.terms),.pv (bP q.goal.const.neg),.pv (.nat q.goal.const.num),.pv (.nat q.goal.const.den)]),(3,.box 77 [.pv (dcsP x.path),.pv (lmsP x.lems),.pv (iP 0),.pv (iP 0),.pv (bP false),.pv (.nat 0),.pv (.nat 0),.pv (.rows 46 9 ndT []),.pv (bP x.empty),.pv (mmsP x.proof)])]) [39,77] (fun i=>x.path.length - i.1) ⟨0,nq _,fun j hj=>by omega⟩ (ai Y (ai Y (ai Y trivial))) (ai Y (ai Y trivial)) (fun _=>rfl) ?_;intro ⟨i,hi0,hnb⟩;refine a2 (fun e12=>?_) (fun e12=>?_)
 ·have hi:i < x.path.length:=db e12;refine ax (c:=(aj (ah hi))) ?_;refine ac (c:=al6 (q:=q) (d:=atZ x.path (i:Int)) h.q (h.path _ (mg (ah hi))) (by have:=h.a9;omega)) ?_;refine a2 (fun e22=>?_) (fun e22=>?_)
  ·replace e22:=gq e22;exact ar (c:=by rw[uk,show (x.path.any fun d=>!dj q d)=true from List.any_eq_true.2 ⟨_,mg (ah hi),by rw[e22];rfl⟩];rfl)
  ·replace e22:=i7 e22;refine aa (c:=ae (by have:=h.p9;show i≤_;have:x.path.length≤1000:=h.p9;omega)) ?_;refine au ?_;exact pe ⟨i+1,hi,kv (p:=fun j:Nat=>(!dj q (atZ x.path (j:Int)))=false) hnb (by show (!dj q (atZ x.path (i:Int)))=false;rw[e22];rfl)⟩ (ai Y (ai Y (ai Y trivial))) (ai Y (ai Y trivial)) Y (by show x.path.length - (i+1) < x.path.length - i;omega)
 ·have hj:x.path.length≤i:=dw e12;refine ac (c:=ahv (q:=q) (path:=x.path) (ls:=x.lems) h hx.lems hx.proof hg) ?_;refine ac (c:=r8 h.q) ?_;refine a2 (fun e38=>?_) (fun e38=>?_)
  ·refine akT (c:=by exact (show _=true from rfl)) ?_;exact ar (c:=by rw[uk,ahe (f:=fun d=>!dj q d) hnb hj,e38];rfl)
  ·exact ar (c:=by rw[uk,ahe (f:=fun d=>!dj q d) hnb hj,e38];rfl)
section
variable {C:Cx} {o:Oper} {st:St}
theorem aeq {tab:Tab} (hT:iv C.P tab) {t n:Nat} {parts:Array (Nat×Operand)} {l:Lay} {ss:List (List SV)} {xs:List (List PV)} {ts:List Nat} (ho:o.op=.buildSlice t n parts) (hl:tab.get t=some l) (hlay:∃le,tab.get l.elem=some le∧le.zero.length=l.esz) (hs:litL st l.esz parts.toList 0=some ss) (hn:n=parts.size) (hn0:0 < n) (hco:CoLL st ss xs) (hno:aiu st (ga ss)=true) (hok:mt l.esz ts xs) (hk0:0 < l.esz) (hsm:n*l.esz≤16777216) {id:Nat} (hre:st.res id=none) (he:st.tys.contains l.elem=true) (hd:∀d,o.dst=some d→C.dk d):OpE C st.tys o st ⟨.tok id,some (id,.tok l.elem l.esz ts xs),id::ga ss,true⟩:=by
 obtain⟨hu,hsz⟩:=(Tab.get_ok hT hl).elem (Nat.ne_of_gt hk0);obtain⟨le,hle,hlz⟩:=hlay;have lke:=Tab.get_ok hT hle;refine⟨fun i r e=>by injection e with e;injection e with e1 e2;subst e1 e2;exact⟨mf ..,List.contains_iff_mem.1 he⟩,fun st1 h1 h2 _ a w ⟨B,T,hi⟩=>?_⟩;rw[← h2 id (mf ..)] at hre;have h2':∀i∈ga ss,st1.res i=st.res i:=fun i hi=>h2 i (List.mem_cons_of_mem _ hi)
 have agl:∀(ps:List (Nat×Operand)) (n:Nat),(∀p∈ps,p.2∈o.op.operands)→litL st1 l.esz ps n=litL st l.esz ps n:=fun ps=>by
  induction ps with
  | nil=>intro n _;rfl
  | cons p ps ih=>
   intro n hp;obtain⟨j,x⟩:=p;have ag:Agree o [] st st1:=⟨h1,fun i hi=>by cases hi⟩;rw[litL,litL,ag.ev (hp (j,x) (mf ..)),ih (n+1) fun q hq=>hp q (List.mem_cons_of_mem _ hq)]
 have hs':=hs;rw[← agl parts.toList 0 fun p hp=>by rw[ho];simp only[Op.operands,List.mem_toArray,List.mem_map];exact⟨p,hp,rfl⟩] at hs';obtain⟨us,g1,g2,g3,g4,g5,g6,g7⟩:=a1d hi hs';have hlen:us.length=n:=by rw[g1,g2,hn];simp
 have mv:∀(ss:List (List SV)) (xs:List (List PV)),CoLL st ss xs→(∀i∈ga ss,st1.res i=st.res i)→CoLL st1 ss xs:=fun ss=>by
  induction ss with
  | nil=>intro xs h _;cases xs<;>exact h
  | cons c ss ih=>
   intro xs h hh;cases xs with
   | nil=>exact h.elim
   | cons p xs=>exact⟨h.1.move fun i hi=>hh i (by simp only[ga,List.flatMap_cons,List.mem_append];exact .inl hi),ih xs h.2 fun i hi=>hh i (by simp only[ga,List.flatMap_cons,List.mem_append];exact .inr hi)⟩
 have hco1:=mv ss xs hco h2';have hnt:∀i∈ga ss,∀r,st1.res i≠some r:=fun i hi r hr=>by
  have:=List.all_eq_true.1 hno i hi;rw[← h2' i hi,hr] at this;cases this
 have hrep:=CoLL.rep hi hco1 g1 g3 hnt
 -- the cells
 have fill:∀(ps:List (Nat×Operand)) (m:List Value) (vs:List (List Value)) (r:List Value) (k0:Nat),(∀(i:Nat) (p:Nat×Operand),ps[i]?=some p→p.1=k0+i∧∃u,vs[i]?=some u∧(a.eval p.2).cells=u.toArray)→vs.length=ps.length→(∀u∈vs,u.length=l.esz)→m.length=k0*l.esz→r.length=vs.length*l.esz→
   Instr.fill (fun i=>some (i*l.esz,l.esz)) (m++r).toArray (ps.map fun p=>(p.1,a.eval p.2))=some (m++vs.flatten).toArray:=fun ps=>by
  induction ps with
  | nil=>
   intro m vs r k0 _ hv _ _ hr;obtain rfl:=List.length_eq_zero_iff.1 hv;simp at hr;subst hr;rfl
  | cons p ps ih=>
   intro m vs r k0 hp hv hvl hm hr;cases vs with
   | nil=>simp at hv
   | cons u vs=>
    obtain⟨q1,u',q2,q3⟩:=hp 0 p rfl;simp at q2;subst q2;have hul:=hvl u (mf ..);rw[List.length_cons,Nat.add_mul,Nat.one_mul] at hr;simp only[List.map_cons,Instr.fill,q1,Nat.add_zero,q3,List.size_toArray,hul];have hsz2:(m++r).length=k0*l.esz+(vs.length*l.esz+l.esz):=by rw[List.length_append,hm,hr]
    rw[if_neg (by simp only[ne_eq,not_true_eq_false,decide_false,Bool.false_or,de];rw[hsz2];omega)];have hfold:∀(zs:List Value) (k:Nat) (us:List Value),((zs.zipIdx k).foldl (fun (cs:Array Value) (p:Value×Nat)=>cs.setIfInBounds (k0*l.esz+p.2) p.1) us.toArray)=(spl us (k0*l.esz+k) zs).toArray:=by
     intro zs
     induction zs with
     | nil=>intro k us;rfl
     | cons v zs ih2=>
      intro k us;rw[spl,Nat.add_assoc,← ih2,List.zipIdx_cons,List.foldl_cons];simp
    have h8:=hfold u 0 (m++r);rw[Nat.add_zero,← hm] at h8;have h9:=a4h u m (r.take l.esz) (r.drop l.esz) (by rw[List.length_take,hul];omega);rw[List.take_append_drop] at h9;rw[h9] at h8;rw[← Array.foldl_toList,Array.toList_zipIdx];rw[hm] at h8;rw[h8,← List.append_assoc];have:=ih (m++u) vs (r.drop l.esz) (k0+1) (fun i p hp2=>by
     obtain⟨z1,z,z2,z3⟩:=hp (i+1) p (by simpa using hp2);exact⟨by omega,z,by simpa using z2,z3⟩) (by simpa using hv) (fun z hz=>hvl z (List.mem_cons_of_mem _ hz)) (by rw[List.length_append,hm,hul,Nat.add_mul,Nat.one_mul]) (by rw[List.length_drop,hr];omega)
    rw[this,List.flatten_cons,List.append_assoc]
 have hz:=lke.zero;have run:(execOp a.eval o).run C.P w=.ok (.value (.slice (some ⟨w.heap.size,0,none⟩) n n)) (w.alloc (.cells us.flatten.toArray l.elem)):=by
  have hle24:¬n*l.esz > 2 ^ 24:=by omega
  have hfl:=fun (zs:Array Value)=>fill parts.toList [] us ((Array.range (n*l.esz)).map (fun x=>zs[x % zs.size]!)).toList 0 (fun i p hp=>by
   obtain⟨z1,z,z2,z3⟩:=g7 i p hp;exact⟨z1,z,z2,z3⟩) (by rw[g1,g2]) g5 (by simp) (by simp[hlen])
  simp only[List.nil_append,Array.toArray_toList] at hfl;have hpm:(parts.map fun x=>match x with | (i,x)=>(i,a.eval x)).toList=parts.toList.map fun p=>(p.1,a.eval p.2):=by rw[Array.toList_map]
  simp only[execOp,ho,Instr.buildSlice,Sem.run_bind,run_underlying hu,Result.andThen_ok,mx hsz,if_neg hle24];have h0:¬n*l.esz=0:=Nat.ne_of_gt (Nat.mul_pos hn0 hk0);have:=hfl (Value.cells (if le.agg then .agg (le.zero.map Zk.val).toArray else (le.zero.map Zk.val).headD undef));simp only[if_neg h0,Sem.run_bind,a7l hz,Result.andThen_ok,Sem.run_pure,hpm,this];rfl
 refine cj run ?_;have hfl2:=j6 g5;have hk1:n≤n*l.esz:=Nat.le_mul_of_pos_right n hk0;refine a1k (y:=⟨some ⟨w.heap.size,0,none⟩,n,n⟩) (us:=us) (own:=none) hi (fun r hr=>by rw[hre] at hr;cases hr) (fun _=>rfl) ⟨rfl,rfl,rfl,by simp,fun k hk _=>Below.heap_alloc w _ k hk⟩ ⟨by rw[hfl2,hlen],.inr ⟨w.heap.size,n,us.flatten.toArray,rfl,nq _,heap_alloc_new w _,nr _,by (show n≤maxLen);(unfold maxLen);omega,by rw[List.size_toArray,hfl2,hlen],by (show us.flatten.take _=us.flatten);exact List.take_of_length_le (by rw[hfl2,hlen];exact nr _)⟩⟩ (.inr (.inl rfl)) hrep hok (by rw[← hlen,hrep.len]) hk0 hd
end
section
variable {T:List Nat} {Z:Nat} {D:Dom Tryz.prog T Z} {N:Nat} {st:St} {Q:Exit→St→Prop} {ops:List Oper} {draw:Bool} {acc:List Itm}
theorem rlk0 {k:Nat} {ks:List Nat} {dst:Option Nat} {t n:Nat} {parts:Array (Nat×Operand)} {ty:TypeId} {ps:String} {af:Array Edge} {gd:Option (Nat×Bool)} {l:Lay} {ss:List (List SV)} {xs:List (List PV)} (id:Nat) (hre:st.res id=none) (hk:nthL ops k=some ⟨dst,.buildSlice t n parts,ty,ps,af,gd⟩) (hw:ed ops.toArray ⟨dst,.buildSlice t n parts,ty,ps,af,gd⟩ st=some true) (hd:dstB ⟨dst,.buildSlice t n parts,ty,ps,af,gd⟩ N Z=true) (hl:tab.get t=some l) (hs:litL st l.esz parts.toList 0=some ss) (hco:uy st ss=some xs) (hc:litB tab st l n parts ss xs=true) (he:st.tys.contains l.elem=true)
  (next:Reg (D.cx N) ops draw Q (acc++[⟨k,true,(⟨.tok id,some (id,.tok l.elem l.esz l.ets xs),id::ga ss,true⟩:Eff),lkOf ops k st ((⟨.tok id,some (id,.tok l.elem l.esz l.ets xs),id::ga ss,true⟩:Eff))⟩]) ks ((⟨.tok id,some (id,.tok l.elem l.esz l.ets xs),id::ga ss,true⟩:Eff).app dst st)):Reg (D.cx N) ops draw Q acc (k::ks) st:=by
 unfold litB at hc;simp only[be] at hc;obtain⟨⟨⟨⟨⟨⟨h1,h2⟩,h3⟩,h4⟩,h5⟩,h6⟩,h7⟩:=hc;refine fe hk hw hd (fun hd=>aeq (id:=id) (tab:=tab) al rfl hl ?_ hs (Nat.eq_of_beq_eq_true h1) (Nat.le_of_ble_eq_true h2) (sw hco) h5 (n6 h6) (Nat.le_of_ble_eq_true h3) (Nat.le_of_ble_eq_true h4) hre he hd) next;split at h7
 ·rename_i le hle
  exact⟨le,hle,Nat.eq_of_beq_eq_true h7⟩
 ·cases h7
end
theorem PCalls.nil {P:Program} {Tg:List Nat} {f:FuncId} {pre post:List PV} {e k:Nat} {ts:List Nat} {res:PV} (h:PCalls P Tg f (pre++.rows e k ts []::post) res):PCalls P Tg f (pre++.raw (.slice none 0 0)::post) res:=by
 refine⟨h.1,fun w X us h1 h2 h3=>h.2 w X us h1 h2 ?_⟩;have key:∀(pre:List PV) (us:List Value),PV.RepL w X (pre++.raw (.slice none 0 0)::post) us→PV.RepL w X (pre++.rows e k ts []::post) us:=fun pre=>by
  induction pre with
  | nil=>
   intro us h;rw[List.nil_append,PV.RepL] at h;obtain⟨u,us',rfl,g1,g2⟩:=h;rw[PV.Rep] at g1;subst g1;refine PV.RepL.cons ?_ g2;rw[PV.Rep];exact⟨Sv.none,[],rfl,rfl,Sv.Is.none w k,(fun ad h=>by cases h),(fun ad h=>by cases h),by rw[PV.RepLL],fun r hr=>by cases hr⟩
  | cons p pre ih=>
   intro us h;rw[List.cons_append,PV.RepL] at h;obtain⟨u,us',rfl,g1,g2⟩:=h;exact PV.RepL.cons g1 (ih us' g2)
 exact key pre us h3
theorem a0o {d:Dc} {k m:Int} (e:(d.kind == k)=true) (h:oppK k=m) (h2:(decide (0 < k)&&decide (k < 5))=true):dcP ⟨m,d.index,d.at_⟩=dcP (oppD d):=by
 have e:=eq_of_beq e;subst e;unfold oppD;rw[h2,h];rfl
theorem ahp {d:Dc} (e1:(d.kind == 1)=false) (e2:(d.kind == 2)=false) (e3:(d.kind == 3)=false) (e4:(d.kind == 4)=false):dcP d=dcP (oppD d):=by
 unfold oppD;have e1:=ne_of_beq_false e1;have e2:=ne_of_beq_false e2;have e3:=ne_of_beq_false e3;have e4:=ne_of_beq_false e4;cases h:decide (0 < d.kind)&&decide (d.kind < 5) with
 | false=>rfl
 | true=>
  simp only[be,de] at h;omega
theorem anz (d:Dc):PCalls Tryz.prog [] 144 [dcP d] (dcP (oppD d)):=by
 refine pcA [42] Tryz.func144 (fun D=>?_);refine a2 (fun e5=>?_) (fun e5=>?_)
 ·exact ar (c:=a0o e5 rfl rfl)
 ·refine a2 (fun e8=>?_) (fun e8=>?_)
  ·exact ar (c:=a0o e8 rfl rfl)
  ·refine a2 (fun e11=>?_) (fun e11=>?_)
   ·exact ar (c:=a0o e11 rfl rfl)
   ·refine a2 (fun e14=>?_) (fun e14=>?_)
    ·exact ar (c:=a0o e14 rfl rfl)
    ·exact ar (c:=ahp e5 e8 e11 e14)
theorem al2 {ls lems:List Lm} {d:Dc} {e:Bool} {p:List Mm} {path:List Dc} (h1:lems.length+ls.length≤100000):NCalls Tryz.prog [] 90 [.agg [lmsP ls,iP d.kind,iP d.index,bP d.at_.neg,.nat d.at_.num,.nat d.at_.den,.rows 46 9 ndT [],bP e,mmsP p],dcsP path,lmsP lems] 77 10 enT ([⟨path,lems++ls,e,p⟩].map enC):=by
 refine pcn [46,100,77] (by kernel_rfl) Tryz.func90 Y Y (fun D=>?_);refine au ?_;refine rp0 el_Lemma (by simp;omega) Y Y Y Y Y Y Y Y ?_;refine au ?_;refine rp0 el_Lemma (by simp;omega) Y Y Y Y Y Y Y Y ?_;refine akT (c:=by exact (show _=true from rfl)) ?_;refine rn Y (pif Y (fun _=>?_) (fun e=>by cases e));refine pfz 9 Y ?_;refine pr0 (qg 8 ?_);refine rlk0 27 Y Y Y Y Y Y Y Y Y ?_;refine au ?_;exact retn Y Y Y Y (by simp[enC,List.map_append])
theorem al1 {ls lems:List Lm} {d:Dc} {a b:Nd} {e:Bool} {p:List Mm} {path:List Dc} {xa xb:List (List PV)} (h1:lems.length+ls.length≤100000) (h2:path.length≤100000) (h9:xa.length+xb.length≤100000000) (iha:NCalls Tryz.prog [] 90 [.agg (ndX a),.rows 42 5 [200] (([]++path.map dcC)++[dcC d]),.rows 100 6 [200,98] (([]++lems.map lmC)++ls.map lmC)] 77 10 enT xa) (ihb:NCalls Tryz.prog [] 90 [.agg (ndX b),.rows 42 5 [200] (([]++path.map dcC)++[dcC (oppD d)]),.rows 100 6 [200,98] (([]++lems.map lmC)++ls.map lmC)] 77 10 enT xb):NCalls Tryz.prog [] 90 [.agg [lmsP ls,iP d.kind,iP d.index,bP d.at_.neg,.nat d.at_.num,.nat d.at_.den,.rows 46 9 ndT [ndX a,ndX b],bP e,mmsP p],dcsP path,lmsP lems] 77 10 enT (xa++xb):=by
 refine pcn [46,100,77,42] (by kernel_rfl) Tryz.func90 Y Y (fun D=>?_);refine au ?_;refine rp0 el_Lemma (by simp;omega) Y Y Y Y Y Y Y Y ?_;refine au ?_;refine rp0 el_Lemma (by simp;omega) Y Y Y Y Y Y Y Y ?_;refine akF (c:=by exact (show _=false from rfl)) ?_;refine rn Y (pif Y (fun e=>by cases e) (fun _=>?_));refine pk (pfz 9 Y ?_);refine y5 (Sub.of (sl:=[(1,.pv (dcsP path)),(2,.pv (.rows 100 6 [200,98] (([]++lems.map lmC)++ls.map lmC))),(3,.box 3 0)]) (rs:=[(3,.box 46 [.pv (lmsP ls),.pv (iP d.kind),.pv (iP d.index),.pv (bP d.at_.neg),.pv (.nat d.at_.num),.pv (.nat d.at_.den),.pv (.rows 46 9 ndT [ndX a,ndX b]),.pv (bP e),.pv (mmsP p)])]) (tys:=[46,100,77,42]) (ai Y (ai Y (ai Y trivial))) (ai Y trivial) Y) ?_;refine au ?_;refine rp0 el_Decision (by simp;omega) Y Y Y Y Y Y Y Y ?_;refine au ?_;refine rp0 el_Decision (by simp;omega) Y Y Y Y Y Y Y Y ?_;refine qg 1 ?_;refine rn (by kernel_rfl) ?_;refine pfz 28 Y ?_;refine y5 (Sub.of (sl:=[(1,.pv (dcsP path)),(2,.pv (.rows 100 6 [200,98] (([]++lems.map lmC)++ls.map lmC))),(3,.box 3 0),(7,.pv (.rows 42 5 [200] (([]++path.map dcC)++[dcC d])))]) (rs:=[(3,.box 46 [.pv (lmsP ls),.pv (iP d.kind),.pv (iP d.index),.pv (bP d.at_.neg),.pv (.nat d.at_.num),.pv (.nat d.at_.den),.pv (.rows 46 9 ndT [ndX a,ndX b]),.pv (bP e),.pv (mmsP p)])]) (tys:=[46,100,77,42]) (ai Y (ai Y (ai Y (ai Y trivial)))) (ai Y trivial) Y) ?_;refine au ?_;refine rp0 el_Decision (by simp;omega) Y Y Y Y Y Y Y Y ?_;refine ac (c:=anz d) ?_;refine au ?_;refine rp0 el_Decision (by simp;omega) Y Y Y Y Y Y Y Y ?_;refine qg 1 ?_;refine rn (by kernel_rfl) ?_;refine pfz 35 Y ?_;refine y5 (Sub.of (sl:=[(2,.pv (.rows 100 6 [200,98] (([]++lems.map lmC)++ls.map lmC))),(3,.box 3 0),(7,.pv (.rows 42 5 [200] (([]++path.map dcC)++[dcC d]))),(8,.pv (.rows 42 5 [200] (([]++path.map dcC)++[dcC (oppD d)])))]) (rs:=[(3,.box 46 [.pv (lmsP ls),.pv (iP d.kind),.pv (iP d.index),.pv (bP d.at_.neg),.pv (.nat d.at_.num),.pv (.nat d.at_.den),.pv (.rows 46 9 ndT [ndX a,ndX b]),.pv (bP e),.pv (mmsP p)])]) (tys:=[46,100,77,42]) (ai Y (ai Y (ai Y (ai Y trivial)))) (ai Y trivial) Y) ?_;refine au ?_;refine ro0 Y Y Y (fun hd=>jf (i:=0) al Y Y Y Y Y dx Y Y hd) ?_;refine qg 3 ?_;refine rcn0 49 iha Y Y Y Y Y Y Y Y ?_;refine au ?_;refine ro0 Y Y Y (fun hd=>jf (i:=1) al Y Y Y Y Y dx Y Y hd) ?_;refine ac (c:=ihb.p) ?_;refine rp0 wl (h9) Y Y Y Y Y Y Y Y ?_;refine au ?_;exact retn Y Y Y Y (Y)
theorem al3:∀(k:Nat) (n:Nd) (path:List Dc) (lems:List Lm),n.Wf k→n.Lim k→k≤8→lems.length≤1000 - 100*k→path.length≤100 - k→NCalls Tryz.prog [] 90 [.agg (ndX n),dcsP path,lmsP lems] 77 10 enT ((entR k n path lems).map enC)
 | 0,.mk ls d ks e p,path,lems,hw,hl,hk,h1,h2=>by
  obtain⟨_,rfl⟩:=hw;obtain⟨l1,l2⟩:=hl;have l1:ls.length≤100:=l1;exact al2 (ls:=ls) (lems:=lems) (d:=d) (e:=e) (p:=p) (path:=path) om
 | k+1,.mk ls d ks e p,path,lems,hw,hl,hk,h1,h2=>by
  obtain⟨_,_,_,_,a,b,rfl,ha,hb⟩:=hw;obtain⟨l1,l2⟩:=hl;have l1:ls.length≤100:=l1;have key:∀(x:Nd) (y:Dc),x.Wf k→x.Lim k→NCalls Tryz.prog [] 90 [.agg (ndX x),.rows 42 5 [200] (([]++path.map dcC)++[dcC y]),.rows 100 6 [200,98] (([]++lems.map lmC)++ls.map lmC)] 77 10 enT ((entR k x (path++[y]) (lems++ls)).map enC):=fun x y hx hy=>by
   have:=al3 k x (path++[y]) (lems++ls) hx hy om (by rw[List.length_append];omega) (by rw[List.length_append];show _+1≤_;omega);rw[show dcsP (path++[y])=.rows 42 5 [200] (([]++path.map dcC)++[dcC y]) from by simp[dcsP],show lmsP (lems++ls)=.rows 100 6 [200,98] (([]++lems.map lmC)++ls.map lmC) from by simp[lmsP]] at this;exact this
  have l3:=jo k a (path++[d]) (lems++ls);have l4:=jo k b (path++[oppD d]) (lems++ls);have h8:2 ^ k≤2 ^ 8:=Nat.pow_le_pow_right dx om;have h11:lems.length≤1000:=by omega
  have:=al1 (ls:=ls) (lems:=lems) (d:=d) (a:=a) (b:=b) (e:=e) (p:=p) (path:=path) om om (by rw[List.length_map,List.length_map];omega) (key a d ha (l2 a (mf ..))) (key b (oppD d) hb (l2 b (List.mem_cons_of_mem _ (mf ..))));rw[← List.map_append,← ru,← ru] at this;exact this
theorem a4n {n:Nd} {k:Nat} (hw:n.Wf k) (hl:n.Lim k) (hk:k≤8):PCalls Tryz.prog [] 42 [.agg (ndX n)] (ensP (entR k n [] [])):=by
 refine pcA [46] Tryz.func42 (fun D=>?_);refine ac (c:=PCalls.nil (pre:=[.agg (ndX n)]) (e:=42) (k:=5) (ts:=[200]) (PCalls.nil (pre:=[.agg (ndX n),dcsP []]) (e:=100) (k:=6) (ts:=[200,98]) (al3 k n [] [] hw hl hk (nq _) (nq _)).p)) ?_;exact ar (c:=rfl)
theorem akt (x y:Dc):PCalls Tryz.prog [] 143 [dcP x,dcP y] (bP (dcEq x y)):=by
 refine pcA [42] Tryz.func143 (fun D=>?_);refine a2 (fun e10=>?_) (fun e10=>?_)
 ·refine a2 (fun e17=>?_) (fun e17=>?_)
  ·refine ac (c:=uq) ?_;exact ar (c:=by (try simp only[List.length_map] at *);simp only[dcEq,e10,e17,sb]<;>rfl)
  ·exact ar (c:=by (try simp only[List.length_map] at *);simp only[dcEq,e10,e17,sb]<;>rfl)
 ·exact ar (c:=by (try simp only[List.length_map] at *);simp only[dcEq,e10,sb]<;>rfl)
theorem ai3 {ls:List Lm} {e:Bool} {p:List Mm} {depth:Int} (h:depth≤2048):PCalls Tryz.prog [] 89 [ndP (.mk ls dc0 [] e p),iP depth] (.tup [bP true,iP 1]):=by
 refine pcA [46] Tryz.func89 (fun D=>?_);refine akF (c:=by exact (show _=false from df om)) ?_;refine akT (c:=by exact (show _=true from rfl)) ?_;refine ac (c:=akt dc0 dc0) ?_;exact ar (c:=rfl)
theorem ai2 {ls:List Lm} {d:Dc} {a b:Nd} {depth A:Int} (h:depth≤2048) (h0:0≤depth) (h1:1≤d.kind) (h2:d.kind≤4) (hA:0≤A) (hA9:A≤60000) (ia:PCalls Tryz.prog [] 89 [ndP a,iP (depth+1)] (.tup [bP true,iP A])) (ib:PCalls Tryz.prog [] 89 [ndP b,iP (depth+1)] (.tup [bP true,iP A])):PCalls Tryz.prog [] 89 [ndP (.mk ls d [a,b] false []),iP depth] (.tup [bP true,iP (1+A+A)]):=by
 obtain⟨l1,d1,k1,e1,p1⟩:=a;obtain⟨l2,d2,k2,e2,p2⟩:=b;refine pcA [46] Tryz.func89 (fun D=>?_);refine akF (c:=by exact (show _=false from df om)) ?_;refine akF (c:=by exact (show _=false from rfl)) ?_;refine akF (c:=by exact (show _=false from rfl)) ?_;refine akF (c:=by exact (show _=false from df om)) ?_;refine akF (c:=by exact (show _=false from df om)) ?_;refine akF (c:=by exact (show _=false from rfl)) ?_;refine au ?_;refine ro0 Y Y Y (fun hd=>jf (i:=0) al Y Y Y Y Y dx Y Y hd) ?_;refine aa (c:=jg om om om om) ?_;refine ac (c:=ia) ?_;refine akF (c:=by exact (show _=false from df om)) ?_;refine au ?_;refine ro0 Y Y Y (fun hd=>jf (i:=1) al Y Y Y Y Y dx Y Y hd) ?_;refine aa (c:=jg om om om om) ?_;refine ac (c:=ib) ?_;refine aa (c:=jg om om om om) ?_;refine aa (c:=jg om om om om) ?_;exact ar (c:=rfl)
theorem a4l:∀(k:Nat) {n:Nd} {depth:Int},n.Wf k→0≤depth→depth+(k:Int)≤2048→k≤10→PCalls Tryz.prog [] 89 [ndP n,iP depth] (.tup [bP true,iP (szK k)])
 | 0,.mk ls d ks e p,depth,h,h0,hd,_=>by
  obtain⟨rfl,rfl⟩:=h;exact ai3 om
 | k+1,.mk ls d ks e p,depth,h,h0,hd,hk=>by
  obtain⟨rfl,rfl,h1,h2,a,b,rfl,ha,hb⟩:=h;have hs:=a5h k om;exact ai2 (A:=(szK k:Int)) om h0 h1 h2 om om (a4l k ha om om om) (a4l k hb om om om)
theorem ado {n:Nd} {k:Nat} (h:n.Wf k) (hk:k≤10):PCalls Tryz.prog [] 41 [ndP n] (bP true):=by
 obtain⟨ls,d,ks,e,p⟩:=n;have hs:=a5h k hk;refine pcA [46] Tryz.func41 (fun D=>?_);refine au ?_;refine rc0 (a4l k h dx om hk) Y Y Y Y Y Y Y ?_;refine akT (c:=by exact (show _=true from dt om)) ?_;exact ar (c:=rfl)
theorem a4m {q:Qr} {n:Nd} {k a b:Nat} (hw:n.Wf k) (hl:n.Lim k) (hk:k≤8) (hq:q.Va a) (hg:q.goal.S 100 8) (hE:∀x∈entR k n [] [],EnOk x∧x.lems.length≤1000∧EnOk (du x)∧((du x).sc q).Va a b):PCalls Tryz.prog TF 13 [qyP q,.agg (ndX n)] (.tup [ensP (gk q (entR k n [] [])),iP 0]):=by
 have hv:=ado hw om;rw[show ndP n=.agg (ndX n) from by rw[← ru]] at hv;have h8:2 ^ k≤2 ^ 8:=Nat.pow_le_pow_right dx hk;have hlen:=jo k n [] [];have hs:=a4n hw hl hk;generalize entR k n [] []=L at*;refine pcA [39,46,77] Tryz.func13 (fun D=>?_);refine ac (c:=r8 hq) ?_;refine ac (c:=hv) ?_;refine ac (c:=hs) ?_;refine au ?_;refine tks (t:=7) (id:=99) (e:=77) (k:=10) (ts:=enT) Y ?_;refine pl (ι:={i:Nat // i≤L.length}) (fun i=>[(2,.box 2 0),(6,.pv (ensP L)),(7,.tok 99),(8,.pv (iP (i.1:Int)))]) (fun i=>[(2,.box 39 [.pv (iP q.g.inputs),.pv (b7 q.g.units),.pv (b7 q.g.outputs),.pv (cz q.rg.lo),.pv (cz q.rg.hi),.pv (b7 q.rg.rows),.pv (bu q.goal.terms),.pv (bP q.goal.const.neg),.pv (.nat q.goal.const.num),.pv (.nat q.goal.const.den)]),(99,.tok 77 10 enT ((gk q (L.take i.1)).map enC))]) [39,46,77] (fun i=>L.length - i.1) ⟨0,nq _⟩ (c4 Y Y Y Y trivial) (c2 Y Y trivial) (fun _=>rfl) ?_;intro ⟨i,hi0⟩;refine a2 (fun e23=>?_) (fun e23=>?_)
 ·have hi:i < L.length:=db e23;obtain⟨h0,h1,h2,h3⟩:=hE _ (mg (ah hi));have hr:PCalls Tryz.prog [] 43 [enP (atZ L (i:Int))] (enP (du (atZ L (i:Int)))):=by have:=a9s h1 h0;rw[a7f] at this;exact this
  generalize hy:du (atZ L (i:Int))=y at*;obtain⟨yp,yl,ye,yr⟩:=y;refine ax (c:=(aj (ah hi))) ?_;refine ac (c:=hr) ?_;refine ac (c:=a9z h3 h2 hg) ?_;refine a2 (fun e33=>?_) (fun e33=>?_)
  ·refine au ?_;refine rp0 wl (by rw[List.length_map];exact nt (Nat.add_le_add_right (nt (wd q (L.take i)) (by rw[List.length_take];exact Nat.min_le_right ..)) _) (by simp;omega)) Y Y Y Y Y Y Y Y ?_;refine aa (c:=ae (by show i≤_;omega)) ?_;refine au ?_;exact pe ⟨i+1,hi⟩ (c4 Y Y Y Y trivial) (ai Y (ai (congrArg (fun x=>some (Res.tok 77 10 enT x)) (by show (gk q (L.take i)).map enC++[enC ⟨yp,yl,ye,yr⟩]=(gk q (L.take (i+1))).map enC;rw[sk hi hy e33];rw[cond_true,List.map_append];rfl)) trivial)) Y (by show L.length - (i+1) < L.length - i;omega)
  ·refine aa (c:=ae (by show i≤_;omega)) ?_;refine au ?_;exact pe ⟨i+1,hi⟩ (c4 Y Y Y Y trivial) (ai Y (ai (congrArg (fun x=>some (Res.tok 77 10 enT x)) (by show (gk q (L.take i)).map enC=(gk q (L.take (i+1))).map enC;rw[sk hi hy e33];rfl)) trivial)) Y (by show L.length - (i+1) < L.length - i;omega)
 ·have hj:L.length≤i:=dw e23;exact ar (c:=congrArg (fun l=>PV.tup [ensP l,iP 0]) (by rw[List.take_of_length_le hj]))
end Go.Proofs.YtbhbainhmfjpdaaGreatDoor
