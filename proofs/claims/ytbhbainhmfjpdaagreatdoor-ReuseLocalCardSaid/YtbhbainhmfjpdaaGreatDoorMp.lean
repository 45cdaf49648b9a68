/- Walks of the search and of what it calls, part 16. -/
import Derived.Test.YtbhbainhmfjpdaaGreatDoorMo
set_option linter.unusedVariables false
set_option linter.unusedSectionVars false
set_option linter.unusedSimpArgs false
set_option maxRecDepth 100000
set_option maxHeartbeats 8000000
namespace Go.Proofs.YtbhbainhmfjpdaaGreatDoor
open Go.RowKit
theorem adu {s:Sc} {a b:Nat} (h:o7 a b 0 s) (hv:∀p∈s.q.g.units,∀t∈p.terms,0≤t.1∧t.1≤1000) (hg:s.q.goal.S 3 8) (hgv:∀t∈s.q.goal.terms,0≤t.1∧t.1≤1000):PCalls Tryz.prog TF 25 [scP s,iP 0,bP true] (.tup [ndP (ce 0 s true).1,ratP (ce 0 s true).2]):=by
 have hb:(dq s).Va a b:=h _ (nr _);have hq:(dq s).q=s.q:=(fq s _).1;have hlen:=qp s s.q.g.units.length;refine pcA [85,46,35,42] Tryz.func25 (fun D=>?_);refine akT (c:=by exact (show _=true from rfl)) ?_;refine ac (c:=rd h hv) ?_;refine ac (c:=a0x hb hg hgv) ?_;refine au ?_;refine ro0 Y Y Y (fun hd=>f5 al Y Y Y (.inr ⟨_,rfl,show _=some (SV.pv (iP ((0:Nat):Int))) from rfl⟩) (.inl ⟨rfl,rfl⟩) (by rw[List.length_map];exact nq _) (nr _) Y dx hd) ?_;exact ar (c:=by rw[List.take_length,← List.map_drop];rfl)
theorem adv {s:Sc} {a b:Nat} (h:o7 a b 0 s) (hv:∀p∈s.q.g.units,∀t∈p.terms,0≤t.1∧t.1≤1000) (hg:s.q.goal.S 3 8) (hgv:∀t∈s.q.goal.terms,0≤t.1∧t.1≤1000):PCalls Tryz.prog TF 25 [scP s,iP 0,bP false] (.tup [ndP (ce 0 s false).1,ratP (ce 0 s false).2]):=by
 have hb:(dq s).Va a b:=h _ (nr _);have hq:(dq s).q=s.q:=(fq s _).1;have hlen:=qp s s.q.g.units.length;refine pcA [85,46,35,42] Tryz.func25 (fun D=>?_);refine akT (c:=by exact (show _=true from rfl)) ?_;refine ac (c:=rd h hv) ?_;refine ac (c:=a0x hb hg hgv) ?_;refine au ?_;refine ro0 Y Y Y (fun hd=>f5 al Y Y Y (.inr ⟨_,rfl,rfl⟩) (.inl ⟨rfl,rfl⟩) (by rw[List.length_map];rw[List.length_map];exact hlen) (nr _) Y dx hd) ?_;exact ar (c:=by rw[List.take_length,← List.map_drop];rw[List.length_map];rfl)
theorem ads {k:Nat} {s:Sc} (hp9:s.path.length≤100) (hk9:k≤1000) (ihA:PCalls Tryz.prog TF 25 [scP (s.dec 1 k),iP (k:Int),bP false] (.tup [ndP (ce k (s.dec 1 k) false).1,ratP (ce k (s.dec 1 k) false).2])) (ihB:PCalls Tryz.prog TF 25 [scP (s.dec 2 k),iP (k:Int),bP false] (.tup [ndP (ce k (s.dec 2 k) false).1,ratP (ce k (s.dec 2 k) false).2])) (hA:(ce k (s.dec 1 k) false).2.S 1000) (hB:(ce k (s.dec 2 k) false).2.S 1000):PCalls Tryz.prog TF 25 [scP s,iP ((k+1:Nat):Int),bP true] (.tup [ndP (ce (k+1) s true).1,ratP (ce (k+1) s true).2]):=by
 simp only[ce];unfold Sc.dec at*;rw[← ag9] at ihA ihB;generalize ce k ⟨s.q,s.path++[⟨1,(k:Int),Q.zero⟩],s.lems⟩ false=A at*;generalize ce k ⟨s.q,s.path++[⟨2,(k:Int),Q.zero⟩],s.lems⟩ false=B at*;obtain⟨⟨l1,d1,k1,e1,p1⟩,v1⟩:=A;obtain⟨⟨l2,d2,k2,e2,p2⟩,v2⟩:=B;simp only at hA hB;refine pcA [85,46,35,42] Tryz.func25 (fun D=>?_);refine akF (c:=by exact (show _=false from beq_eq_false_iff_ne.2 om)) ?_;refine aa (c:=jq om) ?_;refine aa (c:=jq om) ?_;refine au ?_;refine rp0 el_Decision (by simp;omega) Y Y Y Y Y Y Y Y ?_;refine au ?_;refine rp0 el_Decision (by simp;omega) Y Y Y Y Y Y Y Y ?_;refine aa (c:=jq om) ?_;refine ac (c:=ihA) ?_;refine au ?_;refine rp0 el_Decision (by simp;omega) Y Y Y Y Y Y Y Y ?_;refine au ?_;refine rp0 el_Decision (by simp;omega) Y Y Y Y Y Y Y Y ?_;refine aa (c:=jq om) ?_;refine ac (c:=ihB) ?_;refine ac (c:=aky (hA.sm dx) (hB.sm dx) hA.ok hB.neg.ok ((hA.add hB.neg).sm dx)) ?_;exact ar (c:=rfl)
theorem adt {k:Nat} {s:Sc} (hp9:s.path.length≤100) (hk9:k≤1000) (ihA:PCalls Tryz.prog TF 25 [scP (s.dec 1 k),iP (k:Int),bP false] (.tup [ndP (ce k (s.dec 1 k) false).1,ratP (ce k (s.dec 1 k) false).2])) (ihB:PCalls Tryz.prog TF 25 [scP (s.dec 2 k),iP (k:Int),bP false] (.tup [ndP (ce k (s.dec 2 k) false).1,ratP (ce k (s.dec 2 k) false).2])) (hA:(ce k (s.dec 1 k) false).2.S 1000) (hB:(ce k (s.dec 2 k) false).2.S 1000):PCalls Tryz.prog TF 25 [scP s,iP ((k+1:Nat):Int),bP false] (.tup [ndP (ce (k+1) s false).1,ratP (ce (k+1) s false).2]):=by
 simp only[ce];unfold Sc.dec at*;rw[← ag9] at ihA ihB;generalize ce k ⟨s.q,s.path++[⟨1,(k:Int),Q.zero⟩],s.lems⟩ false=A at*;generalize ce k ⟨s.q,s.path++[⟨2,(k:Int),Q.zero⟩],s.lems⟩ false=B at*;obtain⟨⟨l1,d1,k1,e1,p1⟩,v1⟩:=A;obtain⟨⟨l2,d2,k2,e2,p2⟩,v2⟩:=B;simp only at hA hB;refine pcA [85,46,35,42] Tryz.func25 (fun D=>?_);refine akF (c:=by exact (show _=false from beq_eq_false_iff_ne.2 om)) ?_;refine aa (c:=jq om) ?_;refine aa (c:=jq om) ?_;refine au ?_;refine rp0 el_Decision (by simp;omega) Y Y Y Y Y Y Y Y ?_;refine au ?_;refine rp0 el_Decision (by simp;omega) Y Y Y Y Y Y Y Y ?_;refine aa (c:=jq om) ?_;refine ac (c:=ihA) ?_;refine au ?_;refine rp0 el_Decision (by simp;omega) Y Y Y Y Y Y Y Y ?_;refine au ?_;refine rp0 el_Decision (by simp;omega) Y Y Y Y Y Y Y Y ?_;refine aa (c:=jq om) ?_;refine ac (c:=ihB) ?_;refine ac (c:=aky (hA.sm dx) (hB.sm dx) hA.ok hB.neg.ok ((hA.add hB.neg).sm dx)) ?_;exact ar (c:=rfl)
theorem a0w:∀(k:Nat) {s:Sc} {a b:Nat},k≤1000→o7 a b k s→(∀p∈s.q.g.units,∀t∈p.terms,0≤t.1∧t.1≤1000)→s.q.goal.S 3 8→(∀t∈s.q.goal.terms,0≤t.1∧t.1≤1000)→PCalls Tryz.prog TF 25 [scP s,iP (k:Int),bP false] (.tup [ndP (ce k s false).1,ratP (ce k s false).2])
 | 0,s,a,b,hk,h,hv,hg,hgv=>adv h hv hg hgv
 | k+1,s,a,b,hk,h,hv,hg,hgv=>adt h.2.2.2.2 om (a0w k om h.1 hv hg hgv) (a0w k om h.2.1 hv hg hgv) h.2.2.1 h.2.2.2.1
theorem a9v {k:Nat} {s:Sc} {a b:Nat} (hk:k≤1000) (h:o7 a b k s) (hv:∀p∈s.q.g.units,∀t∈p.terms,0≤t.1∧t.1≤1000) (hg:s.q.goal.S 3 8) (hgv:∀t∈s.q.goal.terms,0≤t.1∧t.1≤1000):PCalls Tryz.prog TF 25 [scP s,iP (k:Int),bP true] (.tup [ndP (ce k s true).1,ratP (ce k s true).2]):=by
 cases k with
 | zero=>exact adu h hv hg hgv
 | succ k=>exact ads h.2.2.2.2 om (a0w k om h.1 hv hg hgv) (a0w k om h.2.1 hv hg hgv) h.2.2.1 h.2.2.2.1
theorem amq {q:Q} (h:q.r≤0):sgQ q≤0:=by
 apply Classical.byContradiction
 intro hc;obtain⟨h1,h2⟩:=a1j hc;have:=a0v h1 h2
 grind
theorem a0b (q:Q):0≤q.abs.r:=by
 rcases Nat.eq_zero_or_pos q.num with h | h
 ·rw[rq (q:=q.abs) h];grind
 ·have:=a0v (q:=q.abs) rfl h
  grind
theorem ank (a q:Q):isg (Q.add a (Q.add a q.abs).neg').neg (Q.add a (Q.add a q.abs).neg').num≤0:=by
 refine amq (q:=Q.add a (Q.add a q.abs).neg') ?_;rw[Q.add_r,Q.neg_r,Q.add_r];have:=a0b q
 grind
theorem agh {q:Q} (h:q.neg=true) (h0:0 < q.num):q.r < 0:=by
 have:q.r=-(Q.mk false q.num q.den).r:=by
  unfold Q.r;have:(Q.mk false q.num q.den).un=q.un:=rfl;rw[this,h];simp only[sgnR,cond_true,cond_false];grind
 have hp:=a0v (q:=Q.mk false q.num q.den) rfl h0
 grind
theorem oc (q:Q):(q.sign=0∧q.num=0)∨(q.sign=1∧q.neg=false∧0 < q.num)∨(q.sign=-1∧q.neg=true∧0 < q.num):=by
 unfold Q.sign;by_cases h:q.num=0
 ·left;exact⟨if_pos h,h⟩
 ·rw[if_neg h];cases hn:q.neg with
  | false=>right;left;exact⟨rfl,rfl,by omega⟩
  | true=>right;right;exact⟨rfl,rfl,by omega⟩
theorem lt_r {x y:Q} (hx:x.neg=false) (hy:y.neg=false) (h:y.num*x.un < x.num*y.un):y.r < x.r:=by
 have h1:=x.un_ne;have h2:=y.un_ne;have p1:(0:Rat) < (x.un:Rat):=by exact_mod_cast x.un_pos
 have p2:(0:Rat) < (y.un:Rat):=by exact_mod_cast y.un_pos
 have h3:((y.num*x.un:Nat):Rat) < ((x.num*y.un:Nat):Rat):=by exact_mod_cast h
 rw[Rat.natCast_mul,Rat.natCast_mul] at h3;have e:x.r - y.r=((x.num:Rat)*y.un - y.num*x.un)*((x.un:Rat)⁻¹*(y.un:Rat)⁻¹):=by
  unfold Q.r;rw[hx,hy];simp only[sgnR,cond_false]
  grind
 have:0 < x.r - y.r:=by
  rw[e];exact Rat.mul_pos (by grind) (Rat.mul_pos (Rat.inv_pos.2 p1) (Rat.inv_pos.2 p2))
 grind
theorem a2v {q:Q} (h:q.neg=true):q.r=-(Q.mk false q.num q.den).r:=by
 unfold Q.r;have:(Q.mk false q.num q.den).un=q.un:=rfl;rw[this,h];simp only[sgnR,cond_true,cond_false];grind
theorem ane {x y:Q} (h:x.r≤y.r):Q.cmpQ x y≤0:=by
 unfold Q.cmpQ;split
 ·decide
 ·rename_i g1
  split
  ·rename_i g2
   exfalso
   rcases oc x with ⟨a1,a2⟩ | ⟨a1,a2,a3⟩ | ⟨a1,a2,a3⟩<;>rcases oc y with ⟨b1,b2⟩ | ⟨b1,b2,b3⟩ | ⟨b1,b2,b3⟩<;>first | omega | skip
   ·have:=rq a2;have:=agh b2 b3;grind
   ·have:=a0v a2 a3;have:=rq b2;grind
   ·have:=a0v a2 a3;have:=agh b2 b3;grind
  ·rename_i g2
   rcases oc x with ⟨a1,a2⟩ | ⟨a1,a2,a3⟩ | ⟨a1,a2,a3⟩<;>rcases oc y with ⟨b1,b2⟩ | ⟨b1,b2,b3⟩ | ⟨b1,b2,b3⟩<;>first | omega | skip
   ·rw[a2,b2,Nat.zero_mul,Nat.zero_mul];simp[cmpI,isg,cmpN]
   ·have pa:=Nat.mul_pos a3 y.un_pos;have pb:=Nat.mul_pos b3 x.un_pos;unfold Q.sg;rw[a2,b2];simp only[Bool.false_and];unfold cmpI isg;rw[if_neg (Nat.ne_of_gt pa),if_neg (Nat.ne_of_gt pb)];simp only[Bool.false_eq_true,if_false];rw[if_neg om,if_neg om,if_neg om];unfold cmpN;split
    ·decide
    ·split
     ·rename_i hlt
      exfalso
      have:=lt_r a2 b2 hlt
      grind
     ·decide
   ·have pa:=Nat.mul_pos a3 y.un_pos;have pb:=Nat.mul_pos b3 x.un_pos;unfold Q.sg;rw[a2,b2,dt a3,dt b3,dt pa,dt pb];simp only[Bool.and_self];unfold cmpI isg;rw[if_neg (Nat.ne_of_gt pa),if_neg (Nat.ne_of_gt pb)];simp only[if_true];rw[if_neg om,if_neg om,if_pos om];unfold cmpN;split
    ·decide
    ·split
     ·rename_i hlt
      exfalso
      have:=lt_r (x:=Q.mk false y.num y.den) (y:=Q.mk false x.num x.den) rfl rfl hlt;rw[a2v a2,a2v b2] at h
      grind
     ·decide
theorem a43:∀(n:Nat) (r:List Nat),(boxQ n r).1.1.length=n∧(boxQ n r).1.2.length=n∧∀(i:Nat) (a b:Q),(boxQ n r).1.1[i]?=some a→(boxQ n r).1.2[i]?=some b→a.Qt∧∃q:Q,q.Qt∧b=Q.add a q.abs
 | 0,r=>⟨rfl,rfl,fun i a b h=>by simp[boxQ] at h⟩
 | n+1,r=>by
  rw[ace];obtain⟨h1,h2,h3⟩:=a43 n (numQ (numQ r).2).2;refine⟨by simp[h1],by simp[h2],fun i a b ha hb=>?_⟩;cases i with
  | zero=>simp at ha hb;subst ha hb;exact⟨a18 _,_,a18 _,rfl⟩
  | succ i=>exact h3 i a b (by simpa using ha) (by simpa using hb)
theorem xf:∀(n v:Nat) (r:List Nat) (f:Fm),f∈(en n v r).1→∃v' r',f=(ep v' r').1
 | 0,v,r,f,h=>by cases h
 | n+1,v,r,f,h=>by
  have h:f∈(ep v r).1::(en n (v+1) (ep v r).2).1:=h;rcases List.mem_cons.1 h with e | e
  ·exact⟨_,_,e⟩
  ·exact xf n _ _ f e
theorem ac0 {f:Fm} {v n:Nat} {r:List Nat} (he:f=(ep v r).1) (h:f.Ok n):f.Dz n 16:=by
 subst he;have hq:=afc v r;exact⟨fun t ht=>⟨a80 (hq.each t ht),(h.each t ht).1,(h.each t ht).2.1⟩,a80 hq.const⟩
theorem akg {q:Q} {D M:Nat} (h:q.Ok) (hz:Rz q.r D M) (hD:0 < D) (hD9:D < 18446744073709551616) (hM:M < 18446744073709551616):q.S 2:=Q.Dz.S ⟨h,hz⟩ hD hD9 hM
theorem a2m (n:Nat) (r:List Nat) (h0:1≤n) (h9:n≤3):(kw n r).1.Va n 2∧(∀q∈(kw n r).1.lo,Rz q.r 4 32)∧∀q∈(kw n r).1.hi,Rz q.r 4 32:=by
 obtain⟨h1,h2,h3⟩:=a43 n r;have lo:∀q∈(boxQ n r).1.1,q.Qt:=fun q hq=>by
  obtain⟨i,hi,rfl⟩:=List.mem_iff_getElem.1 hq;exact (h3 i _ _ (ge hi) (ge om)).1
 have hi:∀q∈(boxQ n r).1.2,q.Ok∧Rz q.r 4 32:=fun q hq=>by
  obtain⟨i,hi,rfl⟩:=List.mem_iff_getElem.1 hq;obtain⟨a1,p,a2,a3⟩:=h3 i _ _ (ge om) (ge hi);rw[a3];exact⟨Q.add_ok ..,by rw[Q.add_r];exact (a80 a1).add (Rz.abs (a80 a2))⟩
 refine⟨⟨h0,by omega,h1,h2,fun q hq=>akg (lo q hq).ok (a80 (lo q hq)) dx dx dx,fun q hq=>akg (hi q hq).1 (hi q hq).2 dx dx dx,fun i a b ha hb=>?_,?_,fun f hf=>?_,by decide⟩,fun q hq=>(a80 (lo q hq)).up dx,fun q hq=>(hi q hq).2⟩
 ·obtain⟨_,p,_,rfl⟩:=h3 i a b ha hb;refine⟨ank a p,ane ?_⟩;rw[Q.add_r];have:=a0b p
  grind
 ·show (ja _ _ _).1.length≤256;rw[rk];have:=qh (n:=3) dx (boxQ n r).2;omega
 ·have:=yb _ _ _ f hf;exact⟨this.ok,(jk this).up dx (nr _)⟩
theorem kq (r:List Nat):(am r).1.Va 2∧(∀p∈(am r).1.g.units,p.Dz ((am r).1.g.inputs+(am r).1.g.units.length) 16)∧(am r).1.goal.Dz ((am r).1.g.inputs+(am r).1.g.units.length) 16∧(am r).1.g.inputs≤3∧(am r).1.g.units.length≤4:=by
 have hg:=so r;obtain⟨h1,h2,h3⟩:=a2m (dn r).1.inputs (dn r).2 hg.i0 hg.i9;have hgoal:=gw ((dn r).1.inputs+(dn r).1.units.length) (kw (dn r).1.inputs (dn r).2).2;have hu:∀f∈(dn r).1.units,f.Ok ((dn r).1.inputs+(dn r).1.units.length)∧f.S 2 ((dn r).1.inputs+(dn r).1.units.length):=fun f hf=>by
  obtain⟨j,hj,rfl⟩:=List.mem_iff_getElem.1 hf;have hs:=hg.us j _ (ge hj);exact⟨hs.ok.mono om,(jk hs).up dx om⟩
 refine⟨⟨hg.va,fun f hf=>(hu f hf).2,h1,hgoal.ok,(jk hgoal).up dx (nr _)⟩,fun p hp=>?_,ac0 rfl hgoal.ok,hg.i9,hg.u9⟩;obtain⟨v',r',e⟩:=xf _ _ _ p hp;exact ac0 e (hu p hp).1
theorem a0m (r:List Nat):(⟨(am r).1,[],[]⟩:Sc).Va 2 3∧(⟨(am r).1,[],[]⟩:Sc).Dz 4 32:=by
 obtain⟨h1,h2,h3,h4,h5⟩:=kq r;have hg:=so r;obtain⟨_,g2,g3⟩:=a2m (dn r).1.inputs (dn r).2 hg.i0 hg.i9;exact⟨⟨h1,fun d hd=>(by cases hd),nq _,fun m hm=>(by cases hm),nq _,by decide,by decide,nr _,by show (am r).1.g.inputs+(am r).1.g.units.length≤8;omega⟩,⟨g2,g3,fun m hm=>(by cases hm)⟩⟩
theorem am8:∀u,u < 5→∀j,j < u+1→4 ^ j*4 < 79228162514264337593543950336∧MM 4 32 j < 79228162514264337593543950336:=by decide
theorem am7:∀u,u < 5→(∀j,j < u+1→MM (4 ^ u*4) (MM 4 32 u) j < 79228162514264337593543950336)∧4*(4 ^ u*(4 ^ u*4))*1 < 79228162514264337593543950336∧79228162514264337593543+8*(16*MM (4 ^ u*4) (MM 4 32 u) u)*1 < 79228162514264337593543950336:=by decide
def dh (q:Qr):Sc:=dq ⟨q,[],[]⟩
theorem abw {q:Qr} {K:Nat} (h:(⟨q,[],[]⟩:Sc).Va 2 3) (hz:(⟨q,[],[]⟩:Sc).Dz 4 32) (hu:∀p∈q.g.units,p.Dz (q.g.inputs+q.g.units.length) 16) (hg:∀t∈q.goal.terms,Rz t.2.r 4 16∧0≤t.1∧t.1 < ((q.g.inputs+q.g.units.length:Nat):Int)) (u4:q.g.units.length≤4) (hc:Rz q.goal.const.r (4*(4 ^ q.g.units.length*(4 ^ q.g.units.length*4))*1) K) (hK:K≤79228162514264337593543):GrowIn (dh q) 2 (4 ^ q.g.units.length*4) (MM 4 32 q.g.units.length) 1 K:=by
 have n1:=am8 q.g.units.length om q.g.units.length om;obtain⟨n2,n3,n4⟩:=am7 q.g.units.length om;obtain⟨v,z,l⟩:=pf (s:=⟨q,[],[]⟩) h (nq _) hz hu dx q.g.units.length (nr _) n1.1 n1.2;have hq:(dh q).q=q:=(fq ⟨q,[],[]⟩ q.g.units.length).1;refine⟨v,?_,z,by rw[hq];exact hu,Nat.mul_pos (Nat.pow_pos dx) dx,by rw[hq];exact hg,by rw[hq];exact nt h.q.goal.len h.n9,by rw[hq];exact hc,by decide,by rw[hq];exact n3,fun j hj=>?_,by rw[hq];omega⟩
 ·have:(dh q).lems.length≤0+2*q.g.units.length:=l;omega
 ·rw[hq] at hj;exact n2 j om
def ct (L:List Nat) (units:Nat):Nat:=if 0 < L.length then min (atZ L ((L.length - 1:Nat):Int) % 3) units else 0
def Qr.raise (q:Qr) (least:Q):Qr:=⟨q.g,q.rg,⟨q.goal.terms,Q.add q.goal.const least.neg'⟩⟩
def bo (L:List Nat):Qr:=
 bif decide (sgQ (ce (ct L (am L).1.g.units.length) (dh (am L).1) true).2 < 0) then (am L).1.raise (ce (ct L (am L).1.g.units.length) (dh (am L).1) true).2 else (am L).1
def mz (L:List Nat):Nd:=(ce (ct L (am L).1.g.units.length) (dh (bo L)) true).1
theorem am6:∀u,u < 5→16*(4 ^ u*(4 ^ u*4)*1)+(16*(4 ^ u*(4 ^ u*4)*1)+8*(16*MM (4 ^ u*4) (MM 4 32 u) u)*1)≤79228162514264337593543:=by decide
theorem acs (L:List Nat):GrowIn (dh (am L).1) 2 (4 ^ (am L).1.g.units.length*4) (MM 4 32 (am L).1.g.units.length) 1 (16*(4 ^ (am L).1.g.units.length*(4 ^ (am L).1.g.units.length*4)*1)):=by
 obtain⟨h1,h2,h3,h4,h5⟩:=kq L;obtain⟨s1,s2⟩:=a0m L;have n3:=am6 (am L).1.g.units.length om;refine abw s1 s2 h2 h3.each h5 ?_ om;have:=h3.const.scale (4 ^ (am L).1.g.units.length*(4 ^ (am L).1.g.units.length*4)*1);rw[← Nat.mul_assoc] at this;exact this
theorem ic (q:Qr):(dh q).q=q∧(dh q).path=[]:=fq ⟨q,[],[]⟩ _
theorem qx (L:List Nat) (n:Nat):ct L n≤n:=by
 unfold ct;split
 ·exact Nat.min_le_right _ _
 ·exact nq _
theorem a5f (L:List Nat):o7 2 3 (ct L (am L).1.g.units.length) (dh (am L).1)∧(ce (ct L (am L).1.g.units.length) (dh (am L).1) true).2.S 3∧Rz (ce (ct L (am L).1.g.units.length) (dh (am L).1) true).2.r (4*(4 ^ (am L).1.g.units.length*(4 ^ (am L).1.g.units.length*4))*1) (16*(4 ^ (am L).1.g.units.length*(4 ^ (am L).1.g.units.length*4)*1)+8*(16*MM (4 ^ (am L).1.g.units.length*4) (MM 4 32 (am L).1.g.units.length) (am L).1.g.units.length)*1):=by
 have h:=acs L;obtain⟨_,_,_,_,h5⟩:=kq L;have:=GrowIn.ok dx (ct L (am L).1.g.units.length) (root:=true) h (by
  rw[(ic _).2];have:=qx L (am L).1.g.units.length;show 0+_≤100;omega)
 rw[(ic _).1] at this;exact this
theorem lf (L:List Nat):(bo L).g=(am L).1.g∧(bo L).rg=(am L).1.rg∧(bo L).goal.terms=(am L).1.goal.terms:=by
 unfold bo;cases decide (sgQ (ce (ct L (am L).1.g.units.length) (dh (am L).1) true).2 < 0)<;>exact⟨rfl,rfl,rfl⟩
theorem vi (L:List Nat):(⟨bo L,[],[]⟩:Sc).Va 2 3∧(⟨bo L,[],[]⟩:Sc).Dz 4 32∧o7 2 3 (ct L (am L).1.g.units.length) (dh (bo L))∧(bo L).goal.S 3 8:=by
 obtain⟨q1,q2,q3,q4,q5⟩:=kq L;obtain⟨s1,s2⟩:=a0m L;obtain⟨g1,g2,g3⟩:=a5f L;have n3:=am6 (am L).1.g.units.length om;have n2:=(am7 (am L).1.g.units.length om).2.1;obtain⟨e1,e2,e3⟩:=lf L;have h16:Rz (am L).1.goal.const.r (4*(4 ^ (am L).1.g.units.length*(4 ^ (am L).1.g.units.length*4))*1) (16*(4 ^ (am L).1.g.units.length*(4 ^ (am L).1.g.units.length*4)*1)):=by
  have:=q3.const.scale (4 ^ (am L).1.g.units.length*(4 ^ (am L).1.g.units.length*4)*1);rw[← Nat.mul_assoc] at this;exact this
 have hc:(bo L).goal.const.S 3∧Rz (bo L).goal.const.r (4*(4 ^ (am L).1.g.units.length*(4 ^ (am L).1.g.units.length*4))*1) 79228162514264337593543:=by
  unfold bo;cases decide (sgQ (ce (ct L (am L).1.g.units.length) (dh (am L).1) true).2 < 0) with
  | false=>exact⟨q1.goal.const.ok |> fun ho=>rz_S ho h16 (Nat.mul_pos (Nat.mul_pos dx (Nat.mul_pos (Nat.pow_pos dx) (Nat.mul_pos (Nat.pow_pos dx) dx))) dx) n2 om,h16.up om⟩
  | true=>
   have hr:Rz (Q.add (am L).1.goal.const (ce (ct L (am L).1.g.units.length) (dh (am L).1) true).2.neg').r (4*(4 ^ (am L).1.g.units.length*(4 ^ (am L).1.g.units.length*4))*1) 79228162514264337593543:=by
    rw[Q.add_r,Q.neg_r];exact (h16.add g3.neg).up n3
   exact⟨rz_S (Q.add_ok ..) hr (Nat.mul_pos (Nat.mul_pos dx (Nat.mul_pos (Nat.pow_pos dx) (Nat.mul_pos (Nat.pow_pos dx) dx))) dx) n2 dx,hr⟩
 have hgS:(bo L).goal.S 3 8:=⟨⟨by rw[e3];exact q1.goal.cn.srt,by rw[e3];exact q1.goal.cn.nz,hc.1.ok⟩,fun t ht=>by
  rw[e3] at ht;exact tq_S (q3.each t ht).1 (q1.goal.each t ht).ok,hc.1,by rw[e3];exact nt q1.goal.len (by show (am L).1.g.inputs+(am L).1.g.units.length≤8;omega)⟩
 have hva:(⟨bo L,[],[]⟩:Sc).Va 2 3:=by
  refine⟨⟨by rw[e1];exact q1.g,by rw[e1];exact q1.us,by rw[e1,e2];exact q1.rg,⟨by rw[e3];exact q1.ok.asc,by rw[e3,e1];exact q1.ok.each,hc.1.ok⟩,⟨hgS.cn,fun t ht=>(hgS.each t ht).up dx,hc.1.up dx,by rw[e3,e1];exact q1.goal.len⟩⟩,fun d hd=>(by cases hd),nq _,fun m hm=>(by cases hm),nq _,by decide,by decide,nr _,by show (bo L).g.inputs+(bo L).g.units.length≤8;rw[e1];omega⟩
 have hdz:(⟨bo L,[],[]⟩:Sc).Dz 4 32:=⟨by show ∀q∈(bo L).rg.lo,_;rw[e2];exact s2.lo,by show ∀q∈(bo L).rg.hi,_;rw[e2];exact s2.hi,fun m hm=>(by cases hm)⟩;refine⟨hva,hdz,?_,hgS⟩;have gi:=abw hva hdz (by rw[e1];exact q2) (by rw[e3,e1];exact q3.each) (by rw[e1];exact q5) (by rw[e1];exact hc.2) (nr _);exact (GrowIn.ok dx (ct L (am L).1.g.units.length) (root:=true) gi (by
  rw[(ic _).2];have:=qx L (am L).1.g.units.length;show 0+_≤100;omega)).1
where
 tq_S {q:Q} (h:Rz q.r 4 16) (ho:q.Ok):q.S 3:=rz_S ho h dx dx dx
theorem a90 {L:List Nat} {n:Nat} (h:0 < L.length):(if (n:Int) < IntKind.wrap .i64 (((atZ L ((L.length - 1:Nat):Int):Nat):Int).tmod 3) then (n:Int) else IntKind.wrap .i64 (((atZ L ((L.length - 1:Nat):Int):Nat):Int).tmod 3))=(ct L n:Int):=by
 have e:IntKind.wrap .i64 (((atZ L ((L.length - 1:Nat):Int):Nat):Int).tmod 3)=((atZ L ((L.length - 1:Nat):Int) % 3:Nat):Int):=by
  generalize atZ L ((L.length - 1:Nat):Int)=b;have:((b:Int).tmod 3)=((b % 3:Nat):Int):=by rw[Int.tmod_eq_emod_of_nonneg om];omega
  rw[this,fx om om]
 rw[e];unfold ct;rw[if_pos h];split<;>omega
theorem acy {L:List Nat} {n:Nat} (h:L.length=0):(0:Int)=(ct L n:Int):=by
 unfold ct;rw[if_neg om];rfl
theorem afs {q:Qr} (h:(⟨q,[],[]⟩:Sc).Va 2 3) (hz:(⟨q,[],[]⟩:Sc).Dz 4 32) (hu:∀p∈q.g.units,p.Dz (q.g.inputs+q.g.units.length) 16) (u4:q.g.units.length≤4):∀j,j≤q.g.units.length→(ak ⟨q,[],[]⟩ j).Va 2 3:=fun j hj=>by
 have n1:=am8 q.g.units.length om j om;exact (pf (s:=⟨q,[],[]⟩) h (nq _) hz hu dx j hj n1.1 n1.2).1
theorem ui {f:Fm} {n M:Nat} (h:f.Dz n M) (hn:n≤1000):∀t∈f.terms,0≤t.1∧t.1≤1000:=fun t ht=>by
 have:=(h.each t ht).2;omega
theorem aon (L:List Nat):(am L).1.goal.S 3 8:=by
 obtain⟨q1,q2,q3,q4,q5⟩:=kq L;refine⟨q1.goal.cn,fun t ht=>rz_S (q1.goal.each t ht).ok (q3.each t ht).1 dx dx dx,rz_S q1.goal.const.ok q3.const dx dx dx,nt q1.goal.len om⟩
theorem aks {A:Option Addr} {k:Nat} {L:List Nat} (hl:∀y∈L,y < 256) (hn:L.length≤1000):PCallsW (By ⟨A,L.length,k⟩ L) Tryz.prog TQ 9 [.raw (.slice A L.length k)] (.tup [qyP (bo L),ndP (mz L)]):=by
 obtain⟨q1,q2,q3,q4,q5⟩:=kq L;obtain⟨s1,s2⟩:=a0m L;obtain⟨g1,g2,g3⟩:=a5f L;obtain⟨v1,v2,v3,v4⟩:=vi L;obtain⟨t1,t2,t3⟩:=lf L;have hi:=a7x (x:=⟨A,L.length,k⟩) hl hn;have hsp:=qx L (am L).1.g.units.length;have hb1:=rd (s:=⟨(am L).1,[],[]⟩) (afs s1 s2 q2 q5) (fun p hp=>ui (q2 p hp) om);have hg1:=a9v (k:=ct L (am L).1.g.units.length) om g1 (by rw[(ic _).1];exact fun p hp=>ui (q2 p hp) om) (by rw[(ic _).1];exact aon L) (by rw[(ic _).1];exact ui q3 om);have hb2:=rd (s:=⟨bo L,[],[]⟩) (afs v1 v2 (by rw[t1];exact q2) (by rw[t1];exact q5)) (by show ∀p∈(bo L).g.units,_;rw[t1];exact fun p hp=>ui (q2 p hp) om);have hg2:=a9v (k:=ct L (am L).1.g.units.length) om v3 (by rw[(ic _).1,t1];exact fun p hp=>ui (q2 p hp) om) (by rw[(ic _).1];exact v4) (by rw[(ic _).1,t3];exact ui q3 om);have hc:(am L).1.goal.const.S 100:=q1.goal.const;have hq2:bo L=(bif decide (sgQ (ce (ct L (am L).1.g.units.length) (dh (am L).1) true).2 < 0) then (am L).1.raise (ce (ct L (am L).1.g.units.length) (dh (am L).1) true).2 else (am L).1):=rfl;unfold mz;change PCalls _ _ _ _ (scP (dh (am L).1)) at hb1;change PCalls _ _ _ _ (scP (dh (bo L))) at hb2;clear q1 q2 q3 s1 s2 g1 g3 v1 v2 v3 v4 t1 t2 t3;generalize bo L=q' at*;generalize (am L).1=q at*;generalize dh q=sc1 at*;generalize dh q'=sc2 at*;generalize ce (ct L q.g.units.length) sc1 true=G1 at*;generalize ce (ct L q.g.units.length) sc2 true=G2 at*;obtain⟨⟨l1,d1,k1,e1,p1⟩,w1⟩:=G1;obtain⟨⟨l2,d2,k2,e2,p2⟩,w2⟩:=G2;simp only at*;refine pcW [39,46] (by kernel_rfl) Tryz.func9 rfl rfl (fun D hF hM hH=>?_);refine pa Y Y ?_
 apply aa8 (sl:=[(2,_),(3,_),(4,_),(0,_)]) (rs:=[(2,_),(3,_),(4,_)]) [39,46,35] (True)
 case h1=>
  refine au ?_;refine rcw hM (fun _=>hH.gr) (hi) Y Y Y Y Y Y Y ?_;refine au ?_;refine⟨?_,trivial⟩;refine Sub.of ?_ ?_ ?_
  ·exact (c4 Y Y Y Y trivial)
  ·exact (c3 Y Y Y trivial)
  ·rfl
 case h2=>
  intro _;refine pa Y Y ?_
  apply aa8 (sl:=[(2,_),(3,_),(4,_),(5,.pv (iP ((ct L q.g.units.length:Nat):Int)))]) (rs:=[(2,_),(3,_),(4,_)]) [39,46,35] (True)
  case h1=>
   refine pr0 (qg 1 ?_);refine ro0 Y Y Y (fun hd=>m8 Y Y Y hd) ?_;refine a2 (fun e14=>?_) (fun e14=>?_)
   ·have h14:0 < L.length:=by have h:=of_decide_eq_true e14;omega
    have h18:ariO .sub .i64 (L.length:Int) 1=some ((L.length - 1:Nat):Int):=by exact j7 (dt om) om
    obtain⟨ad,hA,_⟩:=hH.at (show L.length - 1 < L.length by omega);simp only at hA;subst hA;have hc:∀w,Gr D.w0 w→w.cell? (ad.add (L.length - 1))=some (bv (atZ L ((L.length - 1:Nat):Int))):=fun w G=>by
     obtain⟨ad2,h1,h2⟩:=(hH.gr G).at (show L.length - 1 < L.length by omega);injection h1 with h1;subst h1;exact h2
    refine pr0' (qg 2 ?_);refine ro0 Y Y Y (fun hd=>m8 Y Y Y hd) ?_;refine aa (c:=h18) ?_;refine ro0 Y Y Y (fun hd=>aer (i:=L.length - 1) Y Y Y Y Y om hd) ?_;refine ro0 Y Y Y (fun hd=>aat Y hM hc Y Y hd) ?_;refine ro0 Y Y Y (fun hd=>aas Y Y Y dx hd) ?_;refine ro0 Y Y Y (fun hd=>a6f (ds:=.int .u8) (j:=.i64) Y Y (by kernel_rfl) (by kernel_rfl) hd) ?_;refine qg 4 ?_;refine ro0 Y Y Y (fun hd=>aio Y Y Y Y hd) ?_;refine au ?_;refine⟨?_,trivial⟩;refine Sub.of ?_ ?_ ?_
    ·exact (c3 Y Y Y (ai (congrArg (fun z=>some (SV.pv (iP z))) (by rw[List.length_map];exact a90 h14)) trivial))
    ·exact (c3 Y Y Y trivial)
    ·rfl
   ·have h14:L.length=0:=by have h:=of_decide_eq_false e14;omega
    refine au ?_;refine⟨?_,trivial⟩;refine Sub.of ?_ ?_ ?_
    ·exact (c3 Y Y Y (ai (congrArg (fun z=>some (SV.pv (iP z))) (acy h14)) trivial))
    ·exact (c3 Y Y Y trivial)
    ·rfl
  case h2=>
   intro _;refine ac (c:=hb1) ?_;refine ac (c:=hg1) ?_;refine qg 7 ?_;refine rn Y ?_
   apply aa8 (sl:=[(2,_),(3,_),(4,_),(5,_)]) (rs:=[(2,_),(3,_),(4,.box 39 [.pv (iP q'.g.inputs),.pv (b7 q'.g.units),.pv (b7 q'.g.outputs),.pv (cz q'.rg.lo),.pv (cz q'.rg.hi),.pv (b7 q'.rg.rows),.pv (bu q'.goal.terms),.pv (bP q'.goal.const.neg),.pv (.nat q'.goal.const.num),.pv (.nat q'.goal.const.den)])]) [39,46,35] (True)
   case h1=>
    refine ac (c:=iz (g2.sm dx)) ?_;refine a2 (fun e38=>?_) (fun e38=>?_)
    ·refine ac (c:=adp (hc.sm dx) (g2.sm dx) hc.ok g2.neg.ok) ?_;refine au ?_;refine⟨?_,trivial⟩;refine Sub.of ?_ ?_ ?_
     ·exact (c4 Y Y Y Y trivial)
     ·exact (c2 Y Y (ai (congrArg (fun q:Qr=>some (Res.box 39 [.pv (iP q.g.inputs),.pv (b7 q.g.units),.pv (b7 q.g.outputs),.pv (cz q.rg.lo),.pv (cz q.rg.hi),.pv (b7 q.rg.rows),.pv (bu q.goal.terms),.pv (bP q.goal.const.neg),.pv (.nat q.goal.const.num),.pv (.nat q.goal.const.den)])) (show q.raise w1=q' by rw[hq2,e38];rfl)) trivial))
     ·rfl
    ·refine au ?_;refine⟨?_,trivial⟩;refine Sub.of ?_ ?_ ?_
     ·exact (c4 Y Y Y Y trivial)
     ·exact (c2 Y Y (ai (congrArg (fun q:Qr=>some (Res.box 39 [.pv (iP q.g.inputs),.pv (b7 q.g.units),.pv (b7 q.g.outputs),.pv (cz q.rg.lo),.pv (cz q.rg.hi),.pv (b7 q.rg.rows),.pv (bu q.goal.terms),.pv (bP q.goal.const.neg),.pv (.nat q.goal.const.num),.pv (.nat q.goal.const.den)])) (show q=q' by rw[hq2,e38];rfl)) trivial))
     ·rfl
   case h2=>
    intro _;refine ac (c:=hb2) ?_;refine ac (c:=hg2) ?_;exact ar (c:=rfl)
def Nd.Good:Nat→Nd→Prop
 | 0,.mk ls _ _ _ p=>(∀m∈ls,LmOk m)∧ls.length≤100∧PfOk p
 | k+1,.mk ls d ks _ _=>(∀m∈ls,LmOk m)∧ls.length≤100∧d.at_=Q.zero∧∀a∈ks,Nd.Good k a
theorem Nd.Good.lim:∀{k:Nat} {n:Nd},n.Good k→n.Lim k
 | 0,.mk ls d ks e p,h=>⟨h.2.1,nt h.2.2.len dx⟩
 | k+1,.mk ls d ks e p,h=>⟨h.2.1,fun a ha=>(h.2.2.2 a ha).lim⟩
structure EnG (x:En) (n:Nat):Prop where
 ok:EnOk x
 len:x.lems.length≤n
 at_:∀d∈x.path,d.at_=Q.zero
 path:x.path.length≤100
theorem am2 (d:Dc):(oppD d).at_=d.at_:=by unfold oppD;cases decide (0 < d.kind)&&decide (d.kind < 5)<;>rfl
theorem a1x:∀(k:Nat) (n:Nd) (path:List Dc) (lems:List Lm),n.Good k→(∀m∈lems,LmOk m)→(∀d∈path,d.at_=Q.zero)→path.length+k≤100→∀x∈entR k n path lems,EnG x (lems.length+100*(k+1))
 | 0,.mk ls d ks e p,path,lems,h,hl,hp,h9,x,hx=>by
  obtain rfl:=mj hx;refine⟨⟨fun m hm=>?_,h.2.2⟩,by show (lems++ls).length≤_;rw[List.length_append];have:=h.2.1;omega,hp,h9⟩;rcases List.mem_append.1 hm with e | e
  ·exact hl m e
  ·exact h.1 m e
 | k+1,.mk ls d ks e p,path,lems,h,hl,hp,h9,x,hx=>by
  obtain⟨h1,h2,h3,h4⟩:=h;have hl2:∀m∈lems++ls,LmOk m:=fun m hm=>by
   rcases List.mem_append.1 hm with e | e
   ·exact hl m e
   ·exact h1 m e
  match ks,hx with
  | [],hx=>cases hx
  | [_],hx=>cases hx
  | [a,b],hx=>
   have hp2:∀d':Dc,d'.at_=Q.zero→∀z∈path++[d'],z.at_=Q.zero:=fun d' hd z hz=>by
    rcases List.mem_append.1 hz with e | e
    ·exact hp z e
    ·rw[mj e];exact hd
   have key:EnG x ((lems++ls).length+100*(k+1)):=by
    rcases List.mem_append.1 (show x∈entR k a _ _++entR k b _ _ from hx) with e | e
    ·exact a1x k a _ _ (h4 a (mf ..)) hl2 (hp2 d h3) (by rw[List.length_append];show path.length+1+k≤100;omega) x e
    ·exact a1x k b _ _ (h4 b (List.mem_cons_of_mem _ (mf ..))) hl2 (hp2 _ ((am2 d).trans h3)) (by rw[List.length_append];show path.length+1+k≤100;omega) x e
   refine⟨key.ok,nt key.len ?_,key.at_,key.path⟩;rw[List.length_append];omega
  | _::_::_::_,hx=>cases hx
theorem age {to:List Int} {l:List Mm} (h:PfOk l):PfOk (l.map (renM to)):=by
 refine⟨fun m hm=>?_,by rw[List.length_map];exact h.len⟩;obtain⟨m',h1,rfl⟩:=List.mem_map.1 hm;exact h.each m' h1
theorem a6r {to:List Int}:∀{is:List Bool} {ls:List Lm},(∀m∈ls,LmOk m)→(∀m∈eg to is ls,LmOk m)∧(eg to is ls).length≤ls.length
 | [],ls,h=>⟨(fun m hm=>by cases ls<;>cases hm),nq _⟩
 | b::is,[],h=>⟨(fun m hm=>by cases hm),nq _⟩
 | b::is,m::ls,h=>by
  obtain⟨h1,h2⟩:=a6r (to:=to) (is:=is) (ls:=ls) fun z hz=>h z (List.mem_cons_of_mem _ hz)
  rw[eg];cases b with
  | true=>
   refine⟨fun z hz=>?_,by rw[cond_true,List.length_cons,List.length_cons];omega⟩;rcases List.mem_cons.1 hz with e | e
   ·have:=h m (mf ..);rw[e];exact⟨this.value,age this.proof⟩
   ·exact h1 z e
  | false=>exact⟨h1,by rw[cond_false,List.length_cons];omega⟩
theorem EnG.reduce {x:En} {n:Nat} (h:EnG x n):EnG (du x) n:=by
 obtain⟨h1,h2⟩:=a6r (to:=ci (gj x.lems x.proof)) (is:=gj x.lems x.proof) h.ok.lems;exact⟨⟨h1,age h.ok.proof⟩,nt h2 h.len,h.at_,h.path⟩
theorem EnG.va {x:En} {n a:Nat} {q:Qr} (h:EnG x n) (hn:n≤1000) (hq:q.Va a) (ha:1≤a) (ha2:a≤2) (h4:q.g.inputs+q.g.units.length≤8):(x.sc q).Va a 8:=
 ⟨hq,fun d hd=>by rw[h.at_ d hd];exact sz_zero.up ha,nt h.path dx,fun m hm=>(h.ok.lems m hm).value,nt h.len hn,by decide,by decide,ha2,h4⟩
theorem ajx {s:Sc} {a b:Nat} (hv:∀j,j≤s.q.g.units.length→(ak s j).Va a b) (hl:∀m∈s.lems,LmOk m):∀j,j≤s.q.g.units.length→(∀m∈(ak s j).lems,LmOk m)∧(ak s j).lems.length≤s.lems.length+2*j
 | 0,_=>⟨hl,nr _⟩
 | j+1,hj=>by
  obtain⟨h1,h2⟩:=ajx hv hl j om;have h3:=hv j om;have h4:=hv (j+1) hj;have hq:(ak s j).q=s.q:=(fq s j).1;have hm:atZ (ak s j).q.g.units (j:Int)∈(ak s j).q.g.units:=bi om (by rw[hq];omega);have hp:(atZ (ak s j).q.g.units (j:Int)).S 2 8:=(h3.q.us _ hm).up h3.a9 h3.n9;obtain⟨_,a2,a3⟩:=wv h3 (hp.up (t:=3) (m:=8) dx dx);obtain⟨_,b2,b3⟩:=wv h3 ((hp.scaleR ez).up (t:=3) (m:=8) dx dx);have mem:∀m∈(ak s (j+1)).lems,m∈(ak s j).lems∨m.proof=(bj (ak s j) (atZ (ak s j).q.g.units (j:Int))).2.1∨m.proof=(bj (ak s j) (Fm.scaleR (atZ (ak s j).q.g.units (j:Int)) Q.mone)).2.1:=fun m hm=>by
   have hm':m∈kl _ _ _ _:=hm;unfold kl at hm';rcases List.mem_append.1 hm' with e | e
   ·exact .inl e
   ·right
    rcases List.mem_append.1 e with e | e
    ·left
     revert e
     cases (bj (ak s j) (atZ (ak s j).q.g.units (j:Int))).2.2 with
     | true=>intro e;rw[mj e]
     | false=>intro e;cases e
    ·right
     revert e
     cases (bj (ak s j) (Fm.scaleR (atZ (ak s j).q.g.units (j:Int)) Q.mone)).2.2 with
     | true=>intro e;rw[mj e]
     | false=>intro e;cases e
  refine⟨fun m hm=>⟨(h4.lems m hm).up h4.b9,?_⟩,?_⟩
  ·rcases mem m hm with e | e | e
   ·exact (h1 m e).proof
   ·rw[e];exact⟨fun z hz=>(a2 z hz).up dx,a3⟩
   ·rw[e];exact⟨fun z hz=>(b2 z hz).up dx,b3⟩
  ·show (kl _ _ _ _).length≤_;unfold kl;rw[List.length_append,List.length_append];have:∀(b:Bool) (x:Lm),(bif b then [x] else []).length≤1:=fun b x=>by cases b<;>simp
   have t1:=this (bj (ak s j) (atZ (ak s j).q.g.units (j:Int))).2.2 ⟨(j:Int),false,(bj (ak s j) (atZ (ak s j).q.g.units (j:Int))).1,(bj (ak s j) (atZ (ak s j).q.g.units (j:Int))).2.1⟩;have t2:=this (bj (ak s j) (Fm.scaleR (atZ (ak s j).q.g.units (j:Int)) Q.mone)).2.2 ⟨(j:Int),true,(bj (ak s j) (Fm.scaleR (atZ (ak s j).q.g.units (j:Int)) Q.mone)).1.neg',(bj (ak s j) (Fm.scaleR (atZ (ak s j).q.g.units (j:Int)) Q.mone)).2.1⟩;omega
theorem z6 {a b:Nat}:∀(k:Nat) {s:Sc} {root:Bool},o7 a b k s→(∀m∈s.lems,LmOk m)→s.lems.length+2*s.q.g.units.length≤100→s.q.goal.S 3 8→Nd.Good k (ce k s root).1
 | 0,s,root,h,hl,h9,hg=>by
  have hv:∀j,j≤s.q.g.units.length→(ak s j).Va a b:=h;obtain⟨h1,h2⟩:=ajx hv hl s.q.g.units.length (nr _);obtain⟨_,a2,a3⟩:=wv (hv _ (nr _)) hg;refine⟨fun m hm=>h1 m (List.mem_of_mem_drop hm),?_,fun z hz=>(a2 z hz).up dx,a3⟩;rw[List.length_drop];have:(dq s).lems.length≤_:=h2;omega
 | k+1,s,root,h,hl,h9,hg=>by
  refine⟨?_,?_,rfl,fun x hx=>?_⟩
  ·cases root with
   | true=>exact hl
   | false=>intro m hm;cases hm
  ·cases root with
   | true=>show s.lems.length≤100;omega
   | false=>exact nq _
  ·rcases List.mem_cons.1 hx with e | e
   ·rw[e];exact z6 k h.1 hl h9 hg
   ·rw[mj e];exact z6 k h.2.1 hl h9 hg
theorem a4y:∀(k:Nat) (s:Sc) (root:Bool),Nd.Wf k (ce k s root).1
 | 0,s,root=>⟨rfl,rfl⟩
 | k+1,s,root=>⟨rfl,rfl,Int.le_refl 1,(show (1:Int)≤4 by decide),_,_,rfl,a4y k _ _,a4y k _ _⟩
abbrev kh (L:List Nat):Nat:=ct L (am L).1.g.units.length
theorem act (L:List Nat):kh L≤2:=by
 unfold kh ct;split
 ·exact nt (Nat.min_le_left _ _) om
 ·exact nq _
theorem a8t (L:List Nat):(bo L).Va 2∧(bo L).g.inputs+(bo L).g.units.length≤8∧(bo L).goal.S 100 8∧(mz L).Wf (kh L)∧(mz L).Good (kh L):=by
 obtain⟨q1,q2,q3,q4,q5⟩:=kq L;obtain⟨v1,v2,v3,v4⟩:=vi L;obtain⟨t1,t2,t3⟩:=lf L;have hb:=afs v1 v2 (by rw[t1];exact q2) (by rw[t1];exact q5);obtain⟨l1,l2⟩:=ajx (s:=⟨bo L,[],[]⟩) hb (fun m hm=>by cases hm) (bo L).g.units.length (nr _);have hq:(dh (bo L)).q=bo L:=(ic _).1;refine⟨v1.q,by rw[t1];omega,v4.up dx dx,a4y _ _ _,z6 _ v3 l1 ?_ (by rw[hq];exact v4)⟩;rw[hq,t1];have:(dh (bo L)).lems.length≤0+2*(bo L).g.units.length:=l2;rw[t1] at this;omega
theorem ac5 {k a:Nat} {n:Nd} {q:Qr} (hg:n.Good k) (hk:k≤8) (hq:q.Va a) (ha:1≤a) (ha2:a≤2) (h4:q.g.inputs+q.g.units.length≤8):∀x∈entR k n [] [],EnOk x∧x.lems.length≤1000∧EnOk (du x)∧((du x).sc q).Va a 8:=fun x hx=>by
 have h:=a1x k n [] [] hg (fun m hm=>by cases hm) (fun d hd=>by cases hd) (by show 0+k≤100;omega) x hx;have h9:([]:List Lm).length+100*(k+1)≤1000:=by show 0+100*(k+1)≤1000;omega
 exact⟨h.ok,nt h.len h9,h.reduce.ok,h.reduce.va h9 hq ha ha2 h4⟩
theorem sr {α:Type} [Inhabited α] {f:α→α→Bool} (h:∀x,f x x=true) (l:List α):eqL f l l=true:=by
 unfold eqL;rw[beq_self_eq_true,Bool.true_and,List.all_eq_true];exact fun i _=>h _
theorem a3a (x:Mm):mmEq x x=true:=by unfold mmEq;rw[r4];simp
theorem abe (x:Lm):lmEq x x=true:=by unfold lmEq;rw[sr a3a];simp
theorem aca (x:Dc):dcEq x x=true:=by rw[ajq];simp
theorem ac6 (x:En):enEq x x=true:=by unfold enEq;rw[sr aca,sr abe,sr a3a];simp
theorem ajn (x y:En):eqL enEq [x] [y]=enEq x y:=by
 show (true&&(enEq x y&&true))=_;simp
abbrev TL:List Nat:=[35,37,138,200,224]
theorem a14:PCallsW LaidG Tryz.prog [] 8 [] (bP true):=⟨by kernel_rfl,fun w X us hw _ _ hr=>by
 obtain rfl:=PV.RepL.inv0 hr;exact (ann w hw).mono fun e w' ⟨he,G⟩=>⟨_,he,nc _,G⟩⟩
def EnZ (x:En):Prop:=x.path.length≤1000000∧x.lems.length≤1000000∧(∀m∈x.lems,m.proof.length≤1000000)∧x.proof.length≤1000000
theorem EnZ.of {x:En} {q:Qr} {a b:Nat} (h:EnOk x) (k:(x.sc q).Va a b):EnZ x:=⟨nt k.p9 dx,nt k.l9 dx,fun m hm=>nt (h.lems m hm).proof.len dx,nt h.proof.len dx⟩
theorem af4 {q:Qr} {l:List En} {y:En} (h:y∈gk q l):∃x∈l,du x=y:=by
 unfold gk at h;exact List.mem_map.1 (List.mem_filter.1 h).1
theorem a2f {l:List En} {k:Nat} (hk:k < l.length):((l.map enC).take (k+1)).drop k=[enC (atZ l (k:Int))]:=by
 rw[← List.map_take,← List.map_drop,List.take_add_one,ah hk,List.drop_append];simp[List.length_take,Nat.min_eq_left (Nat.le_of_lt hk)]
theorem anu {xs ys:List (List PV)} {x y:En} (hx:xs=[enC x]) (hy:ys=[enC y]) (h:EnZ x):PCalls Tryz.prog [] 14 [.rows 77 10 enT xs,.rows 77 10 enT ys] (bP (enEq x y)):=by
 subst hx hy;have:=a9o [x] [y] (by show 1≤_;decide) (fun z hz=>by rw[mj hz];exact h);rw[ajn] at this;exact this
theorem a42 {k:IntKind} {w:World} {a:Option Addr} {len cap:Nat} {zs:List Int} (h:IsRow k w a len cap zs):(qo zs len).length=len:=by
 unfold qo;rw[List.length_map,h.lens]
theorem PCallsW.in1 {H:World→Prop} {P:Program} {T:List Nat} {f:FuncId} {args:List PV} {b:Bool} (h:PCallsW H P T f args (bP b)) {w:World} (hw:H w) {us:List Value} (hr:PV.RepL w NoX args us):Calls P f us.toArray w fun e w'=>e=.returned (.bool b)∧Below w.heap.size w w':=
 (h.2 w NoX us hw (fun _ h=>h.elim) (fun _ _ _ _ h=>h.elim) hr).mono fun e w' ⟨v,he,hv,G⟩=>⟨by rw[he,gn hv],G.below⟩
theorem abv {q:Q} (h:0 < q.r):¬sgQ q≤0:=fun hc=>by
 rcases Nat.eq_zero_or_pos q.num with h0 | h0
 ·rw[rq h0] at h;grind
 ·have:sgQ q < 0:=by
   unfold sgQ isg at hc ⊢;rw[if_neg om] at hc ⊢;cases hn:q.neg<;>rw[hn] at hc<;>simp at hc ⊢
  have:=abn this
  grind
theorem ama {q:Q} (h:¬sgQ q < 0):0≤q.r:=by
 rcases Nat.eq_zero_or_pos q.num with h0 | h0
 ·rw[rq h0];grind
 ·unfold sgQ isg at h;rw[if_neg om] at h;cases hn:q.neg with
  | false=>have:=a0v hn h0;grind
  | true=>rw[hn] at h;simp at h
theorem a1e {a b:Rw}:io a b=true↔a.kind < b.kind∨a.kind=b.kind∧(a.index < b.index∨a.index=b.index∧(a.lo < b.lo∨a.lo=b.lo∧a.hi < b.hi)):=by
 unfold io;by_cases h1:a.kind=b.kind
 ·by_cases h2:a.index=b.index
  ·by_cases h3:a.lo=b.lo
   ·simp[h1,h2,h3]
   ·simp[h1,h2,h3]
  ·simp[h1,h2]
 ·simp[h1]
theorem aj6 {a b:Rw} (h1:¬io a b=true) (h2:¬io b a=true):a=b:=by
 rw[a1e] at h1 h2;obtain⟨a1,a2,a3,a4⟩:=a;obtain⟨b1,b2,b3,b4⟩:=b;simp only at h1 h2;rw[Rw.mk.injEq];omega
theorem aj5 {a b c:Rw} (h1:io a b=true) (h2:io b c=true):io a c=true:=by
 rw[a1e] at h1 h2 ⊢;omega
abbrev CanP (l:List Mm):Prop:=(l.Pairwise fun a b=>io a.1 b.1=true)∧∀m∈l,0 < m.2.r
theorem CanP.ok {l:List Mm} (h:CanP l):fh l=true:=by
 refine ta (i:=l.length) (fun j hj=>?_) (nr _);unfold badM;rw[bm (ge hj),df (abv (h.2 _ (List.getElem_mem hj))),Bool.false_or];rcases Nat.eq_zero_or_pos j with rfl | h0
 ·rfl
 ·have:io (l[j - 1]'om).1 l[j].1=true:=List.pairwise_iff_getElem.1 h.1 _ _ _ _ om;rw[bm (ge (show j - 1 < l.length by omega)),this];simp
def insM (r:Rw) (c:Q):List Mm→List Mm
 | []=>[(r,ck c)]
 | m::l=>bif io m.1 r then m::insM r c l else bif jl m.1 r then (r,Q.add m.2 c)::l else (r,ck c)::m::l
theorem a67 {r:Rw} {c:Q} (h:(sgQ c == 0)=false):∀(l:List Mm),lm l r c=insM r c l
 | []=>by unfold lm;rw[h];rfl
 | m::l=>by
  have ih:=a67 (r:=r) h l;unfold lm at ih ⊢;rw[h] at ih ⊢;rw[insM,posR];cases hl:io m.1 r with
  | true=>
   simp only[cond_false,cond_true] at ih ⊢;rw[← ih];have e:∀(j:Nat),atZ (m::l) ((j+1:Nat):Int)=atZ l (j:Int)∨l.length≤j:=fun j=>by
    rcases Nat.lt_or_ge j l.length with g | g
    ·left;rw[bm (l:=m::l) (i:=j+1) (a:=l[j]) (by simp[g]),bm (ge g)]
    ·right;exact g
   have d:decide (((posR r l+1:Nat):Int) < ((m::l).length:Int))=decide ((posR r l:Int) < (l.length:Int)):=by
    rw[List.length_cons];exact decide_eq_decide.2 om
   rcases e (posR r l) with e | e
   ·rw[d,e];cases decide ((posR r l:Int) < (l.length:Int))&&jl (atZ l (posR r l:Int)).1 r<;>simp
   ·rw[d,df om];simp
  | false=>
   simp only[cond_false];rw[bm (l:=m::l) (i:=0) (a:=m) rfl,dt (by rw[List.length_cons];omega),Bool.true_and];cases jl m.1 r<;>simp
theorem a1o {r:Rw} {c:Q} {x:Mm}:∀{l:List Mm},x∈insM r c l→x.1=r∨x∈l
 | [],h=>by rw[insM] at h;rw[mj h];exact .inl rfl
 | m::l,h=>by
  rw[insM] at h;cases hl:io m.1 r<;>rw[hl] at h
  ·cases he:jl m.1 r<;>rw[he] at h<;>rcases List.mem_cons.1 h with rfl | h
   ·exact .inl rfl
   ·exact .inr h
   ·exact .inl rfl
   ·exact .inr (List.mem_cons_of_mem _ h)
  ·rcases List.mem_cons.1 h with rfl | h
   ·exact .inr (mf ..)
   ·rcases a1o h with h | h
    ·exact .inl h
    ·exact .inr (List.mem_cons_of_mem _ h)
theorem a6v {r:Rw} {c:Q} (hc:0 < c.r):∀{l:List Mm},CanP l→CanP (insM r c l)
 | [],_=>⟨by simp[insM],fun m hm=>by rw[insM] at hm;rw[mj hm];show 0 < (ck c).r;rw[ze];exact hc⟩
 | m::l,h=>by
  have h1:=List.pairwise_cons.1 h.1;have hp:∀x∈l,0 < x.2.r:=fun x hx=>h.2 x (List.mem_cons_of_mem _ hx)
  have hm:=h.2 m (mf ..);rw[insM];cases hl:io m.1 r with
  | true=>
   obtain⟨i1,i2⟩:=a6v hc (l:=l) ⟨h1.2,hp⟩;refine⟨List.pairwise_cons.2 ⟨fun x hx=>?_,i1⟩,fun x hx=>?_⟩
   ·rcases a1o hx with e | hx
    ·rw[e];exact hl
    ·exact h1.1 x hx
   ·rcases List.mem_cons.1 hx with rfl | hx
    ·exact hm
    ·exact i2 x hx
  | false=>
   cases he:jl m.1 r with
   | true=>
    have e:m.1=r:=by rw[r4] at he;exact of_decide_eq_true he
    refine⟨List.pairwise_cons.2 ⟨fun x hx=>by rw[← e];exact h1.1 x hx,h1.2⟩,fun x hx=>?_⟩;rcases List.mem_cons.1 hx with rfl | hx
    ·show 0 < (Q.add m.2 c).r;rw[Q.add_r];grind
    ·exact hp x hx
   | false=>
    have hr:io r m.1=true:=by
     cases hh:io r m.1 with
     | true=>rfl
     | false=>
      have:=aj6 (a:=m.1) (b:=r) (by rw[hl];decide) (by rw[hh];decide);rw[r4,dt this] at he;cases he
    refine⟨List.pairwise_cons.2 ⟨fun x hx=>?_,h.1⟩,fun x hx=>?_⟩
    ·rcases List.mem_cons.1 hx with rfl | hx
     ·exact hr
     ·exact aj5 hr (h1.1 x hx)
    ·rcases List.mem_cons.1 hx with rfl | hx
     ·show 0 < (ck c).r;rw[ze];exact hc
     ·exact h.2 x hx
theorem a3c {P:Rw→Prop} {c:Q} (hc:0 < c.r):∀{b a:List Mm},CanP a→(∀m∈a,P m.1)→(∀m∈b,P m.1∧0 < m.2.r)→CanP (fy c a b)∧∀m∈fy c a b,P m.1
 | [],a,ha,hp,_=>⟨ha,hp⟩
 | m::b,a,ha,hp,hb=>by
  obtain⟨h1,h2⟩:=hb m (mf ..);have h3:0 < (Q.mul m.2 c).r:=by rw[Q.mul_r];exact Rat.mul_pos h2 hc
  rw[fy,a67 (by rw[beq_eq_false_iff_ne];exact fun e=>abv h3 om)];refine a3c hc (a6v h3 ha) (fun x hx=>?_) fun x hx=>hb x (List.mem_cons_of_mem _ hx)
  rcases a1o hx with e | hx
  ·rw[e];exact h1
  ·exact hp x hx
theorem ak3 {q:Q} (h:q.num≠0):0 < q.abs.r:=a0v rfl (Nat.pos_of_ne_zero h)
theorem ak2 (q:Q):(0 < sgQ q→q.abs.r=q.r)∧(¬0 < sgQ q→q.abs.r=-q.r):=by
 have e:q.abs.r=(q.num:Rat) / (q.un:Rat):=rfl;refine⟨fun h=>?_,fun h=>?_⟩
 ·obtain⟨h1,h2⟩:=a1j (q:=q) om;unfold Q.r at*;rw[h1];exact e
 ·rcases Nat.eq_zero_or_pos q.num with h0 | h0
  ·rw[rq h0,rq (q:=q.abs) h0];grind
  ·have hn:q.neg=true:=by
    unfold sgQ isg at h;rw[if_neg om] at h;cases hn:q.neg<;>rw[hn] at h<;>simp at h ⊢
   rw[e];unfold Q.r;rw[hn];simp only[sgnR,cond_true]
   grind
theorem a4a {s:Sc} {a b:Nat} (hs:s.Va a b) (k:Int→Rat):∀{ts:List Tm} {acc L:List Mm},(∀t∈ts,t.2.num≠0∧0≤t.1∧t.1 < ((s.q.g.inputs+s.q.g.units.length:Nat):Int))→CanP acc→(∀m∈acc,RwG s m.1)→bt s ts acc=some L→CanP L∧(∀m∈L,RwG s m.1)∧valM (kR k 0 s) L=valM (kR k 0 s) acc+evT k ts
 | [],acc,L,_,ha,hr,h=>by
  rw[bt] at h;injection h with h;subst h;exact⟨ha,hr,by rw[evT];grind⟩
 | t::ts,acc,L,ht,ha,hr,h=>by
  rw[bt] at h;cases hm:(j4 s t).2 with
  | false=>rw[hm] at h;cases h
  | true=>
   rw[hm] at h;obtain⟨h0,h1,h2⟩:=ht t (mf ..);have key:(∀m∈(j4 s t).1,RwG s m.1∧0 < m.2.r)∧t.2.abs.r*valM (kR k 0 s) (j4 s t).1=t.2.r*k t.1:=by
    obtain⟨v1,v2⟩:=ak2 t.2;unfold j4 at hm ⊢;cases hd:decide (0 < sgQ t.2) with
    | true=>
     obtain⟨e1,e2⟩:=a3m (k:=k) (c:=0) hs h1 h2;refine⟨fun m hm=>⟨(e2 m hm).1,by rw[(e2 m hm).2,a33];decide⟩,?_⟩;rw[cond_true,v1 (of_decide_eq_true hd)];simp only;rw[e1];grind
    | false=>
     rw[hd,cond_false] at hm;obtain⟨e1,_,e2⟩:=a6m (k:=k) (c:=0) hs h1 h2 hm;refine⟨e2,?_⟩;rw[cond_false,v2 (of_decide_eq_false hd),e1];grind
   obtain⟨c1,c2⟩:=a3c (P:=RwG s) (ak3 h0) ha hr key.1;obtain⟨d1,d2,d3⟩:=a4a hs k (fun x hx=>ht x (List.mem_cons_of_mem _ hx)) c1 c2 h;refine⟨d1,d2,?_⟩;rw[d3,yq,evT,key.2];grind
theorem zt {s:Sc}:∀{l:List Mm} {acc:Fm},(∀m∈l,(bq s m.1).2=true)→∃f,fi s l acc=some f
 | [],acc,_=>⟨acc,rfl⟩
 | m::l,acc,h=>by
  rw[fi,h m (mf ..)];exact zt fun x hx=>h x (List.mem_cons_of_mem _ hx)
theorem qr {s:Sc} {a b:Nat} (hs:s.Va a b) {f:Fm} {v:Q} {L:List Mm} (hf:f.Cn) (ht:∀t∈f.terms,0≤t.1∧t.1 < ((s.q.g.inputs+s.q.g.units.length:Nat):Int)) (h:bj s f=(v,L,true)):fh L=true∧(∀m∈L,RwG s m.1)∧∀g:Fm,g.Cn→g.terms=f.terms→f.const.r - v.r≤g.const.r→dv s g L=true:=by
 unfold bj at h;cases e:bt s f.terms [] with
 | none=>rw[e] at h;cases h
 | some M=>
  rw[e] at h;injection h with h1 h;injection h with h2;subst h2;have can:=fun k=>a4a hs k (fun t hm=>⟨(hf.nz t hm).2,ht t hm⟩) ⟨by simp,fun m hm=>by cases hm⟩ (fun m hm=>by cases hm) e
  obtain⟨c1,c2,_⟩:=can fun _=>0
  obtain⟨S,hS⟩:=zt (s:=s) (acc:=Fm.zero) fun m hm=>(c2 m hm).ok
  have hsum:sumR s M=(S,0):=by unfold sumR;rw[c1.ok,hS];rfl
  rw[hsum] at h1;obtain⟨hc,_⟩:=qw (fun _=>0) 1 hs cn_zero hS;have hn:(Fm.subR f S).terms=[]:=by
   have hd:=hf.subR hc;refine ajm hd.srt hd.nz fun k=>?_
   have e1:(Fm.subR f S).ev k 0=_:=hf.ev_sub hc;obtain⟨_,e2⟩:=qw k 0 hs cn_zero hS;rw[e2,(can k).2.2,a1v,valM] at e1;unfold Fm.ev at e1
   grind
  refine⟨c1.ok,c2,fun g hg hgt hle=>?_⟩;unfold dv;rw[hsum];have h3:(Fm.subR g S).terms=[]:=by
   show addT g.terms _=[];rw[hgt];exact hn
  rw[h3];have h4:decide (0≤sgQ (Fm.subR g S).const)=true:=by
   refine dt ?_
   apply Classical.byContradiction
   intro h5;have h6:=abn (q:=(Fm.subR g S).const) om;rw[fm] at h6;have:v.r=f.const.r - S.const.r:=by rw[← h1,fm]
   grind
  rw[h4];rfl
structure Ag (s s':Sc) (r r':Rw):Prop where
 n:s'.q.g.inputs=s.q.g.inputs
 u:s'.q.g.units.length=s.q.g.units.length
 p:5≤r.kind→atZ s'.q.g.units r.index=atZ s.q.g.units r.index
 rg:s'.q.rg=s.q.rg
 path:∀d∈s.path,d∈s'.path
 k4:r.kind=4→s'.path=s.path
 kind:r'.kind=r.kind
 index:r'.index=r.index
 lo0:(r'.lo == 0)=(r.lo == 0)
 hi0:(r'.hi == 0)=(r.hi == 0)
 lo:b8 s'.lems r'.lo r.index false=b8 s.lems r.lo r.index false
 hi:b8 s'.lems r'.hi r.index true=b8 s.lems r.hi r.index true
theorem a7h {v p:Fm} {l u:Q×Bool} {on off on' off':Bool} {r r':Rw} (hk:r'.kind=r.kind) (hl:(r'.lo == 0)=(r.lo == 0)) (hh:(r'.hi == 0)=(r.hi == 0)) (h1:on=true→on'=true) (h2:off=true→off'=true) (h:(cd v p l u on off r).2=true):cd v p l u on' off' r'=cd v p l u on off r:=by
 unfold cd at h ⊢;rw[hk,hl,hh]
 repeat' (cases h3:(r.kind == _)<;>simp only[h3,cond_true,cond_false] at h ⊢)
 all_goals first | rw[h,h1 h] | rw[h,h2 h]
theorem z9 {q q':Qr} (h1:q'.g.inputs=q.g.inputs) (h2:q'.g.units.length=q.g.units.length) (d:Dc):dj q' d=dj q d:=by unfold dj;rw[h1,h2]
theorem Ag.form {s s':Sc} {r r':Rw} (h:Ag s s' r r') (ok:(bq s r).2=true):bq s' r'=bq s r:=by
 have hd:∀k,jp s k r.index=true→jp s' k r.index=true:=fun k hk=>by
  unfold jp at hk ⊢;obtain⟨d,h1,h2⟩:=List.any_eq_true.1 hk;refine List.any_eq_true.2 ⟨d,h.path d h1,?_⟩;unfold hitQ at h2 ⊢;rw[z9 h.n h.u];exact h2
 obtain⟨e,i,lo',hi'⟩:=r';obtain rfl:=h.kind;obtain rfl:=h.index;have l0:=h.lo0;have u0:=h.hi0;unfold bq at ok ⊢;simp only at ok ⊢ l0 u0;cases h5:decide (5≤r.kind) with
 | true=>
  rw[h5,cond_true] at ok;rw[cond_true,cond_true];unfold cg at ok ⊢;simp only;rw[h.u,h.n,h.p (of_decide_eq_true h5),h.lo,h.hi];cases hi0:decide (r.index < 0)||decide ((s.q.g.units.length:Int)≤r.index) with
  | true=>rfl
  | false=>
   rw[hi0,cond_false] at ok;have ok2:(cd (varR (s.q.g.inputs+r.index)) (atZ s.q.g.units r.index) (b8 s.lems r.lo r.index false) (b8 s.lems r.hi r.index true) (onQ s r (b8 s.lems r.lo r.index false)) (offQ s r (b8 s.lems r.hi r.index true)) r).2=true:=by
    revert ok
    cases (cd (varR (s.q.g.inputs+r.index)) (atZ s.q.g.units r.index) (b8 s.lems r.lo r.index false) (b8 s.lems r.hi r.index true) (onQ s r (b8 s.lems r.lo r.index false)) (offQ s r (b8 s.lems r.hi r.index true)) r).2 with
    | true=>exact fun _=>rfl
    | false=>exact fun h=>h
   rw[a7h (r:=r) (r':=⟨r.kind,r.index,lo',hi'⟩) rfl l0 u0 (fun ho=>?_) (fun ho=>?_) ok2]
   ·unfold onQ at ho ⊢;simp only at ho ⊢;rw[l0,u0];simp only[be,Bool.or_eq_true] at ho ⊢;rcases ho with ⟨a,b | b⟩
    ·exact⟨a,.inl ⟨b.1,hd _ b.2⟩⟩
    ·exact⟨a,.inr b⟩
   ·unfold offQ at ho ⊢;simp only at ho ⊢;rw[l0,u0];simp only[be,Bool.or_eq_true] at ho ⊢;rcases ho with ⟨a,b | b⟩
    ·exact⟨a,.inl ⟨b.1,hd _ b.2⟩⟩
    ·exact⟨a,.inr b⟩
 | false=>
  rw[show (lo' != 0)=(r.lo != 0) from congrArg (!·) l0,show (hi' != 0)=(r.hi != 0) from congrArg (!·) u0,h.rg];by_cases h4:r.kind=4
  ·rw[h.k4 h4,z9 h.n h.u];rfl
  ·have:(r.kind == 4)=false:=beq_eq_false_iff_ne.2 h4;rw[this];rfl
theorem Ag.sum {s s':Sc} {f:Mm→Mm} (hf:∀m,(f m).2=m.2):∀{l:List Mm} {acc F:Fm},(∀m∈l,(bq s m.1).2=true→Ag s s' m.1 (f m).1)→fi s l acc=some F→fi s' (l.map f) acc=some F
 | [],acc,F,_,h=>h
 | m::l,acc,F,ha,h=>by
  rw[fi] at h;cases ho:(bq s m.1).2 with
  | false=>rw[ho] at h;cases h
  | true=>
   rw[ho] at h;rw[List.map_cons,fi,(ha m (mf ..) ho).form ho,hf,ho];exact Ag.sum hf (fun x hx=>ha x (List.mem_cons_of_mem _ hx)) h
theorem Ag.sumR {s s':Sc} {f:Mm→Mm} {l:List Mm} (hf:∀m,(f m).2=m.2) (ha:∀m∈l,(bq s m.1).2=true→Ag s s' m.1 (f m).1) (hc:fh (l.map f)=true) (h:((sumR s l).2 != 0)=false):sumR s' (l.map f)=sumR s l:=by
 unfold Go.Proofs.YtbhbainhmfjpdaaGreatDoor.sumR at h ⊢;cases h1:fh l with
 | false=>rw[h1] at h;cases h
 | true=>
  rw[h1] at h;cases h2:fi s l Fm.zero with
  | none=>rw[h2] at h;cases h
  | some F=>rw[hc,Ag.sum hf ha h2]
theorem Ag.proves {s s':Sc} {f:Mm→Mm} {g:Fm} {l:List Mm} (hf:∀m,(f m).2=m.2) (ha:∀m∈l,(bq s m.1).2=true→Ag s s' m.1 (f m).1) (hc:fh (l.map f)=true) (h:dv s g l=true):dv s' g (l.map f)=true:=by
 unfold dv at h ⊢;cases h1:(Go.Proofs.YtbhbainhmfjpdaaGreatDoor.sumR s l).2 != 0 with
 | true=>rw[h1] at h;cases h
 | false=>rw[Ag.sumR hf ha hc h1];exact h
theorem ow {ls:List Lm} (x:List Lm) {n unit:Int} {up:Bool} (h:n≤ls.length):b8 (ls++x) n unit up=b8 ls n unit up:=by
 unfold b8;by_cases h1:n < 1
 ·rw[dt h1];rfl
 ·have e:atZ (ls++x) (n - 1)=atZ ls (n - 1):=by
   obtain⟨k,hk⟩:∃k:Nat,n - 1=(k:Int):=⟨(n - 1).toNat,by omega⟩;have hk2:k < ls.length:=by omega
   rw[hk,bm (ge hk2),bm (l:=ls++x) (i:=k) (a:=ls[k]) (by rw[List.getElem?_append_left hk2];exact ge hk2)]
  rw[e,df (by omega:¬((ls.length:Int) < n)),df (by rw[List.length_append];omega:¬(((ls++x).length:Int) < n))]
theorem Ag.more {s:Sc} {r:Rw} {goal:Fm} {path:List Dc} {x:List Lm} (h:RwG s r) (hp:∀d∈s.path,d∈path):Ag s ⟨⟨s.q.g,s.q.rg,goal⟩,path,s.lems++x⟩ r r:=
 ⟨rfl,rfl,fun _=>rfl,rfl,hp,fun e=>absurd e h.kind,rfl,rfl,rfl,rfl,ow x h.lo.2,ow x h.hi.2⟩
theorem RwG.more {s:Sc} {r:Rw} {goal:Fm} {path:List Dc} {x:List Lm} (h:RwG s r) (hp:∀d∈s.path,d∈path):RwG ⟨⟨s.q.g,s.q.rg,goal⟩,path,s.lems++x⟩ r:=
 ⟨by rw[(Ag.more (goal:=goal) (x:=x) h hp).form h.ok];exact h.ok,h.kind,⟨h.lo.1,by show _≤((s.lems++x).length:Int);rw[List.length_append];have:=h.lo.2;omega⟩,⟨h.hi.1,by show _≤((s.lems++x).length:Int);rw[List.length_append];have:=h.hi.2;omega⟩⟩
structure LmG (s:Sc) (m:Lm):Prop where
 can:fh m.proof=true
 rows:∀x∈m.proof,RwG s x.1
 ok:gz s m=true
theorem LmG.more {s:Sc} {m:Lm} {goal:Fm} {path:List Dc} (x:List Lm) (h:LmG s m) (hp:∀d∈s.path,d∈path):LmG ⟨⟨s.q.g,s.q.rg,goal⟩,path,s.lems++x⟩ m:=by
 refine⟨h.can,fun y hy=>(h.rows y hy).more hp,?_⟩;have ok:=h.ok;unfold gz at ok ⊢;simp only;cases hi:decide (m.unit < 0)||decide ((s.q.g.units.length:Int)≤m.unit) with
 | true=>rw[hi] at ok;cases ok
 | false=>
  rw[hi,cond_false] at ok;have:=Ag.proves (f:=id) (s':=⟨⟨s.q.g,s.q.rg,goal⟩,path,s.lems++x⟩) (fun _=>rfl) (fun y hy _=>Ag.more (h.rows y hy) hp) (by rw[List.map_id];exact h.can) ok;rw[List.map_id] at this;exact this
def LmsG (s:Sc):Prop:=∀(i:Nat) (m:Lm),s.lems[i]?=some m→LmG ⟨s.q,s.path,s.lems.take i⟩ m
theorem LmsG.path {s:Sc} {goal:Fm} {path:List Dc} (h:LmsG s) (hp:∀d∈s.path,d∈path):LmsG ⟨⟨s.q.g,s.q.rg,goal⟩,path,s.lems⟩:=fun i m hi=>by
 have:=(h i m hi).more (goal:=goal) (path:=path) [] hp;rwa [List.append_nil] at this
theorem LmsG.snoc {s:Sc} {m:Lm} (h:LmsG s) (hm:LmG s m):LmsG ⟨s.q,s.path,s.lems++[m]⟩:=fun i x hi=>by
 simp only at hi ⊢;rcases Nat.lt_or_ge i s.lems.length with g | g
 ·rw[List.getElem?_append_left g] at hi;rw[List.take_append_of_le_length om];exact h i x hi
 ·rw[List.getElem?_append_right g] at hi;have e:i=s.lems.length:=by
   rcases Nat.eq_zero_or_pos (i - s.lems.length) with h0 | h0
   ·omega
   ·rw[List.getElem?_eq_none (by simp;omega)] at hi;cases hi
  subst e;rw[Nat.sub_self] at hi;injection hi with hi;subst hi;rw[List.take_left']
  ·exact hm
  ·rfl
def Has (ls:List Lm) (j:Int) (up:Bool):Prop:=∃n,n < ls.length∧(atZ ls (n:Int)).unit=j∧(atZ ls (n:Int)).upper=up
theorem afn {ls:List Lm} {j:Int}:(Has ls j false→(gx ls j).1≠0)∧(Has ls j true→(gx ls j).2≠0):=by
 have key:∀i:Nat,(∀n:Nat,n < i→(atZ ls (n:Int)).unit=j→((atZ ls (n:Int)).upper=false→((List.range i).foldl (fd ls j) (0,0)).1≠0)∧((atZ ls (n:Int)).upper=true→((List.range i).foldl (fd ls j) (0,0)).2≠0)):=fun i=>by
  induction i with
  | zero=>intro n hn;omega
  | succ i ih=>
   intro n hn hu;rw[List.range_succ,List.foldl_append];generalize hp:(List.range i).foldl (fd ls j) (0,0)=p at*;show (_→(fd ls j p i).1≠0)∧(_→(fd ls j p i).2≠0);unfold fd;rcases Nat.lt_or_ge n i with g | g
   ·obtain⟨h1,h2⟩:=ih n g hu;cases hb:(atZ ls (i:Int)).unit != j with
    | true=>exact⟨h1,h2⟩
    | false=>
     simp only[cond_false];refine⟨fun hf=>?_,fun hf=>?_⟩
     ·cases !(atZ ls (i:Int)).upper&&(((p.1:Int) == 0)||decide (0 < cmpR (atZ ls (i:Int)).value (atZ ls ((p.1 - 1:Nat):Int)).value)) with
      | true=>exact Nat.succ_ne_zero _
      | false=>exact h1 hf
     ·cases (atZ ls (i:Int)).upper&&(((p.2:Int) == 0)||decide (cmpR (atZ ls (i:Int)).value (atZ ls ((p.2 - 1:Nat):Int)).value < 0)) with
      | true=>exact Nat.succ_ne_zero _
      | false=>exact h2 hf
   ·obtain rfl:n=i:=by omega
    have hb:((atZ ls (n:Int)).unit != j)=false:=by rw[hu];simp
    rw[hb];simp only[cond_false];refine⟨fun hf=>?_,fun hf=>?_⟩
    ·rw[hf];simp only[Bool.not_false,Bool.true_and];by_cases h0:p.1=0
     ·rw[h0];exact Nat.succ_ne_zero _
     ·cases ((p.1:Int) == 0)||decide (0 < cmpR (atZ ls (n:Int)).value (atZ ls ((p.1 - 1:Nat):Int)).value) with
      | true=>exact Nat.succ_ne_zero _
      | false=>exact h0
    ·rw[hf];simp only[Bool.true_and];by_cases h0:p.2=0
     ·rw[h0];exact Nat.succ_ne_zero _
     ·cases ((p.2:Int) == 0)||decide (cmpR (atZ ls (n:Int)).value (atZ ls ((p.2 - 1:Nat):Int)).value < 0) with
      | true=>exact Nat.succ_ne_zero _
      | false=>exact h0
 exact⟨fun ⟨n,h1,h2,h3⟩=>(key _ n h1 h2).1 h3,fun ⟨n,h1,h2,h3⟩=>(key _ n h1 h2).2 h3⟩
theorem a28 {s:Sc} {n:Nat} (hb:∀j:Nat,j < n→Has s.lems j false∧Has s.lems j true):∀{ts:List Tm} {acc:List Mm},(∀t∈ts,t.1 < ((s.q.g.inputs+n:Nat):Int))→∃L,bt s ts acc=some L
 | [],acc,_=>⟨acc,rfl⟩
 | t::ts,acc,h=>by
  have h1:=h t (mf ..);have hm:(j4 s t).2=true:=by
   unfold j4;cases decide (0 < sgQ t.2) with
   | true=>rfl
   | false=>
    show (f7 s t.1).2=true;unfold f7;by_cases hi:t.1 < s.q.g.inputs
    ·rw[dt hi];rfl
    ·obtain⟨k,hk⟩:∃k:Nat,t.1 - s.q.g.inputs=(k:Int):=⟨(t.1 - s.q.g.inputs).toNat,by omega⟩;obtain⟨b1,b2⟩:=hb k om;obtain⟨c1,c2⟩:=afn (ls:=s.lems) (j:=k);rw[df hi,hk,beq_eq_false_iff_ne.2 (by have:=c1 b1;omega),beq_eq_false_iff_ne.2 (by have:=c2 b2;omega)];simp only[Bool.or_self,cond_false];cases decide (sgQ (atZ s.lems (((gx s.lems k).2 - 1:Nat):Int)).value≤0) with
     | true=>rfl
     | false=>
      cases decide (0≤sgQ (atZ s.lems (((gx s.lems k).1 - 1:Nat):Int)).value)<;>rfl
  rw[bt,hm];exact a28 hb fun x hx=>h x (List.mem_cons_of_mem _ hx)
theorem zk {s:Sc} {n:Nat} {f:Fm} (hb:∀j:Nat,j < n→Has s.lems j false∧Has s.lems j true) (h:∀t∈f.terms,t.1 < ((s.q.g.inputs+n:Nat):Int)):(bj s f).2.2=true:=by
 obtain⟨L,hL⟩:=a28 hb (acc:=[]) h;unfold bj;rw[hL]
theorem Has.app {ls x:List Lm} {j:Int} {up:Bool} (h:Has ls j up):Has (ls++x) j up:=by
 obtain⟨n,h1,h2,h3⟩:=h;have e:atZ (ls++x) (n:Int)=atZ ls (n:Int):=by rw[bm (ge h1),bm (l:=ls++x) (i:=n) (a:=ls[n]) (by rw[List.getElem?_append_left h1];exact ge h1)]
 exact⟨n,by rw[List.length_append];omega,by rw[e];exact h2,by rw[e];exact h3⟩
theorem Has.at {ls:List Lm} {n:Nat} {m:Lm} (h:ls[n]?=some m):Has ls m.unit m.upper:=by
 have hn:=(gs h).1;exact⟨n,hn,by rw[bm h],by rw[bm h]⟩
theorem mq {s:Sc} (hs:LmsG s):∀j,j≤s.q.g.units.length→(∀i,i≤j→(ak s i).Va 2 3)→LmsG (ak s j)∧(∀i:Nat,i < j→Has (ak s j).lems i false∧Has (ak s j).lems i true)∧∃x,(ak s j).lems=s.lems++x
 | 0,_,_=>⟨hs,fun i hi=>absurd hi (Nat.not_lt_zero _),[],(List.append_nil _).symm⟩
 | j+1,hj,hv=>by
  obtain⟨g1,g2,y,hy⟩:=mq hs j om fun i hi=>hv i om
  have va:=hv j om;obtain⟨q1,q2⟩:=fq s j;have hja:j < s.q.g.units.length:=hj;have e0:ak s (j+1)=zg (ak s j) j:=rfl;rw[e0];generalize ak s j=t at*;have hjt:j < t.q.g.units.length:=by rw[q1];exact hja
  have hcn:(atZ t.q.g.units (j:Int)).Cn:=(va.q.us _ (mg (ah hjt))).cn;have hvar:∀x∈(atZ t.q.g.units (j:Int)).terms,0≤x.1∧x.1 < ((t.q.g.inputs+j:Nat):Int):=fun x hx=>by
   have:=(va.q.g.us j _ (ah hjt)).ok.each x hx;exact⟨this.1,this.2.1⟩
  have hvar2:=js (q:=Q.mone) hcn (P:=fun v=>0≤v∧v < ((t.q.g.inputs+j:Nat):Int)) hvar;have okA:=zk g2 fun x hx=>(hvar x hx).2
  have okB:=zk g2 (f:=Fm.scaleR (atZ t.q.g.units (j:Int)) Q.mone) fun x hx=>(hvar2 x hx).2
  have up:∀{l:List Tm},(∀x∈l,0≤x.1∧x.1 < ((t.q.g.inputs+j:Nat):Int))→∀x∈l,0≤x.1∧x.1 < ((t.q.g.inputs+t.q.g.units.length:Nat):Int):=fun h x hx=>by
   have:=h x hx;omega
  generalize hA:bj t (atZ t.q.g.units (j:Int))=A at*;generalize hB:bj t (Fm.scaleR (atZ t.q.g.units (j:Int)) Q.mone)=B at*;obtain⟨v,L,okA'⟩:=A;obtain⟨w,M,okB'⟩:=B;simp only at okA okB;subst okA okB;obtain⟨a1,a2,a3⟩:=qr va hcn (up hvar) hA;obtain⟨b1,b2,b3⟩:=qr va hcn.scaleR (up hvar2) hB;have vOk:v.Ok:=by have:=a27 t (atZ t.q.g.units (j:Int));rw[hA] at this;exact this
  have wOk:w.neg'.Ok:=xy _ _ (Q.un_pos _);have unit:(decide ((j:Int) < 0)||decide ((t.q.g.units.length:Int)≤(j:Int)))=false:=by
   rw[df om,df om];rfl
  have nOk:∀{q:Q},q.Ok→(numR q).Cn:=fun h=>⟨by simp[Srt',numR],(fun t ht=>by cases ht),h⟩
  have la:LmG t ⟨(j:Int),false,v,L⟩:=by
   refine⟨a1,a2,?_⟩;unfold gz;simp only;rw[unit,cond_false];refine a3 (lemF t.q ⟨(j:Int),false,v,L⟩) (hcn.subR (nOk vOk)) rfl ?_;show _≤(Fm.subR (atZ t.q.g.units (j:Int)) (numR v)).const.r;rw[fm];show _≤_ - v.r
   grind
  have lb:LmG t ⟨(j:Int),true,w.neg',M⟩:=by
   refine⟨b1,b2,?_⟩;unfold gz;simp only;rw[unit,cond_false];refine b3 (lemF t.q ⟨(j:Int),true,w.neg',M⟩) (hcn.subR (nOk wOk)).scaleR rfl ?_;show (Q.mul (atZ t.q.g.units (j:Int)).const Q.mone).r - w.r≤(Q.mul (Fm.subR (atZ t.q.g.units (j:Int)) (numR w.neg')).const Q.mone).r;rw[Q.mul_r,Q.mul_r,fm];show _≤(_ - w.neg'.r)*_;rw[Q.neg_r,a07]
   grind
  have e1:zg t j=⟨t.q,t.path,(t.lems++[⟨(j:Int),false,v,L⟩])++[⟨(j:Int),true,w.neg',M⟩]⟩:=by
   unfold zg kl;rw[hA,hB,List.append_assoc];rfl
  have s1:=g1.snoc la;have s2:=s1.snoc (m:=⟨(j:Int),true,w.neg',M⟩) (lb.more (goal:=t.q.goal) [⟨(j:Int),false,v,L⟩] fun d hd=>hd);rw[e1];refine⟨s2,fun i hi=>?_,y++[⟨(j:Int),false,v,L⟩,⟨(j:Int),true,w.neg',M⟩],?_⟩
  ·rcases Nat.lt_or_ge i j with g | g
   ·obtain⟨h1,h2⟩:=g2 i g;exact⟨h1.app.app,h2.app.app⟩
   ·obtain rfl:i=j:=by omega
    exact⟨(Has.at (n:=t.lems.length) (m:=⟨(i:Int),false,v,L⟩) (by simp)).app,Has.at (n:=t.lems.length+1) (m:=⟨(i:Int),true,w.neg',M⟩) (by simp)⟩
  ·show (t.lems++_)++_=_;rw[hy];simp
abbrev keR (e k:Nat) (ts:List Nat) (xs:List (List PV)):List (Nat×Res):=[(1000,.tok e k ts xs)]
def KCalls (P:Program) (Tg:List Nat) (f:FuncId) (args:List SV) (e k:Nat) (ts:List Nat) (xs xs':List (List PV)):Prop:=gg P f=true∧
 ∀(w:World) (X:Nat→Prop) (B:Nat→Nat) (T:Nat→Sv) (us:List Value),(∀b,X b→b < w.heap.size)→(∀b cs t fr,X b→w.heap[b]?=some (.cells cs t fr)→t ∉ Tg)→(∀b,X b→¬iw (keR e k ts xs) B T b)→MPre w X B T (keR e k ts xs)→SV.RepL w (OwnZ X (keR e k ts xs) B T) B T (.tok 1000::args) us→(∀i∈SV.idsL (.tok 1000::args),(bs (keR e k ts xs) i).isSome=true)→
  Calls P f us.toArray w fun ex w'=>∃v,ex=.returned v∧MPre w' X B T (keR e k ts xs')∧Fr (iw (keR e k ts xs) B T) w w'
def RetK (P:Program) (tab:Tab) (fn:Func) (e k:Nat) (ts:List Nat) (xs':List (List PV)):Exit→St→Prop
 | .ret,st | .normal,st=>zp P tab fn st (.tup [])∧st.slot 0=some (.tok 1000)∧st.res 1000=some (.tok e k ts xs')
 | _,_=>False
theorem uv {e k:Nat} {ts:List Nat} {xs:List (List PV)} {i:Nat} {r:Res} (h:bs (keR e k ts xs) i=some r):i=1000∧r=.tok e k ts xs:=by
 rw[bs] at h;cases hb:Nat.beq i 1000 with
 | true=>rw[hb] at h;injection h with h;exact⟨Nat.eq_of_beq_eq_true hb,h.symm⟩
 | false=>rw[hb] at h;cases h
theorem ake {x y:Sv} (h:x.v=y.v):x=y:=by
 obtain⟨A,n,c⟩:=x;obtain⟨A',n',c'⟩:=y;injection h with e1 e2 e3;subst e1 e2 e3;rfl
section
variable {P:Program} {tab:Tab}
theorem KCalls.of {T:List Nat} {f:FuncId} {args:List SV} {e k:Nat} {ts:List Nat} {xs xs':List (List PV)} {fn:Func} {c:Code} (tys:List Nat) (hT:iv P tab) (hm:P.follows .mixedOrders=true) (hcall:gg P f=true) (hf:P.funcs[f]?=some fn) (hb:fn.body=some c) (hn:Nat.ble (args.length+1) fn.ntmps=true) (hck:(Nat.ble fn.ntmps 1000&&tys.contains e)=true) (h:∀D:Dom P T 1,PW (D.cx fn.ntmps) c (St.initM (.tok 1000::args) (keR e k ts xs) tys) (RetK P tab fn e k ts xs')):KCalls P T f args e k ts xs xs':=by
 refine⟨hcall,fun w X B Tk us hX hXT hXL hpre hr hids=>?_⟩;have hn:=Nat.le_of_ble_eq_true hn;simp only[be] at hck
 let D:Dom P T 1:=⟨w,X,hX,hm,hXT,iw (keR e k ts xs) B Tk,hXL,fun i=>(bs (keR e k ts xs) i).isSome=true,B,fun _=>(Tk 1000).v⟩
 refine calls_of_wp hf hb ?_;have hlen:=hr.len;have hat:∀(t:Nat) (s:SV),(SV.tok 1000::args)[t]?=some s→SV.Rep w (OwnZ X (keR e k ts xs) B Tk) B Tk s ((us.toArray++Array.replicate (fn.ntmps - us.toArray.size) undef).getD t undef):=fun t s e=>by
  obtain⟨u,hu,hpr⟩:=hr.at e;have hut:(us.toArray++Array.replicate (fn.ntmps - us.toArray.size) undef).getD t undef=u:=by
   have hlt:=(gs hu).1;rw[Array.getD_eq_getD_getElem?,Array.getElem?_append_left (by simpa using hlt)];simp[hu]
  rw[hut];exact hpr
 have h0:(us.toArray++Array.replicate (fn.ntmps - us.toArray.size) undef).getD 0 undef=(Tk 1000).v:=by
  have:=hat 0 _ rfl;rw[SV.Rep] at this;exact this
 have hinv:Inv (D.cx fn.ntmps) (St.initM (.tok 1000::args) (keR e k ts xs) tys) { tmps:=us.toArray++Array.replicate (fn.ntmps - us.toArray.size) undef,defers:=[] } w:=by
  refine⟨B,Tk,⟨⟨by simp at hlen ⊢;omega,fun t ht=>?_⟩,rfl,⟨Fr.refl _ w,fun i h=>rfl⟩,fun t s e=>hat t s e,fun t s e i hi=>?_,fun i r e=>?_,fun i r e=>hpre.alive i r e,fun i r j q b e1 e2=>hpre.apart i r j q b e1 e2⟩⟩
  ·obtain rfl:t=0:=Nat.lt_one_iff.1 ht;exact h0
  ·exact hids i (ip (mg (show (SV.tok 1000::args)[t]?=some s from e)) hi)
  ·exact (hpre.inn i r e).wide (fun b hb _=>.inr ⟨i,r,e,hb⟩) fun b hb=>hb
 refine Code.wp_mono (fun ex a w' hq=>?_) (h D _ w (fun i r e=>by
  obtain⟨_,rfl⟩:=uv (show bs (keR _ k ts xs) i=some r from e);exact List.contains_iff_mem.1 hck.2) hinv)
 obtain⟨st,h1,_,h3⟩:=hq;have fin:zp P tab fn st (.tup [])∧st.slot 0=some (.tok 1000)∧st.res 1000=some (.tok e k ts xs')→∃v,(results fn a.tmps).run P w'=.ok v w'∧a.defers=[]∧MPre w' X B Tk (keR e k ts xs')∧Fr (iw (keR e k ts xs) B Tk) w w':=fun ⟨h1,h2,h4⟩=>by
  obtain⟨v,g1,g2⟩:=n7 (C:=D.cx fn.ntmps) hT h3 h1;obtain⟨B',T',hi⟩:=h3;have s0:=hi.slot 0 _ h2;rw[SV.Rep] at s0;have e0:T' 1000=Tk 1000:=ake (s0.symm.trans (hi.size.2 0 Nat.zero_lt_one));have eB:B' 1000=B 1000:=hi.gr.fix 1000 ⟨rfl,Nat.le_of_ble_eq_true hck.1⟩;have sub:∀b,OwnZ X (keR e k ts xs') B Tk b→Own0 (D.cx fn.ntmps) st B' T' b:=fun b hb=>by
   rcases hb with hb | ⟨i,r,k1,k2⟩
   ·exact .inl hb
   ·obtain⟨rfl,rfl⟩:=uv k1;exact .inr ⟨1000,_,h4,by rw[eB,e0];exact k2⟩
  refine⟨v,g1,hi.dfr,⟨fun i r k1=>?_,fun i r k1 j hj=>?_,fun i r j q b k1 k2 _ _=>by rw[(uv k1).1,(uv k2).1]⟩,hi.gr.fr⟩
  ·obtain⟨rfl,rfl⟩:=uv k1;exact ((hi.inn 1000 _ h4).wide (fun _ _ _=>trivial) sub).reB eB.symm e0.symm fun j hj=>by cases hj
  ·obtain⟨rfl,rfl⟩:=uv k1;cases hj
 cases ex with
 | ret=>
  obtain⟨v,g1,g2,g3⟩:=fin h1;exact bodyPost_ret g1 g2 ⟨v,rfl,g3⟩
 | normal=>
  obtain⟨v,g1,g2,g3⟩:=fin h1;exact bodyPost_end g1 g2 ⟨v,rfl,g3⟩
 | _=>exact h1.elim
end
section
variable {C:Cx} {o:Oper} {st:St}
theorem a88 {c:Call} {f:FuncId} {ss args:List SV} {e k:Nat} {ts:List Nat} {xs xs':List (List PV)} {Tg:List Nat} (hp:KCalls C.P Tg f args e k ts xs xs') (hok:mt k ts xs') (hn:xs'.length=xs.length) (ho:o.op=.call c) (hc:c.callee=.value (.func f)) (ha:evL st c.args.toList=some ss) (hss:ss=.tok 1000::args) (h0:SV.idsL args=[]) (hre:st.res 1000=some (.tok e k ts xs)) (he:st.tys.contains e=true) (hT:Tg.all (fun t=>C.T.contains t)=true) (hty:Tg.all (fun t=>!st.tys.contains t)=true) (hd:∀d,o.dst=some d→C.dk d):OpE C st.tys o st ⟨.any,some (1000,.tok e k ts xs'),[1000],false⟩:=by
 subst hss;refine⟨fun i r e=>by injection e with e;injection e with e1 e2;subst e1 e2;exact⟨mf ..,List.contains_iff_mem.1 he⟩,fun st1 h1 h2 hts a w ⟨B,T,hi⟩=>?_⟩;have hre':=hre;rw[← h2 1000 (mf ..)] at hre';rw[← jz (o:=o) (st1:=st1) (rb:=[]) ⟨h1,fun i hi=>by cases hi⟩ fun x hx=>by
  rw[ho];simp only[Op.operands,Call.operands,hc,Array.mem_append];exact .inr (Array.mem_toList_iff.1 hx)] at ha
 obtain⟨g1,g2⟩:=me hi ha;have hrs:AllL st1.res (keR e k ts xs):=⟨hre',trivial⟩;obtain⟨hpre,sub⟩:=a66 hi hrs rfl;have old:∀b,Own0 C st1 B T b→b < w.heap.size:=fun b hb=>by
  rcases hb with hb | ⟨i,r,hr,hb⟩
  ·exact nk (C.old b hb) hi.gr.size
  ·exact ((hi.inn i r hr).lo hb).2
 have run:(execOp a.eval o).run C.P w=.ok (.enter f (c.args.toList.map a.eval).toArray) w:=by
  simp only[execOp,ho,resolve,hc,Sem.run_bind];have hf:a.eval (.func f)=.func (.func f) #[] #[]:=rfl;rw[hf];simp only[Deferred.ofValue];simp[invoke,kg hp.1];rw[← Array.toList_map,Array.toArray_toList]
 have hids:∀i∈SV.idsL (.tok 1000::args),(bs (keR e k ts xs) i).isSome=true:=fun i hi=>by
  rw[SV.idsL,h0,List.append_nil] at hi;rw[mj hi];rfl
 have hcall:=hp.2 w (fun b=>Own0 C st1 B T b∧¬iw (keR e k ts xs) B T b) B T _ (fun b hb=>old b hb.1) (fun b cs t fr hb hh htg=>by
  have htc:=List.all_eq_true.1 hT t htg;have hty':=List.all_eq_true.1 hty t htg;rcases hb.1 with hb1 | ⟨i,r,hr,hb1⟩
  ·have hh':C.w0.heap[b]?=some (.cells cs t fr):=by rw[← hi.gr.old hb1];exact hh
   exact C.hT b cs t fr hb1 hh' (List.contains_iff_mem.1 htc)
  ·have h1:=(hi.inn i r hr).typ hb1 hh;have h2:=hts i r hr;rw[← h1] at h2;rw[List.contains_iff_mem.2 h2] at hty';cases hty') (fun b hb=>hb.2) hpre (g1.still (B':=B) (T':=T) ⟨nr _,fun b cs t fr hx hh ht=>⟨rfl,fun hb=>hx (sub b hb)⟩⟩ fun _ _=>⟨rfl,rfl⟩) hids
 refine er run (hcall.mono fun ex w' ⟨v,hex,hm,F⟩=>⟨v,hex,?_⟩);obtain⟨us',m1,m2,m3,m4,m5,m6⟩:=hm.inn 1000 _ rfl;have key:Inv C (Eff.app ⟨.any,some (1000,.tok e k ts xs'),[1000],false⟩ none st1) a w':=by
  refine a4w hi hre' (us':=us') m1 (F.wide fun b _ ⟨i,r,k1,k2⟩=>by obtain⟨rfl,rfl⟩:=uv k1;exact k2) (fun S=>PV.RepLL.still (ts:=ts) m2 ⟨nr _,fun b cs t fr hx hh ht=>⟨rfl,fun hb=>hx ?_⟩⟩ fun r hr c hc=>((hok r hr).2 c hc).2) hok hn;by_cases hl:iw (keR e k ts xs) B T b
  ·obtain⟨i,r,k1,k2⟩:=hl;obtain⟨rfl,rfl⟩:=uv k1;exact .inr ⟨1000,_,rfl,k2⟩
  ·refine .inl ⟨?_,hl⟩;rcases hb with hb | ⟨i,r,hr,hb⟩
   ·exact .inl hb
   ·simp only[Eff.app] at hr;cases hq:Nat.beq i 1000 with
    | true=>
     obtain rfl:=Nat.eq_of_beq_eq_true hq;rw[hq] at hr;injection hr with hr;subst hr;exact .inr ⟨1000,_,hre',hb⟩
    | false=>rw[hq] at hr;exact .inr ⟨i,r,hr,hb⟩
 obtain⟨B2,T2,hk⟩:=key;have:=qi hk (Gr.refl w') (dst:=o.dst) (s:=.any) (v:=v) (rb:=[]) (kt:=false) (by rw[SV.Rep];trivial) (fun i hi=>by cases (show i∈([]:List Nat) from hi)) hd;exact this
end
section
variable {T:List Nat} {Z:Nat} {D:Dom Tryz.prog T Z} {N:Nat} {st:St} {Q:Exit→St→Prop} {ops:List Oper} {draw:Bool} {acc:List Itm} {k e:Nat} {ts:List Nat} {xs':List (List PV)}
theorem rk0 {ks:List Nat} {c:Call} {f:FuncId} {ss args:List SV} {kk:Nat} {xs:List (List PV)} {Tg:List Nat} {dst:Option Nat} {ty:TypeId} {pos:String} {af:Array Edge} {gd:Option (Nat×Bool)} (hp:KCalls Tryz.prog Tg f args e kk ts xs xs') (hok:mt kk ts xs') (hn:xs'.length=xs.length) (hk:nthL ops k=some ⟨dst,.call c,ty,pos,af,gd⟩) (hw:ed ops.toArray ⟨dst,.call c,ty,pos,af,gd⟩ st=some true) (hd:dstB ⟨dst,.call c,ty,pos,af,gd⟩ N Z=true) (hc:c.callee=.value (.func f)) (ha:evL st c.args.toList=some ss) (hss:ss=.tok 1000::args) (h0:SV.idsL args=[]) (hre:st.res 1000=some (.tok e kk ts xs)) (hT:(st.tys.contains e&&(Tg.all (fun t=>T.contains t)&&Tg.all (fun t=>!st.tys.contains t)))=true) (next:Reg (D.cx N) ops draw Q (acc++[⟨k,true,⟨.any,some (1000,.tok e kk ts xs'),[1000],false⟩,lkOf ops k st (⟨.any,some (1000,.tok e kk ts xs'),[1000],false⟩:Eff)⟩]) ks ((⟨.any,some (1000,.tok e kk ts xs'),[1000],false⟩:Eff).app dst st)):Reg (D.cx N) ops draw Q acc (k::ks) st:=by
 simp only[be] at hT;exact fe hk hw hd (fun hd=>a88 (C:=D.cx N) hp hok hn rfl hc ha hss h0 hre hT.1 hT.2.1 hT.2.2 hd) next
theorem pck {f:FuncId} {args:List SV} {xs:List (List PV)} {fn:Func} {c:Code} (tys:List Nat) (hcall:gg Tryz.prog f=true) (hf:(Tryz.prog).funcs[f]?=some fn) (hb:fn.body=some c) (hn:(Nat.ble (args.length+1) fn.ntmps&&(Nat.ble fn.ntmps 1000&&tys.contains e))=true) (h:∀D:Dom Tryz.prog T 1,W D fn.ntmps c (St.initM (.tok 1000::args) (keR e k ts xs) tys) (RetK Tryz.prog tab fn e k ts xs')):KCalls Tryz.prog T f args e k ts xs xs':=by
 rw[be] at hn;exact KCalls.of tys al a3b hcall hf hb hn.1 hn.2 h
theorem retk {fn:Func} (h:retE tab st fn.results.toList=some (.tup [])) (h0:st.slot 0=some (.tok 1000)) (h1:st.res 1000=some (.tok e k ts xs')):RetK Tryz.prog tab fn e k ts xs' .normal st:=⟨a5v h rfl,h0,h1⟩
end
def mk1 (is:List Bool) (z:Int):List Bool:=bif decide (0 < z)&&decide (z≤(is.length:Int)) then is.set (z - 1).toNat true else is
def f9:List Mm→List Bool→List Bool
 | [],is=>is
 | m::l,is=>f9 l (mk1 (mk1 is m.1.lo) m.1.hi)
theorem ma (is:List Bool) (z:Int):(mk1 is z).length=is.length:=by
 unfold mk1;cases decide (0 < z)&&decide (z≤(is.length:Int))<;>simp
theorem jc:∀(l:List Mm) (is:List Bool),(f9 l is).length=is.length
 | [],is=>rfl
 | m::l,is=>by rw[f9,jc l,ma,ma]
theorem a3d:∀(l m:List Mm) (is:List Bool),f9 (l++m) is=f9 m (f9 l is)
 | [],m,is=>rfl
 | a::l,m,is=>by rw[List.cons_append,f9,f9,a3d l]
theorem yt {l:List Mm} {i:Nat} {is:List Bool} (hi:i < l.length):f9 (l.take (i+1)) is=mk1 (mk1 (f9 (l.take i) is) (atZ l (i:Int)).1.lo) (atZ l (i:Int)).1.hi:=by
 rw[List.take_add_one,ah hi,a3d];rfl
theorem amd {is:List Bool} {z:Int} (h1:decide (0 < z)=true) (h2:decide (z≤((bsC is).length:Int))=true):(bsC is).set (z - 1).toNat [bP true]=bsC (mk1 is z):=by
 rw[List.length_map] at h2;unfold mk1;rw[h1,h2];exact (List.map_set ..).symm
theorem amf {is:List Bool} {z:Int} (h1:decide (0 < z)=false):bsC is=bsC (mk1 is z):=by
 unfold mk1;rw[h1];rfl
theorem ame {is:List Bool} {z:Int} (h2:decide (z≤((bsC is).length:Int))=false):bsC is=bsC (mk1 is z):=by
 rw[List.length_map] at h2;unfold mk1;rw[h2,Bool.and_false];rfl
theorem afl {is:List Bool} {z:Int} (h1:decide (0 < z)=true) (h2:decide (z≤((bsC is).length:Int))=true):(bsC is)[(z - 1).toNat]?=some [bP (atZ is (z - 1))]:=by
 rw[List.length_map] at h2;have h1:=of_decide_eq_true h1;have h2:=of_decide_eq_true h2;exact aj (f:=fun b=>[bP b]) (jh om om rfl)
theorem agi {l:List Mm} {is:List Bool} (h9:l.length≤1000000) (hs9:is.length≤1000000):KCalls Tryz.prog [] 145 [.pv (mmsP l)] 4 1 [] (bsC is) (bsC (f9 l is)):=by
 refine pck [96,4] (by kernel_rfl) Tryz.func145 Y Y (fun D=>?_);refine au ?_;refine pl (ι:={i:Nat // i≤l.length}) (fun i=>[(0,.tok 1000),(1,.pv (mmsP l)),(4,.pv (iP (i.1:Int)))]) (fun i=>[(1000,.tok 4 1 [] (bsC (f9 (l.take i.1) is)))]) [96,4] (fun i=>l.length - i.1) ⟨0,nq _⟩ (c3 Y Y Y trivial) (ai Y trivial) (fun _=>rfl) ?_;intro ⟨i,hi0⟩;refine a2 (fun e9=>?_) (fun e9=>?_)
 ·have hi:i < l.length:=db e9;have hq:(f9 (l.take i) is).length≤1000000:=by rw[jc];exact hs9
  refine ax (c:=(aj (ah hi))) ?_;refine qg 4 ?_;refine rn Y ?_
  apply pcut (sl:=[(5,_),(0,_),(1,_),(4,_)]) (rs:=[(5,_),(1000,.tok 4 1 [] (bsC (mk1 (f9 (l.take i) is) (atZ l (i:Int)).1.lo)))])
  case h1=>
   refine a2 (fun e20=>?_) (fun e20=>?_)
   ·refine a2 (fun e26=>?_) (fun e26=>?_)
    ·have k1:=of_decide_eq_true e20;have k2:(atZ l (i:Int)).1.lo≤(((f9 (l.take i) is).map fun b=>[bP b]).length:Int):=of_decide_eq_true e26;rw[List.length_map] at k2;refine aa (c:=cw om om om om) ?_;refine ro0 Y Y Y (fun hd=>fv (i:=((atZ l (i:Int)).1.lo - 1).toNat) al Y Y Y Y Y Y dx (Int.toNat_of_nonneg (by have:=of_decide_eq_true e20;omega)).symm (afl e20 e26) hd) ?_;refine ro0 Y Y Y (fun hd=>eb (i:=((atZ l (i:Int)).1.lo - 1).toNat) (j:=0) al Y Y Y Y Y Y Y (afl e20 e26) Y Y Y Y Y) ?_;refine au ?_;refine Sub.of ?_ ?_ ?_
     ·exact (c4 Y Y Y Y trivial)
     ·exact (ai (rfl) (ai (congrArg (fun x=>some (Res.tok _ _ _ x)) (amd e20 e26)) trivial))
     ·rfl
    ·refine au ?_;refine Sub.of ?_ ?_ ?_
     ·exact (c4 Y Y Y Y trivial)
     ·exact (ai (rfl) (ai (congrArg (fun x=>some (Res.tok _ _ _ x)) (ame e26)) trivial))
     ·rfl
   ·refine au ?_;refine Sub.of ?_ ?_ ?_
    ·exact (c4 Y Y Y Y trivial)
    ·exact (ai (rfl) (ai (congrArg (fun x=>some (Res.tok _ _ _ x)) (amf e20)) trivial))
    ·rfl
  case h2=>
   refine a2 (fun e35=>?_) (fun e35=>?_)
   ·refine a2 (fun e41=>?_) (fun e41=>?_)
    ·have k3:=of_decide_eq_true e35;have k4:(atZ l (i:Int)).1.hi≤(((mk1 (f9 (l.take i) is) (atZ l (i:Int)).1.lo).map fun b=>[bP b]).length:Int):=of_decide_eq_true e41;rw[List.length_map,ma] at k4;refine aa (c:=cw om om om om) ?_;refine ro0 Y Y Y (fun hd=>fv (i:=((atZ l (i:Int)).1.hi - 1).toNat) al Y Y Y Y Y Y dx (Int.toNat_of_nonneg (by have:=of_decide_eq_true e35;omega)).symm (afl e35 e41) hd) ?_;refine ro0 Y Y Y (fun hd=>eb (i:=((atZ l (i:Int)).1.hi - 1).toNat) (j:=0) al Y Y Y Y Y Y Y (afl e35 e41) Y Y Y Y Y) ?_;refine aa (c:=ae (by show i≤_;omega)) ?_;refine au ?_;exact pe ⟨i+1,hi⟩ (c3 Y Y Y trivial) (ai (congrArg (fun x=>some (Res.tok 4 1 [] x)) (show _=bsC (f9 (l.take (i+1)) is) from by rw[yt hi];exact amd e35 e41)) trivial) Y (by show l.length - (i+1) < l.length - i;omega)
    ·refine aa (c:=ae (by show i≤_;omega)) ?_;refine au ?_;exact pe ⟨i+1,hi⟩ (c3 Y Y Y trivial) (ai (congrArg (fun x=>some (Res.tok 4 1 [] x)) (show _=bsC (f9 (l.take (i+1)) is) from by rw[yt hi];exact ame e41)) trivial) Y (by show l.length - (i+1) < l.length - i;omega)
   ·refine aa (c:=ae (by show i≤_;omega)) ?_;refine au ?_;exact pe ⟨i+1,hi⟩ (c3 Y Y Y trivial) (ai (congrArg (fun x=>some (Res.tok 4 1 [] x)) (show _=bsC (f9 (l.take (i+1)) is) from by rw[yt hi];exact amf e35)) trivial) Y (by show l.length - (i+1) < l.length - i;omega)
 ·have hj:l.length≤i:=dw e9;refine au ?_;exact retk Y Y (congrArg (fun x=>some (Res.tok 4 1 [] (bsC x))) (by rw[List.take_of_length_le hj]))
def fu (ls:List Lm):Nat→List Bool→List Bool
 | 0,is=>is
 | i+1,is=>bif atZ (fu ls i is) (i:Int) then f9 (atZ ls (i:Int)).proof (fu ls i is) else fu ls i is
def dp (ls:List Lm):Nat→List Bool→List Bool
 | 0,is=>is
 | n+1,is=>fu ls ls.length (dp ls n is)
def pp (ls:List Lm) (p:List Mm):List Bool:=dp ls (ls.length+1) (f9 p (List.replicate ls.length false))
theorem anj (is:List Bool):mt 1 [] (bsC is):=fun r hr=>by
 obtain⟨b,_,rfl⟩:=List.mem_map.1 hr;exact n6 (show a5t 1 [] [[bP b]]=true from by kernel_rfl) _ (List.mem_singleton_self _)
theorem ii (ls:List Lm):∀(i:Nat) (is:List Bool),(fu ls i is).length=is.length
 | 0,is=>rfl
 | i+1,is=>by
  rw[fu];cases atZ (fu ls i is) (i:Int) with
  | true=>rw[cond_true,jc,ii ls i]
  | false=>rw[cond_false,ii ls i]
theorem j0 (ls:List Lm):∀(n:Nat) (is:List Bool),(dp ls n is).length=is.length
 | 0,is=>rfl
 | n+1,is=>by rw[dp,ii,j0 ls n]
theorem a2c (ls:List Lm) (p:List Mm):(pp ls p).length=ls.length:=by rw[pp,j0,jc,List.length_replicate]
theorem ala {ls:List Lm} {i:Nat} {is:List Bool} (h:atZ (fu ls i is) (i:Int)=true):f9 (atZ ls (i:Int)).proof (fu ls i is)=fu ls (i+1) is:=by rw[fu,h];rfl
theorem alb {ls:List Lm} {i:Nat} {is:List Bool} (h:atZ (fu ls i is) (i:Int)=false):fu ls i is=fu ls (i+1) is:=by rw[fu,h];rfl
theorem akq {ls:List Lm} {e:Bool} {p:List Mm} (l9:ls.length≤100000) (p9:p.length≤100000) (hp:∀m∈ls,m.proof.length≤100000):PCalls Tryz.prog [] 91 [.agg [lmsP ls,iP 0,iP 0,bP false,.nat 0,.nat 0,.rows 46 9 ndT [],bP e,mmsP p]] (.rows 4 1 [] (bsC (pp ls p))):=by
 have il:(f9 p (List.replicate ls.length false)).length=ls.length:=by rw[jc,List.length_replicate]
 refine pcA [46,4] Tryz.func91 (fun D=>?_);refine pa Y Y (pr0 (qg 3 ?_));refine rmk0 (n:=(ls.map lmC).length) 1000 (by rw[List.length_map];show ls.length*1≤_;omega) (a1p (by kernel_rfl)) Y Y Y Y Y Y Y Y Y Y Y ?_;refine qg 1 ?_;refine rn Y (pr0 (qg 3 ?_));refine rk0 (agi (l:=p) (is:=(List.replicate ls.length false)) om (by rw[List.length_replicate];omega)) (anj _) (by rw[List.length_map,List.length_map,jc]) Y Y Y Y Y Y Y (congrArg (fun x=>some (Res.tok _ _ _ x)) (by rw[List.length_map];exact agd _)) Y ?_;refine au ?_;refine pl (ι:={n:Nat // n≤ls.length+1}) (fun n=>[(1,.box 1 0),(3,.tok 1000),(4,.pv (iP (n.1:Int)))]) (fun n=>[(1,.box 46 [.pv (lmsP ls),.pv (iP 0),.pv (iP 0),.pv (bP false),.pv (.nat 0),.pv (.nat 0),.pv (.rows 46 9 ndT []),.pv (bP e),.pv (mmsP p)]),(1000,.tok 4 1 [] (bsC (dp ls n.1 (f9 p (List.replicate ls.length false)))))]) [46,4] (fun n=>ls.length+1 - n.1) ⟨0,nq _⟩ (c3 Y Y Y trivial) (c2 Y Y trivial) (fun _=>rfl) ?_;intro ⟨n,hn0⟩;refine a2 (fun e18=>?_) (fun e18=>?_)
 ·have hn:n≤ls.length:=by have h:(n:Int)≤((ls.map lmC).length:Int):=of_decide_eq_true e18;rw[List.length_map] at h;omega
  refine au ?_;refine pl (ι:={i:Nat // i≤ls.length}) (fun i=>[(1,.box 1 0),(3,.tok 1000),(4,.pv (iP (n:Int))),(5,.pv (iP (i.1:Int)))]) (fun i=>[(1,.box 46 [.pv (lmsP ls),.pv (iP 0),.pv (iP 0),.pv (bP false),.pv (.nat 0),.pv (.nat 0),.pv (.rows 46 9 ndT []),.pv (bP e),.pv (mmsP p)]),(1000,.tok 4 1 [] (bsC (fu ls i.1 (dp ls n (f9 p (List.replicate ls.length false))))))]) [46,4] (fun i=>ls.length - i.1) ⟨0,nq _⟩ (c4 Y Y Y Y trivial) (c2 Y Y trivial) (fun _=>rfl) ?_;intro ⟨i,hi0⟩;refine a2 (fun e25=>?_) (fun e25=>?_)
  ·have hi:i < ls.length:=db e25;have hb:i < (fu ls i (dp ls n (f9 p (List.replicate ls.length false)))).length:=by rw[ii,j0,il];exact hi
   refine pk (ps (pb ?_));refine pr0 (qg 2 ?_);refine ro0 Y Y Y (fun hd=>fv (i:=i) al Y Y Y Y Y Y dx Y (aj (f:=fun b=>[bP b]) (ah hb)) hd) ?_;refine ro0 Y Y Y (fun hd=>ca (i:=i) (j:=0) al Y Y Y Y Y Y (aj (f:=fun b=>[bP b]) (ah hb)) Y hd) ?_;refine a2 (fun e31=>?_) (fun e31=>?_)
   ·refine ax (c:=(aj (ah hi))) ?_;refine qg 2 ?_;refine rk0 (agi (l:=(atZ ls (i:Int)).proof) (is:=(fu ls i (dp ls n (f9 p (List.replicate ls.length false))))) (nt (hp _ (mg (ah hi))) dx) (by rw[ii,j0,il];omega)) (anj _) (by rw[List.length_map,List.length_map,jc]) Y Y Y Y Y Y Y Y Y ?_;refine aa (c:=ae (by show i≤_;omega)) ?_;refine au ?_;exact pe ⟨i+1,hi⟩ (c4 Y Y Y Y trivial) (ai Y (ai (congrArg (fun x=>some (Res.tok 4 1 [] (bsC x))) (ala e31)) trivial)) Y (by show ls.length - (i+1) < ls.length - i;omega)
   ·refine aa (c:=ae (by show i≤_;omega)) ?_;refine au ?_;exact pe ⟨i+1,hi⟩ (c4 Y Y Y Y trivial) (ai Y (ai (congrArg (fun x=>some (Res.tok 4 1 [] (bsC x))) (alb e31)) trivial)) Y (by show ls.length - (i+1) < ls.length - i;omega)
  ·have hj:ls.length≤i:=dw e25;refine aa (c:=ae (by show n≤_;omega)) ?_;refine au ?_;exact pe ⟨n+1,by omega⟩ (c3 Y Y Y trivial) (ai Y (ai (congrArg (fun x=>some (Res.tok 4 1 [] (bsC x))) (show (fu ls i (dp ls n (f9 p (List.replicate ls.length false))))=(dp ls (n+1) (f9 p (List.replicate ls.length false))) from by rw[show i=ls.length from by omega];rfl)) trivial)) Y (by show ls.length+1 - (n+1) < ls.length+1 - n;omega)
 ·have hn:ls.length < n:=by have h:¬(n:Int)≤((ls.map lmC).length:Int):=of_decide_eq_false e18;rw[List.length_map] at h;omega
  exact ar (c:=congrArg (fun x=>PV.rows 4 1 [] (bsC x)) (show (dp ls n (f9 p (List.replicate ls.length false)))=pp ls p from by rw[show n=ls.length+1 from by omega];rfl))
theorem akm {to:List Int} {x:Int} (h1:decide (0 < x)=true) (h2:decide (x≤((to.map fun z=>[iP z]).length:Int))=true):atZ to (x - 1)=reN to x:=by
 rw[List.length_map] at h2;have h3:decide (1≤x)=true:=dt (by have:=of_decide_eq_true h1;omega);unfold reN;rw[h3,h2];rfl
theorem ako {to:List Int} {x:Int} (h1:decide (0 < x)=false):x=reN to x:=by
 have h3:decide (1≤x)=false:=df (by have:=of_decide_eq_false h1;omega);unfold reN;rw[h3];rfl
theorem akn {to:List Int} {x:Int} (h2:decide (x≤((to.map fun z=>[iP z]).length:Int))=false):x=reN to x:=by
 rw[List.length_map] at h2;unfold reN;rw[h2,Bool.and_false];rfl
theorem akb {to:List Int} {x:Int} (h1:decide (0 < x)=true) (h2:decide (x≤((to.map fun z=>[iP z]).length:Int))=true):(to.map fun z=>[iP z])[(x - 1).toNat]?=some [iP (atZ to (x - 1))]:=by
 rw[List.length_map] at h2;have h1:=of_decide_eq_true h1;have h2:=of_decide_eq_true h2;exact aj (f:=fun z=>[iP z]) (jh om om rfl)
theorem ur {l:List Mm} {to:List Int} (h9:l.length≤1000000) (h8:to.length≤1000000):PCalls Tryz.prog [] 92 [mmsP l,z0 to] (mmsP (l.map (renM to))):=by
 refine pcA [98] Tryz.func92 (fun D=>?_);refine au ?_;refine tks (t:=5) (id:=88) (e:=98) (k:=7) (ts:=[200]) Y ?_;refine pl (ι:={i:Nat // i≤l.length}) (fun i=>[(0,.pv (mmsP l)),(1,.pv (z0 to)),(5,.tok 88),(6,.pv (iP (i.1:Int)))]) (fun i=>[(88,.tok 98 7 [200] (((l.take i.1).map (renM to)).map mmC))]) [98] (fun i=>l.length - i.1) ⟨0,nq _⟩ (c4 Y Y Y Y trivial) (ai Y trivial) (fun _=>rfl) ?_;intro ⟨i,hi0⟩;refine a2 (fun e11=>?_) (fun e11=>?_)
 ·have hi:i < l.length:=db e11;refine ax (c:=(aj (ah hi))) ?_;refine qg 3 ?_;refine rn Y ?_
  apply pcut (sl:=[(7,_),(0,_),(1,_),(5,_),(6,_)]) (rs:=[(7,.box 98 [.pv (iP (atZ l (i:Int)).1.kind),.pv (iP (atZ l (i:Int)).1.index),.pv (iP (reN to (atZ l (i:Int)).1.lo)),.pv (iP (atZ l (i:Int)).1.hi),.pv (bP (atZ l (i:Int)).2.neg),.pv (.nat (atZ l (i:Int)).2.num),.pv (.nat (atZ l (i:Int)).2.den)]),(88,_)])
  case h1=>
   refine a2 (fun e22=>?_) (fun e22=>?_)
   ·refine a2 (fun e29=>?_) (fun e29=>?_)
    ·have k1:=of_decide_eq_true e22;have k2:(atZ l (i:Int)).1.lo≤((to.map fun z=>[iP z]).length:Int):=of_decide_eq_true e29;rw[List.length_map] at k2;refine aa (c:=cw om om om om) ?_;refine ro0 Y Y Y (fun hd=>jf (i:=((atZ l (i:Int)).1.lo - 1).toNat) al Y Y Y Y Y dx (Int.toNat_of_nonneg (by have:=of_decide_eq_true e22;omega)).symm (akb e22 e29) hd) ?_;refine au ?_;refine Sub.of ?_ ?_ ?_
     ·exact (c5 Y Y Y Y Y trivial)
     ·exact (ai (congrArg (fun z=>some (Res.box 98 [.pv (iP (atZ l (i:Int)).1.kind),.pv (iP (atZ l (i:Int)).1.index),.pv (iP z),.pv (iP (atZ l (i:Int)).1.hi),.pv (bP (atZ l (i:Int)).2.neg),.pv (.nat (atZ l (i:Int)).2.num),.pv (.nat (atZ l (i:Int)).2.den)])) (akm e22 e29)) (ai (rfl) trivial))
     ·rfl
    ·refine au ?_;refine Sub.of ?_ ?_ ?_
     ·exact (c5 Y Y Y Y Y trivial)
     ·exact (ai (congrArg (fun z=>some (Res.box 98 [.pv (iP (atZ l (i:Int)).1.kind),.pv (iP (atZ l (i:Int)).1.index),.pv (iP z),.pv (iP (atZ l (i:Int)).1.hi),.pv (bP (atZ l (i:Int)).2.neg),.pv (.nat (atZ l (i:Int)).2.num),.pv (.nat (atZ l (i:Int)).2.den)])) (akn e29)) (ai (rfl) trivial))
     ·rfl
   ·refine au ?_;refine Sub.of ?_ ?_ ?_
    ·exact (c5 Y Y Y Y Y trivial)
    ·exact (ai (congrArg (fun z=>some (Res.box 98 [.pv (iP (atZ l (i:Int)).1.kind),.pv (iP (atZ l (i:Int)).1.index),.pv (iP z),.pv (iP (atZ l (i:Int)).1.hi),.pv (bP (atZ l (i:Int)).2.neg),.pv (.nat (atZ l (i:Int)).2.num),.pv (.nat (atZ l (i:Int)).2.den)])) (ako e22)) (ai (rfl) trivial))
    ·rfl
  case h2=>
   apply pcut (sl:=[(7,_),(0,_),(1,_),(5,_),(6,_)]) (rs:=[(7,.box 98 [.pv (iP (atZ l (i:Int)).1.kind),.pv (iP (atZ l (i:Int)).1.index),.pv (iP (reN to (atZ l (i:Int)).1.lo)),.pv (iP (reN to (atZ l (i:Int)).1.hi)),.pv (bP (atZ l (i:Int)).2.neg),.pv (.nat (atZ l (i:Int)).2.num),.pv (.nat (atZ l (i:Int)).2.den)]),(88,_)])
   case h1=>
    refine a2 (fun e43=>?_) (fun e43=>?_)
    ·refine a2 (fun e50=>?_) (fun e50=>?_)
     ·have k3:=of_decide_eq_true e43;have k4:(atZ l (i:Int)).1.hi≤((to.map fun z=>[iP z]).length:Int):=of_decide_eq_true e50;rw[List.length_map] at k4;refine aa (c:=cw om om om om) ?_;refine ro0 Y Y Y (fun hd=>jf (i:=((atZ l (i:Int)).1.hi - 1).toNat) al Y Y Y Y Y dx (Int.toNat_of_nonneg (by have:=of_decide_eq_true e43;omega)).symm (akb e43 e50) hd) ?_;refine au ?_;refine Sub.of ?_ ?_ ?_
      ·exact (c5 Y Y Y Y Y trivial)
      ·exact (ai (congrArg (fun z=>some (Res.box 98 [.pv (iP (atZ l (i:Int)).1.kind),.pv (iP (atZ l (i:Int)).1.index),.pv (iP (reN to (atZ l (i:Int)).1.lo)),.pv (iP z),.pv (bP (atZ l (i:Int)).2.neg),.pv (.nat (atZ l (i:Int)).2.num),.pv (.nat (atZ l (i:Int)).2.den)])) (akm e43 e50)) (ai (rfl) trivial))
      ·rfl
     ·refine au ?_;refine Sub.of ?_ ?_ ?_
      ·exact (c5 Y Y Y Y Y trivial)
      ·exact (ai (congrArg (fun z=>some (Res.box 98 [.pv (iP (atZ l (i:Int)).1.kind),.pv (iP (atZ l (i:Int)).1.index),.pv (iP (reN to (atZ l (i:Int)).1.lo)),.pv (iP z),.pv (bP (atZ l (i:Int)).2.neg),.pv (.nat (atZ l (i:Int)).2.num),.pv (.nat (atZ l (i:Int)).2.den)])) (akn e50)) (ai (rfl) trivial))
      ·rfl
    ·refine au ?_;refine Sub.of ?_ ?_ ?_
     ·exact (c5 Y Y Y Y Y trivial)
     ·exact (ai (congrArg (fun z=>some (Res.box 98 [.pv (iP (atZ l (i:Int)).1.kind),.pv (iP (atZ l (i:Int)).1.index),.pv (iP (reN to (atZ l (i:Int)).1.lo)),.pv (iP z),.pv (bP (atZ l (i:Int)).2.neg),.pv (.nat (atZ l (i:Int)).2.num),.pv (.nat (atZ l (i:Int)).2.den)])) (ako e43)) (ai (rfl) trivial))
     ·rfl
   case h2=>
    refine au ?_;refine rp0 gc (by simp;omega) Y Y Y Y Y Y Y Y ?_;refine aa (c:=ae (by show i≤_;omega)) ?_;refine au ?_;exact pe ⟨i+1,hi⟩ (c4 Y Y Y Y trivial) (ai (congrArg (fun x=>some (Res.tok 98 7 [200] x)) (show ((l.take i).map (renM to)).map mmC++[mmC (renM to (atZ l (i:Int)))]=((l.take (i+1)).map (renM to)).map mmC from by rw[List.take_add_one,ah hi,List.map_append,List.map_append];rfl)) trivial) Y (by show l.length - (i+1) < l.length - i;omega)
 ·have hj:l.length≤i:=dw e11;exact ar (c:=congrArg mmsP (by rw[List.take_of_length_le hj]))
end Go.Proofs.YtbhbainhmfjpdaaGreatDoor
