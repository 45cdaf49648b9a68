/- Walks of the search and of what it calls, part 17. -/
import Derived.Test.YtbhbainhmfjpdaaGreatDoorMp
set_option linter.unusedSectionVars false
set_option linter.unusedVariables false
set_option linter.unusedSimpArgs false
set_option maxRecDepth 100000
set_option maxHeartbeats 8000000
namespace Go.Proofs.YtbhbainhmfjpdaaGreatDoor
open Go.RowKit
theorem acf {s:Sc} {a b D M C m K:Nat} (hs:s.Va a b) (h:s.Dz D M) {f:Fm} (hf:∀t∈f.terms,Rz t.2.r 4 C∧0≤t.1∧t.1 < ((s.q.g.inputs+s.q.g.units.length:Nat):Int)) (hc:Rz f.const.r (4*D*m) K):Rz (bi s f).1.r (4*D*m) (K+f.terms.length*(C*M)*m):=by
 unfold bi;cases e:br s f.terms [] with
 | none=>rw[show ((Q.zero,([]:List Mm),false):Q×List Mm×Bool).1=Q.zero from rfl,a49];exact Rz.zero _ _
 | some L=>
  simp only;rw[fg];rcases a4k hs L with h1 | h1
  ·rw[h1];have:f.const.r - 0=f.const.r:=by grind
   rw[this];exact hc.up (Nat.le_add_right ..)
  ·rw[h1];obtain⟨ws,g1,g2,g3⟩:=xk (kC s) e;have hw:∀w∈ws,Rz w (4*D) (C*M):=fun w hw=>by
    obtain⟨i,hi,rfl⟩:=List.mem_iff_getElem.1 hw;have hi':i < f.terms.length:=by omega
    obtain⟨e1,e2⟩:=g3 i _ _ (ge hi') (ge hi);obtain⟨t1,t2,t3⟩:=hf _ (List.getElem_mem hi');rw[e1];exact (Rz.abs t1).mul (aaw hs h t2 t3 e2)
   have hsum:=(Rz.sum hw).scale m;rw[g1] at hsum;have:f.const.r - valM (kC s) L=f.const.r+-(ws.sum):=by rw[g2,valM];grind
   rw[this];exact hc.add hsum.neg
theorem ajl (x y:Q):minR x y=ci x∨minR x y=ci y:=by
 unfold minR;cases decide (isg (Q.add x y.neg').neg (Q.add x y.neg').num≤0)
 ·exact .inr rfl
 ·exact .inl rfl
structure GrowIn (s:Sc) (a D M m K:Nat):Prop where
 va:s.Va a 3
 len:s.lems.length≤900
 dz:s.Dz D M
 us:∀p∈s.q.g.units,p.Dz (s.q.g.inputs+s.q.g.units.length) 16
 pos:0 < D
 goal:∀t∈s.q.goal.terms,Rz t.2.r 4 16∧0≤t.1∧t.1 < ((s.q.g.inputs+s.q.g.units.length:Nat):Int)
 gl:s.q.goal.terms.length≤8
 const:Rz s.q.goal.const.r (4*(4 ^ s.q.g.units.length*D)*m) K
 mp:0 < m
 b1:4*(4 ^ s.q.g.units.length*D)*m < 79228162514264337593543950336
 b2:∀j,j≤s.q.g.units.length→MM D M j < 79228162514264337593543950336
 b3:K+8*(16*MM D M s.q.g.units.length)*m < 79228162514264337593543950336
theorem GrowIn.dec {s:Sc} {a D M m K k:Nat} {kind:Int} (h:GrowIn s a D M m K) (hp:s.path.length≤100) (ha:1≤a):GrowIn (s.dec kind k) a D M m K:=
 ⟨⟨h.va.q,fun d hd=>by
   rcases zJ.1 hd with e | e
   ·exact h.va.path d e
   ·rw[mj e];exact sz_zero.up ha,by show (s.path++_).length≤1000;simp;omega,h.va.lems,h.va.l9,h.va.b1,h.va.b9,h.va.a9,h.va.n9⟩,
  h.len,⟨h.dz.lo,h.dz.hi,h.dz.lems⟩,h.us,h.pos,h.goal,h.gl,h.const,h.mp,h.b1,h.b2,h.b3⟩
theorem GrowIn.bd {s:Sc} {a D M m K:Nat} (h:GrowIn s a D M m K) (j:Nat) (hj:j≤s.q.g.units.length):(aj s j).Va a 3∧(aj s j).Dz (4 ^ j*D) (MM D M j):=by
 have h4:4 ^ j*D≤4 ^ s.q.g.units.length*D:=zT _ (zS dx hj);have h5:4*(4 ^ s.q.g.units.length*D)≤4*(4 ^ s.q.g.units.length*D)*m:=Nat.le_mul_of_pos_right _ h.mp;have hb1:=h.b1;obtain⟨v,z,_⟩:=o7 h.va h.len h.dz h.us h.pos j hj om (h.b2 j hj);exact⟨v,z⟩
theorem GrowIn.ok {a D M m K:Nat} (ha:1≤a):∀(k:Nat) {s:Sc} {root:Bool},GrowIn s a D M m K→s.path.length+k≤100→my a 3 k s∧(bp k s root).2.S 3∧Rz (bp k s root).2.r (4*(4 ^ s.q.g.units.length*D)*m) (K+8*(16*MM D M s.q.g.units.length)*m)
 | 0,s,root,h,hp=>by
  refine⟨fun j hj=>(h.bd j hj).1,?_⟩;obtain⟨v,z⟩:=h.bd s.q.g.units.length (nr _);have hq:=(fk s s.q.g.units.length).1;have:=acf (s:=di s) (f:=s.q.goal) (C:=16) v z (fun t ht=>by
   have:=h.goal t ht;show Rz t.2.r 4 16∧0≤t.1∧t.1 < (((aj s s.q.g.units.length).q.g.inputs+(aj s s.q.g.units.length).q.g.units.length:Nat):Int);rw[hq];exact this) h.const
  have this:=this.up (N:=K+8*(16*MM D M s.q.g.units.length)*m) (Nat.add_le_add_left (zT _ (zT _ h.gl)) _);exact⟨rz_S (a0t ..) this (Nat.mul_pos (Nat.mul_pos dx (Nat.mul_pos (Nat.pow_pos dx) h.pos)) h.mp) h.b1 h.b3,this⟩
 | k+1,s,root,h,hp=>by
  obtain⟨a1,a2,a3⟩:=GrowIn.ok ha k (root:=false) (h.dec (kind:=1) (k:=k) om ha) (by show (s.path++_).length+k≤100;simp;omega);obtain⟨b1,b2,b3⟩:=GrowIn.ok ha k (root:=false) (h.dec (kind:=2) (k:=k) om ha) (by show (s.path++_).length+k≤100;simp;omega);refine⟨⟨a1,b1,a2.up dx,b2.up dx,by omega⟩,?_⟩;show (minR _ _).S 3∧Rz (minR _ _).r _ _;rcases ajl (bp k (s.dec 1 k) false).2 (bp k (s.dec 2 k) false).2 with e | e
  ·rw[e,a2.canon];exact⟨a2,a3⟩
  ·rw[e,b2.canon];exact⟨b2,b3⟩
theorem agd:∀{l:List Tm},(∀(i:Nat) (s t:Tm),l[i]?=some s→l[i+1]?=some t→s.1 < t.1)→Srt' l
 | [],_=>by simp[Srt']
 | [t],_=>by simp[Srt']
 | s::t::l,h=>by
  have ih:Srt' (t::l):=agd fun i a b ha hb=>h (i+1) a b (by simpa using ha) (by simpa using hb)
  have hst:=h 0 s t rfl rfl;rw[Srt',List.pairwise_cons];refine⟨fun u hu=>?_,ih⟩;rcases zP.1 hu with e | e
  ·rw[e];exact hst
  ·have:=(List.pairwise_cons.1 ih).1 u e;omega
theorem ano {f:Fm} {v:Nat} (h:f.Ok v):f.Cn:=⟨agd h.asc,fun t ht=>⟨(h.each t ht).2.2.2,(h.each t ht).2.2.1⟩,h.const⟩
theorem a85:∀{l:List Tm} {a b:Int},Srt' l→(∀t∈l,a≤t.1∧t.1 < b)→a≤b→(l.length:Int)≤b - a
 | [],a,b,_,_,h=>by simp;omega
 | t::l,a,b,hs,h,hab=>by
  rw[Srt',List.pairwise_cons] at hs;have ht:=h t (mf ..);have:=a85 (l:=l) (a:=t.1+1) (b:=b) hs.2 (fun u hu=>⟨by have:=hs.1 u hu;omega,(h u (zC _ hu)).2⟩) om;rw[zW];omega
theorem amp {f:Fm} {v:Nat} (h:f.Ok v):f.terms.length≤v:=by
 have:=a85 (a:=0) (b:=(v:Int)) (ano h).srt (fun t ht=>⟨(h.each t ht).1,(h.each t ht).2.1⟩) om;omega
theorem a4g {q:Q} (h:q.Tiny):q.S 1:=yz (nj h.num dx) (by unfold Q.un;split;decide;exact nj h.den dx) h.ok
theorem tp {f:Fm} {v:Nat} (h:f.Small v):f.S 1 v:=⟨ano h.ok,fun t ht=>a4g (h.num t ht),a4g h.const,amp h.ok⟩
theorem a74 {q:Q} (h:q.Qt):Rz q.r 4 16:=by
 obtain⟨e,he⟩:=h.un;have hu:=q.un_ne;have hcast:(4:Rat)=(q.un:Rat)*(e:Rat):=by
  have:((4:Nat):Rat)=((q.un*e:Nat):Rat):=by rw[← he]
  rw[Rat.natCast_mul] at this;exact_mod_cast this
 have hle:e≤4:=Nat.le_of_dvd dx ⟨q.un,by rw[Nat.mul_comm];exact he⟩;have hn:=h.num;have hb:q.num*e≤16:=nt (Nat.mul_le_mul hn hle) dx;have ec:∀n:Nat,((n:Int):Rat)=(n:Rat):=fun n=>Rat.intCast_natCast _
 cases hs:q.neg with
 | false=>
  refine⟨((q.num*e:Nat):Int),?_,by rw[Int.natAbs_natCast];exact hb⟩;rw[ec,Rat.natCast_mul];unfold Q.r;rw[hs];simp only[sgnR,cond_false];show (q.num:Rat) / (q.un:Rat)*4=_;rw[hcast];grind
 | true=>
  refine⟨-((q.num*e:Nat):Int),?_,by rw[Int.natAbs_neg,Int.natAbs_natCast];exact hb⟩;rw[Rat.intCast_neg,ec,Rat.natCast_mul];unfold Q.r;rw[hs];simp only[sgnR,cond_true];show -(q.num:Rat) / (q.un:Rat)*4=_;rw[hcast];grind
theorem an7 {q:Q} (h:q.r≤0):sgQ q≤0:=by
 apply Classical.byContradiction
 intro hc;obtain⟨h1,h2⟩:=a04 hc;have:=zg h1 h2
 grind
theorem yj (q:Q):0≤q.abs.r:=by
 rcases Nat.eq_zero_or_pos q.num with h | h
 ·rw[qr (q:=q.abs) h];grind
 ·have:=zg (q:=q.abs) rfl h
  grind
theorem anw (a q:Q):isg (Q.add a (Q.add a q.abs).neg').neg (Q.add a (Q.add a q.abs).neg').num≤0:=by
 refine an7 (q:=Q.add a (Q.add a q.abs).neg') ?_;rw[Q.add_r,Q.neg_r,Q.add_r];have:=yj q
 grind
theorem agm {q:Q} (h:q.neg=true) (h0:0 < q.num):q.r < 0:=by
 have:q.r=-(Q.mk false q.num q.den).r:=by
  unfold Q.r;have:(Q.mk false q.num q.den).un=q.un:=rfl;rw[this,h];simp only[sgnR,cond_true,cond_false];grind
 have hp:=zg (q:=Q.mk false q.num q.den) rfl h0
 grind
theorem n6 (q:Q):(q.sign=0∧q.num=0)∨(q.sign=1∧q.neg=false∧0 < q.num)∨(q.sign=-1∧q.neg=true∧0 < q.num):=by
 unfold Q.sign;by_cases h:q.num=0
 ·left;exact⟨if_pos h,h⟩
 ·rw[if_neg h];cases hn:q.neg with
  | false=>right;left;exact⟨rfl,rfl,by omega⟩
  | true=>right;right;exact⟨rfl,rfl,by omega⟩
theorem lt_r {x y:Q} (hx:x.neg=false) (hy:y.neg=false) (h:y.num*x.un < x.num*y.un):y.r < x.r:=by
 have h1:=x.un_ne;have h2:=y.un_ne;have p1:(0:Rat) < (x.un:Rat):=by exact_mod_cast x.un_pos
 have p2:(0:Rat) < (y.un:Rat):=by exact_mod_cast y.un_pos
 have h3:((y.num*x.un:Nat):Rat) < ((x.num*y.un:Nat):Rat):=by exact_mod_cast h
 rw[Rat.natCast_mul,Rat.natCast_mul] at h3;have e:x.r - y.r=((x.num:Rat)*y.un - y.num*x.un)*((x.un:Rat)⁻¹*(y.un:Rat)⁻¹):=by
  unfold Q.r;rw[hx,hy];simp only[sgnR,cond_false]
  grind
 have:0 < x.r - y.r:=by
  rw[e];exact Rat.mul_pos (by grind) (Rat.mul_pos (Rat.inv_pos.2 p1) (Rat.inv_pos.2 p2))
 grind
theorem a1i {q:Q} (h:q.neg=true):q.r=-(Q.mk false q.num q.den).r:=by
 unfold Q.r;have:(Q.mk false q.num q.den).un=q.un:=rfl;rw[this,h];simp only[sgnR,cond_true,cond_false];grind
theorem anp {x y:Q} (h:x.r≤y.r):Q.cmpQ x y≤0:=by
 unfold Q.cmpQ;split
 ·decide
 ·rename_i g1
  split
  ·rename_i g2
   exfalso
   rcases n6 x with ⟨a1,a2⟩ | ⟨a1,a2,a3⟩ | ⟨a1,a2,a3⟩<;>rcases n6 y with ⟨b1,b2⟩ | ⟨b1,b2,b3⟩ | ⟨b1,b2,b3⟩<;>first | omega | skip
   ·have:=qr a2;have:=agm b2 b3;grind
   ·have:=zg a2 a3;have:=qr b2;grind
   ·have:=zg a2 a3;have:=agm b2 b3;grind
  ·rename_i g2
   rcases n6 x with ⟨a1,a2⟩ | ⟨a1,a2,a3⟩ | ⟨a1,a2,a3⟩<;>rcases n6 y with ⟨b1,b2⟩ | ⟨b1,b2,b3⟩ | ⟨b1,b2,b3⟩<;>first | omega | skip
   ·rw[a2,b2,Nat.zero_mul,Nat.zero_mul];simp[cmpI,isg,cmpN]
   ·have pa:=Nat.mul_pos a3 y.un_pos;have pb:=Nat.mul_pos b3 x.un_pos;unfold Q.sg;rw[a2,b2];simp only[Bool.false_and];unfold cmpI isg;rw[if_neg (Nat.ne_of_gt pa),if_neg (Nat.ne_of_gt pb)];simp only[Bool.false_eq_true,if_false];rw[if_neg om,if_neg om,if_neg om];unfold cmpN;split
    ·decide
    ·split
     ·rename_i hlt
      exfalso
      have:=lt_r a2 b2 hlt
      grind
     ·decide
   ·have pa:=Nat.mul_pos a3 y.un_pos;have pb:=Nat.mul_pos b3 x.un_pos;unfold Q.sg;rw[a2,b2,dt a3,dt b3,dt pa,dt pb];simp only[Bool.and_self];unfold cmpI isg;rw[if_neg (Nat.ne_of_gt pa),if_neg (Nat.ne_of_gt pb)];simp only[if_true];rw[if_neg om,if_neg om,if_pos om];unfold cmpN;split
    ·decide
    ·split
     ·rename_i hlt
      exfalso
      have:=lt_r (x:=Q.mk false y.num y.den) (y:=Q.mk false x.num x.den) rfl rfl hlt;rw[a1i a2,a1i b2] at h
      grind
     ·decide
theorem a2n:∀(n:Nat) (r:List Nat),(boxQ n r).1.1.length=n∧(boxQ n r).1.2.length=n∧∀(i:Nat) (a b:Q),(boxQ n r).1.1[i]?=some a→(boxQ n r).1.2[i]?=some b→a.Qt∧∃q:Q,q.Qt∧b=Q.add a q.abs
 | 0,r=>⟨rfl,rfl,fun i a b h=>by simp[boxQ] at h⟩
 | n+1,r=>by
  rw[ac3];obtain⟨h1,h2,h3⟩:=a2n n (numQ (numQ r).2).2;refine⟨by simp[h1],by simp[h2],fun i a b ha hb=>?_⟩;cases i with
  | zero=>simp at ha hb;subst ha hb;exact⟨zu _,_,zu _,rfl⟩
  | succ i=>exact h3 i a b (by simpa using ha) (by simpa using hb)
theorem v6:∀(n v:Nat) (r:List Nat) (f:Fm),f∈(ea n v r).1→∃v' r',f=(fu v' r').1
 | 0,v,r,f,h=>by cases h
 | n+1,v,r,f,h=>by
  have h:f∈(fu v r).1::(ea n (v+1) (fu v r).2).1:=h;rcases zP.1 h with e | e
  ·exact⟨_,_,e⟩
  ·exact v6 n _ _ f e
theorem abn {f:Fm} {v n:Nat} {r:List Nat} (he:f=(fu v r).1) (h:f.Ok n):f.Dz n 16:=by
 subst he;have hq:=afg v r;exact⟨fun t ht=>⟨a74 (hq.each t ht),(h.each t ht).1,(h.each t ht).2.1⟩,a74 hq.const⟩
theorem al2 {q:Q} {D M:Nat} (h:q.Ok) (hz:Rz q.r D M) (hD:0 < D) (hD9:D < 18446744073709551616) (hM:M < 18446744073709551616):q.S 2:=Q.Dz.S ⟨h,hz⟩ hD hD9 hM
theorem a19 (n:Nat) (r:List Nat) (h0:1≤n) (h9:n≤3):(kf n r).1.Va n 2∧(∀q∈(kf n r).1.lo,Rz q.r 4 32)∧∀q∈(kf n r).1.hi,Rz q.r 4 32:=by
 obtain⟨h1,h2,h3⟩:=a2n n r;have lo:∀q∈(boxQ n r).1.1,q.Qt:=fun q hq=>by
  obtain⟨i,hi,rfl⟩:=List.mem_iff_getElem.1 hq;exact (h3 i _ _ (ge hi) (ge om)).1
 have hi:∀q∈(boxQ n r).1.2,q.Ok∧Rz q.r 4 32:=fun q hq=>by
  obtain⟨i,hi,rfl⟩:=List.mem_iff_getElem.1 hq;obtain⟨a1,p,a2,a3⟩:=h3 i _ _ (ge om) (ge hi);rw[a3];exact⟨Q.add_ok ..,by rw[Q.add_r];exact (a74 a1).add (Rz.abs (a74 a2))⟩
 refine⟨⟨h0,by omega,h1,h2,fun q hq=>al2 (lo q hq).ok (a74 (lo q hq)) dx dx dx,fun q hq=>al2 (hi q hq).1 (hi q hq).2 dx dx dx,fun i a b ha hb=>?_,?_,fun f hf=>?_,by decide⟩,fun q hq=>(a74 (lo q hq)).up dx,fun q hq=>(hi q hq).2⟩
 ·obtain⟨_,p,_,rfl⟩:=h3 i a b ha hb;refine⟨anw a p,anp ?_⟩;rw[Q.add_r];have:=yj p
  grind
 ·show (iz _ _ _).1.length≤256;rw[qn];have:=qq (n:=3) dx (boxQ n r).2;omega
 ·have:=vy _ _ _ f hf;exact⟨this.ok,(tp this).up dx (nr _)⟩
theorem jz (r:List Nat):(ak r).1.Va 2∧(∀p∈(ak r).1.g.units,p.Dz ((ak r).1.g.inputs+(ak r).1.g.units.length) 16)∧(ak r).1.goal.Dz ((ak r).1.g.inputs+(ak r).1.g.units.length) 16∧(ak r).1.g.inputs≤3∧(ak r).1.g.units.length≤4:=by
 have hg:=x5 r;obtain⟨h1,h2,h3⟩:=a19 (dc r).1.inputs (dc r).2 hg.i0 hg.i9;have hgoal:=oy ((dc r).1.inputs+(dc r).1.units.length) (kf (dc r).1.inputs (dc r).2).2;have hu:∀f∈(dc r).1.units,f.Ok ((dc r).1.inputs+(dc r).1.units.length)∧f.S 2 ((dc r).1.inputs+(dc r).1.units.length):=fun f hf=>by
  obtain⟨j,hj,rfl⟩:=List.mem_iff_getElem.1 hf;have hs:=hg.us j _ (ge hj);exact⟨hs.ok.mono om,(tp hs).up dx om⟩
 refine⟨⟨hg.va,fun f hf=>(hu f hf).2,h1,hgoal.ok,(tp hgoal).up dx (nr _)⟩,fun p hp=>?_,abn rfl hgoal.ok,hg.i9,hg.u9⟩;obtain⟨v',r',e⟩:=v6 _ _ _ p hp;exact abn e (hu p hp).1
theorem z5 (r:List Nat):(⟨(ak r).1,[],[]⟩:Sc).Va 2 3∧(⟨(ak r).1,[],[]⟩:Sc).Dz 4 32:=by
 obtain⟨h1,h2,h3,h4,h5⟩:=jz r;have hg:=x5 r;obtain⟨_,g2,g3⟩:=a19 (dc r).1.inputs (dc r).2 hg.i0 hg.i9;exact⟨⟨h1,fun d hd=>(by cases hd),nq _,fun m hm=>(by cases hm),nq _,by decide,by decide,nr _,by show (ak r).1.g.inputs+(ak r).1.g.units.length≤8;omega⟩,⟨g2,g3,fun m hm=>(by cases hm)⟩⟩
theorem ams:∀u,u < 5→∀j,j < u+1→4 ^ j*4 < 79228162514264337593543950336∧MM 4 32 j < 79228162514264337593543950336:=by decide
theorem amr:∀u,u < 5→(∀j,j < u+1→MM (4 ^ u*4) (MM 4 32 u) j < 79228162514264337593543950336)∧4*(4 ^ u*(4 ^ u*4))*1 < 79228162514264337593543950336∧79228162514264337593543+8*(16*MM (4 ^ u*4) (MM 4 32 u) u)*1 < 79228162514264337593543950336:=by decide
def cw (q:Qr):Sc:=di ⟨q,[],[]⟩
theorem abh {q:Qr} {K:Nat} (h:(⟨q,[],[]⟩:Sc).Va 2 3) (hz:(⟨q,[],[]⟩:Sc).Dz 4 32) (hu:∀p∈q.g.units,p.Dz (q.g.inputs+q.g.units.length) 16) (hg:∀t∈q.goal.terms,Rz t.2.r 4 16∧0≤t.1∧t.1 < ((q.g.inputs+q.g.units.length:Nat):Int)) (u4:q.g.units.length≤4) (hc:Rz q.goal.const.r (4*(4 ^ q.g.units.length*(4 ^ q.g.units.length*4))*1) K) (hK:K≤79228162514264337593543):GrowIn (cw q) 2 (4 ^ q.g.units.length*4) (MM 4 32 q.g.units.length) 1 K:=by
 have n1:=ams q.g.units.length om q.g.units.length om;obtain⟨n2,n3,n4⟩:=amr q.g.units.length om;obtain⟨v,z,l⟩:=o7 (s:=⟨q,[],[]⟩) h (nq _) hz hu dx q.g.units.length (nr _) n1.1 n1.2;have hq:(cw q).q=q:=(fk ⟨q,[],[]⟩ q.g.units.length).1;refine⟨v,?_,z,by rw[hq];exact hu,Nat.mul_pos (Nat.pow_pos dx) dx,by rw[hq];exact hg,by rw[hq];exact nt h.q.goal.len h.n9,by rw[hq];exact hc,by decide,by rw[hq];exact n3,fun j hj=>?_,by rw[hq];omega⟩
 ·have:(cw q).lems.length≤0+2*q.g.units.length:=l;omega
 ·rw[hq] at hj;exact n2 j om
section
attribute [local go_sem] Oper.semAt_some
open Lib (hid)
abbrev bv (x:Nat):Value:=.int .u8 (x:Int)
def byC (b:Nat):List PV:=[.raw (.int .u8 (b:Int))]
abbrev ahb (l:List Nat):PV:=.rows 5 1 [] (l.map byC)
abbrev TQ:List Nat:=[35,37,138,200]
def By (x:Sv) (L:List Nat) (w:World):Prop:=x.Is w 1 (L.map bv)
theorem By.gr {x:Sv} {L:List Nat} {w w':World} (h:By x L w) (G:Gr w w'):By x L w':=Sv.Is.gr h G
theorem By.at {x:Sv} {L:List Nat} {w:World} (h:By x L w) {i:Nat} (hi:i < L.length):∃ad,x.A=some ad∧w.cell? (ad.add i)=some (bv (atZ L (i:Int))):=by
 obtain⟨ad,h1,_,h2⟩:=h.look (i:=i) (u:=bv (atZ L (i:Int))) (by rw[List.getElem?_map,ab hi];rfl);exact⟨ad,h1,h2⟩
abbrev abq (L:List Nat) (k:Nat):Res:=.box 135 [.pv (ahb L),.pv (iP (k:Int))]
abbrev ki (L r:List Nat):Res:=abq L (L.length - r.length)
structure Fdp (L r:List Nat):Prop where
 b:∀y∈L,y < 256
 n:L.length≤1000
 s:∃k,k≤L.length∧r=L.drop k
theorem Fdp.one {L:List Nat} (h:∀y∈L,y < 256) (hn:L.length≤1000):Fdp L L:=⟨h,hn,0,nq _,rfl⟩
theorem Fdp.nx {L r:List Nat} (h:Fdp L r) (n:Nat):Fdp L (nx n r).2:=by
 obtain⟨h1,h2,k,hk,rfl⟩:=h;cases e:L.drop k with
 | nil=>exact⟨h1,h2,k,hk,e.symm⟩
 | cons x r=>
  have hl:=congrArg List.length e;rw[List.length_drop,zW] at hl;refine⟨h1,h2,k+1,by omega,?_⟩;show r=L.drop (k+1);rw[← List.drop_drop,e];rfl
theorem Fdp.num {L r:List Nat} (h:Fdp L r):Fdp L (numQ r).2:=(h.nx 9).nx 4
theorem aov:ElemS Tryz.prog 22 5 1 1:=a3w (z:=.int .u8 0) (by kernel_rfl) (by kernel_rfl) rfl dx
structure Fd0 (w w':World) (p:Nat) (L:List Nat):Prop where
 at_:w.heap.size≤p
 is:∃y:Sv,Bk w' p 135 #[.slice y.A y.n y.c,.int .i64 0]∧y.Is w' 1 (L.map bv)∧y.Ty w' 5∧y.n=L.length∧∀ad,y.A=some ad→0 < y.n→w.heap.size≤ad.block
set_option maxRecDepth 100000 in
theorem ajj (w:World) (x:Sv) (L:List Nat) (hx:x.Is w 1 (L.map bv)) (hn:L.length≤1000):
  Calls Tryz.prog 29 #[.slice x.A x.n x.c] w fun e w'=>∃p:Nat,e=.returned (.pointer (some ⟨p,0,none⟩))∧Fd0 w w' p L∧Gr w w':=by
 have hLn:L.length=x.n:=by have:=hx.len;rw[zB] at this;omega
 have HLN:=hid hLn;obtain⟨A,n,c⟩:=x;simp only at hLn;have HO:Hid ((w.alloc (.cells #[] 5)).ownsRow w.heap.size 5 1 (.slice (some ⟨w.heap.size,0,none⟩) 0 0) 0 []):=⟨rfl,.inr ⟨w.heap.size,0,#[],rfl,nr _,Bk.made _ _ _,nr _,nq _,rfl,rfl⟩⟩;rcases A with _ | ad
 ·obtain⟨h9,h8⟩:=hx.mk0 rfl;injection h9 with _ h6 h7;subst h6 h7;have HL0:=hid (show L=[] by cases L with | nil=>rfl | cons a l=>simp at h8);clear hx hLn h8;go_enter Tryz.func29,Tryz.ntmps29;go_wp2;go_ret;obtain⟨h1,h2,h3⟩:=a3o w 5 135 #[] #[.slice (some ⟨w.heap.size,0,none⟩) 0 0,.int .i64 0];rw[HL0.out];exact⟨w.heap.size+1,rfl,⟨Nat.le_succ _,⟨some ⟨w.heap.size,0,none⟩,0,0⟩,h2,⟨rfl,nr _,nq _,(fun e=>by cases e),Sees.nil⟩,(fun ad _ h=>absurd h (ni _)),rfl,fun ad _ h=>absurd h (ni _)⟩,h3⟩
 ·have HC:Hid (∀j u,(L.map bv)[j]?=some u→(w.alloc (.cells #[] 5)).cell? (ad.add j)=some u):=(hx.gr ((Gr.refl w).alloc _)).cells rfl;have HU:Hid (∀u∈L.map bv,u.oneCell'=true):=fun u hu=>by
   obtain⟨y,_,rfl⟩:=List.mem_map.1 hu;rfl
  have H1:=hid hx.len;simp only at H1;clear hx;go_enter Tryz.func29,Tryz.ntmps29;go_wp2_with (at_builtin;refine ux aov rfl _ _ rfl w.heap.size (.slice (some ⟨w.heap.size,0,none⟩) 0 0) 0 [] rfl HO.out ad n c (L.map bv) rfl H1.out HC.out HU.out (by unfold maxLen;omega) om (by simp) ?_;intro v' w' h2 h3 h5;rw[Nat.zero_add,zX] at h2;have HR:=hid (ma h2);obtain⟨y,rfl,hyn,hy,hty⟩:=Sv.of_row h2 dx;have HY:=hid hy;have HT:=hid hty;have HYN:=hid hyn;have HG:=hid (Gr.of_own h3);clear h2 h3 h5 hy hty hyn);go_wp2;go_ret;obtain⟨yA,yn,yc⟩:=y;obtain rfl:yn=n:=HYN.out;have hg:=(Gr.refl w').alloc (.cells #[.slice yA yn yc,.int .i64 0] 135);exact⟨_,rfl,⟨HG.out.size,⟨yA,yn,yc⟩,Bk.made _ _ _,HY.out.gr hg,HT.out.gr hg,HLN.out.symm,fun ad ha _=>(HR.out ad.block (by show (Value.slice yA yn yc).ownBlock=_;rw[show yA=some ad from ha];rfl)).1⟩,HG.out.trans hg⟩
theorem afq {w:World} {X:Nat→Prop} {y:Sv} {L:List Nat} (h1:y.Is w 1 (L.map bv)) (h2:y.Ty w 5) (hn:y.n=L.length) (ha:y.Av X):(ahb L).Rep w X y.v:=by
 rw[PV.Rep];refine⟨y,L.map fun b=>[bv b],rfl,by rw[zB];exact hn,?_,h2,ha,?_,fun r hr=>?_⟩
 ·have:(L.map fun b=>[bv b]).flatten=L.map bv:=by
   clear h1 hn
   induction L with
   | nil=>rfl
   | cons a l ih=>rw[List.map_cons,List.flatten_cons,ih];rfl
  rw[this];exact h1
 ·clear h1 hn
  induction L with
  | nil=>exact PV.RepLL.nil
  | cons a l ih=>exact PV.RepLL.cons (PV.RepL.cons (m8 _) PV.RepL.nil) ih
 ·obtain⟨b,_,rfl⟩:=List.mem_map.1 hr;exact⟨rfl,fun c hc=>by rw[mj hc];exact⟨rfl,fun t ht=>by cases ht⟩⟩
theorem ao9 {x:Sv} {L:List Nat} (hn:L.length≤1000):SCalls Tryz.prog (By x L) [] 29 [.pv (.raw x.v)] none (ki L L) (.box 1000 0) true:=⟨by kernel_rfl,fun w X B T us hH hX hXT hXL hpre hr=>by
 rw[SV.RepL] at hr;obtain⟨u,us',rfl,h1,h2⟩:=hr;rw[SV.RepL] at h2;subst h2;rw[SV.Rep,PV.Rep] at h1;subst h1;refine (ajj w x L hH hn).mono ?_;rintro e w' ⟨p,rfl,⟨hp,y,hb,y1,y2,y3,y4⟩,G⟩;refine⟨_,p,T 1000,rfl,(fun e=>by cases e),(fun e=>by cases e),G.fr.wide (fun _ _ h=>h.elim),fun b e=>.inr ?_,⟨trivial,[y.v,.int .i64 0],hb,SV.RepL.cons ?_ (SV.RepL.cons ?_ (by rw[SV.RepL]))⟩,by rw[SV.Rep];rfl⟩
 ·injection e with e;rw[← e];exact hp
 ·rw[SV.Rep];refine afq y1 y2 y3 fun ad ha h0 hx=>?_
  have:=y4 ad ha h0;rcases hx with hx | hx
  ·have:=hX _ hx;omega
  ·injection hx with hx;obtain⟨cs,fr,hty⟩:=y2 ad ha h0;rw[← hx,show w'.heap[p]?=_ from hb] at hty;injection hty with hty;injection hty with _ hty _;cases hty
 ·rw[SV.Rep,PV.Rep,Nat.sub_self];rfl⟩
section
variable {C:Cx} {o:Oper} {st:St}
theorem aae {x y:Operand} {cs:List SV} {kd:IntKind} {z:Int} {i:Nat} {s:SV} (hP:C.P=Tryz.prog) (ho:o.op=.index 140 x y) (hx:ev st x=some (.agg cs)) (hy:ev st y=some (.pv (.raw (.int kd z)))) (hz:z=(i:Int)) (hi:i < 4) (hs:cs[i]?=some s) (hs0:s.ids=[]) (hd:∀d,o.dst=some d→C.dk d):OpE C st.tys o st (valE s []):=by
 refine bj hd fun st1 ag a w B T hi'=>?_
 rw[← ag.ev (by rw[ho];simp[Op.operands])] at hx hy;have h1:=(az hi' hx).1;have h2:=(az hi' hy).1;rw[SV.Rep] at h1;rw[SV.Rep,PV.Rep] at h2;obtain⟨us,h3,h4⟩:=h1;obtain⟨u,h5,h6⟩:=h4.at hs;refine⟨u,?_,h6,fun j hj=>by rw[hs0] at hj;cases hj⟩;have hu:C.P.underlying 140=some (.array 4 3):=by rw[hP];kernel_rfl
 have hsz:(C.P.info? 3).map (·.size)=some 1:=by rw[hP];kernel_rfl
 have hp:=a08 us.toArray i u w (by simpa using h5);rw[← hP] at hp;have hlt:(i:Int) < 4:=by omega
 simp[execOp,ho,h2,h3,hz,Instr.index,asIntOf,run_underlying hu,hlt,ke hsz,hp];intro h;omega
end
theorem arr4 {b:Nat} (h:b < 4):(([.int .i64 1,.int .i64 1,.int .i64 2,.int .i64 4]:List Value).map fun v=>SV.pv (.raw v))[b]?=some (.pv (iP (denN b:Int))):=by
 rcases (by omega:b=0∨b=1∨b=2∨b=3) with rfl | rfl | rfl | rfl<;>rfl
theorem ako {n:Nat} (h:n≤1000000):ariO .sub .i64 ((n+1:Nat):Int) 1=some (n:Int):=by
 show some (IntKind.wrap .i64 (((n+1:Nat):Int) - 1))=_;rw[fd om om];exact congrArg some om
theorem ai6 {L:List Nat} {n k:Nat} (h:L.length≤k):SCalls Tryz.prog (fun _=>True) [] 30 [.box 1000 0,.pv (iP (n:Int))] (some (abq L k)) (abq L k) (.pv (iP ((0:Nat):Int))) false:=by
 refine pcs [135] Tryz.func30 (fun D hH hF=>?_);refine akT (c:=by exact dt (by rw[zB];exact Int.ofNat_le.2 h)) ?_;refine au ?_;exact rets Y (Y) Y
theorem ai5 {L:List Nat} {n k x:Nat} (hx:L[k]?=some x) (hx9:x < 256) (hk:k≤1000) (h0:0 < n):SCalls Tryz.prog (fun _=>True) [] 30 [.box 1000 0,.pv (iP (n:Int))] (some (abq L k)) (abq L (k+1)) (.pv (iP ((x % n:Nat):Int))) false:=by
 refine pcs [135] Tryz.func30 (fun D hH hF=>?_);refine akF (c:=by exact df (by rw[zB];have:=(gs hx).1;omega)) ?_;refine aa (c:=a8 om) ?_;refine aa (c:=ako om) ?_;refine ax (c:=(ae (f:=byC) hx)) ?_;refine qg 1 ?_;refine ro0 Y Y Y (fun hd=>a1p (ds:=.int .u8) (j:=.i64) Y Y (by kernel_rfl) (by kernel_rfl) (ah9 _ om) hd) ?_;refine qg 1 ?_;refine ro0 Y Y Y (fun hd=>ll Y Y Y om (a36 x n) hd) ?_;refine au ?_;exact rets Y (Y) Y
theorem vn {L r:List Nat} {n:Nat} (h:Fdp L r) (h0:0 < n):SCalls Tryz.prog (fun _=>True) [] 30 [.box 1000 0,.pv (iP (n:Int))] (some (ki L r)) (ki L (nx n r).2) (.pv (iP ((nx n r).1:Int))) false:=by
 obtain⟨h1,h2,k,hk,rfl⟩:=h;cases e:L.drop k with
 | nil=>exact ai6 (nr _)
 | cons x r=>
  have hl:=congrArg List.length e;rw[List.length_drop,zW] at hl;have hx:L[k]?=some x:=by
   have:=congrArg (fun l=>l[0]?) e;simpa using this
  have:=ai5 (n:=n) hx (h1 x (mg hx)) om h0;rwa [show k=L.length - (x::r).length from by rw[zW];omega,show L.length - (x::r).length+1=L.length - r.length from by rw[zW];omega] at this
theorem tw {L r:List Nat} (h:Fdp L r):SCalls Tryz.prog (fun _=>True) TU 34 [.box 1000 0] (some (ki L r)) (ki L (numQ r).2) (.pv (ratP (numQ r).1)) false:=by
 have n1:=qq (n:=9) dx r;have n2:=qq (n:=4) dx (nx 9 r).2;have d0:0 < denN (nx 4 (nx 9 r).2).1∧denN (nx 4 (nx 9 r).2).1≤4:=by
  generalize (nx 4 (nx 9 r).2).1=b at n2;rcases (by omega:b=0∨b=1∨b=2∨b=3) with rfl | rfl | rfl | rfl<;>decide
 refine pcs [135,35] Tryz.func34 (fun D hH hF=>?_);refine au ?_;refine rsc0 (fun _ _ _=>trivial) (fun e=>by cases e) (vn (n:=9) h dx) ?_;refine aa (c:=da om om om om) ?_;refine ro0 Y Y Y (fun hd=>w9 (n:=4) (e:=3) (us:=[.int .i64 1,.int .i64 1,.int .i64 2,.int .i64 4]) (zs:=List.replicate 4 (.int .i64 0)) Y (by kernel_rfl) (by kernel_rfl) (by kernel_rfl) (by rfl) (by rfl) hd) ?_;refine au ?_;refine rsc0 (fun _ _ _=>trivial) (fun e=>by cases e) (vn (n:=4) (h.nx 9) dx) ?_;refine ro0 Y Y Y (fun hd=>aae Y Y Y Y Y n2 (arr4 n2) Y hd) ?_;refine ac (c:=alh ((nx 9 r).1 - 4) (denN (nx 4 (nx 9 r).2).1) om om d0.1 om) ?_;refine au ?_;exact rets Y (Y) Y
end
theorem Fdp.formT {L:List Nat}:∀(n v:Nat) (ts:List Tm) {r:List Nat},Fdp L r→Fdp L (formT n v ts r).2
 | 0,_,_,_,h=>h
 | n+1,v,ts,r,h=>by
  unfold Go.Proofs.YtbhbainhmfjpdaaGreatDoor.formT;split
  ·exact Fdp.formT n (v+1) _ (h.nx 3).num
  ·exact Fdp.formT n (v+1) _ (h.nx 3)
theorem Fdp.form {L r:List Nat} (h:Fdp L r) (v:Nat):Fdp L (fu v r).2:=Fdp.formT v 0 [] h.num
theorem afe {v j:Nat} {ts:List Tm} {r:List Nat} {X:List Tm×List Nat} (hj:j < v) (h:formT (v - j) j ts r=X) (h0:decide ((0:Int) < ((nx 3 r).1:Int))=true):formT (v - (j+1)) (j+1) (snoc ts j (numQ (nx 3 r).2).1) (numQ (nx 3 r).2).2=X:=by
 have h0:=zK h0;rw[show v - j=v - (j+1)+1 from by omega,formT,if_pos om] at h;exact h
theorem ak4 {v j:Nat} {ts:List Tm} {r:List Nat} {X:List Tm×List Nat} (hj:j < v) (h:formT (v - j) j ts r=X) (h0:decide ((0:Int) < ((nx 3 r).1:Int))=false):formT (v - (j+1)) (j+1) ts (nx 3 r).2=X:=by
 have h0:=zM h0;rw[show v - j=v - (j+1)+1 from by omega,formT,if_neg om] at h;exact h
theorem a69 {v j:Nat} {ts:List Tm} {r:List Nat} {X:List Tm×List Nat} (hj:v≤j) (h:formT (v - j) j ts r=X):ts=X.1∧r=X.2:=by
 rw[show v - j=0 from by omega,formT] at h;rw[← h];exact⟨rfl,rfl⟩
theorem uc {L r:List Nat} {v:Nat} (h:Fdp L r) (hv:v≤100):SCalls Tryz.prog (fun _=>True) TF 33 [.box 1000 0,.pv (iP (v:Int))] (some (ki L r)) (ki L (fu v r).2) (.pv (fmP (fu v r).1)) false:=by
 refine pcs [135,37] Tryz.func33 (fun D hH hF=>?_);refine au ?_;refine rsc0 (fun _ _ _=>trivial) (fun e=>by cases e) (tw h) ?_;refine au ?_;refine pwk ?_;refine pl (ι:={p:Nat×List Tm×List Nat // p.1≤v∧formT (v - p.1) p.1 p.2.1 p.2.2=formT v 0 [] (numQ r).2∧Fm.Small ⟨p.2.1,(numQ r).1⟩ p.1∧Fdp L p.2.2}) (fun p=>[(0,.box 1000 0),(1,.pv (iP (v:Int))),(4,.box 4 0),(5,.box 5 0),(6,.pv (iP (p.1.1:Int)))]) (fun p=>[(4,.box 37 [.pv (cf []),.pv (bP false),.pv (.nat 0),.pv (.nat 0)]),(5,.box 37 [.pv (cf p.1.2.1),.pv (bP (numQ r).1.neg),.pv (.nat (numQ r).1.num),.pv (.nat (numQ r).1.den)]),(1000,ki L p.1.2.2)]) [135,37] (fun p=>v - p.1.1) ⟨(0,[],(numQ r).2),nq _,rfl,⟨⟨fun i s t hs=>(by simp at hs),fun t ht=>(by cases ht),(ee r).ok⟩,fun t ht=>(by cases ht),ee r⟩,h.num⟩ (ai Y (ai Y (ai Y (ai Y (ai Y trivial))))) (ai Y (ai Y (ai Y trivial))) (fun _=>rfl) ?_;intro ⟨(j,ts,rr),hi0,hg,hs,hF⟩;simp only at hi0 hg hs hF;refine a2 (fun e12=>?_) (fun e12=>?_)
 ·have hj:j < v:=by have h:(j:Int) < (v:Int):=zK e12;omega
  refine au ?_;refine rsc0 (fun _ _ _=>trivial) (fun e=>by cases e) (vn (n:=3) hF dx) ?_;refine a2 (fun e17=>?_) (fun e17=>?_)
  ·refine ac (c:=a38 (j:Int)) ?_;refine au ?_;refine rsc0 (fun _ _ _=>trivial) (fun e=>by cases e) (tw (hF.nx 3)) ?_;refine ac (c:=ip (f:=varR (j:Int)) (q:=(numQ (nx 3 rr).2).1) (ff _) (a4g (ee _)) dx dx dx) ?_;refine ac (c:=a52 (f:=⟨ts,(numQ r).1⟩) (tp hs) ((ff _).scaleR (a4g (ee _))) dx om) ?_;refine aa (c:=a8 (by show j≤_;omega)) ?_;refine au ?_;exact pe ⟨(j+1,snoc ts j (numQ (nx 3 rr).2).1,(numQ (nx 3 rr).2).2),hj,afe hj hg e17,xt hs (ee _),(hF.nx 3).num⟩ (ai Y (ai Y (ai Y (ai Y (ai Y trivial))))) (ai Y (ai (congrArg (fun f:Fm=>some (Res.box 37 [.pv (cf f.terms),.pv (bP f.const.neg),.pv (.nat f.const.num),.pv (.nat f.const.den)])) (ag6 hs (ee _))) (ai Y trivial))) Y (by show v - (j+1) < v - j;omega)
  ·refine aa (c:=a8 (by show j≤_;omega)) ?_;refine au ?_;exact pe ⟨(j+1,ts,(nx 3 rr).2),hj,ak4 hj hg e17,⟨hs.ok.mono (Nat.le_succ _),hs.num,hs.const⟩,hF.nx 3⟩ (ai Y (ai Y (ai Y (ai Y (ai Y trivial))))) (ai Y (ai Y (ai Y trivial))) Y (by show v - (j+1) < v - j;omega)
 ·have hj:v≤j:=by have h:¬(j:Int) < (v:Int):=zM e12;omega
  refine au ?_;exact rets Y (congrArg (fun l=>SV.pv (fmP ⟨l,(numQ r).1⟩)) (a69 hj hg).1) (congrArg (fun l=>some (ki L l)) (a69 hj hg).2)
theorem Fdp.units {L:List Nat}:∀(n v:Nat) {r:List Nat},Fdp L r→Fdp L (ea n v r).2
 | 0,_,_,h=>h
 | n+1,v,r,h=>Fdp.units n (v+1) (h.form v)
theorem Fdp.outs {L:List Nat}:∀(n v:Nat) {r:List Nat},Fdp L r→Fdp L (iz n v r).2
 | 0,_,_,h=>h
 | n+1,v,r,h=>Fdp.outs n v (h.form v)
theorem a6o {u n j:Nat} {acc:List Fm} {r:List Nat} {X:List Fm×List Nat} (hj:j < u) (h:(acc++(ea (u - j) (n+j) r).1,(ea (u - j) (n+j) r).2)=X):((acc++[(fu (n+j) r).1])++(ea (u - (j+1)) (n+(j+1)) (fu (n+j) r).2).1,(ea (u - (j+1)) (n+(j+1)) (fu (n+j) r).2).2)=X:=by
 rw[← h,show u - j=u - (j+1)+1 from by omega,ea,List.append_assoc];rfl
theorem a7u {u n j:Nat} {acc:List Fm} {r:List Nat} {X:List Fm×List Nat} (hj:u≤j) (h:(acc++(ea (u - j) (n+j) r).1,(ea (u - j) (n+j) r).2)=X):acc=X.1∧r=X.2:=by
 rw[← h,show u - j=0 from by omega,ea,List.append_nil];exact⟨rfl,rfl⟩
theorem a1n {u n j:Nat} {acc:List Fm} {r:List Nat} {X:List Fm×List Nat} (hj:j < u) (h:(acc++(iz (u - j) n r).1,(iz (u - j) n r).2)=X):((acc++[(fu n r).1])++(iz (u - (j+1)) n (fu n r).2).1,(iz (u - (j+1)) n (fu n r).2).2)=X:=by
 rw[← h,show u - j=u - (j+1)+1 from by omega,iz,List.append_assoc];rfl
theorem ug {u n j:Nat} {acc:List Fm} {r:List Nat} {X:List Fm×List Nat} (hj:u≤j) (h:(acc++(iz (u - j) n r).1,(iz (u - j) n r).2)=X):acc=X.1∧r=X.2:=by
 rw[← h,show u - j=0 from by omega,iz,List.append_nil];exact⟨rfl,rfl⟩
theorem ac6 {x:Nat} (h:x≤1000):ariO .add .i64 1 (x:Int)=some ((1+x:Nat):Int):=by
 show some (IntKind.wrap .i64 (1+(x:Int)))=_;rw[fd om om];exact congrArg some om
theorem a43 {x y:Nat} (h:x≤1000) (k:y≤1000):ariO .add .i64 (x:Int) (y:Int)=some ((x+y:Nat):Int):=by
 show some (IntKind.wrap .i64 ((x:Int)+(y:Int)))=_;rw[fd om om];exact congrArg some om
theorem a3u {l:List Fm} {f:Fm}:l.map fmC++[fmC f]=(l++[f]).map fmC:=by rw[zN];rfl
theorem ago {l:List Q} {f:Q}:l.map qC++[qC f]=(l++[f]).map qC:=by rw[zN];rfl
theorem ai8 {L r:List Nat} (h:Fdp L r):SCalls Tryz.prog (fun _=>True) TF 116 [.box 1000 0] (some (ki L r)) (ki L (dc r).2) (.pv (gmP (dc r).1)) false:=by
 have n1:=qq (n:=3) dx r;have n2:=qq (n:=5) dx (nx 3 r).2;have n3:=qq (n:=3) dx (nx 5 (nx 3 r).2).2;have hr3:=((h.nx 3).nx 5).nx 3;refine pcs [135,27,37] Tryz.func116 (fun D hH hF=>?_);refine au ?_;refine rsc0 (fun _ _ _=>trivial) (fun e=>by cases e) (vn (n:=3) h dx) ?_;refine aa (c:=ac6 om) ?_;refine au ?_;refine rsc0 (fun _ _ _=>trivial) (fun e=>by cases e) (vn (n:=5) (h.nx 3) dx) ?_;refine au ?_;refine rsc0 (fun _ _ _=>trivial) (fun e=>by cases e) (vn (n:=3) ((h.nx 3).nx 5) dx) ?_;refine aa (c:=ac6 om) ?_;refine au ?_;refine tkb (b:=3) (off:=1) (id:=31) (e:=37) (k:=4) (ts:=[138,200]) Y ?_;refine tkb (b:=3) (off:=2) (id:=47) (e:=37) (k:=4) (ts:=[138,200]) Y ?_;refine pl (ι:={p:Nat×List Fm×List Nat // p.1≤(nx 5 (nx 3 r).2).1∧(p.2.1++(ea ((nx 5 (nx 3 r).2).1 - p.1) ((1+(nx 3 r).1)+p.1) p.2.2).1,(ea ((nx 5 (nx 3 r).2).1 - p.1) ((1+(nx 3 r).1)+p.1) p.2.2).2)=ea (nx 5 (nx 3 r).2).1 (1+(nx 3 r).1) (nx 3 (nx 5 (nx 3 r).2).2).2∧p.2.1.length=p.1∧Fdp L p.2.2}) (fun p=>[(0,.box 1000 0),(2,.box 2 0),(3,.box 3 0),(4,.pv (iP ((nx 5 (nx 3 r).2).1:Nat))),(5,.pv (iP ((1+(nx 3 (nx 5 (nx 3 r).2).2).1):Nat))),(6,.pv (iP (p.1.1:Nat)))]) (fun p=>[(2,.box 27 [.pv (iP 0),.nil 37 4 [138,200],.nil 37 4 [138,200]]),(3,.box 27 [.pv (iP ((1+(nx 3 r).1):Nat)),.tok 31,.tok 47]),(31,.tok 37 4 [138,200] (p.1.2.1.map fmC)),(47,.tok 37 4 [138,200] (([]:List Fm).map fmC)),(1000,ki L p.1.2.2)]) [135,27,37] (fun p=>(nx 5 (nx 3 r).2).1 - p.1.1) ⟨(0,[],(nx 3 (nx 5 (nx 3 r).2).2).2),nq _,rfl,rfl,hr3⟩ (ai Y (ai Y (ai Y (ai Y (ai Y (ai Y trivial)))))) (ai Y (ai Y (ai Y (ai Y (ai Y trivial))))) (fun _=>rfl) ?_;intro ⟨(j,acc,rr),hj0,hg,hl,hF⟩;simp only at hj0 hg hl hF;refine a2 (fun e19=>?_) (fun e19=>?_)
 ·have hj:j < (nx 5 (nx 3 r).2).1:=by have h:(j:Int) < (((nx 5 (nx 3 r).2).1:Nat):Int):=zK e19;omega
  refine aa (c:=a43 om (by show j≤_;omega)) ?_;refine rsc0 (fun _ _ _=>trivial) (fun e=>by cases e) (uc (v:=(1+(nx 3 r).1)+j) hF om) ?_;refine au ?_;refine rp0 x8 (by rw[zB];show acc.length+1≤_;omega) Y Y Y Y Y Y Y Y ?_;refine aa (c:=a8 (by show j≤_;omega)) ?_;refine au ?_;exact pe ⟨(j+1,acc++[(fu ((1+(nx 3 r).1)+j) rr).1],(fu ((1+(nx 3 r).1)+j) rr).2),hj,a6o hj hg,by rw[zI,hl];rfl,hF.form _⟩ (ai Y (ai Y (ai Y (ai Y (ai Y (ai Y trivial)))))) (ai Y (ai Y (ai (congrArg (fun x=>some (Res.tok _ _ _ x)) a3u) (ai Y (ai Y trivial))))) Y (by show (nx 5 (nx 3 r).2).1 - (j+1) < (nx 5 (nx 3 r).2).1 - j;omega)
 ·have hj:(nx 5 (nx 3 r).2).1≤j:=by have h:¬(j:Int) < (((nx 5 (nx 3 r).2).1:Nat):Int):=zM e19;omega
  obtain⟨rfl,rfl⟩:=a7u hj hg;refine au ?_;refine pl (ι:={p:Nat×List Fm×List Nat // p.1≤(1+(nx 3 (nx 5 (nx 3 r).2).2).1)∧(p.2.1++(iz ((1+(nx 3 (nx 5 (nx 3 r).2).2).1) - p.1) ((1+(nx 3 r).1)+(nx 5 (nx 3 r).2).1) p.2.2).1,(iz ((1+(nx 3 (nx 5 (nx 3 r).2).2).1) - p.1) ((1+(nx 3 r).1)+(nx 5 (nx 3 r).2).1) p.2.2).2)=iz (1+(nx 3 (nx 5 (nx 3 r).2).2).1) ((1+(nx 3 r).1)+(nx 5 (nx 3 r).2).1) (ea (nx 5 (nx 3 r).2).1 (1+(nx 3 r).1) (nx 3 (nx 5 (nx 3 r).2).2).2).2∧p.2.1.length=p.1∧Fdp L p.2.2}) (fun p=>[(0,.box 1000 0),(2,.box 2 0),(3,.box 3 0),(4,.pv (iP ((nx 5 (nx 3 r).2).1:Nat))),(5,.pv (iP ((1+(nx 3 (nx 5 (nx 3 r).2).2).1):Nat))),(7,.pv (iP (p.1.1:Nat)))]) (fun p=>[(2,.box 27 [.pv (iP 0),.nil 37 4 [138,200],.nil 37 4 [138,200]]),(3,.box 27 [.pv (iP ((1+(nx 3 r).1):Nat)),.tok 31,.tok 47]),(31,.tok 37 4 [138,200] ((ea (nx 5 (nx 3 r).2).1 (1+(nx 3 r).1) (nx 3 (nx 5 (nx 3 r).2).2).2).1.map fmC)),(47,.tok 37 4 [138,200] (p.1.2.1.map fmC)),(1000,ki L p.1.2.2)]) [135,27,37] (fun p=>(1+(nx 3 (nx 5 (nx 3 r).2).2).1) - p.1.1) ⟨(0,[],(ea (nx 5 (nx 3 r).2).1 (1+(nx 3 r).1) (nx 3 (nx 5 (nx 3 r).2).2).2).2),nq _,rfl,rfl,hF⟩ (ai Y (ai Y (ai Y (ai Y (ai Y (ai Y trivial)))))) (ai Y (ai Y (ai Y (ai Y (ai Y trivial))))) (fun _=>rfl) ?_;intro ⟨(i,acc2,rr2),hi0,hg2,hl2,hF2⟩;simp only at hi0 hg2 hl2 hF2;refine a2 (fun e35=>?_) (fun e35=>?_)
  ·have hi:i < (1+(nx 3 (nx 5 (nx 3 r).2).2).1):=by have h:(i:Int) < (((1+(nx 3 (nx 5 (nx 3 r).2).2).1):Nat):Int):=zK e35;omega
   refine aa (c:=a43 om om) ?_;refine rsc0 (fun _ _ _=>trivial) (fun e=>by cases e) (uc (v:=(1+(nx 3 r).1)+(nx 5 (nx 3 r).2).1) hF2 om) ?_;refine au ?_;refine rp0 x8 (by rw[zB];show acc2.length+1≤_;omega) Y Y Y Y Y Y Y Y ?_;refine aa (c:=a8 (by show i≤_;omega)) ?_;refine au ?_;exact pe ⟨(i+1,acc2++[(fu ((1+(nx 3 r).1)+(nx 5 (nx 3 r).2).1) rr2).1],(fu ((1+(nx 3 r).1)+(nx 5 (nx 3 r).2).1) rr2).2),hi,a1n hi hg2,by rw[zI,hl2];rfl,hF2.form _⟩ (ai Y (ai Y (ai Y (ai Y (ai Y (ai Y trivial)))))) (ai Y (ai Y (ai Y (ai (congrArg (fun x=>some (Res.tok _ _ _ x)) a3u) (ai Y trivial))))) Y (by show (1+(nx 3 (nx 5 (nx 3 r).2).2).1) - (i+1) < (1+(nx 3 (nx 5 (nx 3 r).2).2).1) - i;omega)
  ·have hi:(1+(nx 3 (nx 5 (nx 3 r).2).2).1)≤i:=by have h:¬(i:Int) < (((1+(nx 3 (nx 5 (nx 3 r).2).2).1):Nat):Int):=zM e35;omega
   refine au ?_;exact rets Y (congrArg (fun l=>SV.pv (gmP ⟨(1+(nx 3 r).1),(ea (nx 5 (nx 3 r).2).1 (1+(nx 3 r).1) (nx 3 (nx 5 (nx 3 r).2).2).2).1,l⟩)) (ug hi hg2).1) (congrArg (fun l=>some (ki L l)) (ug hi hg2).2)
theorem Fdp.box {L:List Nat}:∀(n:Nat) {r:List Nat},Fdp L r→Fdp L (boxQ n r).2
 | 0,_,h=>h
 | n+1,r,h=>Fdp.box n h.num.num
theorem Fdp.region {L r:List Nat} (h:Fdp L r) (n:Nat):Fdp L (kf n r).2:=Fdp.outs _ n ((Fdp.box n h).nx 3)
theorem Fdp.graph {L r:List Nat} (h:Fdp L r):Fdp L (dc r).2:=Fdp.outs _ _ (Fdp.units _ _ (((h.nx 3).nx 5).nx 3))
theorem afr {n i:Nat} {lo hi:List Q} {r:List Nat} {X:(List Q×List Q)×List Nat} (hi':i < n) (h:((lo++(boxQ (n - i) r).1.1,hi++(boxQ (n - i) r).1.2),(boxQ (n - i) r).2)=X):(((lo++[(numQ r).1])++(boxQ (n - (i+1)) (numQ (numQ r).2).2).1.1,(hi++[Q.add (numQ r).1 (numQ (numQ r).2).1.abs])++(boxQ (n - (i+1)) (numQ (numQ r).2).2).1.2),(boxQ (n - (i+1)) (numQ (numQ r).2).2).2)=X:=by
 rw[← h,show n - i=n - (i+1)+1 from by omega,boxQ,List.append_assoc,List.append_assoc];rfl
theorem akk {n i:Nat} {lo hi:List Q} {r:List Nat} {X:(List Q×List Q)×List Nat} (hi':n≤i) (h:((lo++(boxQ (n - i) r).1.1,hi++(boxQ (n - i) r).1.2),(boxQ (n - i) r).2)=X):lo=X.1.1∧hi=X.1.2∧r=X.2:=by
 rw[← h,show n - i=0 from by omega,boxQ,List.append_nil,List.append_nil];exact⟨rfl,rfl,rfl⟩
theorem afz {n j:Nat} (h:n≤1000) (hj:j < n):ariO .sub .i64 ((n - j:Nat):Int) 1=some ((n - (j+1):Nat):Int):=by
 show some (IntKind.wrap .i64 (((n - j:Nat):Int) - 1))=_;rw[fd om om];exact congrArg some om
theorem akn {α β:Type} {f:α→β} {x:Nat} {l:List α} (h:x≤1000) (k:l.length≤1000):ariO .add .i64 (x:Int) ((l.map f).length:Int)=some ((x+l.length:Nat):Int):=by rw[zB];exact a43 h k
theorem Q.Tiny.abs {q:Q} (h:q.Tiny):q.abs.Tiny:=⟨⟨h.ok.one,h.ok.cop,fun h0=>⟨rfl,(h.ok.pos h0).2⟩⟩,h.num,h.den⟩
theorem ahz {L r:List Nat} {n:Nat} (h:Fdp L r) (hn:n≤100):SCalls Tryz.prog (fun _=>True) TF 117 [.box 1000 0,.pv (iP (n:Int))] (some (ki L r)) (ki L (kf n r).2) (.pv (rgP (kf n r).1)) false:=by
 have n1:=qq (n:=3) dx (boxQ n r).2;refine pcs [135,30,35,37] Tryz.func117 (fun D hH hF=>?_);refine au ?_;refine tkb (b:=5) (off:=0) (id:=41) (e:=35) (k:=3) (ts:=[200]) Y ?_;refine tkb (b:=5) (off:=1) (id:=42) (e:=35) (k:=3) (ts:=[200]) Y ?_;refine tkb (b:=5) (off:=2) (id:=43) (e:=37) (k:=4) (ts:=[138,200]) Y ?_;refine pl (ι:={p:Nat×List Q×List Q×List Nat // p.1≤n∧((p.2.1++(boxQ (n - p.1) p.2.2.2).1.1,p.2.2.1++(boxQ (n - p.1) p.2.2.2).1.2),(boxQ (n - p.1) p.2.2.2).2)=(boxQ n r)∧p.2.1.length=p.1∧p.2.2.1.length=p.1∧Fdp L p.2.2.2}) (fun p=>[(0,.box 1000 0),(1,.pv (iP (n:Int))),(4,.box 4 0),(5,.box 5 0),(6,.pv (iP (p.1.1:Int)))]) (fun p=>[(4,.box 30 [.nil 35 3 [200],.nil 35 3 [200],.nil 37 4 [138,200]]),(5,.box 30 [.tok 41,.tok 42,.tok 43]),(41,.tok 35 3 [200] (p.1.2.1.map qC)),(42,.tok 35 3 [200] (p.1.2.2.1.map qC)),(43,.tok 37 4 [138,200] (([]:List Fm).map fmC)),(1000,ki L p.1.2.2.2)]) [135,30,35,37] (fun p=>n - p.1.1) ⟨(0,[],[],r),nq _,rfl,rfl,rfl,h⟩ (ai Y (ai Y (ai Y (ai Y (ai Y trivial))))) (ai Y (ai Y (ai Y (ai Y (ai Y (ai Y trivial)))))) (fun _=>rfl) ?_;intro ⟨(i,lo,hi,rr),hi0,hg,hl1,hl2,hF⟩;simp only at hi0 hg hl1 hl2 hF;refine a2 (fun e12=>?_) (fun e12=>?_)
 ·have hj:i < n:=by have h:(i:Int) < (n:Int):=zK e12;omega
  refine au ?_;refine rsc0 (fun _ _ _=>trivial) (fun e=>by cases e) (tw hF) ?_;refine au ?_;refine rsc0 (fun _ _ _=>trivial) (fun e=>by cases e) (tw hF.num) ?_;refine au ?_;refine rp0 ah7 (by rw[zB];show lo.length+1≤_;omega) Y Y Y Y Y Y Y Y ?_;refine ac (c:=a72 (x:=(numQ rr).1) (y:=(numQ (numQ rr).2).1.abs) (ee _).sm (ee _).abs.sm (ee _).ok (ee _).abs.ok) ?_;refine au ?_;refine rp0 ah7 (by rw[zB];show hi.length+1≤_;omega) Y Y Y Y Y Y Y Y ?_;refine aa (c:=a8 (by show i≤_;omega)) ?_;refine au ?_;exact pe ⟨(i+1,lo++[(numQ rr).1],hi++[Q.add (numQ rr).1 (numQ (numQ rr).2).1.abs],(numQ (numQ rr).2).2),hj,afr hj hg,by rw[zI,hl1];rfl,by rw[zI,hl2];rfl,hF.num.num⟩ (ai Y (ai Y (ai Y (ai Y (ai Y trivial))))) (ai Y (ai Y (ai (congrArg (fun x=>some (Res.tok _ _ _ x)) ago) (ai (congrArg (fun x=>some (Res.tok _ _ _ x)) ago) (ai Y (ai Y trivial)))))) Y (by show n - (i+1) < n - i;omega)
 ·have hj:n≤i:=by have h:¬(i:Int) < (n:Int):=zM e12;omega
  obtain⟨rfl,rfl,rfl⟩:=akk hj hg;refine au ?_;refine rsc0 (fun _ _ _=>trivial) (fun e=>by cases e) (vn (n:=3) hF dx) ?_;refine au ?_;refine pl (ι:={p:Nat×List Fm×List Nat // p.1≤(nx 3 (boxQ n r).2).1∧(p.2.1++(iz ((nx 3 (boxQ n r).2).1 - p.1) n p.2.2).1,(iz ((nx 3 (boxQ n r).2).1 - p.1) n p.2.2).2)=iz (nx 3 (boxQ n r).2).1 n (nx 3 (boxQ n r).2).2∧p.2.1.length=p.1∧Fdp L p.2.2}) (fun p=>[(0,.box 1000 0),(1,.pv (iP (n:Int))),(4,.box 4 0),(5,.box 5 0),(9,.pv (iP (((nx 3 (boxQ n r).2).1 - p.1.1:Nat):Int)))]) (fun p=>[(4,.box 30 [.nil 35 3 [200],.nil 35 3 [200],.nil 37 4 [138,200]]),(5,.box 30 [.tok 41,.tok 42,.tok 43]),(41,.tok 35 3 [200] ((boxQ n r).1.1.map qC)),(42,.tok 35 3 [200] ((boxQ n r).1.2.map qC)),(43,.tok 37 4 [138,200] (p.1.2.1.map fmC)),(1000,ki L p.1.2.2)]) [135,30,35,37] (fun p=>(nx 3 (boxQ n r).2).1 - p.1.1) ⟨(0,[],(nx 3 (boxQ n r).2).2),nq _,rfl,rfl,hF.nx 3⟩ (ai Y (ai Y (ai Y (ai Y (ai Y trivial))))) (ai Y (ai Y (ai Y (ai Y (ai Y (ai Y trivial)))))) (fun _=>rfl) ?_;intro ⟨(j,acc,rr2),hj0,hg2,hl3,hF2⟩;simp only at hj0 hg2 hl3 hF2;refine a2 (fun e37=>?_) (fun e37=>?_)
  ·have hk:j < (nx 3 (boxQ n r).2).1:=by have h:(0:Int) < (((nx 3 (boxQ n r).2).1 - j:Nat):Int):=zK e37;omega
   refine au ?_;refine rsc0 (fun _ _ _=>trivial) (fun e=>by cases e) (uc (v:=n) hF2 om) ?_;refine au ?_;refine rp0 x8 (by rw[zB];show acc.length+1≤_;omega) Y Y Y Y Y Y Y Y ?_;refine aa (c:=afz om hk) ?_;refine au ?_;exact pe ⟨(j+1,acc++[(fu n rr2).1],(fu n rr2).2),hk,a1n hk hg2,by rw[zI,hl3];rfl,hF2.form _⟩ (ai Y (ai Y (ai Y (ai Y (ai Y trivial))))) (ai Y (ai Y (ai Y (ai Y (ai (congrArg (fun x=>some (Res.tok _ _ _ x)) a3u) (ai Y trivial)))))) Y (by show (nx 3 (boxQ n r).2).1 - (j+1) < (nx 3 (boxQ n r).2).1 - j;omega)
  ·have hk:(nx 3 (boxQ n r).2).1≤j:=by have h:¬(0:Int) < (((nx 3 (boxQ n r).2).1 - j:Nat):Int):=zM e37;omega
   refine au ?_;exact rets Y (congrArg (fun l=>SV.pv (rgP ⟨(boxQ n r).1.1,(boxQ n r).1.2,l⟩)) (ug hk hg2).1) (congrArg (fun l=>some (ki L l)) (ug hk hg2).2)
theorem ai2 {L r:List Nat} (h:Fdp L r):SCalls Tryz.prog (fun _=>True) TF 63 [.box 1000 0] (some (ki L r)) (ki L (ak r).2) (.pv (qyP (ak r).1)) false:=by
 have g:=x5 r;have g1:=g.i9;have g2:=g.u9;refine pcs [135,30,27,39] Tryz.func63 (fun D hH hF=>?_);refine au ?_;refine rsc0 (fun _ _ _=>trivial) (fun e=>by cases e) (ai8 h) ?_;refine au ?_;refine rsc0 (fun _ _ _=>trivial) (fun e=>by cases e) (ahz (n:=(dc r).1.inputs) h.graph om) ?_;refine aa (c:=akn om om) ?_;refine rsc0 (fun _ _ _=>trivial) (fun e=>by cases e) (uc (v:=(dc r).1.inputs+(dc r).1.units.length) (h.graph.region _) om) ?_;refine au ?_;exact rets Y (Y) Y
theorem a71 {x:Sv} {L:List Nat} (hl:∀y∈L,y < 256) (hn:L.length≤1000):PCallsW (By x L) Tryz.prog TQ 24 [.raw x.v] (qyP (ak L).1):=by
 refine pcW [135,39] (by kernel_rfl) Tryz.func24 rfl rfl (fun D hF hM hH=>?_);refine au ?_;refine rsc0 (fun _ _ g=>hH.gr (g.gr hM)) (fun _=>hF) (ao9 hn) ?_;refine rsc0 (fun _ _ _=>trivial) (fun e=>by cases e) (ai2 (Fdp.one hl hn)) ?_;exact ar (c:=rfl)
def cj (L:List Nat) (units:Nat):Nat:=if 0 < L.length then min (atZ L ((L.length - 1:Nat):Int) % 3) units else 0
def Qr.raise (q:Qr) (least:Q):Qr:=⟨q.g,q.rg,⟨q.goal.terms,Q.add q.goal.const least.neg'⟩⟩
def bu (L:List Nat):Qr:=
 bif decide (sgQ (bp (cj L (ak L).1.g.units.length) (cw (ak L).1) true).2 < 0) then (ak L).1.raise (bp (cj L (ak L).1.g.units.length) (cw (ak L).1) true).2 else (ak L).1
def o8 (L:List Nat):Nd:=(bp (cj L (ak L).1.g.units.length) (cw (bu L)) true).1
theorem amq:∀u,u < 5→16*(4 ^ u*(4 ^ u*4)*1)+(16*(4 ^ u*(4 ^ u*4)*1)+8*(16*MM (4 ^ u*4) (MM 4 32 u) u)*1)≤79228162514264337593543:=by decide
theorem acm (L:List Nat):GrowIn (cw (ak L).1) 2 (4 ^ (ak L).1.g.units.length*4) (MM 4 32 (ak L).1.g.units.length) 1 (16*(4 ^ (ak L).1.g.units.length*(4 ^ (ak L).1.g.units.length*4)*1)):=by
 obtain⟨h1,h2,h3,h4,h5⟩:=jz L;obtain⟨s1,s2⟩:=z5 L;have n3:=amq (ak L).1.g.units.length om;refine abh s1 s2 h2 h3.each h5 ?_ om;have:=h3.const.scale (4 ^ (ak L).1.g.units.length*(4 ^ (ak L).1.g.units.length*4)*1);rw[← zO] at this;exact this
theorem gn (q:Qr):(cw q).q=q∧(cw q).path=[]:=fk ⟨q,[],[]⟩ _
theorem mc (L:List Nat) (n:Nat):cj L n≤n:=by
 unfold cj;split
 ·exact Nat.min_le_right _ _
 ·exact nq _
theorem a4d (L:List Nat):my 2 3 (cj L (ak L).1.g.units.length) (cw (ak L).1)∧(bp (cj L (ak L).1.g.units.length) (cw (ak L).1) true).2.S 3∧Rz (bp (cj L (ak L).1.g.units.length) (cw (ak L).1) true).2.r (4*(4 ^ (ak L).1.g.units.length*(4 ^ (ak L).1.g.units.length*4))*1) (16*(4 ^ (ak L).1.g.units.length*(4 ^ (ak L).1.g.units.length*4)*1)+8*(16*MM (4 ^ (ak L).1.g.units.length*4) (MM 4 32 (ak L).1.g.units.length) (ak L).1.g.units.length)*1):=by
 have h:=acm L;obtain⟨_,_,_,_,h5⟩:=jz L;have:=GrowIn.ok dx (cj L (ak L).1.g.units.length) (root:=true) h (by
  rw[(gn _).2];have:=mc L (ak L).1.g.units.length;show 0+_≤100;omega)
 rw[(gn _).1] at this;exact this
theorem km (L:List Nat):(bu L).g=(ak L).1.g∧(bu L).rg=(ak L).1.rg∧(bu L).goal.terms=(ak L).1.goal.terms:=by
 unfold bu;cases decide (sgQ (bp (cj L (ak L).1.g.units.length) (cw (ak L).1) true).2 < 0)<;>exact⟨rfl,rfl,rfl⟩
theorem yv (L:List Nat):(⟨bu L,[],[]⟩:Sc).Va 2 3∧(⟨bu L,[],[]⟩:Sc).Dz 4 32∧my 2 3 (cj L (ak L).1.g.units.length) (cw (bu L))∧(bu L).goal.S 3 8:=by
 obtain⟨q1,q2,q3,q4,q5⟩:=jz L;obtain⟨s1,s2⟩:=z5 L;obtain⟨g1,g2,g3⟩:=a4d L;have n3:=amq (ak L).1.g.units.length om;have n2:=(amr (ak L).1.g.units.length om).2.1;obtain⟨e1,e2,e3⟩:=km L;have h16:Rz (ak L).1.goal.const.r (4*(4 ^ (ak L).1.g.units.length*(4 ^ (ak L).1.g.units.length*4))*1) (16*(4 ^ (ak L).1.g.units.length*(4 ^ (ak L).1.g.units.length*4)*1)):=by
  have:=q3.const.scale (4 ^ (ak L).1.g.units.length*(4 ^ (ak L).1.g.units.length*4)*1);rw[← zO] at this;exact this
 have hc:(bu L).goal.const.S 3∧Rz (bu L).goal.const.r (4*(4 ^ (ak L).1.g.units.length*(4 ^ (ak L).1.g.units.length*4))*1) 79228162514264337593543:=by
  unfold bu;cases decide (sgQ (bp (cj L (ak L).1.g.units.length) (cw (ak L).1) true).2 < 0) with
  | false=>exact⟨q1.goal.const.ok |> fun ho=>rz_S ho h16 (Nat.mul_pos (Nat.mul_pos dx (Nat.mul_pos (Nat.pow_pos dx) (Nat.mul_pos (Nat.pow_pos dx) dx))) dx) n2 om,h16.up om⟩
  | true=>
   have hr:Rz (Q.add (ak L).1.goal.const (bp (cj L (ak L).1.g.units.length) (cw (ak L).1) true).2.neg').r (4*(4 ^ (ak L).1.g.units.length*(4 ^ (ak L).1.g.units.length*4))*1) 79228162514264337593543:=by
    rw[Q.add_r,Q.neg_r];exact (h16.add g3.neg).up n3
   exact⟨rz_S (Q.add_ok ..) hr (Nat.mul_pos (Nat.mul_pos dx (Nat.mul_pos (Nat.pow_pos dx) (Nat.mul_pos (Nat.pow_pos dx) dx))) dx) n2 dx,hr⟩
 have hgS:(bu L).goal.S 3 8:=⟨⟨by rw[e3];exact q1.goal.cn.srt,by rw[e3];exact q1.goal.cn.nz,hc.1.ok⟩,fun t ht=>by
  rw[e3] at ht;exact tq_S (q3.each t ht).1 (q1.goal.each t ht).ok,hc.1,by rw[e3];exact nt q1.goal.len (by show (ak L).1.g.inputs+(ak L).1.g.units.length≤8;omega)⟩
 have hva:(⟨bu L,[],[]⟩:Sc).Va 2 3:=by
  refine⟨⟨by rw[e1];exact q1.g,by rw[e1];exact q1.us,by rw[e1,e2];exact q1.rg,⟨by rw[e3];exact q1.ok.asc,by rw[e3,e1];exact q1.ok.each,hc.1.ok⟩,⟨hgS.cn,fun t ht=>(hgS.each t ht).up dx,hc.1.up dx,by rw[e3,e1];exact q1.goal.len⟩⟩,fun d hd=>(by cases hd),nq _,fun m hm=>(by cases hm),nq _,by decide,by decide,nr _,by show (bu L).g.inputs+(bu L).g.units.length≤8;rw[e1];omega⟩
 have hdz:(⟨bu L,[],[]⟩:Sc).Dz 4 32:=⟨by show ∀q∈(bu L).rg.lo,_;rw[e2];exact s2.lo,by show ∀q∈(bu L).rg.hi,_;rw[e2];exact s2.hi,fun m hm=>(by cases hm)⟩;refine⟨hva,hdz,?_,hgS⟩;have gi:=abh hva hdz (by rw[e1];exact q2) (by rw[e3,e1];exact q3.each) (by rw[e1];exact q5) (by rw[e1];exact hc.2) (nr _);exact (GrowIn.ok dx (cj L (ak L).1.g.units.length) (root:=true) gi (by
  rw[(gn _).2];have:=mc L (ak L).1.g.units.length;show 0+_≤100;omega)).1
where
 tq_S {q:Q} (h:Rz q.r 4 16) (ho:q.Ok):q.S 3:=rz_S ho h dx dx dx
theorem adh {s:Sc} {a b:Nat} (h:my a b 0 s) (hv:∀p∈s.q.g.units,∀t∈p.terms,0≤t.1∧t.1≤1000) (hg:s.q.goal.S 3 8) (hgv:∀t∈s.q.goal.terms,0≤t.1∧t.1≤1000):PCalls Tryz.prog TF 25 [scP s,iP 0,bP true] (.tup [ndP (bp 0 s true).1,ratP (bp 0 s true).2]):=by
 have hb:(di s).Va a b:=h _ (nr _);have hq:(di s).q=s.q:=(fk s _).1;have hlen:=ph s s.q.g.units.length;refine pcA [85,46,35,42] Tryz.func25 (fun D=>?_);refine akT (c:=by exact (show _=true from rfl)) ?_;refine ac (c:=qh h hv) ?_;refine ac (c:=zi hb hg hgv) ?_;refine au ?_;refine ro0 Y Y Y (fun hd=>ct ah Y Y Y (.inr ⟨_,rfl,show _=some (SV.pv (iP ((0:Nat):Int))) from rfl⟩) (.inl ⟨rfl,rfl⟩) (by rw[zB];exact nq _) (nr _) Y dx hd) ?_;exact ar (c:=by rw[List.take_length,← List.map_drop];rfl)
theorem adi {s:Sc} {a b:Nat} (h:my a b 0 s) (hv:∀p∈s.q.g.units,∀t∈p.terms,0≤t.1∧t.1≤1000) (hg:s.q.goal.S 3 8) (hgv:∀t∈s.q.goal.terms,0≤t.1∧t.1≤1000):PCalls Tryz.prog TF 25 [scP s,iP 0,bP false] (.tup [ndP (bp 0 s false).1,ratP (bp 0 s false).2]):=by
 have hb:(di s).Va a b:=h _ (nr _);have hq:(di s).q=s.q:=(fk s _).1;have hlen:=ph s s.q.g.units.length;refine pcA [85,46,35,42] Tryz.func25 (fun D=>?_);refine akT (c:=by exact (show _=true from rfl)) ?_;refine ac (c:=qh h hv) ?_;refine ac (c:=zi hb hg hgv) ?_;refine au ?_;refine ro0 Y Y Y (fun hd=>ct ah Y Y Y (.inr ⟨_,rfl,rfl⟩) (.inl ⟨rfl,rfl⟩) (by rw[zB];rw[zB];exact hlen) (nr _) Y dx hd) ?_;exact ar (c:=by rw[List.take_length,← List.map_drop];rw[zB];rfl)
theorem adf {k:Nat} {s:Sc} (hp9:s.path.length≤100) (hk9:k≤1000) (ihA:PCalls Tryz.prog TF 25 [scP (s.dec 1 k),iP (k:Int),bP false] (.tup [ndP (bp k (s.dec 1 k) false).1,ratP (bp k (s.dec 1 k) false).2])) (ihB:PCalls Tryz.prog TF 25 [scP (s.dec 2 k),iP (k:Int),bP false] (.tup [ndP (bp k (s.dec 2 k) false).1,ratP (bp k (s.dec 2 k) false).2])) (hA:(bp k (s.dec 1 k) false).2.S 1000) (hB:(bp k (s.dec 2 k) false).2.S 1000):PCalls Tryz.prog TF 25 [scP s,iP ((k+1:Nat):Int),bP true] (.tup [ndP (bp (k+1) s true).1,ratP (bp (k+1) s true).2]):=by
 simp only[bp];unfold Sc.dec at*;rw[← agf] at ihA ihB;generalize bp k ⟨s.q,s.path++[⟨1,(k:Int),Q.zero⟩],s.lems⟩ false=A at*;generalize bp k ⟨s.q,s.path++[⟨2,(k:Int),Q.zero⟩],s.lems⟩ false=B at*;obtain⟨⟨l1,d1,k1,e1,p1⟩,v1⟩:=A;obtain⟨⟨l2,d2,k2,e2,p2⟩,v2⟩:=B;simp only at hA hB;refine pcA [85,46,35,42] Tryz.func25 (fun D=>?_);refine akF (c:=by exact (show _=false from beq_eq_false_iff_ne.2 om)) ?_;refine aa (c:=jf om) ?_;refine aa (c:=jf om) ?_;refine au ?_;refine rp0 el_Decision (by simp;omega) Y Y Y Y Y Y Y Y ?_;refine au ?_;refine rp0 el_Decision (by simp;omega) Y Y Y Y Y Y Y Y ?_;refine aa (c:=jf om) ?_;refine ac (c:=ihA) ?_;refine au ?_;refine rp0 el_Decision (by simp;omega) Y Y Y Y Y Y Y Y ?_;refine au ?_;refine rp0 el_Decision (by simp;omega) Y Y Y Y Y Y Y Y ?_;refine aa (c:=jf om) ?_;refine ac (c:=ihB) ?_;refine ac (c:=ald (hA.sm dx) (hB.sm dx) hA.ok hB.neg.ok ((hA.add hB.neg).sm dx)) ?_;exact ar (c:=rfl)
theorem adg {k:Nat} {s:Sc} (hp9:s.path.length≤100) (hk9:k≤1000) (ihA:PCalls Tryz.prog TF 25 [scP (s.dec 1 k),iP (k:Int),bP false] (.tup [ndP (bp k (s.dec 1 k) false).1,ratP (bp k (s.dec 1 k) false).2])) (ihB:PCalls Tryz.prog TF 25 [scP (s.dec 2 k),iP (k:Int),bP false] (.tup [ndP (bp k (s.dec 2 k) false).1,ratP (bp k (s.dec 2 k) false).2])) (hA:(bp k (s.dec 1 k) false).2.S 1000) (hB:(bp k (s.dec 2 k) false).2.S 1000):PCalls Tryz.prog TF 25 [scP s,iP ((k+1:Nat):Int),bP false] (.tup [ndP (bp (k+1) s false).1,ratP (bp (k+1) s false).2]):=by
 simp only[bp];unfold Sc.dec at*;rw[← agf] at ihA ihB;generalize bp k ⟨s.q,s.path++[⟨1,(k:Int),Q.zero⟩],s.lems⟩ false=A at*;generalize bp k ⟨s.q,s.path++[⟨2,(k:Int),Q.zero⟩],s.lems⟩ false=B at*;obtain⟨⟨l1,d1,k1,e1,p1⟩,v1⟩:=A;obtain⟨⟨l2,d2,k2,e2,p2⟩,v2⟩:=B;simp only at hA hB;refine pcA [85,46,35,42] Tryz.func25 (fun D=>?_);refine akF (c:=by exact (show _=false from beq_eq_false_iff_ne.2 om)) ?_;refine aa (c:=jf om) ?_;refine aa (c:=jf om) ?_;refine au ?_;refine rp0 el_Decision (by simp;omega) Y Y Y Y Y Y Y Y ?_;refine au ?_;refine rp0 el_Decision (by simp;omega) Y Y Y Y Y Y Y Y ?_;refine aa (c:=jf om) ?_;refine ac (c:=ihA) ?_;refine au ?_;refine rp0 el_Decision (by simp;omega) Y Y Y Y Y Y Y Y ?_;refine au ?_;refine rp0 el_Decision (by simp;omega) Y Y Y Y Y Y Y Y ?_;refine aa (c:=jf om) ?_;refine ac (c:=ihB) ?_;refine ac (c:=ald (hA.sm dx) (hB.sm dx) hA.ok hB.neg.ok ((hA.add hB.neg).sm dx)) ?_;exact ar (c:=rfl)
theorem zh:∀(k:Nat) {s:Sc} {a b:Nat},k≤1000→my a b k s→(∀p∈s.q.g.units,∀t∈p.terms,0≤t.1∧t.1≤1000)→s.q.goal.S 3 8→(∀t∈s.q.goal.terms,0≤t.1∧t.1≤1000)→PCalls Tryz.prog TF 25 [scP s,iP (k:Int),bP false] (.tup [ndP (bp k s false).1,ratP (bp k s false).2])
 | 0,s,a,b,hk,h,hv,hg,hgv=>adi h hv hg hgv
 | k+1,s,a,b,hk,h,hv,hg,hgv=>adg h.2.2.2.2 om (zh k om h.1 hv hg hgv) (zh k om h.2.1 hv hg hgv) h.2.2.1 h.2.2.2.1
theorem a96 {k:Nat} {s:Sc} {a b:Nat} (hk:k≤1000) (h:my a b k s) (hv:∀p∈s.q.g.units,∀t∈p.terms,0≤t.1∧t.1≤1000) (hg:s.q.goal.S 3 8) (hgv:∀t∈s.q.goal.terms,0≤t.1∧t.1≤1000):PCalls Tryz.prog TF 25 [scP s,iP (k:Int),bP true] (.tup [ndP (bp k s true).1,ratP (bp k s true).2]):=by
 cases k with
 | zero=>exact adh h hv hg hgv
 | succ k=>exact adf h.2.2.2.2 om (zh k om h.1 hv hg hgv) (zh k om h.2.1 hv hg hgv) h.2.2.1 h.2.2.2.1
theorem a86 {L:List Nat} {n:Nat} (h:0 < L.length):(if (n:Int) < IntKind.wrap .i64 (((atZ L ((L.length - 1:Nat):Int):Nat):Int).tmod 3) then (n:Int) else IntKind.wrap .i64 (((atZ L ((L.length - 1:Nat):Int):Nat):Int).tmod 3))=(cj L n:Int):=by
 have e:IntKind.wrap .i64 (((atZ L ((L.length - 1:Nat):Int):Nat):Int).tmod 3)=((atZ L ((L.length - 1:Nat):Int) % 3:Nat):Int):=by
  generalize atZ L ((L.length - 1:Nat):Int)=b;have:((b:Int).tmod 3)=((b % 3:Nat):Int):=by rw[Int.tmod_eq_emod_of_nonneg om];omega
  rw[this,fd om om]
 rw[e];unfold cj;rw[if_pos h];split<;>omega
theorem acq {L:List Nat} {n:Nat} (h:L.length=0):(0:Int)=(cj L n:Int):=by
 unfold cj;rw[if_neg om];rfl
theorem afx {q:Qr} (h:(⟨q,[],[]⟩:Sc).Va 2 3) (hz:(⟨q,[],[]⟩:Sc).Dz 4 32) (hu:∀p∈q.g.units,p.Dz (q.g.inputs+q.g.units.length) 16) (u4:q.g.units.length≤4):∀j,j≤q.g.units.length→(aj ⟨q,[],[]⟩ j).Va 2 3:=fun j hj=>by
 have n1:=ams q.g.units.length om j om;exact (o7 (s:=⟨q,[],[]⟩) h (nq _) hz hu dx j hj n1.1 n1.2).1
theorem sp {f:Fm} {n M:Nat} (h:f.Dz n M) (hn:n≤1000):∀t∈f.terms,0≤t.1∧t.1≤1000:=fun t ht=>by
 have:=(h.each t ht).2;omega
theorem aot (L:List Nat):(ak L).1.goal.S 3 8:=by
 obtain⟨q1,q2,q3,q4,q5⟩:=jz L;refine⟨q1.goal.cn,fun t ht=>rz_S (q1.goal.each t ht).ok (q3.each t ht).1 dx dx dx,rz_S q1.goal.const.ok q3.const dx dx dx,nt q1.goal.len om⟩
theorem al8 {A:Option Addr} {k:Nat} {L:List Nat} (hl:∀y∈L,y < 256) (hn:L.length≤1000):PCallsW (By ⟨A,L.length,k⟩ L) Tryz.prog TQ 9 [.raw (.slice A L.length k)] (.tup [qyP (bu L),ndP (o8 L)]):=by
 obtain⟨q1,q2,q3,q4,q5⟩:=jz L;obtain⟨s1,s2⟩:=z5 L;obtain⟨g1,g2,g3⟩:=a4d L;obtain⟨v1,v2,v3,v4⟩:=yv L;obtain⟨t1,t2,t3⟩:=km L;have hi:=a71 (x:=⟨A,L.length,k⟩) hl hn;have hsp:=mc L (ak L).1.g.units.length;have hb1:=qh (s:=⟨(ak L).1,[],[]⟩) (afx s1 s2 q2 q5) (fun p hp=>sp (q2 p hp) om);have hg1:=a96 (k:=cj L (ak L).1.g.units.length) om g1 (by rw[(gn _).1];exact fun p hp=>sp (q2 p hp) om) (by rw[(gn _).1];exact aot L) (by rw[(gn _).1];exact sp q3 om);have hb2:=qh (s:=⟨bu L,[],[]⟩) (afx v1 v2 (by rw[t1];exact q2) (by rw[t1];exact q5)) (by show ∀p∈(bu L).g.units,_;rw[t1];exact fun p hp=>sp (q2 p hp) om);have hg2:=a96 (k:=cj L (ak L).1.g.units.length) om v3 (by rw[(gn _).1,t1];exact fun p hp=>sp (q2 p hp) om) (by rw[(gn _).1];exact v4) (by rw[(gn _).1,t3];exact sp q3 om);have hc:(ak L).1.goal.const.S 100:=q1.goal.const;have hq2:bu L=(bif decide (sgQ (bp (cj L (ak L).1.g.units.length) (cw (ak L).1) true).2 < 0) then (ak L).1.raise (bp (cj L (ak L).1.g.units.length) (cw (ak L).1) true).2 else (ak L).1):=rfl;unfold o8;change PCalls _ _ _ _ (scP (cw (ak L).1)) at hb1;change PCalls _ _ _ _ (scP (cw (bu L))) at hb2;clear q1 q2 q3 s1 s2 g1 g3 v1 v2 v3 v4 t1 t2 t3;generalize bu L=q' at*;generalize (ak L).1=q at*;generalize cw q=sc1 at*;generalize cw q'=sc2 at*;generalize bp (cj L q.g.units.length) sc1 true=G1 at*;generalize bp (cj L q.g.units.length) sc2 true=G2 at*;obtain⟨⟨l1,d1,k1,e1,p1⟩,w1⟩:=G1;obtain⟨⟨l2,d2,k2,e2,p2⟩,w2⟩:=G2;simp only at*;refine pcW [39,46] (by kernel_rfl) Tryz.func9 rfl rfl (fun D hF hM hH=>?_);refine pa Y Y ?_
 apply a9o (sl:=[(2,_),(3,_),(4,_),(0,_)]) (rs:=[(2,_),(3,_),(4,_)]) [39,46,35] (True)
 case h1=>
  refine au ?_;refine rcw hM (fun _=>hH.gr) (hi) Y Y Y Y Y Y Y ?_;refine au ?_;refine⟨?_,trivial⟩;refine Sub.of ?_ ?_ ?_
  ·exact (c4 Y Y Y Y trivial)
  ·exact (c3 Y Y Y trivial)
  ·rfl
 case h2=>
  intro _;refine pa Y Y ?_
  apply a9o (sl:=[(2,_),(3,_),(4,_),(5,.pv (iP ((cj L q.g.units.length:Nat):Int)))]) (rs:=[(2,_),(3,_),(4,_)]) [39,46,35] (True)
  case h1=>
   refine pr0 (qg 1 ?_);refine ro0 Y Y Y (fun hd=>ui Y Y Y hd) ?_;refine a2 (fun e14=>?_) (fun e14=>?_)
   ·have h14:0 < L.length:=by have h:=zK e14;omega
    have h18:ariO .sub .i64 (L.length:Int) 1=some ((L.length - 1:Nat):Int):=by exact ir (dt om) om
    obtain⟨ad,hA,_⟩:=hH.at (show L.length - 1 < L.length by omega);simp only at hA;subst hA;have hc:∀w,Gr D.w0 w→w.cell? (ad.add (L.length - 1))=some (bv (atZ L ((L.length - 1:Nat):Int))):=fun w G=>by
     obtain⟨ad2,h1,h2⟩:=(hH.gr G).at (show L.length - 1 < L.length by omega);injection h1 with h1;subst h1;exact h2
    refine pr0' (qg 2 ?_);refine ro0 Y Y Y (fun hd=>ui Y Y Y hd) ?_;refine aa (c:=h18) ?_;refine ro0 Y Y Y (fun hd=>aen (i:=L.length - 1) Y Y Y Y Y om hd) ?_;refine ro0 Y Y Y (fun hd=>aac Y hM hc Y Y hd) ?_;refine ro0 Y Y Y (fun hd=>aaa Y Y Y dx hd) ?_;refine ro0 Y Y Y (fun hd=>a5m (ds:=.int .u8) (j:=.i64) Y Y (by kernel_rfl) (by kernel_rfl) hd) ?_;refine qg 4 ?_;refine ro0 Y Y Y (fun hd=>ajb Y Y Y Y hd) ?_;refine au ?_;refine⟨?_,trivial⟩;refine Sub.of ?_ ?_ ?_
    ·exact (c3 Y Y Y (ai (congrArg (fun z=>some (SV.pv (iP z))) (by rw[zB];exact a86 h14)) trivial))
    ·exact (c3 Y Y Y trivial)
    ·rfl
   ·have h14:L.length=0:=by have h:=zM e14;omega
    refine au ?_;refine⟨?_,trivial⟩;refine Sub.of ?_ ?_ ?_
    ·exact (c3 Y Y Y (ai (congrArg (fun z=>some (SV.pv (iP z))) (acq h14)) trivial))
    ·exact (c3 Y Y Y trivial)
    ·rfl
  case h2=>
   intro _;refine ac (c:=hb1) ?_;refine ac (c:=hg1) ?_;refine qg 7 ?_;refine rn Y ?_
   apply a9o (sl:=[(2,_),(3,_),(4,_),(5,_)]) (rs:=[(2,_),(3,_),(4,.box 39 [.pv (iP q'.g.inputs),.pv (bc q'.g.units),.pv (bc q'.g.outputs),.pv (dg q'.rg.lo),.pv (dg q'.rg.hi),.pv (bc q'.rg.rows),.pv (cf q'.goal.terms),.pv (bP q'.goal.const.neg),.pv (.nat q'.goal.const.num),.pv (.nat q'.goal.const.den)])]) [39,46,35] (True)
   case h1=>
    refine ac (c:=ig (g2.sm dx)) ?_;refine a2 (fun e38=>?_) (fun e38=>?_)
    ·refine ac (c:=ad8 (hc.sm dx) (g2.sm dx) hc.ok g2.neg.ok) ?_;refine au ?_;refine⟨?_,trivial⟩;refine Sub.of ?_ ?_ ?_
     ·exact (c4 Y Y Y Y trivial)
     ·exact (c2 Y Y (ai (congrArg (fun q:Qr=>some (Res.box 39 [.pv (iP q.g.inputs),.pv (bc q.g.units),.pv (bc q.g.outputs),.pv (dg q.rg.lo),.pv (dg q.rg.hi),.pv (bc q.rg.rows),.pv (cf q.goal.terms),.pv (bP q.goal.const.neg),.pv (.nat q.goal.const.num),.pv (.nat q.goal.const.den)])) (show q.raise w1=q' by rw[hq2,e38];rfl)) trivial))
     ·rfl
    ·refine au ?_;refine⟨?_,trivial⟩;refine Sub.of ?_ ?_ ?_
     ·exact (c4 Y Y Y Y trivial)
     ·exact (c2 Y Y (ai (congrArg (fun q:Qr=>some (Res.box 39 [.pv (iP q.g.inputs),.pv (bc q.g.units),.pv (bc q.g.outputs),.pv (dg q.rg.lo),.pv (dg q.rg.hi),.pv (bc q.rg.rows),.pv (cf q.goal.terms),.pv (bP q.goal.const.neg),.pv (.nat q.goal.const.num),.pv (.nat q.goal.const.den)])) (show q=q' by rw[hq2,e38];rfl)) trivial))
     ·rfl
   case h2=>
    intro _;refine ac (c:=hb2) ?_;refine ac (c:=hg2) ?_;exact ar (c:=rfl)
def Nd.Good:Nat→Nd→Prop
 | 0,.mk ls _ _ _ p=>(∀m∈ls,LmOk m)∧ls.length≤100∧PfOk p
 | k+1,.mk ls d ks _ _=>(∀m∈ls,LmOk m)∧ls.length≤100∧d.at_=Q.zero∧∀a∈ks,Nd.Good k a
theorem Nd.Good.lim:∀{k:Nat} {n:Nd},n.Good k→n.Lim k
 | 0,.mk ls d ks e p,h=>⟨h.2.1,nt h.2.2.len dx⟩
 | k+1,.mk ls d ks e p,h=>⟨h.2.1,fun a ha=>(h.2.2.2 a ha).lim⟩
structure EnG (x:En) (n:Nat):Prop where
 ok:EnOk x
 len:x.lems.length≤n
 at_:∀d∈x.path,d.at_=Q.zero
 path:x.path.length≤100
theorem aml (d:Dc):(oppD d).at_=d.at_:=by unfold oppD;cases decide (0 < d.kind)&&decide (d.kind < 5)<;>rfl
theorem a0k:∀(k:Nat) (n:Nd) (path:List Dc) (lems:List Lm),n.Good k→(∀m∈lems,LmOk m)→(∀d∈path,d.at_=Q.zero)→path.length+k≤100→∀x∈entR k n path lems,EnG x (lems.length+100*(k+1))
 | 0,.mk ls d ks e p,path,lems,h,hl,hp,h9,x,hx=>by
  obtain rfl:=mj hx;refine⟨⟨fun m hm=>?_,h.2.2⟩,by show (lems++ls).length≤_;rw[zI];have:=h.2.1;omega,hp,h9⟩;rcases zJ.1 hm with e | e
  ·exact hl m e
  ·exact h.1 m e
 | k+1,.mk ls d ks e p,path,lems,h,hl,hp,h9,x,hx=>by
  obtain⟨h1,h2,h3,h4⟩:=h;have hl2:∀m∈lems++ls,LmOk m:=fun m hm=>by
   rcases zJ.1 hm with e | e
   ·exact hl m e
   ·exact h1 m e
  match ks,hx with
  | [],hx=>cases hx
  | [_],hx=>cases hx
  | [a,b],hx=>
   have hp2:∀d':Dc,d'.at_=Q.zero→∀z∈path++[d'],z.at_=Q.zero:=fun d' hd z hz=>by
    rcases zJ.1 hz with e | e
    ·exact hp z e
    ·rw[mj e];exact hd
   have key:EnG x ((lems++ls).length+100*(k+1)):=by
    rcases zJ.1 (show x∈entR k a _ _++entR k b _ _ from hx) with e | e
    ·exact a0k k a _ _ (h4 a (mf ..)) hl2 (hp2 d h3) (by rw[zI];show path.length+1+k≤100;omega) x e
    ·exact a0k k b _ _ (h4 b (zC _ (mf ..))) hl2 (hp2 _ ((aml d).trans h3)) (by rw[zI];show path.length+1+k≤100;omega) x e
   refine⟨key.ok,nt key.len ?_,key.at_,key.path⟩;rw[zI];omega
  | _::_::_::_,hx=>cases hx
theorem agj {to:List Int} {l:List Mm} (h:PfOk l):PfOk (l.map (renM to)):=by
 refine⟨fun m hm=>?_,by rw[zB];exact h.len⟩;obtain⟨m',h1,rfl⟩:=List.mem_map.1 hm;exact h.each m' h1
theorem a5z {to:List Int}:∀{is:List Bool} {ls:List Lm},(∀m∈ls,LmOk m)→(∀m∈eh to is ls,LmOk m)∧(eh to is ls).length≤ls.length
 | [],ls,h=>⟨(fun m hm=>by cases ls<;>cases hm),nq _⟩
 | b::is,[],h=>⟨(fun m hm=>by cases hm),nq _⟩
 | b::is,m::ls,h=>by
  obtain⟨h1,h2⟩:=a5z (to:=to) (is:=is) (ls:=ls) fun z hz=>h z (zC _ hz)
  rw[eh];cases b with
  | true=>
   refine⟨fun z hz=>?_,by rw[cond_true,zW,zW];omega⟩;rcases zP.1 hz with e | e
   ·have:=h m (mf ..);rw[e];exact⟨this.value,agj this.proof⟩
   ·exact h1 z e
  | false=>exact⟨h1,by rw[cond_false,zW];omega⟩
theorem EnG.reduce {x:En} {n:Nat} (h:EnG x n):EnG (d7 x) n:=by
 obtain⟨h1,h2⟩:=a5z (to:=d8 (kw x.lems x.proof)) (is:=kw x.lems x.proof) h.ok.lems;exact⟨⟨h1,agj h.ok.proof⟩,nt h2 h.len,h.at_,h.path⟩
theorem EnG.va {x:En} {n a:Nat} {q:Qr} (h:EnG x n) (hn:n≤1000) (hq:q.Va a) (ha:1≤a) (ha2:a≤2) (h4:q.g.inputs+q.g.units.length≤8):(x.sc q).Va a 8:=
 ⟨hq,fun d hd=>by rw[h.at_ d hd];exact sz_zero.up ha,nt h.path dx,fun m hm=>(h.ok.lems m hm).value,nt h.len hn,by decide,by decide,ha2,h4⟩
theorem akm {s:Sc} {a b:Nat} (hv:∀j,j≤s.q.g.units.length→(aj s j).Va a b) (hl:∀m∈s.lems,LmOk m):∀j,j≤s.q.g.units.length→(∀m∈(aj s j).lems,LmOk m)∧(aj s j).lems.length≤s.lems.length+2*j
 | 0,_=>⟨hl,nr _⟩
 | j+1,hj=>by
  obtain⟨h1,h2⟩:=akm hv hl j om;have h3:=hv j om;have h4:=hv (j+1) hj;have hq:(aj s j).q=s.q:=(fk s j).1;have hm:atZ (aj s j).q.g.units (j:Int)∈(aj s j).q.g.units:=bg om (by rw[hq];omega);have hp:(atZ (aj s j).q.g.units (j:Int)).S 2 8:=(h3.q.us _ hm).up h3.a9 h3.n9;obtain⟨_,a2,a3⟩:=uv h3 (hp.up (t:=3) (m:=8) dx dx);obtain⟨_,b2,b3⟩:=uv h3 ((hp.scaleR er).up (t:=3) (m:=8) dx dx);have mem:∀m∈(aj s (j+1)).lems,m∈(aj s j).lems∨m.proof=(bi (aj s j) (atZ (aj s j).q.g.units (j:Int))).2.1∨m.proof=(bi (aj s j) (Fm.scaleR (atZ (aj s j).q.g.units (j:Int)) Q.mone)).2.1:=fun m hm=>by
   have hm':m∈ju _ _ _ _:=hm;unfold ju at hm';rcases zJ.1 hm' with e | e
   ·exact .inl e
   ·right
    rcases zJ.1 e with e | e
    ·left
     revert e
     cases (bi (aj s j) (atZ (aj s j).q.g.units (j:Int))).2.2 with
     | true=>intro e;rw[mj e]
     | false=>intro e;cases e
    ·right
     revert e
     cases (bi (aj s j) (Fm.scaleR (atZ (aj s j).q.g.units (j:Int)) Q.mone)).2.2 with
     | true=>intro e;rw[mj e]
     | false=>intro e;cases e
  refine⟨fun m hm=>⟨(h4.lems m hm).up h4.b9,?_⟩,?_⟩
  ·rcases mem m hm with e | e | e
   ·exact (h1 m e).proof
   ·rw[e];exact⟨fun z hz=>(a2 z hz).up dx,a3⟩
   ·rw[e];exact⟨fun z hz=>(b2 z hz).up dx,b3⟩
  ·show (ju _ _ _ _).length≤_;unfold ju;rw[zI,zI];have:∀(b:Bool) (x:Lm),(bif b then [x] else []).length≤1:=fun b x=>by cases b<;>simp
   have t1:=this (bi (aj s j) (atZ (aj s j).q.g.units (j:Int))).2.2 ⟨(j:Int),false,(bi (aj s j) (atZ (aj s j).q.g.units (j:Int))).1,(bi (aj s j) (atZ (aj s j).q.g.units (j:Int))).2.1⟩;have t2:=this (bi (aj s j) (Fm.scaleR (atZ (aj s j).q.g.units (j:Int)) Q.mone)).2.2 ⟨(j:Int),true,(bi (aj s j) (Fm.scaleR (atZ (aj s j).q.g.units (j:Int)) Q.mone)).1.neg',(bi (aj s j) (Fm.scaleR (atZ (aj s j).q.g.units (j:Int)) Q.mone)).2.1⟩;omega
theorem x4 {a b:Nat}:∀(k:Nat) {s:Sc} {root:Bool},my a b k s→(∀m∈s.lems,LmOk m)→s.lems.length+2*s.q.g.units.length≤100→s.q.goal.S 3 8→Nd.Good k (bp k s root).1
 | 0,s,root,h,hl,h9,hg=>by
  have hv:∀j,j≤s.q.g.units.length→(aj s j).Va a b:=h;obtain⟨h1,h2⟩:=akm hv hl s.q.g.units.length (nr _);obtain⟨_,a2,a3⟩:=uv (hv _ (nr _)) hg;refine⟨fun m hm=>h1 m (List.mem_of_mem_drop hm),?_,fun z hz=>(a2 z hz).up dx,a3⟩;rw[List.length_drop];have:(di s).lems.length≤_:=h2;omega
 | k+1,s,root,h,hl,h9,hg=>by
  refine⟨?_,?_,rfl,fun x hx=>?_⟩
  ·cases root with
   | true=>exact hl
   | false=>intro m hm;cases hm
  ·cases root with
   | true=>show s.lems.length≤100;omega
   | false=>exact nq _
  ·rcases zP.1 hx with e | e
   ·rw[e];exact x4 k h.1 hl h9 hg
   ·rw[mj e];exact x4 k h.2.1 hl h9 hg
theorem a3s:∀(k:Nat) (s:Sc) (root:Bool),Nd.Wf k (bp k s root).1
 | 0,s,root=>⟨rfl,rfl⟩
 | k+1,s,root=>⟨rfl,rfl,Int.le_refl 1,(show (1:Int)≤4 by decide),_,_,rfl,a3s k _ _,a3s k _ _⟩
abbrev jk (L:List Nat):Nat:=cj L (ak L).1.g.units.length
theorem a4e (L:List Nat):jk L≤2:=by
 unfold jk cj;split
 ·exact nt (Nat.min_le_left _ _) om
 ·exact nq _
theorem a10 (L:List Nat):(bu L).Va 2∧(bu L).g.inputs+(bu L).g.units.length≤8∧(bu L).goal.S 100 8∧(o8 L).Wf (jk L)∧(o8 L).Good (jk L):=by
 obtain⟨q1,q2,q3,q4,q5⟩:=jz L;obtain⟨v1,v2,v3,v4⟩:=yv L;obtain⟨t1,t2,t3⟩:=km L;have hb:=afx v1 v2 (by rw[t1];exact q2) (by rw[t1];exact q5);obtain⟨l1,l2⟩:=akm (s:=⟨bu L,[],[]⟩) hb (fun m hm=>by cases hm) (bu L).g.units.length (nr _);have hq:(cw (bu L)).q=bu L:=(gn _).1;refine⟨v1.q,by rw[t1];omega,v4.up dx dx,a3s _ _ _,x4 _ v3 l1 ?_ (by rw[hq];exact v4)⟩;rw[hq,t1];have:(cw (bu L)).lems.length≤0+2*(bu L).g.units.length:=l2;rw[t1] at this;omega
theorem abu {k a:Nat} {n:Nd} {q:Qr} (hg:n.Good k) (hk:k≤8) (hq:q.Va a) (ha:1≤a) (ha2:a≤2) (h4:q.g.inputs+q.g.units.length≤8):∀x∈entR k n [] [],EnOk x∧x.lems.length≤1000∧EnOk (d7 x)∧((d7 x).sc q).Va a 8:=fun x hx=>by
 have h:=a0k k n [] [] hg (fun m hm=>by cases hm) (fun d hd=>by cases hd) (by show 0+k≤100;omega) x hx;have h9:([]:List Lm).length+100*(k+1)≤1000:=by show 0+100*(k+1)≤1000;omega
 exact⟨h.ok,nt h.len h9,h.reduce.ok,h.reduce.va h9 hq ha ha2 h4⟩
theorem ak5 (g:Gm) (rg:Rgm) (f f':Fm) (path:List Dc) (lems:List Lm) (r:Rw):bo ⟨⟨g,rg,f⟩,path,lems⟩ r=bo ⟨⟨g,rg,f'⟩,path,lems⟩ r:=rfl
theorem a8e (g:Gm) (rg:Rgm) (f f':Fm) (path:List Dc) (lems:List Lm):∀(l:List Mm) (acc:Fm),eu ⟨⟨g,rg,f⟩,path,lems⟩ l acc=eu ⟨⟨g,rg,f'⟩,path,lems⟩ l acc
 | [],acc=>rfl
 | m::l,acc=>by
  rw[eu,eu,ak5 g rg f f' path lems];simp only[a8e g rg f f' path lems l]
theorem t8 (g:Gm) (rg:Rgm) (f f':Fm) (path:List Dc) (lems:List Lm):∀(l:List Tm) (acc:List Mm),br ⟨⟨g,rg,f⟩,path,lems⟩ l acc=br ⟨⟨g,rg,f'⟩,path,lems⟩ l acc
 | [],acc=>rfl
 | t::l,acc=>by
  rw[br,br,show im ⟨⟨g,rg,f⟩,path,lems⟩ t=im ⟨⟨g,rg,f'⟩,path,lems⟩ t from rfl];simp only[t8 g rg f f' path lems l]
theorem su (g:Gm) (rg:Rgm) (f f':Fm) (path:List Dc) (lems:List Lm) (x:Fm):bi ⟨⟨g,rg,f⟩,path,lems⟩ x=bi ⟨⟨g,rg,f'⟩,path,lems⟩ x:=by
 unfold bi sumR;rw[t8 g rg f f' path lems];simp only[a8e g rg f f' path lems]
theorem ka (g:Gm) (rg:Rgm) (f f':Fm) (path:List Dc) (lems:List Lm):∀j,aj ⟨⟨g,rg,f'⟩,path,lems⟩ j=⟨⟨g,rg,f'⟩,path,(aj ⟨⟨g,rg,f⟩,path,lems⟩ j).lems⟩
 | 0=>rfl
 | j+1=>by
  have ih:=ka g rg f f' path lems j;obtain⟨q1,q2⟩:=fk ⟨⟨g,rg,f⟩,path,lems⟩ j;have e:aj ⟨⟨g,rg,f⟩,path,lems⟩ j=⟨⟨g,rg,f⟩,path,(aj ⟨⟨g,rg,f⟩,path,lems⟩ j).lems⟩:=by
   generalize aj ⟨⟨g,rg,f⟩,path,lems⟩ j=t at*;obtain⟨a,b,c⟩:=t;simp only at q1 q2;rw[q1,q2]
  show xh (aj ⟨⟨g,rg,f'⟩,path,lems⟩ j) j=⟨_,_,(xh (aj ⟨⟨g,rg,f⟩,path,lems⟩ j) j).lems⟩;rw[ih];generalize (aj ⟨⟨g,rg,f⟩,path,lems⟩ j).lems=ls at*;rw[e];unfold xh;simp only;rw[su g rg f' f path ls,su g rg f' f path ls]
theorem amx (x y:Q):(minR x y).r≤x.r∧(minR x y).r≤y.r:=by
 unfold minR;have e:(Q.add x y.neg').r=x.r - y.r:=by rw[Q.add_r,Q.neg_r];grind
 cases h:decide (isg (Q.add x y.neg').neg (Q.add x y.neg').num≤0) with
 | true=>
  have h1:¬0 < (Q.add x y.neg').r:=fun h2=>abg h2 (zK h)
  rw[cond_true,xf]
  constructor<;>grind
 | false=>
  have h1:=ah3 (q:=Q.add x y.neg') (by have:=zM h;show 0 < isg _ _;omega);rw[cond_false,xf]
  constructor<;>grind
theorem sk {g:Gm} {rg:Rgm} {f f':Fm} (hf:f'.Cn) (ht:f'.terms=f.terms) (hv:∀t∈f'.terms,0≤t.1∧t.1 < ((g.inputs+g.units.length:Nat):Int)):∀(k:Nat) {path:List Dc} {lems:List Lm} (root:Bool),k≤g.units.length→my 2 3 k ⟨⟨g,rg,f'⟩,path,lems⟩→LmsG ⟨⟨g,rg,f'⟩,path,lems⟩→(∀d∈path,cz ⟨g,rg,f'⟩ d=true)→0≤(bp k ⟨⟨g,rg,f⟩,path,lems⟩ root).2.r+(f'.const.r - f.const.r)→∀x∈entR k (bp k ⟨⟨g,rg,f'⟩,path,lems⟩ root).1 path (bif root then [] else lems),d6 ⟨g,rg,f'⟩ (d7 x)=true
 | 0,path,lems,root,_,hg,hl,hp,h0,x,hx=>by
  obtain⟨b1,b2,y,hy⟩:=m6 hl g.units.length (nr _) hg;have va:=hg g.units.length (nr _);have e:=ka g rg f' f' path lems g.units.length;have e0:=ka g rg f' f path lems g.units.length;have hB:di ⟨⟨g,rg,f'⟩,path,lems⟩=⟨⟨g,rg,f'⟩,path,(aj ⟨⟨g,rg,f'⟩,path,lems⟩ g.units.length).lems⟩:=e;have hB0:di ⟨⟨g,rg,f⟩,path,lems⟩=⟨⟨g,rg,f⟩,path,(aj ⟨⟨g,rg,f'⟩,path,lems⟩ g.units.length).lems⟩:=e0;have hx':x=⟨path,(bif root then [] else lems)++(di ⟨⟨g,rg,f'⟩,path,lems⟩).lems.drop (bif root then 0 else lems.length),false,(bi (di ⟨⟨g,rg,f'⟩,path,lems⟩) f').2.1⟩:=mj hx;have h0':0≤(bi (di ⟨⟨g,rg,f⟩,path,lems⟩) f).1.r+(f'.const.r - f.const.r):=h0;rw[e] at b1 va;rw[hB] at hx';rw[hB0,su g rg f f'] at h0';simp only at hx';generalize (aj ⟨⟨g,rg,f'⟩,path,lems⟩ g.units.length).lems=ls at*;have hls:(bif root then [] else lems)++ls.drop (bif root then 0 else lems.length)=ls:=by
   cases root with
   | true=>rfl
   | false=>rw[hy];simp
  rw[hls] at hx';have is:=xl (s:=⟨⟨g,rg,f'⟩,path,ls⟩) (f:=f') b2 fun t h=>(hv t h).2
  have hc:(bi ⟨⟨g,rg,f'⟩,path,ls⟩ f').1.r=(bi ⟨⟨g,rg,f'⟩,path,ls⟩ f).1.r+(f'.const.r - f.const.r):=by
   obtain⟨M,hM⟩:=a0u (s:=⟨⟨g,rg,f'⟩,path,ls⟩) b2 (ts:=f'.terms) (acc:=[]) fun t h=>(hv t h).2
   unfold bi;rw[← ht,hM];simp only;rw[fg,fg];grind
  generalize hA:bi ⟨⟨g,rg,f'⟩,path,ls⟩ f'=A at*;obtain⟨v,M,o⟩:=A;simp only at is hc hx';subst is;obtain⟨c1,c2,c3⟩:=pm va hf hv hA;rw[hx'];exact a1a hp b1 c1 c2 (c3 f' hf rfl (by grind))
 | k+1,path,lems,root,hk,hg,hl,hp,h0,x,hx=>by
  obtain⟨g1,g2,_⟩:=hg;have hm:(minR (bp k ⟨⟨g,rg,f⟩,path++[⟨1,(k:Int),Q.zero⟩],lems⟩ false).2 (bp k ⟨⟨g,rg,f⟩,path++[⟨2,(k:Int),Q.zero⟩],lems⟩ false).2).r=(bp (k+1) ⟨⟨g,rg,f⟩,path,lems⟩ root).2.r:=rfl;obtain⟨m1,m2⟩:=amx (bp k ⟨⟨g,rg,f⟩,path++[⟨1,(k:Int),Q.zero⟩],lems⟩ false).2 (bp k ⟨⟨g,rg,f⟩,path++[⟨2,(k:Int),Q.zero⟩],lems⟩ false).2;have hps:∀(kd:Int),kd=1∨kd=2→∀d∈path++[(⟨kd,(k:Int),Q.zero⟩:Dc)],cz ⟨g,rg,f'⟩ d=true:=fun kd hkd d hd=>by
   rcases zJ.1 hd with h | h
   ·exact hp d h
   ·rw[mj h];unfold cz;simp only;rw[dt (by omega:(0:Int)≤(k:Int)),dt (by omega:(k:Int) < (g.units.length:Int))];rcases hkd with rfl | rfl<;>rfl
  have hl2:∀(kd:Int),LmsG ⟨⟨g,rg,f'⟩,path++[(⟨kd,(k:Int),Q.zero⟩:Dc)],lems⟩:=fun kd=>hl.path fun d hd=>zL _ hd
  have e:(bif root then ([]:List Lm) else lems)++(bif root then lems else [])=lems:=by cases root<;>simp
  have hx':x∈entR k (bp k ⟨⟨g,rg,f'⟩,path++[⟨1,(k:Int),Q.zero⟩],lems⟩ false).1 (path++[⟨1,(k:Int),Q.zero⟩]) ((bif root then ([]:List Lm) else lems)++(bif root then lems else []))++entR k (bp k ⟨⟨g,rg,f'⟩,path++[⟨2,(k:Int),Q.zero⟩],lems⟩ false).1 (path++[⟨2,(k:Int),Q.zero⟩]) ((bif root then ([]:List Lm) else lems)++(bif root then lems else [])):=hx;rw[e] at hx';rcases zJ.1 hx' with h | h
  ·exact sk hf ht hv k false om g1 (hl2 1) (hps 1 (.inl rfl)) (by grind) x h
  ·exact sk hf ht hv k false om g2 (hl2 2) (hps 2 (.inr rfl)) (by grind) x h
theorem xq (L:List Nat):∀x∈entR (jk L) (o8 L) [] [],d6 (bu L) (d7 x)=true:=by
 obtain⟨q1,q2,q3,q4,q5⟩:=jz L;obtain⟨v1,v2,v3,v4⟩:=yv L;obtain⟨t1,t2,t3⟩:=km L;have hb:=afx v1 v2 (by rw[t1];exact q2) (by rw[t1];exact q5);have hk:jk L≤(bu L).g.units.length:=by rw[t1];exact mc L _
 have l1:LmsG (cw (bu L)):=(m6 (s:=⟨bu L,[],[]⟩) (fun i m h=>by cases h) (bu L).g.units.length (nr _) hb).1;have e1:cw (bu L)=⟨bu L,[],(cw (bu L)).lems⟩:=by
  obtain⟨h1,h2⟩:=gn (bu L);generalize cw (bu L)=t at*;obtain⟨a,b,c⟩:=t;simp only at h1 h2;rw[h1,h2]
 have hvar:∀t∈(bu L).goal.terms,0≤t.1∧t.1 < (((bu L).g.inputs+(bu L).g.units.length:Nat):Int):=fun t ht=>by
  have:=v1.q.ok.each t ht;exact⟨this.1,this.2.1⟩
 have hcn:=v4.cn;have hr:0≤(bp (jk L) (cw (ak L).1) true).2.r+((bu L).goal.const.r - (ak L).1.goal.const.r):=by
  unfold bu;cases h:decide (sgQ (bp (cj L (ak L).1.g.units.length) (cw (ak L).1) true).2 < 0) with
  | true=>
   show 0≤_+((Q.add (ak L).1.goal.const (bp (jk L) (cw (ak L).1) true).2.neg').r - _);rw[Q.add_r,Q.neg_r];grind
  | false=>
   have h1:=amu (q:=(bp (jk L) (cw (ak L).1) true).2) (zM h);show 0≤_+((ak L).1.goal.const.r - (ak L).1.goal.const.r)
   grind
 have e2:cw (ak L).1=⟨⟨(bu L).g,(bu L).rg,(ak L).1.goal⟩,[],(cw (bu L)).lems⟩:=by
  have:=ka (bu L).g (bu L).rg (bu L).goal (ak L).1.goal [] [] (bu L).g.units.length;have h1:(⟨(bu L).g,(bu L).rg,(ak L).1.goal⟩:Qr)=(ak L).1:=by rw[t1,t2]
  rw[h1] at this;show aj ⟨(ak L).1,[],[]⟩ (ak L).1.g.units.length=_;rw[h1,← t1];exact this
 rw[e1] at v3 l1;rw[e2] at hr;intro x hx;unfold o8 at hx;rw[e1] at hx;exact sk (g:=(bu L).g) (rg:=(bu L).rg) (f:=(ak L).1.goal) (f':=(bu L).goal) hcn t3 hvar (jk L) true hk v3 l1 (fun d hd=>by cases hd) hr x hx
end Go.Proofs.YtbhbainhmfjpdaaGreatDoor
