/- Walks of the search and of what it calls, part 7. -/
import Derived.Test.YtbhbainhmfjpdaaGreatDoorMf
import Derived.Deep.Cut
set_option linter.unusedVariables false
set_option linter.unusedSimpArgs false
set_option maxRecDepth 100000
set_option maxHeartbeats 8000000
namespace Go.Proofs.YtbhbainhmfjpdaaGreatDoor
open Go.RowKit
section
attribute [local go_sem] Oper.semAt_some
theorem a4l {u lo b:Nat} (hu:u < B32) (hlo:lo < B32) (hb:b≤1):∃x b':Nat,x < B32∧b'≤1∧x+lo+b=u+B32*b'∧IntKind.u64.wrap (IntKind.u64.wrap ((u:Int) - lo) - b) % 4294967296=x∧IntKind.u64.wrap (IntKind.u64.wrap ((u:Int) - lo) - b) / 9223372036854775808=b':=by
 rw[ba] at*;by_cases h:lo+b≤u
 ·refine⟨u - lo - b,0,by omega,by omega,by omega,?_,?_⟩<;>(rw[IntKind.wrap_u64,IntKind.wrap_u64];omega)
 ·refine⟨u+4294967296 - lo - b,1,by omega,by omega,by omega,?_,?_⟩<;>(rw[IntKind.wrap_u64,IntKind.wrap_u64];omega)
theorem aev {c q d s:Nat} (hc:c < B32) (hq:q < B32) (hd:d < B32) (hs:s=c+q*d):IntKind.u64.wrap ((c:Int)+IntKind.u64.wrap ((q:Int)*IntKind.u64.wrap (d:Int)))=(s:Int):=by
 have hB:=ba;rw[hB] at hc hq hd;have h4:q*d≤4294967295*4294967295:=Nat.mul_le_mul om om;have e1:(q:Int)*(d:Int)=((q*d:Nat):Int):=by rw[Int.natCast_mul]
 rw[IntWalk.u64_in (d:Int) om,e1,IntWalk.u64_in ((q*d:Nat):Int) om,IntWalk.u64_in _ om];omega
theorem ag4 {c u d s:Nat} (hc:c≤1) (hu:u < B32) (hd:d < B32) (hs:s=c+(u+d)):IntKind.u64.wrap ((c:Int)+IntKind.u64.wrap (IntKind.u64.wrap (u:Int)+IntKind.u64.wrap (d:Int)))=(s:Int):=by
 rw[ba] at*;rw[IntWalk.u64_in (u:Int) om,IntWalk.u64_in (d:Int) om,IntWalk.u64_in ((u:Int)+d) om,IntWalk.u64_in _ om];omega
theorem a1x (s:Nat):(s:Int) % 4294967296=((s % B32:Nat):Int):=by rw[ba];exact (Int.natCast_emod _ _).symm
theorem a1y (s:Nat):(s:Int) / 4294967296=((s / B32:Nat):Int):=by rw[ba];exact (Int.natCast_ediv _ _).symm
theorem a70 (w:World) (g gv:Nat) (L vv:List Nat) (t n cu cv q:Nat) (hu:Lb w g L) (hv:Lb w gv vv) (hne:¬gv=g) (hn:n≤vv.length) (hl:t+n < L.length) (hl9:L.length≤4000000) (hLL:Lim L) (hLv:Lim vv) (hq:q < B32)
  (hz:∀j x,t+n < j→L[j]?=some x→x=0) (hV:0 < val (vv.take n)) (hq1:val L / (B32 ^ t*val (vv.take n))≤q) (hq2:q≤val L / (B32 ^ t*val (vv.take n))+1):
  Calls Tryz.prog 333 #[.slice (some ⟨g,t,none⟩) (n+1) cu,.slice (some ⟨gv,0,none⟩) n cv,.int .u64 (q:Int)] w fun e w'=>∃o:List Nat,e=.returned (.int .u32 ((val L / (B32 ^ t*val (vv.take n)):Nat):Int))∧Lb w' g o∧Lim o∧o.length=L.length∧val o=val L % (B32 ^ t*val (vv.take n))∧Fr (fun b=>b=g) w w':=by
 have HU:=I hu;have HV:=I hv;have HS0:=I (RedSt.start (v:=vv.take n) hLL q t);have HF0:Hid (Fr (fun b=>b=g) w w):=Fr.refl _ _;have hq9:q < 4294967296:=hq;have hn9:n≤4000000:=by omega
 have HLL:=I hLL;have HLV:=I hLv;have HLEN:=I hl;have HN:=I hn;have HZ:=I hz;have HV0:=I hV;have HQ1:=I hq1;have HQ2:=I hq2;have HNE:=I hne;clear hu hv hne hLL hLv hq hz hV hq1 hq2 hn hl;go_enter Tryz.func333,Tryz.ntmps333;go_wp2;go_loopw [7,8,17] (fun s7 s8 i wr=>∃(k c b:Nat) (o:List Nat),i=.int .i64 k∧s7=.int .u64 c∧s8=.int .u64 b∧k≤n∧Hid (RedSt L (vv.take n) o q t k c b)∧Hid (Lb wr g o)∧Hid (Fr (fun b=>b=g) w wr)) (fun _ _ i _=>n - (intOf i).toNat)
 case atStart=>exact⟨0,0,0,_,rfl,rfl,rfl,nq _,HS0,HU,HF0⟩
 case round=>
  obtain⟨k,c,b,o,rfl,rfl,rfl,hk,hS,hR,hF⟩:=hrel;have fz:=hR.fz;have hc9:c < 4294967296:=hS.car;have hb9:b≤1:=hS.bor;have hlo:o.length=L.length:=hS.len;have hl:=HLEN.out;by_cases hkn:k < n
  ·obtain⟨d,hd⟩:∃d,vv[k]?=some d:=⟨_,ge (by have:=HN.out;omega)⟩;obtain⟨u,hu⟩:∃u,o[t+k]?=some u:=⟨_,ge om⟩;have hvk:Lb wr gv vv:=Fr.bk hF HV HNE;have d0:=hvk.cell hd;clear hvk;have q0:=hR.cell hu;have hdl:=HLV.at hd;have hul:=hS.lim.at hu;obtain⟨s,hs⟩:∃s,s=c+q*d:=⟨_,rfl⟩;have EA:=I (aev (q:=q) hc9 hq9 hdl hs);have EU:Hid (IntKind.u64.wrap (u:Int)=u):=IntWalk.u64_in _ (by rw[ba] at hul;omega);obtain⟨x,b',hx,hb',he,e1,e2⟩:=a4l hul (Nat.mod_lt s dx:s % B32 < B32) hb9;have EM:=I (a1x s);have ED:=I (a1y s);have E1:=I e1;have E2:=I e2;have HST:=I (hS.step (HLV.take n) hq9 (by rw[List.getElem?_take_of_lt hkn];exact hd) hu hs hx hb' he);have HL2:=I (hR.put (t+k) x);have HF2:=I (hF.trans (Fr.set (X:=fun b=>b=g) wr ⟨g,t+k,none⟩ (lv x) rfl));clear hd hu hdl hul hs hx hb' he e1 e2 hS;generalize s / B32=c2 at*;generalize s % B32=lo at*;go_wp2;go_roundw
   case rel=>
    rw[EA.out,EM.out,ED.out,EU.out,E1.out,E2.out];exact⟨k+1,c2,b',_,by go_num,rfl,rfl,by omega,HST,HL2,HF2⟩
   case measure=>simp[intOf];omega
  ·obtain rfl:k=n:=by omega
   obtain⟨u,hu⟩:∃u,o[t+k]?=some u:=⟨_,ge om⟩;have q0:=hR.cell hu;have hul:=hS.lim.at hu;have EU:Hid (IntKind.u64.wrap (u:Int)=u):=IntWalk.u64_in _ (by rw[ba] at hul;omega);obtain⟨x,b',hx,hb',he,e1,e2⟩:=a4l hul hc9 hb9;have E1:=I e1;have E2:=I e2;have HL2:=I (hR.put (t+k) x);have HF2:=I (hF.trans (Fr.set (X:=fun b=>b=g) wr ⟨g,t+k,none⟩ (lv x) rfl));have HLIM:=I (hS.lim.set (t+k) hx);have HLO:Hid ((o.set (t+k) x).length=L.length):=by rw[List.length_set];exact hS.len
   have hvl:(vv.take k).length=k:=by rw[List.length_take];exact Nat.min_eq_left HN
   by_cases hb0:b'=0
   ·subst hb0;have e9:=hS.fine hvl hu hx om;obtain⟨f1,f2⟩:=ad5 (Nat.pow_pos dx) HV0 HQ1 e9;have F1:=I f1;have F2:=I f2;have EQ:Hid ((q:Int) % 4294967296=q):=(by omega:(q:Int) % 4294967296=q);have hx0:(IntKind.u64.wrap (IntKind.u64.wrap (IntKind.u64.wrap (u:Int) - (c:Int)) - (b:Int)) / 9223372036854775808 == 0)=true:=by rw[EU.out,e2];rfl
    clear hu hul hx hb' he e1 e2 hS e9 f1 f2;go_wp2;rw[EU.out,E1.out];go_ret;exact⟨_,by rw[← F1.out];rfl,HL2.out,HLIM.out,HLO.out,F2.out,HF2.out⟩
   ·obtain rfl:b'=1:=by omega
    have HE9:=I (hS.over hvl hu hx (by rw[Nat.mul_one] at he;exact he));have hx0:(IntKind.u64.wrap (IntKind.u64.wrap (IntKind.u64.wrap (u:Int) - (c:Int)) - (b:Int)) / 9223372036854775808 == 0)=false:=by rw[EU.out,e2];rfl
    have HR1:Hid (∀j,t+k < j→(o.set (t+k) x)[j]?=L[j]?):=I fun j hj=>by rw[ck om];exact hS.rest j (Or.inr om)
    have HB0:=I (BackSt.start (v:=vv.take k) HLIM t);have HVL:=I hvl;clear hu hul hx hb' he e1 e2 hS hvl hb0;go_wp2;rw[EU.out,E1.out];clear q0 fz;generalize wr.setCell ⟨g,t+k,none⟩ (.int .u32 x)=wb at*;generalize o.set (t+k) x=o1 at*;go_loopw [7,72] (fun s7 i wr=>∃(m c:Nat) (o:List Nat),i=.int .i64 m∧s7=.int .u64 c∧m≤k∧Hid (BackSt o1 (vv.take k) o t m c)∧Hid (Lb wr g o)∧Hid (Fr (fun b=>b=g) w wr)) (fun _ i _=>k - (intOf i).toNat)
    case atStart=>exact⟨0,0,_,rfl,rfl,nq _,HB0,HL2,HF2⟩
    case round=>
     clear HL2 HF2 HB0;obtain⟨m,c2,o2,rfl,rfl,hm,hS2,hR2,hF2⟩:=hrel;have fz:=hR2.fz;have hc2:c2≤1:=hS2.car;have hlo2:o2.length=L.length:=by rw[hS2.len];exact HLO.out
     by_cases hmk:m < k
     ·obtain⟨d,hd⟩:∃d,vv[m]?=some d:=⟨_,ge (by have:=HN.out;omega)⟩;obtain⟨u,hu⟩:∃u,o2[t+m]?=some u:=⟨_,ge om⟩;have hvk:Lb wr gv vv:=Fr.bk hF2 HV HNE;have d0:=hvk.cell hd;clear hvk;have q0:=hR2.cell hu;have hdl:=HLV.at hd;have hul:=hS2.lim.at hu;obtain⟨s,hs⟩:∃s,s=c2+(u+d):=⟨_,rfl⟩;have EA:=I (ag4 hc2 hul hdl hs);have EM:=I (a1x s);have ED:=I (a1y s);have HST:=I (hS2.step (HLV.take k) (by rw[List.getElem?_take_of_lt hmk];exact hd) hu hs);have HL3:=I (hR2.put (t+m) (s % B32));have HF3:=I (hF2.trans (Fr.set (X:=fun b=>b=g) wr ⟨g,t+m,none⟩ (lv (s % B32)) rfl));clear hd hu hdl hul hs hS2;generalize s / B32=c3 at*;generalize s % B32=lo at*;go_wp2;go_roundw
      case rel=>
       rw[EA.out,EM.out,ED.out];exact⟨m+1,c3,_,by go_num,rfl,by omega,HST,HL3,HF3⟩
      case measure=>simp[intOf];omega
     ·obtain rfl:m=k:=by omega
      obtain⟨u,hu⟩:∃u,o2[t+m]?=some u:=⟨_,ge om⟩;have q0:=hR2.cell hu;have hul:=hS2.lim.at hu;obtain⟨k9,hk9,e9⟩:=hS2.done HVL hu;have ho:val o1 < B32 ^ (t+m+1):=a31 HLIM fun j x hj hx=>HZ.out j x om (by rw[← HR1.out j om];exact hx)
      have hr:val (o2.set (t+m) ((u+c2) % B32)) < B32 ^ (t+m+1):=a31 (hS2.lim.set _ (Nat.mod_lt _ dx)) fun j x hj hx=>by
       rw[ck om,hS2.rest j (Or.inr om),HR1.out j om] at hx;exact HZ.out j x om hx
      have hU:val L < B32 ^ (t+m+1):=a31 HLL fun j x hj hx=>HZ.out j x om hx
      obtain⟨f1,f2⟩:=ad4 (Nat.pow_pos dx) HV0 HQ2 hU HE9 ho hr hk9 e9;have F2:=I f2;have F1:Hid (IntKind.u64.wrap ((q:Int) - 1) % 4294967296=((val L / (B32 ^ t*val (vv.take m)):Nat):Int)):=by
       generalize val L / (B32 ^ t*val (vv.take m))=Q at*;have h:IntKind.u64.wrap ((q:Int) - 1) % 4294967296=(Q:Int):=by rw[IntKind.wrap_u64];omega
       exact h
      have EU:Hid (((u:Int)+(c2:Int)) % 4294967296=(((u+c2) % B32:Nat):Int)):=by
       have h:((u:Int)+(c2:Int)) % 4294967296=(((u+c2) % B32:Nat):Int):=by rw[ba];omega
       exact h
      have HL3:=I (hR2.put (t+m) ((u+c2) % B32));have HF3:=I (hF2.trans (Fr.set (X:=fun b=>b=g) wr ⟨g,t+m,none⟩ (lv ((u+c2) % B32)) rfl));have HLM3:=I (hS2.lim.set (t+m) (Nat.mod_lt (u+c2) dx));have HLO3:Hid ((o2.set (t+m) ((u+c2) % B32)).length=L.length):=by rw[List.length_set];exact hlo2
      clear hu hul e9 hk9 ho hr hU f1 f2 hS2;generalize (u+c2) % B32=y at*;go_wp2;rw[EU.out,F1.out];go_ret;exact⟨_,rfl,HL3.out,HLM3.out,HLO3.out,F2.out,HF3.out⟩
end
section
variable {B U V P t a b c:Nat}
structure Top (B U V P t a b c:Nat):Prop where
 u0:(t*B+c)*P≤U
 u1:U < (t*B+c+1)*P
 v0:(a*B+b)*P≤V
 v1:V < (a*B+b+1)*P
 p:0 < P
 a0:B≤2*a
 a1:2≤a
 b9:b < B
 c9:c < B
 lt:U < B*V
theorem Top.bpos (h:Top B U V P t a b c):0 < B:=by have:=h.b9;omega
theorem Top.big (h:Top B U V P t a b c):B+B≤a*B:=by
 have:=Nat.mul_le_mul_right B h.a1;omega
theorem Top.vpos (h:Top B U V P t a b c):0 < V:=by
 refine Nat.lt_of_lt_of_le (Nat.mul_pos ?_ h.p) h.v0;have:=h.big;have:=h.bpos;omega
theorem Top.t9 (h:Top B U V P t a b c):t < (a+1)*B:=by
 have h1:(t*B+c)*P < (B*(a*B+b+1))*P:=by
  refine Nat.lt_of_le_of_lt h.u0 (Nat.lt_of_lt_of_le h.lt ?_);rw[Nat.mul_assoc];exact Nat.mul_le_mul_left _ (Nat.le_of_lt h.v1)
 have h2:=Nat.lt_of_mul_lt_mul_right h1;have h3:=h.b9;have h4:t*B < (a*B+b+1)*B:=by rw[Nat.mul_comm (a*B+b+1)];omega
 have h5:=Nat.lt_of_mul_lt_mul_right h4;rw[Nat.add_mul,Nat.one_mul];omega
theorem Top.start (h:Top B U V P t a b c):U / V≤t / a:=by
 have ha:0 < a:=by have:=h.a1;omega
 rw[Nat.le_div_iff_mul_le ha];have h1:U / V*V≤U:=Nat.div_mul_le_self U V;have h2:U / V*((a*B)*P)≤U:=Nat.le_trans (Nat.mul_le_mul_left _ (Nat.le_trans (Nat.mul_le_mul_right _ (Nat.le_add_right _ _)) h.v0)) h1;have h3:(U / V*a*B)*P < ((t+1)*B)*P:=by
  have e:(U / V*a*B)*P=U / V*((a*B)*P):=by rw[Nat.mul_assoc (U / V) a B,Nat.mul_assoc (U / V)]
  rw[e];refine Nat.lt_of_le_of_lt h2 (Nat.lt_of_lt_of_le h.u1 (Nat.mul_le_mul_right _ ?_));have:=h.c9;rw[Nat.add_mul,Nat.one_mul];omega
 have h4:=Nat.lt_of_mul_lt_mul_right (Nat.lt_of_mul_lt_mul_right h3);omega
theorem Top.small (h:Top B U V P t a b c):U / V < B:=Nat.div_lt_of_lt_mul (by rw[Nat.mul_comm];exact h.lt)
theorem Top.step (h:Top B U V P t a b c) {q r:Nat} (e:q*a+r=t) (hq:r*B+c < q*b):U / V < q:=by
 refine Nat.lt_of_not_le fun hle=>?_
 have h1:q*V≤U:=Nat.le_trans (Nat.mul_le_mul_right _ hle) (Nat.div_mul_le_self U V);have h2:(q*(a*B+b))*P < (t*B+c+1)*P:=by
  rw[Nat.mul_assoc];exact Nat.lt_of_le_of_lt (Nat.le_trans (Nat.mul_le_mul_left _ h.v0) h1) h.u1
 have h3:=Nat.lt_of_mul_lt_mul_right h2;have e1:q*(a*B+b)=q*a*B+q*b:=by rw[Nat.mul_add,Nat.mul_assoc]
 have e2:t*B=q*a*B+r*B:=by rw[← e,Nat.add_mul]
 omega
theorem Top.done (h:Top B U V P t a b c) {q r:Nat} (e:q*a+r=t) (hq:q*b≤r*B+c) (h9:q < B):q≤U / V+1:=by
 rcases Nat.eq_zero_or_pos q with h0 | h0
 ·subst h0;exact Nat.zero_le _
 obtain⟨k,rfl⟩:∃k,q=k+1:=⟨q - 1,by omega⟩;refine Nat.succ_le_succ ((Nat.le_div_iff_mul_le h.vpos).2 ?_);have h1:k*V≤(k*(a*B+b+1))*P:=by
  rw[Nat.mul_assoc];exact Nat.mul_le_mul_left _ (Nat.le_of_lt h.v1)
 refine Nat.le_trans h1 (Nat.le_trans (Nat.mul_le_mul_right _ ?_) h.u0);have e1:(k+1)*(a*B+b)=(k+1)*a*B+(k+1)*b:=by rw[Nat.mul_add,Nat.mul_assoc]
 have e4:t*B=(k+1)*a*B+r*B:=by rw[← e,Nat.add_mul]
 have e2:(k+1)*(a*B+b)=k*(a*B+b)+(a*B+b):=by rw[Nat.add_mul,Nat.one_mul]
 have e3:k*(a*B+b+1)=k*(a*B+b)+k:=by rw[Nat.mul_add,Nat.mul_one]
 have:=h.big;omega
theorem Top.ovr (h:Top B U V P t a b c) {q r:Nat} (e:q*a+r=t) (hr:B≤r):q < B∧q*b≤r*B+c:=by
 have h1:q < B:=by
  have h2:=h.t9;have h3:q*a < B*a:=by rw[Nat.add_mul,Nat.one_mul] at h2;rw[Nat.mul_comm B a];omega
  exact Nat.lt_of_mul_lt_mul_right h3
 refine⟨h1,?_⟩;have h3:q*b≤B*B:=Nat.mul_le_mul (Nat.le_of_lt h1) (Nat.le_of_lt h.b9);have h4:B*B≤r*B:=Nat.mul_le_mul_right _ hr;omega
end
section
attribute [local go_sem] Oper.semAt_some
theorem Gr.ofd {W W1:World} (G:Gr W.drew W1):Gr W W1:=(Gr.refl W).drew.trans G
theorem a7s {l:List Nat} {k a b:Nat} (hb:l[k]?=some b) (ha:l[k+1]?=some a):val (l.take (k+2))=val (l.take k)+B32 ^ k*(a*B32+b):=by
 rw[bn (i:=k+1) ha,bn hb,Nat.pow_succ,Nat.mul_add,zO,Nat.mul_comm B32 a];omega
theorem a7t {l:List Nat} {k x y c:Nat} (hc:l[k]?=some c) (hy:l[k+1]?=some y) (hx:l[k+2]?=some x):val (l.take (k+3))=val (l.take k)+B32 ^ k*((x*B32+y)*B32+c):=by
 rw[bn (i:=k+2) hx,a7s hc hy];have e:B32 ^ (k+2)*x=B32 ^ k*(x*B32*B32):=by
  rw[Nat.pow_succ,Nat.pow_succ,zO,zO,Nat.mul_comm B32 (B32*x),Nat.mul_comm B32 x]
 rw[e,Nat.add_mul,Nat.mul_add,Nat.mul_add,Nat.mul_add];omega
theorem aky {L v:List Nat} {t m x y c a b:Nat} (hL:Lim L) (hv:Lim v) (hlen:v.length=m+2) (hc:L[t+m]?=some c) (hy:L[t+m+1]?=some y) (hx:L[t+m+2]?=some x)
  (hb:v[m]?=some b) (ha:v[m+1]?=some a) (hn:2147483648≤a) (hz:∀j x,t+m+3≤j→L[j]?=some x→x=0) (hlt:val L < B32*(B32 ^ t*val v)):
  Top B32 (val L) (B32 ^ t*val v) (B32 ^ (t+m)) (x*B32+y) a b c:=by
 have eU:=a7t hc hy hx;rw[n5 hz] at eU;have eV:=a7s hb ha;rw[← hlen,List.take_length] at eV;have l1:=en (hL.take (t+m));have l1':B32 ^ (L.take (t+m)).length≤B32 ^ (t+m):=zS dx (by rw[List.length_take];exact Nat.min_le_left _ _);have l2:=en (hv.take m);have l2':B32 ^ (v.take m).length≤B32 ^ m:=zS dx (by rw[List.length_take];exact Nat.min_le_left _ _);have eW:B32 ^ t*val v=B32 ^ t*val (v.take m)+(a*B32+b)*B32 ^ (t+m):=by rw[eV,Nat.mul_add,← zO,← Nat.pow_add,Nat.mul_comm (B32 ^ (t+m))]
 have l3:B32 ^ t*val (v.take m) < B32 ^ (t+m):=by
  rw[Nat.pow_add];exact Nat.mul_lt_mul_of_pos_left (nk l2 l2') (Nat.pow_pos dx)
 rw[Nat.mul_comm (B32 ^ (t+m))] at eU;refine⟨by omega,?_,by omega,?_,Nat.pow_pos dx,?_,by omega,hv.at hb,hL.at hc,hlt⟩
 ·rw[Nat.add_mul ((x*B32+y)*B32+c),Nat.one_mul];omega
 ·rw[Nat.add_mul (a*B32+b),Nat.one_mul];omega
 ·rw[ba];omega
theorem a2g (w:World) (g gv:Nat) (L vv:List Nat) (t n cu cv a:Nat) (hu:Lb w g L) (hv:Lb w gv vv) (hn2:2≤n) (hn:n≤vv.length) (hl:t+n < L.length) (hl9:L.length≤4000000) (hLL:Lim L) (hLv:Lim vv)
  (hz:∀j x,t+n < j→L[j]?=some x→x=0) (ha:vv[n - 1]?=some a) (h31:2147483648≤a) (hlt:val L < B32*(B32 ^ t*val (vv.take n))):
  Calls Tryz.prog 334 #[.slice (some ⟨g,t,none⟩) (n+1) cu,.slice (some ⟨gv,0,none⟩) n cv] w fun e w'=>∃q:Nat,e=.returned (.int .u64 (q:Int))∧val L / (B32 ^ t*val (vv.take n))≤q∧q≤val L / (B32 ^ t*val (vv.take n))+1∧q < B32∧Gr w w':=by
 obtain⟨m,hm⟩:∃m,n=m+2:=⟨n - 2,by omega⟩;obtain⟨c,hc⟩:∃c,L[t+(n - 2)]?=some c:=⟨_,ge om⟩;obtain⟨y,hy⟩:∃y,L[t+(n - 1)]?=some y:=⟨_,ge om⟩;obtain⟨x,hx⟩:∃x,L[t+n]?=some x:=⟨_,ge om⟩;obtain⟨b,hb⟩:∃b,vv[n - 2]?=some b:=⟨_,ge om⟩;have HT:=I (aky (m:=m) (v:=vv.take n) hLL (hLv.take _) (by rw[List.length_take,Nat.min_eq_left hn];exact hm) (by rw[show t+m=t+(n - 2) by omega];exact hc) (by rw[show t+m+1=t+(n - 1) by omega];exact hy) (by rw[show t+m+2=t+n by omega];exact hx)
  (by rw[List.getElem?_take_of_lt om,show m=n - 2 by omega];exact hb) (by rw[List.getElem?_take_of_lt om,show m+1=n - 1 by omega];exact ha) h31 (fun j x hj=>hz j x om) hlt)
 have c0:=hu.cell hc;have c1:=hu.cell hy;have c2:=hu.cell hx;have d0:=hv.cell hb;have d1:=hv.cell ha;have hn9:n≤4000000:=by omega
 have hx9:=hLL.at hx;have hy9:=hLL.at hy;have hc9:=hLL.at hc;have ha9:=hLv.at ha;have hb9:=hLv.at hb;rw[ba] at hx9 hy9 hc9 ha9 hb9;clear hu hv hn hl hl9 hLL hLv hz ha hlt hc hy hx hb hm;generalize val L=U at*;generalize B32 ^ t*val (vv.take n)=V at*;go_enter Tryz.func334,Tryz.ntmps334;go_wp2;go_region
 go_wp2;go_region
 obtain⟨T,hT⟩:∃T,x*B32+y=T:=⟨_,rfl⟩;rw[hT] at HT;have hT9:T < 18446744073709551616:=by rw[ba] at hT;omega
 have EO:=I (aj4 (r:=x) (p:=y) (by rw[ba];exact hx9) (by rw[ba];exact hy9));rw[hT] at EO;have hqa:T / a*a+T % a=T:=by rw[Nat.mul_comm];exact Nat.div_add_mod T a
 have hra:T % a < a:=Nat.mod_lt _ om;have hq0:T / a≤T:=Nat.div_le_self _ _;have HS:=I HT.start;have HSM:=I HT.small;have EQ:Hid (IntKind.u64.wrap ((T:Int).tdiv a)=((T / a:Nat):Int)):=by
  rw[tm];generalize T / a=z at*;exact IntWalk.u64_in _ om
 have ER:=I (tl T a);have hr0:T % a < 4294967296:=nm hra ha9;clear hT hx9 hy9;go_wp2;rw[EO.out,EQ.out,ER.out];go_loopw [7,8] (fun s7 s8 wr=>∃q r:Nat,s7=.int .u64 q∧s8=.int .u64 r∧q≤T∧r < 4294967296∧Hid (q*a+r=T)∧Hid (U / V≤q)∧Hid (Gr w wr)) (fun s7 _ _=>(intOf s7).toNat)
 case atStart=>exact⟨T / a,T % a,rfl,rfl,hq0,hr0,hqa,HS,(Gr.refl w).drew.drew⟩
 case round=>
  obtain⟨q,r,rfl,rfl,hqT,hr,HE,HQ,HG⟩:=hrel;clear hqa hra hq0 HS EQ ER EO hr0;have d0:=HG.keep d0;have d1:=HG.keep d1;have c0:=HG.keep c0;have w2:IntKind.i64.wrap ((n:Int) - 2)=((n - 2:Nat):Int):=by rw[wi _ om];omega
  have w3:((n - 2:Nat):Int) < (n:Int):=by omega
  have w4:((n - 2:Nat):Int) < (n:Int)+1:=by omega
  by_cases hqB:4294967296≤q
  ·have hd:decide ((4294967296:Int)≤(q:Int))=true:=by simp;omega
   have HQ2:Hid (U / V≤q - 1):=by
    have h:=HSM.out;rw[ba] at h;generalize U / V=z at*;exact (by omega:z≤q - 1)
   go_upto_region 4 with fail;refine wpr ?_;have kc:=I fun W' (G:Gr wr.drew W')=>ai (G.keep d0) (G.keep c0)
   refine wg 0 (tf 22 0) [0,1,2,3,4,5,6,7,8,9,10,11,12,13,14,15,16,17,18,19,20,21] [] ?_;iterate 22 refine .tk ?_
   refine .done fun W1 G1 F1=>?_
   refine wpe ?_;have HG1:=I (HG.trans G1.ofd);have d1:=G1.ofd.keep d1;clear kc G1 F1 w2 w3 w4 c0 d0;have EA:Hid ((q:Int) - 1=((q - 1:Nat):Int)):=(by omega:(q:Int) - 1=((q - 1:Nat):Int));have EB:Hid ((r:Int)+(a:Int)=((r+a:Nat):Int)):=(by omega:(r:Int)+(a:Int)=((r+a:Nat):Int));have HE2:Hid ((q - 1)*a+(r+a)=T):=by
    have h1:q*a=(q - 1)*a+a:=by
     obtain⟨k,rfl⟩:∃k,q=k+1:=⟨q - 1,by omega⟩;rw[Nat.add_sub_cancel,Nat.add_mul,Nat.one_mul]
    have h2:=HE.out;exact (by omega:(q - 1)*a+(r+a)=T)
   by_cases hrB:4294967296≤r+a
   ·have hd2:decide ((4294967296:Int)≤(r:Int)+(a:Int))=true:=by simp only[de];omega
    obtain⟨o1,o2⟩:=HT.ovr HE2 (by rw[ba];exact hrB);have O1:=I o1;have O2:=I (HT.done HE2 o2 o1);clear o1 o2;clear hrB;go_wp2;rw[EA.out];go_ret;exact⟨q - 1,rfl,HQ2.out,O2.out,O1.out,HG1.out⟩
   ·have hd2:decide ((4294967296:Int)≤(r:Int)+(a:Int))=false:=by simp only[decide_eq_false_iff_not];omega
    go_wp2;go_roundw
    case rel=>
     rw[EA.out,EB.out];exact⟨q - 1,r+a,rfl,rfl,by omega,by omega,HE2,HQ2,HG1⟩
    case measure=>rw[EA.out];simp[intOf];omega
  ·have hd:decide ((4294967296:Int)≤(q:Int))=false:=by simp;omega
   have hqb:q*b≤4294967295*4294967295:=Nat.mul_le_mul om om;have EM:Hid (IntKind.u64.wrap ((q:Int)*(b:Int))=((q*b:Nat):Int)):=by
    have h:IntKind.u64.wrap ((q:Int)*(b:Int))=((q*b:Nat):Int):=by rw[← Int.natCast_mul];exact IntWalk.u64_in _ om
    exact h
   have EO:=I (aj4 (r:=r) (p:=c) (by rw[ba];exact hr) (by rw[ba];exact hc9));have EW1:IntKind.u64.wrap ((r:Int)*4294967296)=(r:Int)*4294967296:=IntWalk.u64_in _ om;have EW2:IntKind.u64.wrap (c:Int)=c:=IntWalk.u64_in _ om;have EW3:IntKind.u64.wrap (b:Int)=b:=IntWalk.u64_in _ om;by_cases hgt:r*B32+c < q*b
   ·have hd3:decide (bits BinOp.or IntKind.u64 (IntKind.u64.wrap ((r:Int)*4294967296)) (IntKind.u64.wrap (c:Int)) < IntKind.u64.wrap ((q:Int)*IntKind.u64.wrap (b:Int)))=true:=by rw[EW1,EW2,EW3,EO.out,EM.out];simp only[de];exact Int.ofNat_lt.2 hgt
    have h0:=HT.step HE hgt;clear EW1 EW2 EW3;have HQ2:Hid (U / V≤q - 1):=by
     generalize U / V=z at*;exact (by omega:z≤q - 1)
    have hq1:1≤q:=nj (nq _) h0;clear h0 hqb;clear hgt;go_upto_region 4 with fail;refine wpr ?_;have kc:=I fun W' (G:Gr wr.drew W')=>ai (G.keep d0) (G.keep c0)
    refine wg 0 (tf 22 0) [0,1,2,3,4,5,6,7,8,9,10,11,12,13,14,15,16,17,18,19,20,21] [] ?_;iterate 22 refine .tk ?_
    refine .done fun W1 G1 F1=>?_
    refine wpe ?_;have HG1:=I (HG.trans G1.ofd);have d1:=G1.ofd.keep d1;clear kc G1 F1 w2 w3 w4 c0 d0;have EA:Hid ((q:Int) - 1=((q - 1:Nat):Int)):=(by omega:(q:Int) - 1=((q - 1:Nat):Int));have EB:Hid ((r:Int)+(a:Int)=((r+a:Nat):Int)):=(by omega:(r:Int)+(a:Int)=((r+a:Nat):Int));have HE2:Hid ((q - 1)*a+(r+a)=T):=by
     have h1:q*a=(q - 1)*a+a:=by
      obtain⟨k,rfl⟩:∃k,q=k+1:=⟨q - 1,by omega⟩;rw[Nat.add_sub_cancel,Nat.add_mul,Nat.one_mul]
     have h2:=HE.out;exact (by omega:(q - 1)*a+(r+a)=T)
    by_cases hrB:4294967296≤r+a
    ·have hd2:decide ((4294967296:Int)≤(r:Int)+(a:Int))=true:=by simp only[de];omega
     obtain⟨o1,o2⟩:=HT.ovr HE2 (by rw[ba];exact hrB);have O1:=I o1;have O2:=I (HT.done HE2 o2 o1);clear o1 o2;clear hrB;go_wp2;rw[EA.out];go_ret;exact⟨q - 1,rfl,HQ2.out,O2.out,O1.out,HG1.out⟩
    ·have hd2:decide ((4294967296:Int)≤(r:Int)+(a:Int))=false:=by simp only[decide_eq_false_iff_not];omega
     go_wp2;go_roundw
     case rel=>
      rw[EA.out,EB.out];exact⟨q - 1,r+a,rfl,rfl,by omega,by omega,HE2,HQ2,HG1⟩
     case measure=>rw[EA.out];simp[intOf];omega
   ·have hd3:decide (bits BinOp.or IntKind.u64 (IntKind.u64.wrap ((r:Int)*4294967296)) (IntKind.u64.wrap (c:Int)) < IntKind.u64.wrap ((q:Int)*IntKind.u64.wrap (b:Int)))=false:=by rw[EW1,EW2,EW3,EO.out,EM.out];simp only[decide_eq_false_iff_not];exact fun h=>hgt (Int.ofNat_lt.1 h)
    clear EW1 EW2 EW3;have O2:=I (HT.done HE (Nat.le_of_not_lt hgt) (by rw[ba];omega));have O1:Hid (q < B32):=by rw[ba];exact (by omega:q < 4294967296)
    clear hgt hqb;go_upto_region 4 with fail;refine wpr ?_;have kc:=I fun W' (G:Gr wr.drew W')=>ai (G.keep d0) (G.keep c0)
    refine wg 0 (tf 22 0) [0,1,2,3,4,5,6,7,8,9,10,11,12,13,14,15,16,17,18,19,20,21] [] ?_;iterate 22 refine .tk ?_
    refine .done fun W1 G1 F1=>?_
    refine wpe ?_;have HG1:=I (HG.trans G1.ofd);have d1:=G1.ofd.keep d1;clear kc G1 F1 w2 w3 w4 c0 d0;go_wp2;go_ret;exact⟨q,rfl,HQ.out,O2.out,O1.out,HG1.out⟩
theorem a0x {a:List Nat} {i:Nat} (hi:i < a.length):∃r,val (a.drop i)=(lim0 a i+B32*lim0 a (i+1))+B32*B32*r:=by
 have h1:a.drop i=a[i]::a.drop (i+1):=zQ hi;have h2:lim0 a i=a[i]:=by simp[lim0,ge hi]
 rcases zU (i+1) a.length with h3 | h3
 ·have h4:a.drop (i+1)=a[i+1]::a.drop (i+1+1):=zQ h3;have h5:lim0 a (i+1)=a[i+1]:=by simp[lim0,ge h3]
  refine⟨val (a.drop (i+1+1)),?_⟩;rw[h1,val,h4,val,h2,h5,Nat.mul_add,zO];omega
 ·have h5:lim0 a (i+1)=0:=by simp[lim0,List.getElem?_eq_none h3]
  refine⟨0,?_⟩;rw[h1,val,List.drop_eq_nil_of_le h3,h2,h5];simp[val]
theorem a8b {a:List Nat} {i k:Nat} (ha:Lim a) (hi:i < a.length) (hk:k≤32):val a / 2 ^ k / B32 ^ i % B32=(lim0 a i+B32*lim0 a (i+1)) / 2 ^ k % B32:=by
 have e1:=jg (a.take i) (a.drop i);rw[List.take_append_drop,List.length_take,Nat.min_eq_left om] at e1;have e2:val (a.take i) < B32 ^ i:=by
  have:=en (ha.take i);rwa [List.length_take,Nat.min_eq_left om] at this
 have e3:val a / B32 ^ i=val (a.drop i):=by
  rw[e1,Nat.add_mul_div_left _ _ (Nat.pow_pos dx),Nat.div_eq_of_lt e2,Nat.zero_add]
 obtain⟨r,hr⟩:=a0x hi;have H:=sj hk;have e4:B32*B32*r=2 ^ k*(B32*(2 ^ (32 - k)*r)):=by
  conv=>lhs;rw[zO];arg 1;rw[← H.prod]
  rw[Nat.mul_comm (2 ^ (32 - k)),zO]
  congr 1
  rw[Nat.mul_left_comm]
 rw[Nat.div_div_eq_div_mul,Nat.mul_comm,← Nat.div_div_eq_div_mul,e3,hr,e4,Nat.add_mul_div_left _ _ (Nat.two_pow_pos k),Nat.add_mul_mod_self_left]
structure ShrSt (N:Nat) (o:List Nat) (i m:Nat):Prop where
 len:o.length=m
 lim:Lim o
 sum:val o=N % B32 ^ i
 zer:∀j,i≤j→j < m→o[j]?=some 0
theorem ShrSt.start (N m:Nat):ShrSt N (List.replicate m 0) 0 m:=⟨by simp,Lim.zeros _,by rw[iu];simp[Nat.mod_one],fun j _ hj=>i6 hj⟩
theorem ShrSt.step {N:Nat} {o:List Nat} {i m:Nat} (h:ShrSt N o i m) (hi:i < m):ShrSt N (o.set i (N / B32 ^ i % B32)) (i+1) m:=by
 refine⟨by rw[List.length_set];exact h.len,h.lim.set i (Nat.mod_lt _ dx),?_,fun j hj hm=>by rw[ck om];exact h.zer j om hm⟩;have e1:=ep (N / B32 ^ i % B32) (h.zer i (nr _) hi);rw[Nat.mul_zero,h.sum] at e1;rw[Nat.mod_pow_succ];omega
theorem acs {p q k:Nat} (hp:p < B32) (hq:q < B32):bits .or .u64 (IntKind.u64.wrap (p:Int)) (IntKind.u64.wrap (IntKind.u64.wrap (q:Int)*4294967296))=((p+B32*q:Nat):Int):=by
 have hB:=ba;have h1:=hp;have h2:=hq;rw[hB] at h1 h2;rw[IntWalk.u64_in (p:Int) om,IntWalk.u64_in (q:Int) om,IntWalk.u64_in ((q:Int)*4294967296) om,show (q:Int)*4294967296=((q*4294967296:Nat):Int) by omega,u64_or_nat _ _ om om,Nat.or_comm];have:=Nat.shiftLeft_add_eq_or_of_lt (i:=32) h1 q;rw[Nat.shiftLeft_eq] at this;rw[← this,hB]
 congr 1
 omega
theorem a4n {s k d:Nat} (h:d=s / 2 ^ k % B32):(s:Int) / 2 ^ k % 4294967296=(d:Int):=by
 rw[h,ba,Int.natCast_emod,Int.natCast_ediv];simp
theorem ahm (w:World) (x:Sv) (a:List Nat) (k:Nat) (hx:x.Num w a) (ha:a.length≤4000000) (hk:k≤31):
  Calls Tryz.prog 335 #[x.v,.int .i64 (k:Int)] w fun e w'=>∃z:Sv,e=.returned (.tuple #[z.v,.int .i64 0])∧z.Num w' (a7 (val a / 2 ^ k))∧Gr w w':=by
 have H1:=I (bx w x a hx);have HA:Hid ((a7 (val a)).length≤4000000):=nt (b8 (en hx.lim)) ha;have HK:=I hk;have k0:decide ((k:Int) < 0)=false:=by simp
 have k1:decide ((1048576:Int) < (k:Int))=false:=by simp only[decide_eq_false_iff_not];omega
 have k2:(k:Int).tdiv 32=0:=by rw[show (32:Int)=((32:Nat):Int) from rfl,tm,Nat.div_eq_of_lt om];rfl
 have k3:(k:Int).tmod 32=(k:Int):=by rw[show (32:Int)=((32:Nat):Int) from rfl,tl,Nat.mod_eq_of_lt om]
 have k4:(0:Int)≤(k:Int):=by omega
 have k5:(k:Int)≤64:=by omega
 clear hx ha hk;go_enter Tryz.func335,Tryz.ntmps335;go_wp2_with fail;refine cm2 H1 fun u w1 hu G1=>?_
 have HU:=I hu;have HG1:=I G1;have HN:=I hu.len;obtain⟨A,n,c⟩:=u;simp only[Sv.v] at*;have hn9:n≤4000000:=by rw[← HN.out];exact HA.out
 have VA:=I (vl (val a));clear hu H1;by_cases hn0:n=0
 ·have h1:decide ((n:Int)≤0)=true:=by simp only[de];omega
  have HZ:Hid (val a=0):=bw.1 (HN.trans hn0);subst hn0;go_wp2;go_returns;exact⟨Sv.none,rfl,by rw[HZ.out,Nat.zero_div,al];exact Sv.Num.none _,HG1.out⟩
 ·have h1:decide ((n:Int)≤0)=false:=by simp only[decide_eq_false_iff_not];omega
  generalize a7 (val a)=la at*;have hmk:=a21 n om w1;have HR0:=I (Lb.made w1 n);have HG2:Hid (Gr w (w1.alloc (.cells (Array.replicate n (.int .u32 0)) 200))):=HG1.alloc _;have HGs:Hid (Gr w1 (w1.alloc (.cells (Array.replicate n (.int .u32 0)) 200))):=(Gr.refl w1).alloc _;have hg0:Hid (w.heap.size≤w1.heap.size):=HG1.size;go_wp2;clear hmk;have HLL:Hid (Lim la):=HU.lim;have HS0:=I (ShrSt.start (val la / 2 ^ k) n);generalize hge:w1.heap.size=g at*;have HGE:=I hge;clear hge;go_loopw [32] (fun i wr=>∃(t:Nat) (o:List Nat),i=.int .i64 t∧t≤n∧Hid (ShrSt (val la / 2 ^ k) o t n)∧Hid (Lb wr g o)∧Hid (Gr w wr)∧Hid (Gr w1 wr)) (fun i _=>n - (intOf i).toNat)
  case atStart=>exact⟨0,_,rfl,nq _,HS0,HR0,HG2,HGs⟩
  case round=>
   obtain⟨t,o,rfl,ht,hS,hR,hG,hGG⟩:=hrel;have fz:=hR.fz;have hlen:o.length=n:=hS.len;by_cases htn:t < n
   ·obtain⟨p,ad,hp,hp9,hAe,hbl,d1⟩:=(HU.gr hGG).at (i:=t) htn;simp only at hAe;subst hAe;have q0:=hR.cell (hS.zer t (nr _) htn);have HD:=I (a8b HLL (i:=t) (k:=k) (by rw[HN.out];exact htn) (by have:=HK.out;omega));have HP0:Hid (lim0 la t=p):=(by simp[lim0,hp]:lim0 la t=p);have HST:=I (hS.step htn);have HL2:=I (hR.put t (val la / 2 ^ k / B32 ^ t % B32));have HG5:=I (hG.set (p:=⟨g,t,none⟩) hg0 (lv (val la / 2 ^ k / B32 ^ t % B32)));have HG6:=I (hGG.set (p:=⟨g,t,none⟩) (by rw[HGE.out];exact nr _) (lv (val la / 2 ^ k / B32 ^ t % B32)));by_cases ht1:t+1 < n
    ·obtain⟨q,ad2,hq,hq9,hAe2,hbl2,d2⟩:=(HU.gr hGG).at (i:=t+1) ht1;simp only[oq] at hAe2;subst hAe2;rw[show ad.add (t+1)=(⟨ad.block,ad.off+(t+1),none⟩:Addr) from by unfold Addr.add;rw[if_neg om]] at d2;have HQ0:Hid (lim0 la (t+1)=q):=(by simp[lim0,hq]:lim0 la (t+1)=q);have ht2:decide ((t:Int)+1 < (n:Int))=true:=by simp only[de];omega
     have EX:=I (acs (k:=k) hp9 hq9);have EV:Hid (((p+B32*q:Nat):Int) / 2 ^ k % 4294967296=((val la / 2 ^ k / B32 ^ t % B32:Nat):Int)):=by
      have h:=HD.out;rw[HP0.out,HQ0.out] at h;exact (a4n h)
     clear hp hbl hS hq hbl2;go_wp2;go_roundw
     case rel=>
      rw[EX.out,EV.out];exact⟨t+1,_,by go_num,by omega,HST,HL2,HG5,HG6⟩
     case measure=>simp[intOf];omega
    ·have HQ0:Hid (lim0 la (t+1)=0):=by
      have h:lim0 la (t+1)=0:=by simp[lim0,List.getElem?_eq_none (l:=la) (i:=t+1) (by rw[HN.out];omega)]
      exact h
     have ht2:decide ((t:Int)+1 < (n:Int))=false:=by simp only[decide_eq_false_iff_not];omega
     have EX:Hid (IntKind.u64.wrap (p:Int)=p):=IntWalk.u64_in _ (by rw[ba] at hp9;omega);have EV:Hid ((p:Int) / 2 ^ k % 4294967296=((val la / 2 ^ k / B32 ^ t % B32:Nat):Int)):=by
      have h:=HD.out;rw[HP0.out,HQ0.out] at h;have:=a4n h;rw[Nat.mul_zero,Nat.add_zero] at this;exact this
     clear hp hbl hS;go_wp2;go_roundw
     case rel=>
      rw[EX.out,EV.out];exact⟨t+1,_,by go_num,by omega,HST,HL2,HG5,HG6⟩
     case measure=>simp[intOf];omega
   ·obtain rfl:t=n:=by omega
    have e1:val o=val la / 2 ^ k:=by
     rw[hS.sum];refine Nat.mod_eq_of_lt (nj (Nat.div_le_self _ _) ?_);have:=en HLL;rwa [HN.out] at this
    have HT:=I (bx wr ⟨some ⟨g,0,none⟩,t,t⟩ o (fo hR hS.lim hlen om));rw[e1,VA.out] at HT;clear e1 hlen;go_wp2_with fail;refine cm1 HT fun z w5 HZ G5=>?_
    have HG6:=I (hG.trans G5);clear HT;go_wp2;go_returns;exact⟨z,rfl,HZ.out,HG6.out⟩
theorem akd (w:World) (x y:Sv) (a b:Nat) (hx:x.Num w (a7 a)) (hy:y.Num w (a7 b)) (ha:(a7 a).length≤1000000) (hb0:0 < b) (hb:b < B32):
  Calls Tryz.prog 268 #[x.v,y.v] w fun e w'=>∃p q:Sv,e=.returned (.tuple #[p.v,q.v,.int .i64 0])∧p.Num w' (a7 (a / b))∧q.Num w' (a7 (a % b))∧Gr w w':=by
 have H1:=I (bx w x _ hx);rw[vl] at H1;have HY:=I hy;have HA:=I ha;have HL1:=I (fi (n:=b) om hb);have HBB:=I hb;clear hx hy ha hb;go_enter Tryz.func268,Tryz.ntmps268;go_wp2_with fail;refine cm1 H1 fun u w1 HU G1=>?_
 have HG1:=I G1;have H2:=I (bx w1 y _ (HY.gr G1));rw[vl] at H2;clear H1 HY;go_wp2_with fail;refine cm2 H2 fun v w2 hv G2=>?_
 have HG2:=I (HG1.trans G2);have HU2:=I (HU.gr G2);have HV:=I hv;have H3:=I (m5 w2 u v _ _ (HU.gr G2) hv);rw[vl,vl] at H3;clear hv HG1 HU H2;obtain⟨B,m,d⟩:=v;have hm:m=1:=by
  have:=HV.len;rw[HL1.out] at this;exact this.symm
 subst hm;simp only[Sv.v] at*;go_wp2_with fail;refine cm0 H3 fun w3 G3=>?_
 have HG3:=I (HG2.trans G3);have HU3:=I (HU2.gr G3);have HV3:=I (HV.gr G3);clear HG2 HU2 HV H3;by_cases hab:a < b
 ·have HC:Hid (cmpN a b=-1):=pf hab;rw[HC.out];have H4:=I (ng w3 u _ HU3 HA);rw[vl] at H4;have E1:Hid (a / b=0):=Nat.div_eq_of_lt hab;have E2:Hid (a % b=a):=Nat.mod_eq_of_lt hab;go_wp2_with fail;refine cm1 H4 fun z w4 HZ G4=>?_
  have HG4:=I (HG3.trans G4);clear H4;go_wp2;go_returns;exact⟨Sv.none,z,rfl,by rw[E1.out,al];exact Sv.Num.none _,by rw[E2.out];exact HZ.out,HG4.out⟩
 ·have hcn:decide (cmpN a b < 0)=false:=by
   unfold cmpN;rw[if_neg hab];split<;>simp
  generalize cmpN a b=cm at*;obtain⟨p,ad,hp,hp9,hAe,hbl,d1⟩:=HV3.at (i:=0) Nat.one_pos;simp only at hAe;subst hAe;rw[HL1.out] at hp;obtain rfl:b=p:=by simpa using hp
  rw[add_zero] at d1;have H4:=I (fun W hW=>a8c W u _ b (HU3.gr hW) HA hb0 HBB);rw[vl] at H4;clear hp hp9 hbl;go_wp2_with fail;refine (H4.out _ (Gr.refl _)).mono ?_;rintro e w4 ⟨z,z2,rfl,hz,hz2,G4⟩;have HZ:=I hz;have HZ2:=I hz2;have HG4:=I (HG3.trans G4);clear hz hz2 G4 H4;go_wp2;go_returns;exact⟨z,z2,rfl,HZ.out,HZ2.out,HG4.out⟩
theorem a2d {l:List Nat} {k i x:Nat} (h:val l < B32 ^ k) (hk:k≤i) (hx:l[i]?=some x):x=0:=by
 have e:=bn hx;have h1:=uy l (i+1);have h2:B32 ^ k≤B32 ^ i:=zS dx hk;rcases Nat.eq_zero_or_pos x with h0 | h0
 ·exact h0
 ·have h3:B32 ^ i*1≤B32 ^ i*x:=Nat.mul_le_mul_left _ h0;rw[Nat.mul_one] at h3;omega
structure LdSt (X V:Nat) (o L:List Nat) (j m:Nat):Prop where
 len:o.length=m
 lim:Lim o
 lim2:Lim L
 lt:val L < B32 ^ j*V
 sum:val o*V+val L=X
 zer:∀k,k < j→k < m→o[k]?=some 0
theorem LdSt.step {X V:Nat} {o L L':List Nat} {t m:Nat} (h:LdSt X V o L (t+1) m) (ht:t < m) (hV:0 < V) (hL:Lim L') (e:val L'=val L % (B32 ^ t*V)):LdSt X V (o.set t (val L / (B32 ^ t*V))) L' t m:=by
 have hp:0 < B32 ^ t*V:=Nat.mul_pos (Nat.pow_pos dx) hV;have hQ:val L / (B32 ^ t*V) < B32:=Nat.div_lt_of_lt_mul (by have:=h.lt;rw[Nat.pow_succ,zO,Nat.mul_comm B32 V,← zO] at this;exact this);refine⟨by rw[List.length_set];exact h.len,h.lim.set t hQ,hL,by rw[e];exact Nat.mod_lt _ hp,?_,fun k hk hm=>by rw[ck om];exact h.zer k om hm⟩;have e1:=ep (val L / (B32 ^ t*V)) (h.zer t (Nat.lt_succ_self t) ht);rw[Nat.mul_zero,Nat.add_zero] at e1;rw[e1,e,Nat.add_mul,← h.sum];have e2:=Nat.mod_add_div (val L) (B32 ^ t*V);have e3:B32 ^ t*(val L / (B32 ^ t*V))*V=B32 ^ t*V*(val L / (B32 ^ t*V)):=by rw[Nat.mul_right_comm]
 omega
theorem LdSt.done {X V:Nat} {o L:List Nat} {m:Nat} (h:LdSt X V o L 0 m) (hV:0 < V):val o=X / V∧val L=X % V:=by
 have h1:=h.lt;rw[Nat.pow_zero,Nat.one_mul] at h1;have h2:=h.sum;refine⟨?_,?_⟩
 ·rw[← h2,Nat.mul_comm,Nat.mul_add_div hV,Nat.div_eq_of_lt h1,Nat.add_zero]
 ·rw[← h2,Nat.mul_comm,Nat.mul_add_mod,Nat.mod_eq_of_lt h1]
theorem ajf {b s n p:Nat} (hn:(a7 b).length=n+1) (hp:(a7 b)[n]?=some p) (h1:2147483648≤p*2 ^ s) (h2:p*2 ^ s < B32):2147483648*B32 ^ n≤b*2 ^ s∧b*2 ^ s < B32 ^ (n+1):=by
 have e:=bn hp;rw[← hn,List.take_length,vl] at e;have l1:=en ((f8 b).take n);have l2:B32 ^ ((a7 b).take n).length≤B32 ^ n:=zS dx (by rw[List.length_take];exact Nat.min_le_left _ _);generalize val ((a7 b).take n)=z at*;have e2:b*2 ^ s=z*2 ^ s+B32 ^ n*(p*2 ^ s):=by rw[e,Nat.add_mul,zO]
 refine⟨?_,?_⟩
 ·have:=Nat.mul_le_mul_left (B32 ^ n) h1;rw[Nat.mul_comm 2147483648];omega
 ·-- b < (p+1) B^n,and (p+1) 2^s≤B
  have h3:(p+1)*2 ^ s≤B32:=by
   rw[Nat.add_mul,Nat.one_mul];rcases zU s 33 with h | h
   ·have H:=sj (k:=s) om;have h4:p < 2 ^ (32 - s):=Nat.lt_of_mul_lt_mul_right (a:=2 ^ s) (by rw[H.prod];exact h2);have h5:=zT (2 ^ s) h4;rw[H.prod,Nat.succ_mul] at h5;exact h5
   ·have h6:2 ^ 33≤2 ^ s:=zS dx h;have h7:p≠0:=fun h0=>by rw[h0,Nat.zero_mul] at h1;omega
    have h8:1*2 ^ s≤p*2 ^ s:=zT _ om;rw[ba] at h2;omega
  have h9:b < (p+1)*B32 ^ n:=by
   rw[e,Nat.add_mul,Nat.one_mul,Nat.mul_comm p];omega
  have h10:b*2 ^ s < (p+1)*B32 ^ n*2 ^ s:=Nat.mul_lt_mul_of_pos_right h9 (Nat.two_pow_pos s);rw[Nat.mul_right_comm] at h10;have h11:=zT (B32 ^ n) h3;rw[Nat.pow_succ,Nat.mul_comm (B32 ^ n)];omega
theorem acn {l:List Nat} {n p:Nat} (hl:Lim l) (hp:l[n]?=some p) (h:2147483648*B32 ^ n≤val (l.take (n+1))):2147483648≤p:=by
 rw[bn hp] at h;have l1:=en (hl.take n);have l2:B32 ^ (l.take n).length≤B32 ^ n:=zS dx (by rw[List.length_take];exact Nat.min_le_left _ _);have h1:2147483648*B32 ^ n < (p+1)*B32 ^ n:=by rw[Nat.add_mul,Nat.one_mul,Nat.mul_comm p];omega
 have:=Nat.lt_of_mul_lt_mul_right h1;omega
theorem afm (w:World) (x y:Sv) (a b:Nat) (hx:x.Num w (a7 a)) (hy:y.Num w (a7 b)) (ha:(a7 a).length≤1000000) (hab:b≤a) (hb:B32≤b):
  Calls Tryz.prog 268 #[x.v,y.v] w fun e w'=>∃p q:Sv,e=.returned (.tuple #[p.v,q.v,.int .i64 0])∧p.Num w' (a7 (a / b))∧q.Num w' (a7 (a % b))∧Gr w w':=by
 have H1:=I (bx w x _ hx);rw[vl] at H1;have HY:=I hy;have HA:=I ha;have HAB:=I hab;have HL1:Hid ((a7 b).length≤(a7 a).length):=aq hab;have HL2:Hid (2≤(a7 b).length):=by
  have h:2≤(a7 b).length:=Nat.lt_of_not_le fun h=>by
   have h1:=f9 b;have h2:B32 ^ (a7 b).length≤B32 ^ 1:=zS dx h;rw[Nat.pow_one] at h2;omega
  exact h
 clear hx hy ha hab hb;go_enter Tryz.func268,Tryz.ntmps268;go_wp2_with fail;refine cm1 H1 fun u w1 HU G1=>?_
 have HG1:=I G1;have H2:=I (bx w1 y _ (HY.gr G1));rw[vl] at H2;clear H1 HY;go_wp2_with fail;refine cm2 H2 fun v w2 hv G2=>?_
 have HG2:=I (HG1.trans G2);have HU2:=I (HU.gr G2);have HV:=I hv;have H3:=I (m5 w2 u v _ _ (HU.gr G2) hv);rw[vl,vl] at H3;clear hv HG1 HU H2;obtain⟨A,m,c⟩:=u;obtain⟨B,n,d⟩:=v;have HM:=I HU2.len;have HN:=I HV.len;simp only[Sv.v] at*;have hm9:m≤1000000:=by rw[← HM.out];exact HA.out
 have hn2:2≤n:=by rw[← HN.out];exact HL2.out
 have hnm:n≤m:=by rw[← HN.out,← HM.out];exact HL1.out
 have hz0:((n:Int) == 0)=false:=by simp;omega
 have hz1:((n:Int) == 1)=false:=by simp;omega
 have hc0:decide (cmpN a b < 0)=false:=by
  have h:¬cmpN a b < 0:=by
   have:=HAB.out;unfold cmpN;split
   ·omega
   ·split<;>omega
  exact df h
 go_wp2_with fail;refine cm0 H3 fun w3 G3=>?_
 have HG3:=I (HG2.trans G3);have HU3:=I (HU2.gr G3);have HV3:=I (HV.gr G3);clear HG2 HU2 HV H3;obtain⟨k,rfl⟩:∃k,n=k+1:=⟨n - 1,by omega⟩;obtain⟨p,ad,hp,hp9,hBe,hbl,d1⟩:=HV3.at (i:=k) (Nat.lt_succ_self k);simp only at hBe;subst hBe;have hp0:p≠0:=by
  have:=si b p;rw[List.getLast?_eq_getElem?,HN.out] at this;exact this hp
 obtain⟨s1,s2⟩:=aex (Nat.pos_of_ne_zero hp0) hp9;obtain⟨b1,b2⟩:=rf (Nat.pos_of_ne_zero hp0) hp9;have HLZ:=I (fun W=>amz W p (Nat.pos_of_ne_zero hp0) hp9);obtain⟨n1,n2⟩:=ajf HN hp s1 s2;obtain⟨s,hs⟩:∃s,32 - Lib.bitLen p=s:=⟨_,rfl⟩;rw[hs] at n1 n2 HLZ;have hs9:s≤31:=by omega
 have N1:=I n1;have N2:=I n2;clear hp hp0 s1 s2 b1 b2 n1 n2 hs hbl hp9;go_wp2_with fail;refine cm0 (HLZ.out w3) fun w4 G4=>?_
 have HG4:=I (HG3.trans G4);have HU4:=I (HU3.gr G4);have HV4:=I (HV3.gr G4);clear HG3 HU3 HV3 HLZ d1;have H5:=I (a5v w4 ⟨A,m,c⟩ (a7 a) s HU4 HA hs9);go_wp2_with fail;refine H5.mono ?_;rintro e w5 ⟨gu,L,rfl,hL1,hL2,hL3,hL4,hL5,hL6,G5⟩;rw[vl] at hL3;rw[HM.out] at hL1;have HLL:=I hL2;have HLv:=I hL3;have HLn:=I hL1;have HLb:=I hL5;have HLg:Hid (w.heap.size≤gu):=nt HG4.size hL6;have HG5:=I (HG4.trans G5);have H6:=I (a5v w5 ⟨some ad,k+1,d⟩ (a7 b) s (HV4.gr G5) (by have:=HL1.out;have:=HA.out;omega) hs9);have hgu:Hid (gu < w5.heap.size):=Bk.lt hL5;clear hL1 hL2 hL3 hL4 hL5 hL6 G5 H5 HG4 HU4 HV4;go_wp2_with fail;refine H6.mono ?_;rintro e w6 ⟨gv,vv,rfl,hv1,hv2,hv3,hv4,hv5,hv6,G6⟩;rw[vl] at hv3;rw[HN.out] at hv1;have HVL:=I hv2;have HVv:=I hv3;have HVn:=I hv1;have HVb:=I hv5;have HNE:Hid (¬gv=gu):=by
  have h:¬gv=gu:=by have:=hgu.out;omega
  exact h
 have HG6:=I (HG5.trans G6);have HLb6:Hid (Lb w6 gu L):=Gr.bk G6 HLb;have HLEN:Hid ((a7 (val vv)).length=k+1):=by
  have h:(a7 (val vv)).length=k+1:=by
   rw[HVv.out];refine Nat.le_antisymm (b8 N2) (Nat.lt_of_not_le fun h=>?_);have h1:=f9 (b*2 ^ s);have h2:B32 ^ (a7 (b*2 ^ s)).length≤B32 ^ k:=zS dx h;have:=N1.out;have h3:1*B32 ^ k≤2147483648*B32 ^ k:=zT _ dx;omega
  exact h
 have HV0:Hid (0 < b*2 ^ s):=by
  have h3:0 < 2147483648*B32 ^ k:=Nat.mul_pos dx (Nat.pow_pos dx);exact nk h3 N1
 have H7:=I (a7y w6 ⟨some ⟨gv,0,none⟩,vv.length,vv.length⟩ vv (hv5.num hv2 om) (by rw[hv3];exact Nat.pos_iff_ne_zero.1 HV0));rw[HLEN.out] at H7;clear hv1 hv2 hv3 hv4 hv5 hv6 G6 H6 HG5 HLb hgu;go_wp2_with fail;refine cm0 H7 fun w7 G7=>?_
 have HG7:=I (HG6.trans G7);have HLb7:Hid (Lb w7 gu L):=Gr.bk G7 HLb6;have HVb7:Hid (Lb w7 gv vv):=Gr.bk G7 HVb;clear H7 HG6 HLb6 HVb;obtain⟨r,rfl⟩:∃r,m=r+(k+1):=⟨m - (k+1),by omega⟩;have hmk:=a21 (r+1) om w7;rw[show (((r+1:Nat)):Int)=(r:Int)+1 by omega] at hmk;have HR0:=I (Lb.made w7 (r+1));have e1:(((r+(k+1):Nat):Int)) - ((k+1:Nat):Int)=(r:Int):=by omega
 go_wp2;have HG8:Hid (Gr w (w7.alloc (.cells (Array.replicate (r+1) (.int .u32 0)) 200))):=HG7.alloc _;have HGs:Hid (Gr w7 (w7.alloc (.cells (Array.replicate (r+1) (.int .u32 0)) 200))):=(Gr.refl w7).alloc _;have HLb8:Hid (Lb (w7.alloc (.cells (Array.replicate (r+1) (.int .u32 0)) 200)) gu L):=Gr.bk HGs HLb7;have HVb8:Hid (Lb (w7.alloc (.cells (Array.replicate (r+1) (.int .u32 0)) 200)) gv vv):=Gr.bk HGs HVb7;have hou:Hid (¬gu=w7.heap.size):=by
  have h:¬gu=w7.heap.size:=by have:=Bk.lt HLb7;omega
  exact h
 have hov:Hid (¬gv=w7.heap.size):=by
  have h:¬gv=w7.heap.size:=by have:=Bk.lt HVb7;omega
  exact h
 have hog:Hid (w.heap.size≤w7.heap.size):=HG7.size;have HS0:Hid (LdSt (a*2 ^ s) (b*2 ^ s) (List.replicate (r+1) 0) L (r+1) (r+1)):=by
  refine⟨by simp,Lim.zeros _,HLL.out,?_,by rw[iu,Nat.zero_mul,Nat.zero_add];exact HLv.out,fun i _ hi=>i6 hi⟩;rw[HLv.out];have h1:=f9 a;rw[HM.out] at h1;have h2:(2:Nat) ^ s≤2 ^ 31:=zS dx hs9;have h3:a*2 ^ s < B32 ^ (r+(k+1))*2 ^ 31:=nk (Nat.mul_lt_mul_of_pos_right h1 (Nat.two_pow_pos s)) (Nat.mul_le_mul_left _ h2);refine nk h3 (nt ?_ (Nat.mul_le_mul_left _ N1));rw[show r+(k+1)=(r+1)+k by omega,Nat.pow_add,zO,Nat.mul_comm (B32 ^ k)];exact nr _
 have VT:Hid (val (vv.take (k+1))=b*2 ^ s):=by
  have h:val (vv.take (k+1))=b*2 ^ s:=by rw[n5 (fun i x hi hx=>a2d (by rw[HVv.out];exact N2.out) hi hx)];exact HVv.out
  exact h
 obtain⟨pa,hpa⟩:∃pa,vv[k]?=some pa:=⟨_,ge (by have:=HVn.out;omega)⟩;have HPA:=I hpa;have HP31:Hid (2147483648≤pa):=acn HVL hpa (by rw[VT.out];exact N1.out);clear hpa;clear hmk HG7 HLb7 HVb7 HGs;generalize w7.heap.size=go at*;rw[HLn.out];go_loopw [13,14] (fun i _ wr=>∃(j:Nat) (o L':List Nat),i=.int .i64 ((j:Int) - 1)∧j≤r+1∧Hid (LdSt (a*2 ^ s) (b*2 ^ s) o L' j (r+1))∧Hid (L'.length=r+(k+1)+1)∧Hid (Lb wr gu L')∧Hid (Lb wr go o)∧Hid (Lb wr gv vv)∧Hid (Gr w wr)) (fun i _ _=>(intOf i+1).toNat)
 case atStart=>exact⟨r+1,_,L,by go_num,nr _,HS0,HLn,HLb8,HR0,HVb8,HG8⟩
 case round=>
  clear HS0 HLb8 HR0 HVb8 HG8;obtain⟨j,o,L',rfl,hj,hS,hLe,hU,hO,hVb,hG⟩:=hrel;cases j with
  | zero=>
   obtain⟨f1,f2⟩:=hS.done HV0;rw[Nat.mul_div_mul_right _ _ (Nat.two_pow_pos s)] at f1;rw[Nat.mul_mod_mul_right] at f2;have ho:=hS.len;have h0:((0:Nat):Int) - 1=-1:=rfl;rw[h0];have HSH:=I (ahm wr ⟨some ⟨gu,0,none⟩,r+(k+1)+1,r+(k+1)+1⟩ L' s (by have:=hU.num hS.lim2 (by have:=hLe.out;omega);rw[hLe.out] at this;exact this) (by have:=hLe.out;omega) hs9);rw[f2,Nat.mul_div_cancel _ (Nat.two_pow_pos s)] at HSH;have HO2:=I (hO.num hS.lim om);rw[ho] at HO2;have F1:=I f1;clear f1 f2 ho hS;go_wp2_with fail;refine cm1 HSH fun z wa HZ Ga=>?_
   have HGa:=I (hG.trans Ga);have HT:=I (bx wa ⟨some ⟨go,0,none⟩,r+1,r+1⟩ o (HO2.gr Ga));rw[F1.out] at HT;clear HSH;go_wp2_with fail;refine cm1 HT fun z2 wb HZ2 Gb=>?_
   have HZb:=I (HZ.gr Gb);have HGb:=I (HGa.trans Gb);clear HT;go_wp2;go_returns;exact⟨z2,z,rfl,HZ2.out,HZb.out,HGb.out⟩
  | succ t=>
   have ht:(((t+1:Nat):Int) - 1)=(t:Int):=by omega
   rw[ht];have htr:t≤r:=by omega
   have i1:IntKind.i64.wrap (IntKind.i64.wrap ((t:Int)+((k:Int)+1))+1)=(t:Int)+((k:Int)+1)+1:=by rw[wi ((t:Int)+((k:Int)+1)) om,wi _ om]
   go_upto_region 16 with fail;rw[show t+(k+1)+1 - t=k+1+1 by omega];have hlt:val L' < B32*(B32 ^ t*(b*2 ^ s)):=by
    have:=hS.lt;rw[Nat.pow_succ,Nat.mul_comm (B32 ^ t),zO] at this;exact this
   have hzz:∀i x,t+(k+1) < i→L'[i]?=some x→x=0:=fun i x hi hx=>by
    refine a2d (k:=t+(k+1)+1) ?_ om hx;refine nk hS.lt ?_;have h1:=Nat.mul_le_mul_left (B32 ^ (t+1)) (Nat.le_of_lt N2);rw[← Nat.pow_add] at h1;rw[show t+(k+1)+1=t+1+(k+1) by omega];exact h1
   have HE:=I (a2g wr gu gv L' vv t (k+1) (r+(k+1)+1 - t) vv.length pa hU hVb hn2 (by have:=HVn.out;omega) (by have:=hLe.out;omega) (by have:=hLe.out;omega) hS.lim2 HVL hzz HPA HP31 (by rw[VT.out];exact hlt));rw[VT.out] at HE;have HZZ:=I hzz;clear hlt hzz;go_wp2_with fail;refine HE.mono ?_;rintro e wa ⟨q,rfl,q1,q2,q3,Ga⟩;have HD:=I (a70 wa gu gv L' vv t (k+1) (r+(k+1)+1 - t) vv.length q (Gr.bk Ga hU) (Gr.bk Ga hVb) HNE (by have:=HVn.out;omega) (by have:=hLe.out;omega) (by have:=hLe.out;omega) hS.lim2 HVL q3 HZZ (by rw[VT.out];exact HV0.out) (by rw[VT.out];exact q1) (by rw[VT.out];exact q2));rw[VT.out] at HD;have HGa:=I (hG.trans Ga);have HOa:Hid (Lb wa go o):=Gr.bk Ga hO;have HVa:Hid (Lb wa gv vv):=Gr.bk Ga hVb;clear q1 q2 q3 Ga HE hG hO hVb hU;go_wp2_with fail;refine HD.mono ?_;rintro e wb ⟨L2,rfl,hU2,hl2,hn2',hv2,hF⟩;have HGb:Hid (Gr w wb):=HGa.fr_at hF HLg;have HOb:Hid (Lb wb go o):=Fr.bk hF HOa (fun h=>hou.out h.symm);have HVb2:Hid (Lb wb gv vv):=Fr.bk hF HVa HNE;have HST:=I (hS.step om HV0 hl2 hv2);have HU2:=I hU2;have HL2n:Hid (L2.length=r+(k+1)+1):=by rw[hn2'];exact hLe.out
   have fz:=HOb.fz;have q0:=HOb.cell (hS.zer t (Nat.lt_succ_self t) om);generalize val L' / (B32 ^ t*(b*2 ^ s))=Q at*;have HO3:=I (HOb.put t Q);have HG3:=I (HGb.set (p:=⟨go,t,none⟩) hog (lv Q));have HU3:Hid (Lb (wb.setCell ⟨go,t,none⟩ (lv Q)) gu L2):=Fr.bk (Fr.set (X:=fun b=>b=go) wb ⟨go,t,none⟩ (lv Q) rfl) HU2 hou;have HV3:Hid (Lb (wb.setCell ⟨go,t,none⟩ (lv Q)) gv vv):=Fr.bk (Fr.set (X:=fun b=>b=go) wb ⟨go,t,none⟩ (lv Q) rfl) HVb2 hov;clear hU2 hl2 hn2' hv2 hF HD HGa HOa HVa hS hLe;go_wp2;go_roundw
   case rel=>exact⟨t,_,L2,by go_num,by omega,HST,HL2n,HU3,HO3,HV3,HG3⟩
   case measure=>first | (simp[intOf];done) | (simp[intOf];omega)
theorem afl (w:World) (x y:Sv) (a b:Nat) (hx:x.Num w (a7 a)) (hy:y.Num w (a7 b)) (ha:(a7 a).length≤1000000) (hab:a < b) (hb:B32≤b) (hbl:(a7 b).length≤1000000):
  Calls Tryz.prog 268 #[x.v,y.v] w fun e w'=>∃p q:Sv,e=.returned (.tuple #[p.v,q.v,.int .i64 0])∧p.Num w' (a7 (a / b))∧q.Num w' (a7 (a % b))∧Gr w w':=by
 have H1:=I (bx w x _ hx);rw[vl] at H1;have HY:=I hy;have HA:=I ha;have HAB:=I hab;have HL2:Hid (2≤(a7 b).length):=by
  have h:2≤(a7 b).length:=Nat.lt_of_not_le fun h=>by
   have h1:=f9 b;have h2:B32 ^ (a7 b).length≤B32 ^ 1:=zS dx h;rw[Nat.pow_one] at h2;omega
  exact h
 have HBL:=I hbl;clear hx hy ha hab hb hbl;go_enter Tryz.func268,Tryz.ntmps268;go_wp2_with fail;refine cm1 H1 fun u w1 HU G1=>?_
 have HG1:=I G1;have H2:=I (bx w1 y _ (HY.gr G1));rw[vl] at H2;clear H1 HY;go_wp2_with fail;refine cm2 H2 fun v w2 hv G2=>?_
 have HG2:=I (HG1.trans G2);have HU2:=I (HU.gr G2);have HV:=I hv;have H3:=I (m5 w2 u v _ _ (HU.gr G2) hv);rw[vl,vl] at H3;clear hv HG1 HU H2;obtain⟨A,m,c⟩:=u;obtain⟨B,n,d⟩:=v;have HN:=I HV.len;simp only[Sv.v] at*;have hn9:n≤1000000:=by rw[← HN.out];exact HBL.out
 have hn2:2≤n:=by rw[← HN.out];exact HL2.out
 have hz0:((n:Int) == 0)=false:=by simp;omega
 have hc0:decide (cmpN a b < 0)=true:=by rw[pf HAB.out];rfl
 have H4:=I (fun W hW=>ng W ⟨A,m,c⟩ _ (HU2.gr hW) HA);rw[vl] at H4;have E1:Hid (a / b=0):=Nat.div_eq_of_lt HAB;have E2:Hid (a % b=a):=Nat.mod_eq_of_lt HAB;go_wp2_with fail;refine cm0 H3 fun w3 G3=>?_
 have HG3:=I (HG2.trans G3);have HH:=I G3;clear HG2 H3;go_wp2_with fail;refine cm1 (H4.out _ HH) fun z w4 HZ G4=>?_
 have HG4:=I (HG3.trans G4);clear H4;go_wp2;go_returns;exact⟨Sv.none,z,rfl,by rw[E1.out,al];exact Sv.Num.none _,by rw[E2.out];exact HZ.out,HG4.out⟩
theorem nu (w:World) (x y:Sv) (a b:Nat) (hx:x.Num w (a7 a)) (hy:y.Num w (a7 b)) (ha:(a7 a).length≤1000000) (hb:(a7 b).length≤1000000) (hb0:0 < b):
  Calls Tryz.prog 268 #[x.v,y.v] w fun e w'=>∃p q:Sv,e=.returned (.tuple #[p.v,q.v,.int .i64 0])∧p.Num w' (a7 (a / b))∧q.Num w' (a7 (a % b))∧Gr w w':=by
 rcases zU b B32 with h | h
 ·exact akd w x y a b hx hy ha hb0 h
 ·rcases zU a b with h2 | h2
  ·exact afl w x y a b hx hy ha h2 h hb
  ·exact afm w x y a b hx hy ha h2 h
theorem wh (w:World) (ad:Addr):Sv.Num w ⟨some ad,0,0⟩ []:=⟨⟨by simp,nr _,by simp,fun e=>(by cases e),Sees.nil⟩,Lim.nil,fun _ _ h=>absurd h (ni _)⟩
theorem a2p {P:Program} {t tx e e':TypeId} (ht:P.underlying t=some (.slice e)) (hx:P.underlying tx=some (.slice e')) (ty:TypeId) (b:Option Addr) (n c:Nat) (x:Value) (w:World):
  (Builtin.append_ #[t,tx] ty #[.slice b n c,x]).run P w=(Builtin.append_ #[t,t] ty #[.slice b n c,x]).run P w:=by
 simp[Builtin.append_,run_underlying ht,run_underlying hx]
theorem a30 {P:Program} {t tx e size bytes:Nat} (h:ElemS P t e size bytes) (hu:P.underlying tx=some (.slice e)) {w:World} {ops:Array Oper} {rest:List Oper} {o:Oper} {a:Act} {Q:Exit→Act→World→Prop} (hgd:o.guard=none) (s x:Operand) (ho:o.op=.call { callee:=.builtin .append,args:=#[s,x],argTypes:=#[t,tx] })
  (base:Nat) (v:Value) (n:Nat) (xs:List Value) (hs:a.eval s=v) (hown:w.ownsRow base e size v n xs) (ad:Addr) (m c:Nat) (news:List Value) (hx:a.eval x=.slice (some ad) m c) (hl:news.length=m*size) (hnews:∀j u,news[j]?=some u→w.cell? (ad.add j)=some u) (h1:∀u∈news,u.oneCell'=true)
  (h63:n+m≤maxLen) (hbytes:(n+m)*bytes≤140737488355328) (hbase:base≤w.heap.size)
  (hK:∀v' w',w'.ownsRow base e size v' (n+m) (xs++news)→w.grownBy w' v.ownBlock→(v'.ownBlock=v.ownBlock∨v'.ownBlock=some w.heap.size)→wpList P ops Q rest (a.put o.dst v') w'):
  wpList P ops Q (o::rest) a w:=by
 obtain⟨i,z,hi,hz,hsz,hby,hzs⟩:=h.hi;obtain⟨v',w',hrun,h2,h3,_,h5⟩:=run_append_own_at (P:=P) w base t o.type e i z size bytes h.ht hi hz hsz hby hzs h.pos v n xs hown ad m c news hl hnews h1 h63 hbytes hbase;obtain⟨b0,c0,rfl⟩:=ahn hown;rw[← a2p h.ht hu] at hrun;refine wpList_plain hgd fun _ hK'=>?_
 unfold Oper.wp execOp;simp only[ho,resolve,invoke,builtin,Sem.run_bind,Sem.run_pure,Result.andThen_ok,List.map_toArray,List.map_cons,List.map_nil,hs,hx,hrun];exact hK' _ _ (hK v' w' h2 h3 h5)
def Sv.New (w:World) (y:Sv):Prop:=∀ad,y.A=some ad→w.heap.size≤ad.block
theorem xw (w:World) (x:Sv) (l:List Nat) (h:x.Num w l) (hl9:l.length≤1000000):
  Calls Tryz.prog 109 #[x.v] w fun e w'=>∃y:Sv,e=.returned y.v∧y.Num w' (a7 (val l))∧Gr w w'∧y.New w:=by
 obtain⟨A,n,c⟩:=x;have HI:=I h;have hn:=h.is.cap;have hc:=h.is.max;have HL:=I h.len;simp only at hn hc HL ⊢;have hn9:n≤1000000:=by rw[← HL.out];exact hl9
 have HU:=I (show Tryz.prog.underlying 32=some (.slice 200) by kernel_rfl);clear h hl9;go_enter Tryz.func109,Tryz.ntmps109;go_wp2;go_loopw [3] (fun s wr=>∃k:Nat,s=.int .i64 k∧k≤n∧Hid (∀i x,k≤i→l[i]?=some x→x=0)∧Hid (Gr w wr)) (fun s _=>(intOf s).toNat)
 case atStart=>exact⟨n,rfl,nr _,(fun i x hi hx=>by rw[List.getElem?_eq_none (by rw[HL.out];exact hi)] at hx;cases hx),Gr.refl w⟩
 case round=>
  obtain⟨k,rfl,hk,hZ,hG⟩:=hrel;cases k with
  | zero=>
   have HE:Hid (a7 (val l)=[]):=by
    rw[← v8 (k:=0) HI.lim (nq _) hZ.out (fun x hx=>absurd hx om)];exact List.take_zero
   cases A with
   | none=>
    go_wp2;go_ret;exact⟨⟨some ⟨wr.heap.size,0,none⟩,0,0⟩,rfl,by rw[HE.out];exact wh _ _,hG.alloc _,fun ad h=>by injection h with h;subst h;exact hG.size⟩
   | some ad=>
    go_wp2;go_ret;exact⟨⟨some ⟨wr.heap.size,0,none⟩,0,0⟩,rfl,by rw[HE.out];exact wh _ _,hG.alloc _,fun ad h=>by injection h with h;subst h;exact hG.size⟩
  | succ j=>
   obtain⟨y,ad,hy,hy9,hA,hb,d⟩:=(HI.gr hG).at (i:=j) hk;simp only at hA;subst hA;have hw1:IntKind.i64.wrap ((j:Int)+1 - 1)=(j:Int):=by rw[wi _ om];omega
   have hw2:IntKind.i64.wrap (((j+1:Nat):Int) - 1)=(j:Int):=by rw[wi _ om];omega
   by_cases hy0:y=0
   ·subst hy0;have HZ:=I (uw hZ hy);clear hy hy9 hb hZ;go_wp2;go_roundw
    case rel=>exact⟨j,by go_num,by omega,HZ,hG⟩
    case measure=>first | (simp[intOf];done) | (simp[intOf];omega)
   ·have HT:=I (v8 (k:=j+1) HI.lim (by rw[HL.out];exact hk) hZ (fun x _ hx=>by
     rw[Nat.add_sub_cancel,hy] at hx;injection hx with hx;omega))
    have HY:=I ((HI.gr hG).take (k:=j+1) hk);rw[HT.out] at HY;have HO:Hid ((wr.alloc (.cells #[] 200)).ownsRow wr.heap.size 200 1 (.slice (some ⟨wr.heap.size,0,none⟩) 0 0) 0 []):=⟨rfl,.inr ⟨wr.heap.size,0,#[],rfl,nr _,Bk.made _ _ _,nr _,nq _,rfl,rfl⟩⟩;have HC:Hid (∀i u,((a7 (val l)).map lv)[i]?=some u→(wr.alloc (.cells #[] 200)).cell? (ad.add i)=some u):=(HY.is.gr ((Gr.refl wr).alloc _)).cells rfl;have H1:Hid (((a7 (val l)).map lv).length=(j+1)*1):=HY.is.len;have HL1:Hid (∀u∈(a7 (val l)).map lv,u.oneCell'=true):=fun u hu=>by
     obtain⟨y,_,rfl⟩:=List.mem_map.1 hu;rfl
    clear hy hy9 hb hZ;go_wp2_with (at_builtin;refine a30 elemN HU.out rfl _ _ rfl wr.heap.size (.slice (some ⟨wr.heap.size,0,none⟩) 0 0) 0 [] rfl HO.out ad (j+1) c ((a7 (val l)).map lv) rfl H1.out HC.out HL1.out (by unfold maxLen;omega) om (by simp) ?_;intro v' w' h2 h3 h5);go_wp2;go_ret;rw[Nat.zero_add,zX] at h2;obtain⟨z,rfl,_,hz,hty⟩:=Sv.of_row h2 dx;refine⟨z,rfl,⟨hz,f8 _,hty⟩,hG.trans (Gr.of_own h3),fun ad h=>?_⟩;rcases h2.2 with ⟨e,_⟩ | ⟨g,cap,cur,e,hb,_⟩
    ·simp only[Sv.v,Value.slice.injEq] at e;rw[e.1] at h;cases h
    ·simp only[Sv.v,Value.slice.injEq] at e;rw[e.1] at h;injection h with h;subst h;exact nt hG.size hb
theorem f7 (w:World) (x:Sv) (l:List Nat) (h:x.Num w l) (hl9:l.length≤1000000):
  Calls Tryz.prog 109 #[x.v] w fun e w'=>∃y:Sv,e=.returned y.v∧y.Num w' (a7 (val l))∧Gr w w':=
 (xw w x l h hl9).mono fun _ _ ⟨y,h1,h2,h3,_⟩=>⟨y,h1,h2,h3⟩
theorem z9 (w:World) (x:Nat) (hx:x < 18446744073709551616):Calls Tryz.prog 107 #[.int .u64 x] w fun e w'=>∃z:Sv,e=.returned z.v∧z.Num w' (a7 x)∧Gr w w':=by
 obtain⟨lo,hi,hlo,hhi,e⟩:∃lo hi,lo < B32∧hi < B32∧x=lo+B32*hi:=⟨x % B32,x / B32,Nat.mod_lt _ dx,Nat.div_lt_of_lt_mul (by rw[ba];omega),(Nat.mod_add_div x B32).symm⟩;have E1:(x:Int) % 4294967296=lo:=by rw[ba] at e hlo;omega
 have E2:(x:Int) / 4294967296=hi:=by rw[ba] at e hlo hhi;omega
 have HR:Hid (Lb (w.alloc (.cells #[.int .u32 lo,.int .u32 hi] 200)) w.heap.size [lo,hi]):=Bk.made w 200 #[.int .u32 lo,.int .u32 hi];have HG:=I ((Gr.refl w).alloc (.cells #[.int .u32 lo,.int .u32 hi] 200));have HT:=I (f7 _ ⟨some ⟨w.heap.size,0,none⟩,2,2⟩ [lo,hi] (fo HR (fun y hy=>by simp at hy;rcases hy with rfl | rfl<;>assumption) rfl dx) (by simp));rw[show val [lo,hi]=x by rw[e];simp[val]] at HT;clear e;go_enter Tryz.func107,Tryz.ntmps107;go_wp2_with fail;refine cm1 HT fun z w1 HZ G1=>?_
 have HG1:=I (HG.trans G1);clear HT;go_wp2;go_ret;exact⟨z,rfl,HZ.out,HG1.out⟩
theorem ln (w:World) (x:Sv) (l:List Nat) (i:Nat) (hx:x.Num w l) (hi:i≤1000000000):
  Calls Tryz.prog 108 #[x.v,.int .i64 i] w fun e w'=>e=.returned (.int .u32 (lim0 l i))∧w'=w:=by
 obtain⟨A,n,c⟩:=x;have hl:=hx.len;simp only at hl;by_cases h:i < n
 ·obtain⟨p,ad,hp,hp9,hA,hb,d⟩:=hx.at (i:=i) h;simp only at hA;subst hA;have HE:=I (jn hp);clear hp hp9 hb hx hl;go_enter Tryz.func108,Tryz.ntmps108;go_wp2;go_ret;exact⟨by rw[HE.out];rfl,rfl⟩
 ·have HE:Hid (lim0 l i=0):=gw om;have hd:decide ((i:Int) < n)=false:=by simp;omega
  clear hx hl;go_enter Tryz.func108,Tryz.ntmps108;go_wp2;go_ret;exact⟨by rw[HE.out];rfl,rfl⟩
theorem vg (w:World) (x:Sv) (m:Nat) (hx:x.Num w (a7 m)) (hm:m < 18446744073709551616):
  Calls Tryz.prog 167 #[x.v] w fun e w'=>e=.returned (.tuple #[.int .u64 m,.bool true])∧Gr w w':=by
 have hl2:(a7 m).length≤2:=b8 (by rw[ba];exact hm);have H1:=I (f7 w x _ hx (nt hl2 dx));rw[vl] at H1;clear hx;go_enter Tryz.func167,Tryz.ntmps167;go_wp2_with fail;go_at_call 109
 refine cm2 H1 fun u w1 hu G1=>?_
 obtain⟨A,n,c⟩:=u;have hn:=hu.len;simp only at hn;have HU:=I hu;have HG1:=I G1;have HN:=I hn;rw[hn] at hl2;clear hu H1 hn;simp only[Sv.v] at*;rcases (show n=0∨n=1∨n=2 by omega) with rfl | rfl | rfl
 ·have HE:Hid (m=0):=bw.1 HN;go_wp2;go_returns;exact⟨by rw[HE.out];rfl,HG1.out⟩
 ·obtain⟨p,ad,hp,hp9,hA,hb,d⟩:=HU.at (i:=0) Nat.one_pos;simp only at hA;subst hA;have HE:Hid (m=p):=by
   have h:=vl m
   match hh:a7 m,HN.out with
   | [z],_=>
    rw[hh] at hp h;obtain rfl:z=p:=by simpa using hp
    rw[← h];exact (show val [z]=z by simp[val])
  rw[add_zero] at d;clear hp hb;rw[ba] at hp9;go_wp2;go_returns;exact⟨by rw[HE.out];rfl,HG1.out⟩
 ·obtain⟨p,ad,hp,hp9,hA,hb,d⟩:=HU.at (i:=0) (nm Nat.one_pos (Nat.lt_succ_self _));obtain⟨q,ad2,hq,hq9,hA2,hb2,d'⟩:=HU.at (i:=1) (Nat.lt_succ_self _);simp only at hA hA2;subst hA;injection hA2 with hA2;subst hA2;have HE:Hid (m=p+B32*q):=by
   have h:=vl m
   match hh:a7 m,HN.out with
   | [z,y],_=>
    rw[hh] at hp hq h;obtain rfl:z=p:=by simpa using hp
    obtain rfl:y=q:=by simpa using hq
    rw[← h];exact (show val [z,y]=z+B32*y by simp[val])
  rw[add_zero] at d;have d2:w1.drew.cell? ⟨ad.block,ad.off+1,none⟩=some (.int .u32 (q:Int)):=d';have d1:w1.drew.cell? ad=some (.int .u32 (p:Int)):=d;clear hp hq hb hb2 d';rw[ba] at hp9 hq9;have E0:=I (ah0 hp9 hq9);go_wp2;go_region
  all_goals go_wp2
  all_goals go_returns
  all_goals exact⟨by rw[HE.out,← E0.out];rfl,HG1.drew⟩
theorem ad6 (w:World) (x y:Sv) (a b:Nat) (hx:x.Num w (a7 a)) (hy:y.Num w (a7 b)) (ha:a < 18446744073709551616) (hb0:0 < b) (hb:b < 18446744073709551616):
  Calls Tryz.prog 113 #[x.v,y.v] w fun e w'=>∃p q:Sv,e=.returned (.tuple #[p.v,q.v,.int .i64 0])∧p.Num w' (a7 (a / b))∧q.Num w' (a7 (a % b))∧Gr w w':=by
 have H1:=I (vg w x a hx ha);have HY:=I hy;have hbd:((b:Int) == 0)=false:=by simp;omega
 have hbd2:¬(b:Int)=0:=by omega
 have hbd3:¬b=0:=by omega
 have hq:a / b < 18446744073709551616:=nj (Nat.div_le_self a b) ha;have hr:a % b < 18446744073709551616:=nj (Nat.mod_le a b) ha;have E1:(a:Int) / (b:Int)=((a / b:Nat):Int):=(Int.natCast_ediv a b).symm;have E2:(a:Int) % (b:Int)=((a % b:Nat):Int):=(Int.natCast_emod a b).symm;have E3:=tm a b;have E4:=tl a b;have HD1:=I (fun W=>z9 W (a / b) hq);have HD2:=I (fun W=>z9 W (a % b) hr);generalize a / b=qv at*;generalize a % b=rv at*;have E5:IntKind.u64.wrap (qv:Int)=(qv:Int):=IntWalk.u64_in _ om;clear hx hy;go_enter Tryz.func113,Tryz.ntmps113;go_wp2_with fail;go_at_call 167
 refine cm0 H1 fun w1 G1=>?_
 have HG1:=I G1;have H2:=I (vg w1 y b (HY.gr G1) hb);clear H1;go_wp2_with fail;go_at_call 167
 refine cm0 H2 fun w2 G2=>?_
 have HG2:=I (HG1.trans G2);clear H2 HG1 HY;go_wp2_with fail
 first | (go_region_held3 (fun W=>True) (first | go_keep | trivial) (first | (go_at_call 107;refine (HD2.out w3).mono ?_;rintro e w4 ⟨v,rfl,hv,G4⟩;have HV:=I hv;have HU4:=I (HU.out.gr G4);have HG4:=I (HG3.out.trans G4);clear hv G4) | (go_at_call 107;refine (HD1.out _).mono ?_;rintro e w3 ⟨u,rfl,hu,G3⟩;have HU:=I hu;have HG3:=I (HG2.out.drew.trans G3);clear hu G3))) | fail
 go_wp2;go_returns;exact⟨u,v,rfl,HU4.out,HV.out,HG4.out⟩
theorem a7d {w:World} {x:Sv} {l l':List Nat} (h:x.Num w l) (h':x.Num w l'):l=l':=by
 apply List.ext_getElem?
 intro i;rcases zU i x.n with hi | hi
 ·obtain⟨y,ad,hy,_,hA,_,hc⟩:=h.at hi;obtain⟨z,ad',hz,_,hA',_,hc'⟩:=h'.at hi;rw[hA] at hA';injection hA' with hA';subst hA';rw[hc] at hc';simp only[oq,Value.int.injEq,true_and] at hc';rw[hy,hz];exact congrArg some om
 ·rw[List.getElem?_eq_none (by rw[h.len];exact hi),List.getElem?_eq_none (by rw[h'.len];exact hi)]
open Classical in
noncomputable def aeu (w:World) (v:Value):Nat:=if h:∃m,∃x:Sv,v=x.v∧x.Num w (a7 m) then Classical.choose h else 0
theorem uk {w:World} {x:Sv} {m:Nat} (h:x.Num w (a7 m)):aeu w x.v=m:=by
 have he:∃m,∃y:Sv,x.v=y.v∧y.Num w (a7 m):=⟨m,x,rfl,h⟩;unfold aeu;rw[dif_pos he];obtain⟨y,hy,hn⟩:=Classical.choose_spec he;obtain⟨A,n,c⟩:=x;obtain⟨B,k,d⟩:=y;simp only[Sv.v,Value.slice.injEq] at hy;obtain⟨rfl,rfl,rfl⟩:=hy;exact qx (a7d hn h)
theorem afb (w:World) (x y:Sv) (a b:Nat) (hx:x.Num w (a7 a)) (hy:y.Num w (a7 b)) (ha:(a7 a).length≤1000000) (hb:(a7 b).length≤1000000) (hb0:0 < b):
  Calls Tryz.prog 267 #[x.v,y.v] w fun e w'=>∃p:Sv,e=.returned p.v∧p.Num w' (a7 (Nat.gcd a b))∧Gr w w':=by
 have H1:=I (bx w x _ hx);rw[vl] at H1;have HY:=I hy;have HA:=I ha;have HB:=I hb;clear hx hy ha hb hb0;go_enter Tryz.func267,Tryz.ntmps267;go_wp2_with fail;refine cm1 H1 fun u w1 HU G1=>?_
 have HG1:=I G1;have H2:=I (bx w1 y _ (HY.gr G1));rw[vl] at H2;clear H1 HY;go_wp2_with fail;refine cm1 H2 fun v w2 HV G2=>?_
 have HG2:=I (HG1.trans G2);have HU2:=I (HU.gr G2);clear HG1 HU H2;simp only[Sv.v] at*;go_wp2;go_loopw [0,1] (fun s0 s1 wr=>∃(p q:Sv) (m n:Nat),s0=.slice p.A p.n p.c∧s1=.slice q.A q.n q.c∧Hid ((a7 m).length≤1000000)∧Hid ((a7 n).length≤1000000)∧Hid (Nat.gcd m n=Nat.gcd a b)∧Hid ((a7 n).length=q.n)∧Hid (p.Num wr (a7 m))∧Hid (q.Num wr (a7 n))∧Hid (Gr w wr)) (fun _ s1 wr=>aeu wr s1)
 case atStart=>exact⟨u,v,a,b,rfl,rfl,HA,HB,rfl,HV.len,HU2,HV,HG2⟩
 case round=>
  obtain⟨p,q,m,n,rfl,rfl,hm,hn,hgc,hln,hP,hQ,hG⟩:=hrel;clear HU2 HV HG2 HA HB;by_cases h2:2 < q.n
  ·have hq0:decide ((2:Int) < q.n)=true:=by simp;omega
   have hn0:0 < n:=by
    rcases Nat.eq_zero_or_pos n with h | h
    ·have:=hln.out;rw[h,al] at this;simp at this;omega
    ·exact h
   have HD:=I (nu wr p q m n hP hQ hm hn hn0);have hmn:m % n < n:=Nat.mod_lt _ hn0;have HN:Hid (Nat.gcd n (m % n)=Nat.gcd a b):=by rw[← hgc.out,Nat.gcd_comm m n,Nat.gcd_rec n m,Nat.gcd_comm];exact rfl
   have HR9:Hid ((a7 (m % n)).length≤1000000):=nt (aq (Nat.le_of_lt hmn)) hn;have HM:=I (uk hQ);simp only[Sv.v] at HM;generalize m % n=rr at*;go_wp2_with fail;refine HD.mono ?_;rintro e w3 ⟨z,r,rfl,hz,hr,G3⟩;have HQ3:=I (hQ.gr G3);have HR:=I hr;have HG3:=I (hG.trans G3);have HM2:=I (uk hr);simp only[Sv.v] at HM2;clear hz hr G3 HD;simp only[Sv.v];go_wp2;go_roundw
   case rel=>exact⟨q,r,n,rr,rfl,rfl,hn,HR9,HN,HR.len,HQ3,HR,HG3⟩
   case measure=>
    rw[HM.out,HM2.out];exact hmn
  ·have hq0:decide ((2:Int) < q.n)=false:=by simp;omega
   by_cases h0:q.n=0
   ·have hz0:((q.n:Int) == 0)=true:=by simp[h0]
    have hgg:Hid (Nat.gcd a b=m):=by
     have h:n=0:=bw.1 (hln.trans h0);rw[← hgc.out,h];exact Nat.gcd_zero_right m
    have HMK:=I (fun W hW=>ng W p _ (hP.gr hW) hm);rw[vl] at HMK;clear h2 h0;go_wp2_with fail;refine cm1 (HMK.out _ (Gr.refl _)) fun z w4 HZ G4=>?_
    have HG4:=I (hG.trans G4);clear HMK;go_wp2;go_ret;exact⟨z,rfl,by rw[hgg.out];exact HZ.out,HG4.out⟩
   ·have hz0:((q.n:Int) == 0)=false:=by simp;omega
    have hn0:0 < n:=by
     rcases Nat.eq_zero_or_pos n with h | h
     ·have:=hln.out;rw[h,al] at this;simp at this;omega
     ·exact h
    have hn9:n < 18446744073709551616:=by
     have h1:=f9 n;have h3:B32 ^ (a7 n).length≤B32 ^ 2:=zS dx (by rw[hln.out];omega);have h4:B32 ^ 2=18446744073709551616:=by decide
     omega
    have H3:=I (nu wr p q m n hP hQ hm hn hn0);have hr9:m % n < 18446744073709551616:=nm (Nat.mod_lt _ hn0) hn9;have HGC:Hid (Nat.gcd n (m % n)=Nat.gcd a b):=by rw[← hgc.out,Nat.gcd_comm m n,Nat.gcd_rec n m,Nat.gcd_comm];exact rfl
    clear h2 h0;go_wp2_with fail;refine H3.mono ?_;rintro e w3 ⟨z,r,rfl,hz,hr,G3⟩;have HG3:=I (hG.trans G3);have H4:=I (a4c w3 q n (hQ.gr G3) hn9);have HR:=I hr;clear hz hr G3 H3;generalize m % n=rr at*;go_wp2_with fail;refine cm0 H4 fun w4 G4=>?_
    have HG4:=I (HG3.trans G4);have H5:=I (a4c w4 r rr (HR.gr G4) hr9);clear H4;go_wp2_with fail;refine cm0 H5 fun w5 G5=>?_
    have HG5:=I (HG4.trans G5);clear H5;go_wp2;go_loopw [11,13] (fun s s' wx=>∃c d:Nat,s=.int .u64 c∧s'=.int .u64 d∧c < 18446744073709551616∧d < 18446744073709551616∧Hid (Nat.gcd c d=Nat.gcd a b)∧Hid (Gr w wx)) (fun _ s' _=>(intOf s').toNat)
    case atStart=>exact⟨n,rr,rfl,rfl,hn9,hr9,HGC,HG5⟩
    case round=>
     obtain⟨c,d,rfl,rfl,hc,hd,hgd,hGx⟩:=hrel;by_cases h0:0 < d
     ·have HN:Hid (Nat.gcd d (c % d)=Nat.gcd a b):=by rw[← hgd.out,Nat.gcd_comm c d,Nat.gcd_rec d c,Nat.gcd_comm];exact rfl
      have hlt:c % d < d:=Nat.mod_lt _ h0;have E0:Hid ((c:Int) % (d:Int)=((c % d:Nat):Int)):=(Int.natCast_emod c d).symm;have HGd:Hid (Gr w wr.drew):=hGx.drew;have hq0:¬(d:Int)=0:=by omega
      have hq1:((d:Int) == 0)=false:=by simp;omega
      go_wp2;go_region
      all_goals go_wp2
      all_goals go_roundw
      all_goals rw[E0.out]
      all_goals first
       | exact⟨d,c % d,rfl,rfl,hd,by omega,HN,HGd⟩
       | (simp[intOf];exact hlt)
       | (simp[intOf];omega)
     ·obtain rfl:d=0:=by omega
      have hgg:Hid (Nat.gcd a b=c):=by rw[← hgd.out];exact Nat.gcd_zero_right c
      have HO:=I (fun W=>aao W c hc);go_wp2_with fail;refine cm1 (HO.out _) fun z w6 HZ G6=>?_
      have HG6:=I (hGx.trans G6);clear HO;go_wp2;go_ret;exact⟨z,rfl,by rw[hgg.out];exact HZ.out,HG6.out⟩
abbrev Sl (n:Nat):Prop:=(a7 n).length≤100000
abbrev Two (x y:Q):Prop:=Sl x.un∧Sl y.un
theorem Sl.big {n:Nat} (h:Sl n):(a7 n).length≤1000000:=nt h dx
theorem ud (w:World) (s:Bool) (x y:Sv) (a b:Nat) (hx:x.Num w (a7 a)) (hy:y.Num w (a7 b)) (ha:(a7 a).length≤1000000) (hb0:0 < b) (hb:(a7 b).length≤1000000):
  Calls Tryz.prog 216 #[.bool s,x.v,y.v] w fun e w'=>∃r:Rv,e=.returned r.v∧r.Is w' (quot s a b)∧Gr w w':=by
 have b1:=Bk.made w 35 Rl;have HG1:=I ((Gr.refl w).alloc (.cells Rl 35));have HB:=I b1;have H1:=I (ng _ x _ (hx.gr HG1) ha);rw[vl] at H1;have HY:=I (hy.gr HG1);have HA:=I ha;have HBB:=I hb;clear hx hy ha hb b1;go_enter Tryz.func216,Tryz.ntmps216;go_wp2_with fail;refine cm1 H1 fun u w1 HU G1=>?_
 have HG2:=I (HG1.trans G1);have HB2:=I (G1.bk HB);have H2:=I (ng w1 y _ (HY.gr G1) HBB);rw[vl] at H2;have hpz:=I (nr w.heap.size);clear H1 HY HB;generalize hpe:w.heap.size=p at*;have HPE:=I hpe;clear hpe;obtain⟨A,n,c⟩:=u;have HN:=I HU.len;simp only[Sv.v] at*;by_cases h0:a=0
 ·have hn0:n=0:=by rw[← HN.out,h0,al];rfl
  subst hn0;have HQ:Hid (quot s a b=Q.zero):=by unfold quot;exact if_pos h0
  clear h0;have c0_:=HB2.c3;have fz:=HB2.frozen;go_wp2;refine pex ?_;refine ks HB2 fun W5 B5 F5=>?_
  have d_:=B5.c3;refine bret Tryz.results216 ?_;exact⟨⟨false,Sv.none,Sv.none⟩,rfl,by rw[HQ.out];exact⟨rfl,by rw[al];exact Sv.Num.none _,by rw[al];exact Sv.Num.none _⟩,HG2.fr_at F5 (Nat.le_of_eq HPE)⟩
 ·have hn0:n≠0:=fun e=>h0 (bw.1 (HN.trans e))
  have hnd:((n:Int) == 0)=false:=by simp;omega
  go_wp2_with fail;refine cm2 H2 fun v w2 hv G2=>?_
  have HV:=I hv;have HG3:=I (HG2.trans G2);have HU3:=I (HU.gr G2);have HB3:=I (G2.bk HB2);have H3:=I (th w2 v b hv);clear hv HG2 HU HB2 H2;go_wp2_with fail;refine cm0 H3 fun w3 G3=>?_
  have HG4:=I (HG3.trans G3);have HU4:=I (HU3.gr G3);have HV4:=I (HV.gr G3);have HB4:=I (G3.bk HB3);clear HG3 HU3 HB3 H3 HV;by_cases hb1:b=1
  ·have hbd:decide (b=1)=true:=by simp[hb1]
   have HQ:Hid (quot s a b=⟨s,a,0⟩):=by
    unfold quot;rw[if_neg h0,hb1,Nat.gcd_one_right,Nat.div_one];exact rfl
   have c0_:=HB4.c3;have fz:=HB4.frozen;go_wp2;refine pex ?_;refine ks HB4 fun W5 B5 F5=>?_
   have d_:=B5.c3;refine bret Tryz.results216 ?_;exact⟨⟨s,⟨A,n,c⟩,Sv.none⟩,rfl,by rw[HQ.out];exact⟨rfl,(HU4.fr F5 HB4 (b7 _ _ _ _ _ _ _)),by rw[al];exact Sv.Num.none _⟩,HG4.fr_at F5 (Nat.le_of_eq HPE)⟩
  ·have hbd:decide (b=1)=false:=by simp[hb1]
   have H5:=I (afb w3 ⟨A,n,c⟩ v a b HU4 HV4 HA HBB hb0);have hg0:0 < Nat.gcd a b:=Nat.gcd_pos_of_pos_right a hb0;have hgb:(a7 (Nat.gcd a b)).length≤1000000:=nt (aq (Nat.le_of_dvd hb0 (Nat.gcd_dvd_right a b))) HBB;have HQ0:Hid (quot s a b=⟨s,a / Nat.gcd a b,den0 (b / Nat.gcd a b)⟩):=by unfold quot;exact if_neg h0
   go_wp2_with fail;refine cm2 H5 fun z w4 hz G4=>?_
   have HZ:=I hz;have HG5:=I (HG4.trans G4);have HU5:=I (HU4.gr G4);have HV5:=I (HV4.gr G4);have HB5:=I (G4.bk HB4);have H6:=I (th w4 z _ hz);clear hz HG4 HU4 HV4 HB4 H5;generalize Nat.gcd a b=g at*;go_wp2_with fail;refine cm0 H6 fun w5 G5=>?_
   have HG6:=I (HG5.trans G5);have HU6:=I (HU5.gr G5);have HV6:=I (HV5.gr G5);have HZ6:=I (HZ.gr G5);have HB6:=I (G5.bk HB5);clear HG5 HU5 HV5 HB5 H6 HZ;by_cases hg1:g=1
   ·have hgd:decide (g=1)=true:=by simp[hg1]
    have HQ:Hid (quot s a b=⟨s,a,b⟩):=by
     rw[HQ0.out,hg1,Nat.div_one,Nat.div_one];exact congrArg (Q.mk s a) (if_neg hb1)
    have H7:=I (th w5 v b HV6);go_wp2_with fail;refine cm0 H7 fun w6 G6=>?_
    have HG7:=I (HG6.trans G6);have HU7:=I (HU6.gr G6);have HV7:=I (HV6.gr G6);have HB7:=I (G6.bk HB6);clear H7;have c0_:=HB7.c3;have fz:=HB7.frozen;go_wp2;refine pex ?_;refine ks HB7 fun W5 B5 F5=>?_
    have d_:=B5.c3;refine bret Tryz.results216 ?_;exact⟨⟨s,⟨A,n,c⟩,v⟩,rfl,by rw[HQ.out];exact⟨rfl,(HU7.fr F5 HB7 (b7 _ _ _ _ _ _ _)),(HV7.fr F5 HB7 (b7 _ _ _ _ _ _ _))⟩,HG7.fr_at F5 (Nat.le_of_eq HPE)⟩
   ·have hgd:decide (g=1)=false:=by simp[hg1]
    have H7:=I (nu w5 ⟨A,n,c⟩ z a g HU6 HZ6 HA hgb hg0);go_wp2_with fail;refine H7.mono ?_;rintro e w6 ⟨q1,r1,rfl,hq1,hr1,G6⟩;have HN1:=I hq1;have HG7:=I (HG6.trans G6);have HB7:=I (G6.bk HB6);have H8:=I (nu w6 v z b g (HV6.gr G6) (HZ6.gr G6) HBB hgb hg0);clear hq1 hr1 G6 H7 HG6 HB6;go_wp2_with fail;refine H8.mono ?_;rintro e w7 ⟨q2,r2,rfl,hq2,hr2,G7⟩;have HN2:=I hq2;have HN3:=I (HN1.gr G7);have HG8:=I (HG7.trans G7);have HB8:=I (G7.bk HB7);have H9:=I (th w7 q2 _ hq2);clear hq2 hr2 G7 H8 HG7 HB7 HN1;go_wp2_with fail;refine cm0 H9 fun w8 G8=>?_
    have HN4:=I (HN2.gr G8);have HN5:=I (HN3.gr G8);have HG9:=I (HG8.trans G8);have HB9:=I (G8.bk HB8);clear H9 HG8 HB8 HN2 HN3;by_cases hd1:b / g=1
    ·have hdd:decide (b / g=1)=true:=by simp[hd1]
     have HQ:Hid (quot s a b=⟨s,a / g,0⟩):=by rw[HQ0.out,hd1];exact rfl
     have c0_:=HB9.c3;have fz:=HB9.frozen;go_wp2;refine pex ?_;refine ks HB9 fun W5 B5 F5=>?_
     have d_:=B5.c3;refine bret Tryz.results216 ?_;exact⟨⟨s,q1,Sv.none⟩,rfl,by rw[HQ.out];exact⟨rfl,(HN5.fr F5 HB9 (b7 _ _ _ _ _ _ _)),by rw[al];exact Sv.Num.none _⟩,HG9.fr_at F5 (Nat.le_of_eq HPE)⟩
    ·have hdd:decide (b / g=1)=false:=by simp[hd1]
     have HQ:Hid (quot s a b=⟨s,a / g,b / g⟩):=by
      rw[HQ0.out];exact congrArg (Q.mk s (a / g)) (if_neg hd1)
     have c0_:=HB9.c3;have fz:=HB9.frozen;go_wp2;refine pex ?_;refine ks HB9 fun W5 B5 F5=>?_
     have d_:=B5.c3;refine bret Tryz.results216 ?_;exact⟨⟨s,q1,q2⟩,rfl,by rw[HQ.out];exact⟨rfl,(HN5.fr F5 HB9 (b7 _ _ _ _ _ _ _)),(HN4.fr F5 HB9 (b7 _ _ _ _ _ _ _))⟩,HG9.fr_at F5 (Nat.le_of_eq HPE)⟩
theorem mu (w:World) (s:Bool) (x:Sv) (a:Nat) (hx:x.Num w (a7 a)) (ha:(a7 a).length≤1000000):
  Calls Tryz.prog 221 #[.bool s,x.v] w fun e w'=>∃r:Iv,e=.returned r.v∧r.Is w' (s&&decide (0 < a)) a∧Gr w w':=by
 have b1:=Bk.made w 118 #[.bool false,Nl];have HG1:=I ((Gr.refl w).alloc (.cells #[.bool false,Nl] 118));have HB:=I b1;have H1:=I (ng _ x _ (hx.gr HG1) ha);rw[vl] at H1;clear hx ha b1;go_enter Tryz.func221,Tryz.ntmps221;go_wp2_with fail;refine cm1 H1 fun u w1 HU G1=>?_
 have HG2:=I (HG1.trans G1);have HB2:=I (G1.bk HB);clear H1 HB;generalize hpe:w.heap.size=p at*;have HPE:=I hpe;clear hpe;obtain⟨A,n,c⟩:=u;have HN:=I HU.len;simp only[Sv.v] at*;obtain⟨q,hq⟩:∃q,q=(s&&decide (0 < a)):=⟨_,rfl⟩;have HQ:=I hq;have hqn:q=(s&&decide ((0:Int) < n)):=by
  rw[hq]
  congr 1
  by_cases h:a=0
  ·have:n=0:=by rw[← HN.out,h,al];rfl
   simp[h,this]
  ·have:n≠0:=fun e=>h (bw.1 (HN.trans e))
   rw[dt om,dt om]
 obtain⟨B5,F5⟩:=HB2.put2 (.bool q) (.slice A n c);have c0_:=HB2.c2;have fz:=HB2.frozen;have H5:=I F5;obtain⟨d0,d1⟩:=B5.c2;clear F5 B5 hq;cases s
 ·obtain rfl:q=false:=by rw[hqn];rfl
  clear hqn;go_wp2;generalize (w1.setCell ⟨p,0,none⟩ (.bool false)).setCell ⟨p,1,none⟩ (.slice A n c)=W5 at*;refine pex ?_;refine bodyPost_ret (by simp[results,Tryz.results221,go_sem,d0,d1];try rfl) rfl ?_;exact⟨⟨false,⟨A,n,c⟩⟩,rfl,⟨HQ.out,HU.fr H5 HB2 (bf _ _ _ _)⟩,HG2.fr_at H5 (Nat.le_of_eq HPE)⟩
 ·by_cases hn:n=0
  ·subst hn;have hd:decide ((0:Int) < (0:Nat))=false:=rfl;obtain rfl:q=false:=by rw[hqn,hd];rfl
   clear hqn;go_wp2;generalize (w1.setCell ⟨p,0,none⟩ (.bool false)).setCell ⟨p,1,none⟩ (.slice A 0 c)=W5 at*;refine pex ?_;refine bodyPost_ret (by simp[results,Tryz.results221,go_sem,d0,d1];try rfl) rfl ?_;exact⟨⟨false,⟨A,0,c⟩⟩,rfl,⟨HQ.out,HU.fr H5 HB2 (bf _ _ _ _)⟩,HG2.fr_at H5 (Nat.le_of_eq HPE)⟩
  ·have hd:decide ((0:Int) < n)=true:=by simp;omega
   have hd2:decide (0 < n)=true:=by simp;omega
   obtain rfl:q=true:=by rw[hqn,hd];rfl
   clear hqn;go_wp2;generalize (w1.setCell ⟨p,0,none⟩ (.bool true)).setCell ⟨p,1,none⟩ (.slice A n c)=W5 at*;refine pex ?_;refine bodyPost_ret (by simp[results,Tryz.results221,go_sem,d0,d1];try rfl) rfl ?_;exact⟨⟨true,⟨A,n,c⟩⟩,rfl,⟨HQ.out,HU.fr H5 HB2 (bf _ _ _ _)⟩,HG2.fr_at H5 (Nat.le_of_eq HPE)⟩
def isg (s:Bool) (m:Nat):Int:=if m=0 then 0 else if s then -1 else 1
theorem wy (w:World) (x:Iv) (s:Bool) (m:Nat) (hx:x.Is w s m) (hm:(a7 m).length≤1000000):
  Calls Tryz.prog 182 #[x.v] w fun e w'=>e=.returned (.int .i64 (isg s m))∧Gr w w':=by
 obtain⟨s',mag⟩:=x;obtain rfl:s'=s:=hx.neg;have b1:=Bk.made w 118 #[.bool s',mag.v];have HG1:=I ((Gr.refl w).alloc (.cells #[.bool s',mag.v] 118));have HB:=I b1;have H1:=I (a6h _ mag _ (hx.mag.gr HG1) hm);rw[vl] at H1;have c1:=b1.cell 1;clear hx hm b1;simp only[Iv.v] at*;go_enter Tryz.func182,Tryz.ntmps182;go_wp2_with fail;refine H1.mono ?_;rintro e w1 ⟨⟨r,rfl,hr,hr0⟩,G1⟩;have HG2:=I (HG1.trans G1);have c0:=(G1.bk HB).cell 0;clear G1 H1 HB c1;by_cases h0:m=0
 ·have HE:Hid (isg s' m=0):=by unfold isg;exact if_pos h0
  rw[dt h0] at hr0;go_wp2;go_ret;exact⟨by rw[HE.out];rfl,HG2.out⟩
 ·have HE:Hid (isg s' m=if s' then -1 else 1):=by unfold isg;exact if_neg h0
  rw[df h0] at hr0;cases s'
  ·go_wp2;go_ret;exact⟨by rw[HE.out];rfl,HG2.out⟩
  ·go_wp2;go_ret;exact⟨by rw[HE.out];rfl,HG2.out⟩
theorem a84 (w:World) (x y:Sv) (a b:List Nat) (hx:x.Num w a) (hy:y.Num w b) (ha:a.length≤1000000) (hb:b.length≤1000000) (hle:val b≤val a):
  Calls Tryz.prog 339 #[x.v,y.v] w fun e w'=>∃z:Sv,e=.returned (.tuple #[z.v,.int .i64 0])∧z.Num w' (a7 (val a - val b))∧Gr w w':=by
 have H1:=I (bx w x a hx);have HY:=I hy;have HA:Hid ((a7 (val a)).length≤1000000):=nt (b8 (en hx.lim)) ha;have HB:Hid ((a7 (val b)).length≤1000000):=nt (b8 (en hy.lim)) hb;have HLE:=I hle;clear hx hy ha hb hle;go_enter Tryz.func339,Tryz.ntmps339;go_wp2_with fail;refine cm1 H1 fun u w1 HU G1=>?_
 have HG1:=I G1;have H2:=I (bx w1 y b (HY.gr G1));clear H1 HY;go_wp2_with fail;refine cm2 H2 fun v w0 hv G2=>?_
 have HG2:=I (HG1.trans G2);have HU2:=I (HU.gr G2);have HV:=I hv;have H3:=I (m5 w0 u v _ _ (HU.gr G2) hv);clear hv HG1 HU H2;rw[vl,vl] at H3;have hc0:0≤cmpN (val a) (val b):=by
  have:=HLE.out;unfold cmpN;split
  ·omega
  ·split<;>omega
 go_wp2_with fail;refine cm0 H3 fun w2 G3=>?_
 have HG3:=I (HG2.trans G3);have HU3:=I (HU2.gr G3);have HV3:=I (HV.gr G3);clear HG2 HU2 HV H3;generalize cmpN (val a) (val b)=cm at*;have hcd:decide (cm < 0)=false:=by simp;omega
 obtain⟨A,n,c⟩:=u;obtain⟨B,m,d⟩:=v;have HN:=I HU3.len;have HM:=I HV3.len;have VA:=I (vl (val a));have VB:=I (vl (val b));have hmn:m≤n:=by
  have:=aq HLE;rw[HN.out,HM.out] at this;exact this
 simp only[Sv.v] at*;have hn9:n≤1000000:=by rw[← HN.out];exact HA.out
 generalize a7 (val a)=la at*;generalize a7 (val b)=lb at*;have hmk:=a21 n om w2;have HR0:=I (Lb.made w2 n);have HG4:Hid (Gr w (w2.alloc (.cells (Array.replicate n (.int .u32 0)) 200))):=HG3.alloc _;have HGs:Hid (Gr w2 (w2.alloc (.cells (Array.replicate n (.int .u32 0)) 200))):=(Gr.refl w2).alloc _;have HS0:=I (SubSt.start la lb n);have hg0:Hid (w.heap.size≤w2.heap.size):=HG3.size;go_wp2;clear hmk;generalize hge:w2.heap.size=g at*;have HGE:=I hge;clear hge;go_loopw [7,10,24] (fun s7 s10 i wr=>∃(t cr:Nat) (o:List Nat),i=.int .i64 t∧s7=.int .u64 cr∧t≤n∧cr≤1∧Hid (SubSt la lb o t cr n)∧Hid (Lb wr g o)∧Hid (Gr w wr)∧Hid (Gr w2 wr)) (fun _ _ i _=>n - (intOf i).toNat)
 case atStart=>exact⟨0,0,_,rfl,rfl,nq _,by omega,HS0,HR0,HG4,HGs⟩
 case round=>
  obtain⟨t,cr,o,rfl,rfl,ht,hcr,hS,hR,hG,hGG⟩:=hrel;have fz:=hR.fz;by_cases htn:t < n
  ·obtain⟨p,ad,hp,hp9,hAe,hbl,d1⟩:=(HU3.gr hGG).at (i:=t) htn;simp only at hAe;subst hAe;have HP:=I (jn hp);have q0:=hR.cell (hS.zer t (nr _) om);have hB:=ba;rw[hB] at hp9;by_cases htm:t < m
   ·obtain⟨q,ad2,hq,hq9,hBe,hbl2,d2⟩:=(HV3.gr hGG).at (i:=t) htm;simp only at hBe;subst hBe;rw[hB] at hq9;obtain⟨lo,c',hlo,hc',hlc⟩:∃lo c':Nat,lo < 4294967296∧c'≤1∧lo+cr+q=p+4294967296*c':=by
     by_cases h:cr+q≤p
     ·exact⟨p - cr - q,0,by omega,by omega,by omega⟩
     ·exact⟨p+4294967296 - cr - q,1,by omega,by omega,by omega⟩
    have HST:=I (hS.step HU3.lim HV3.lim htn (x:=lo) (c':=c') (by rw[hB];exact hlo) hc' (by rw[HP.out,jn hq];exact hlc));have E1:Hid (IntKind.u64.wrap (IntKind.u64.wrap ((p:Int) - cr) - q) % 4294967296=lo):=by
     have h:IntKind.u64.wrap (IntKind.u64.wrap ((p:Int) - cr) - q) % 4294967296=lo:=by rw[IntKind.wrap_u64,IntKind.wrap_u64];omega
     exact h
    have E2:Hid (IntKind.u64.wrap (IntKind.u64.wrap ((p:Int) - cr) - q) / 9223372036854775808=c'):=by
     have h:IntKind.u64.wrap (IntKind.u64.wrap ((p:Int) - cr) - q) / 9223372036854775808=c':=by rw[IntKind.wrap_u64,IntKind.wrap_u64];omega
     exact h
    have HL2:=I (hR.put t lo);have HG5:=I (hG.set (p:=⟨g,t,none⟩) hg0 (lv lo));have HG6:=I (hGG.set (p:=⟨g,t,none⟩) (by rw[HGE.out];exact nr _) (lv lo));clear hp hq hbl hbl2 hlc hlo;go_wp2;go_roundw
    case rel=>
     rw[E1.out,E2.out];exact⟨t+1,c',_,by go_num,rfl,by omega,hc',HST,HL2,HG5,HG6⟩
    case measure=>simp[intOf];omega
   ·obtain⟨lo,c',hlo,hc',hlc⟩:∃lo c':Nat,lo < 4294967296∧c'≤1∧lo+cr+0=p+4294967296*c':=by
     by_cases h:cr+0≤p
     ·exact⟨p - cr - 0,0,by omega,by omega,by omega⟩
     ·exact⟨p+4294967296 - cr - 0,1,by omega,by omega,by omega⟩
    have HST:=I (hS.step HU3.lim HV3.lim htn (x:=lo) (c':=c') (by rw[hB];exact hlo) hc' (by rw[HP.out,gw (by rw[HV3.len];simp only;omega)];exact hlc));have E1:Hid (IntKind.u64.wrap ((p:Int) - cr) % 4294967296=lo):=by
     have h:IntKind.u64.wrap ((p:Int) - cr) % 4294967296=lo:=by rw[IntKind.wrap_u64];omega
     exact h
    have E2:Hid (IntKind.u64.wrap ((p:Int) - cr) / 9223372036854775808=c'):=by
     have h:IntKind.u64.wrap ((p:Int) - cr) / 9223372036854775808=c':=by rw[IntKind.wrap_u64];omega
     exact h
    have HL2:=I (hR.put t lo);have HG5:=I (hG.set (p:=⟨g,t,none⟩) hg0 (lv lo));have HG6:=I (hGG.set (p:=⟨g,t,none⟩) (by rw[HGE.out];exact nr _) (lv lo));clear hp hbl hlc hlo;go_wp2;go_roundw
    case rel=>
     rw[E1.out,E2.out];exact⟨t+1,c',_,by go_num,rfl,by omega,hc',HST,HL2,HG5,HG6⟩
    case measure=>simp[intOf];omega
  ·obtain rfl:t=n:=by omega
   have e1:=hS.done (by rw[HU3.len];exact nr _) (by rw[HV3.len];exact hmn) (nr _) (by rw[VA.out,VB.out];exact HLE.out);have hlen:=hS.len;have HT:=I (bx wr ⟨some ⟨g,0,none⟩,t,t⟩ o (by have:=hR.num hS.lim om;rw[hlen] at this;exact this));rw[e1,VA.out,VB.out] at HT;clear e1 hlen;go_wp2_with fail;refine cm1 HT fun z w5 HZ G5=>?_
   have HG6:=I (hG.trans G5);clear HT;go_wp2;go_returns;exact⟨z,rfl,HZ.out,HG6.out⟩
theorem a7g (w:World) (t u v:TypeId) (a b c:Array Value):
    Bk (((w.alloc (.cells a t)).alloc (.cells b u)).alloc (.cells c v)) w.heap.size t a∧Bk (((w.alloc (.cells a t)).alloc (.cells b u)).alloc (.cells c v)) (w.heap.size+1) u b∧Bk (((w.alloc (.cells a t)).alloc (.cells b u)).alloc (.cells c v)) (w.heap.size+1+1) v c∧Gr w (((w.alloc (.cells a t)).alloc (.cells b u)).alloc (.cells c v)):=by
  have s1:(w.alloc (.cells a t)).heap.size=w.heap.size+1:=World.size_alloc ..;have s2:((w.alloc (.cells a t)).alloc (.cells b u)).heap.size=w.heap.size+1+1:=by rw[World.size_alloc,s1]
  refine⟨((Bk.made w t a).alloc _).alloc _,?_,?_,(((Gr.refl w).alloc _).alloc _).alloc _⟩
  · have:=(Bk.made (w.alloc (.cells a t)) u b).alloc (.cells c v)
    rwa [s1] at this
  · have:=Bk.made ((w.alloc (.cells a t)).alloc (.cells b u)) v c
    rwa [s2] at this
theorem bh (m n:Nat):(a7 (m*n)).length≤(a7 m).length+(a7 n).length:=by
  refine b8 ?_;rw[Nat.pow_add];exact nj (zT _ (Nat.le_of_lt (f9 m))) (Nat.mul_lt_mul_of_pos_left (f9 n) (Nat.pow_pos dx))
theorem du (m n k:Nat) (hm:(a7 m).length≤k) (hn:(a7 n).length≤k):(a7 (m+n)).length≤k+1:=by
  refine b8 ?_;have h1:=nk (f9 m) (zS (by decide:0 < B32) hm);have h2:=nk (f9 n) (zS (by decide:0 < B32) hn);rw[Nat.pow_succ,ba] at*;omega
theorem a64 (w:World) (a b:Iv) (s t:Bool) (m n:Nat) (ha:a.Is w s m) (hb:b.Is w t n) (hm:(a7 m).length≤400000) (hn:(a7 n).length≤400000):
    Calls Tryz.prog 219 #[a.v,b.v] w fun e w'=>∃r:Iv,e=.returned r.v∧r.Is w' ((s != t)&&decide (0 < m*n)) (m*n)∧Gr w w':=by
  have hs:=I ha.neg;have ht:=I hb.neg;have HLM:=I hm;have HLN:=I hn;clear hm hn;simp only[Iv.v];go_enter Tryz.func219,Tryz.ntmps219;go_wp2_with fail;refine nw3h fun W HG hB1 hB2 hB3=>?_
  have HA:=I (ha.mag.gr HG);have HB:=I (hb.mag.gr HG);clear ha hb;have hpr:¬w.heap.size=w.heap.size+1+1:=by omega
  have hqr:¬w.heap.size+1=w.heap.size+1+1:=by omega
  have hle:Hid (w.heap.size≤w.heap.size+1+1):=nt (Nat.le_succ _) (Nat.le_succ _);generalize w.heap.size+1+1=r at*;generalize w.heap.size+1=q at*;generalize hp:w.heap.size=p at*;have hPE:=I hp;clear hp;have hpr2:¬r=p:=fun e=>hpr e.symm
  have hqr2:¬r=q:=fun e=>hqr e.symm
  have a0_:=hB1.c2;have b0_:=hB2.c2;have HM:=I (zv W.drew a.mag b.mag _ _ (HA.gr (Gr.refl W).drew) (HB.gr (Gr.refl W).drew) (nt HLM dx) (nt HLN dx));rw[vl,vl] at HM;have HLP:Hid ((a7 (m*n)).length≤1000000):=nt (bh m n) (nt (Nat.add_le_add HLM HLN) dx)
  first | (go_region_held3 (fun W=>W.cell? ⟨p,0,none⟩=some (.bool a.neg)∧W.cell? ⟨p,1,none⟩=some a.mag.v∧W.cell? ⟨q,0,none⟩=some (.bool b.neg)∧W.cell? ⟨q,1,none⟩=some b.mag.v) (first | go_keep | exact⟨hk1.1,hk1.2,hk2.1,hk2.2⟩ | exact⟨hj1.1,hj1.2,hj2.1,hj2.2⟩)
    (first | (go_at_call 270;refine HM.out.mono ?_;rintro e w1 ⟨z,rfl,hz,G1⟩;have hk1:=(G1.bk hB1.out).c2;have hk2:=(G1.bk hB2.out).c2;have HI:=I (mu w1 (a.neg != b.neg) z _ hz HLP.out);have HBr:=I (G1.bk hB3.out);have HG1:=I (HG.out.drew.trans G1);have hB1':=I (G1.bk hB1.out);have hB2':=I (G1.bk hB2.out);clear hz G1)
           | (go_at_call 221;refine HI.mono ?_;rintro e w2 ⟨i,rfl,hi,G2⟩;have hj1:=(G2.bk hB1').c2;have hj2:=(G2.bk hB2').c2;have HBs:=I (G2.bk HBr);obtain⟨r0,r1⟩:=HBs.c2;have fz:=HBs.frozen;have HG2:=I (HG1.trans G2);have HII:=I hi;clear hi G2))) | fail
  go_wp2;refine pex ?_;refine ks HBs fun W5 B5 F5=>?_
  have d_:=B5.c2;refine bret Tryz.results219 ?_;exact⟨i,rfl,⟨by rw[HII.neg,hs.out,ht.out],HII.mag.fr F5 HBs (bf _ _ _ _)⟩,HG2.fr_at F5 (by rw[hPE.out];exact hle.out)⟩
theorem af8 (w:World) (a b:Iv) (s t:Bool) (m n:Nat) (ha:a.Is w s m) (hb:b.Is w t n) (hm:(a7 m).length≤900000) (hn:(a7 n).length≤900000):
    Calls Tryz.prog 283 #[a.v,b.v] w fun e w'=>∃r:Iv,e=.returned r.v∧r.Is w' (sadd s m t n).1 (sadd s m t n).2∧Gr w w':=by
  obtain⟨B1,B2,B3,G⟩:=a7g w 118 118 118 #[.bool a.neg,a.mag.v] #[.bool b.neg,b.mag.v] #[.bool false,Nl];have hs:=I ha.neg;have ht:=I hb.neg;have HA:=I (ha.mag.gr G);have HB:=I (hb.mag.gr G);have HG:=I G;have HLM:=I hm;have HLN:=I hn;have hB1:=I B1;have hB2:=I B2;have hB3:=I B3;have a0_:=B1.c2;have b0_:=B2.c2;clear ha hb hm hn G B1 B2 B3;simp only[Iv.v];have HLA:Hid ((a7 m).length≤1000000):=nt HLM dx;have HLB:Hid ((a7 n).length≤1000000):=nt HLN dx;have HLP:Hid ((a7 (m+n)).length≤1000000):=nt (du m n _ HLM HLN) dx;by_cases hst:s=t
  · have HE:Hid (sadd s m t n=(s&&decide (0 < m+n),m+n)):=by unfold sadd;exact if_pos hst
    have hsd:(a.neg == b.neg)=true:=by rw[hs.out,ht.out,hst];simp
    go_enter Tryz.func283,Tryz.ntmps283;go_wp2_with fail;generalize hW:((w.alloc (.cells #[.bool a.neg,a.mag.v] 118)).alloc (.cells #[.bool b.neg,b.mag.v] 118)).alloc (.cells #[.bool false,Nl] 118)=W at*;clear hW;have hpr:¬w.heap.size=w.heap.size+1+1:=by omega
    have hqr:¬w.heap.size+1=w.heap.size+1+1:=by omega
    have hle:Hid (w.heap.size≤w.heap.size+1+1):=nt (Nat.le_succ _) (Nat.le_succ _);generalize w.heap.size+1+1=r at*;generalize w.heap.size+1=q at*;generalize hp:w.heap.size=p at*;have hPE:=I hp;clear hp;have hpr2:¬r=p:=fun e=>hpr e.symm
    have hqr2:¬r=q:=fun e=>hqr e.symm
    clear a0_ b0_;have a0_:=hB1.c2;have b0_:=hB2.c2;have HM:=I (aks W.drew a.mag b.mag _ _ (HA.gr (Gr.refl W).drew) (HB.gr (Gr.refl W).drew) HLA HLB);rw[vl,vl] at HM
    first | (go_region_held3 (fun W=>W.cell? ⟨p,0,none⟩=some (.bool a.neg)∧W.cell? ⟨p,1,none⟩=some a.mag.v∧W.cell? ⟨q,0,none⟩=some (.bool b.neg)∧W.cell? ⟨q,1,none⟩=some b.mag.v) (first | go_keep | exact⟨hk1.1,hk1.2,hk2.1,hk2.2⟩ | exact⟨hj1.1,hj1.2,hj2.1,hj2.2⟩)
      (first | (go_at_call 338;refine HM.out.mono ?_;rintro e w1 ⟨z,rfl,hz,G1⟩;have hk1:=(G1.bk hB1.out).c2;have hk2:=(G1.bk hB2.out).c2;have HI:=I (mu w1 a.neg z _ hz HLP.out);have HBr:=I (G1.bk hB3.out);have HG1:=I (HG.out.drew.trans G1);have hB1':=I (G1.bk hB1.out);have hB2':=I (G1.bk hB2.out);clear hz G1)
             | (go_at_call 221;refine HI.mono ?_;rintro e w2 ⟨i,rfl,hi,G2⟩;have hj1:=(G2.bk hB1').c2;have hj2:=(G2.bk hB2').c2;have HBs:=I (G2.bk HBr);obtain⟨r0,r1⟩:=HBs.c2;have fz:=HBs.frozen;have HG2:=I (HG1.trans G2);have HII:=I hi;clear hi G2))) | fail
    go_wp2;refine pex ?_;refine ks HBs fun W5 B5 F5=>?_
    have d_:=B5.c2;refine bret Tryz.results283 ?_;exact⟨i,rfl,by rw[HE.out];exact⟨by rw[HII.neg,hs.out],HII.mag.fr F5 HBs (bf _ _ _ _)⟩,HG2.fr_at F5 (by rw[hPE.out];exact hle.out)⟩
  · have hsd:(a.neg == b.neg)=false:=by rw[hs.out,ht.out];simpa using hst
    have HC:=I (m5 _ a.mag b.mag _ _ HA HB);rw[vl,vl] at HC;go_enter Tryz.func283,Tryz.ntmps283;go_wp2_with fail;refine cm0 HC fun w1 G1=>?_
    have HG1:=I (HG.trans G1);have HA1:=I (HA.gr G1);have HB1':=I (HB.gr G1);have C1:=I (G1.bk hB1);have C2:=I (G1.bk hB2);have C3:=I (G1.bk hB3);clear HC hB1 hB2 hB3 HG HA HB a0_ b0_;have hpq:¬w.heap.size=w.heap.size+1:=by omega
    have hpr:¬w.heap.size=w.heap.size+1+1:=by omega
    have hqr:¬w.heap.size+1=w.heap.size+1+1:=by omega
    have hle:Hid (w.heap.size≤w.heap.size+1+1):=nt (Nat.le_succ _) (Nat.le_succ _);have hlq:Hid (w.heap.size≤w.heap.size+1):=Nat.le_succ _;generalize w.heap.size+1+1=r at*;generalize w.heap.size+1=q at*;generalize hp:w.heap.size=p at*;have hPE:=I hp;clear hp;have a0_:=C1.c2;have b0_:=C2.c2;by_cases hmn:m < n
    · have hc:Hid (cmpN m n=-1):=pf hmn
      have HE:Hid (sadd s m t n=(t&&decide (0 < n - m),n - m)):=by
        unfold sadd;rw[if_neg hst,if_pos hmn,dt om,Bool.and_true];exact rfl
      rw[hc.out];have f1:=C1.frozen;have f2:=C2.frozen;obtain⟨D1,F1⟩:=C1.put2 (.bool b.neg) b.mag.v;have D2:=F1.bk C2 fun e=>hpq e.symm
      obtain⟨E2,F2⟩:=D2.put2 (.bool a.neg) a.mag.v;have E1:=F2.bk D1 hpq;have E3:=F2.bk (F1.bk C3 fun e=>hpr e.symm) fun e=>hqr e.symm
      have HA2:=I ((HA1.fr F1 C1 (bf _ _ _ _)).fr F2 D2 (bf _ _ _ _));have HB2:=I ((HB1'.fr F1 C1 (bf _ _ _ _)).fr F2 D2 (bf _ _ _ _));have HG2:=I ((HG1.fr_at F1 (Nat.le_of_eq hPE)).fr_at F2 (by rw[hPE.out];exact hlq.out));have HE1:=I E1;have HE3:=I E3;clear D1 D2 E1 E2 E3 F1 F2;go_wp2_with fail;generalize (((w1.setCell ⟨p,0,none⟩ (.bool b.neg)).setCell ⟨p,1,none⟩ b.mag.v).setCell ⟨q,0,none⟩ (.bool a.neg)).setCell ⟨q,1,none⟩ a.mag.v=W2 at*;have HMN:val (a7 m)≤val (a7 n):=by rw[vl,vl];omega
      have HLS:Hid ((a7 (n - m)).length≤1000000):=nt (aq (Nat.sub_le n m)) HLB;clear hc;have H7:=I (a84 W2 b.mag a.mag _ _ HB2 HA2 HLB HLA HMN);rw[vl,vl] at H7;refine cm2 H7 fun z w3 hz G3=>?_
      have HG3:=I (HG2.trans G3);obtain⟨p0,p1⟩:=(G3.bk HE1).c2;have HR3:=I (G3.bk HE3);have HI:=I (mu w3 b.neg z _ hz HLS);clear hz H7;go_wp2_with fail;refine cm1 HI fun i w4 HII G4=>?_
      have HG4:=I (HG3.trans G4);have HBs:=I (G4.bk HR3);obtain⟨r0,r1⟩:=HBs.c2;have fz:=HBs.frozen;clear HI;go_wp2;refine pex ?_;refine ks HBs fun W5 B5 F5=>?_
      have d_:=B5.c2;refine bret Tryz.results283 ?_;exact⟨i,rfl,by rw[HE.out];exact⟨by rw[HII.neg,ht.out],HII.mag.fr F5 HBs (bf _ _ _ _)⟩,HG4.fr_at F5 (by rw[hPE.out];exact hle.out)⟩
    · have hc0:0≤cmpN m n:=by unfold cmpN;rw[if_neg hmn];split<;>omega
      have HE:Hid (sadd s m t n=(s&&decide (0 < m - n),m - n)):=by
        unfold sadd;rw[if_neg hst,if_neg hmn];exact rfl
      have hcd:decide (cmpN m n < 0)=false:=by simp;omega
      generalize cmpN m n=cm at*;have HMN:val (a7 n)≤val (a7 m):=by rw[vl,vl];omega
      have HLS:Hid ((a7 (m - n)).length≤1000000):=nt (aq (Nat.sub_le m n)) HLA;go_wp2_with fail;have H7:=I (a84 w1 a.mag b.mag _ _ HA1 HB1' HLA HLB HMN);rw[vl,vl] at H7;refine cm2 H7 fun z w3 hz G3=>?_
      have HG3:=I (HG1.trans G3);obtain⟨p0,p1⟩:=(G3.bk C1).c2;have HR3:=I (G3.bk C3);have HI:=I (mu w3 a.neg z _ hz HLS);clear hz H7;go_wp2_with fail;refine cm1 HI fun i w4 HII G4=>?_
      have HG4:=I (HG3.trans G4);have HBs:=I (G4.bk HR3);obtain⟨r0,r1⟩:=HBs.c2;have fz:=HBs.frozen;clear HI;go_wp2;refine pex ?_;refine ks HBs fun W5 B5 F5=>?_
      have d_:=B5.c2;refine bret Tryz.results283 ?_;exact⟨i,rfl,by rw[HE.out];exact⟨by rw[HII.neg,hs.out],HII.mag.fr F5 HBs (bf _ _ _ _)⟩,HG4.fr_at F5 (by rw[hPE.out];exact hle.out)⟩
end
end Go.Proofs.YtbhbainhmfjpdaaGreatDoor
