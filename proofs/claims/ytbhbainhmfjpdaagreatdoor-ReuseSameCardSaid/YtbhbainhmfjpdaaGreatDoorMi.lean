/- Walks of the search and of what it calls, part 9. -/
import Derived.Test.YtbhbainhmfjpdaaGreatDoorMh
set_option linter.unusedVariables false
set_option linter.unusedSimpArgs false
set_option maxRecDepth 100000
set_option maxHeartbeats 8000000
namespace Go.Proofs.YtbhbainhmfjpdaaGreatDoor
open Go.RowKit
section
attribute [local go_sem] Oper.semAt_some
def se (m:Nat):Nat:=if m=0 then 1 else m
theorem ao3 (q:Q):q.un=se q.den:=rfl
theorem jh (w:World) (s:Bool) (x:Sv) (a:Nat) (hx:x.Num w (a7 a)) (ha:(a7 a).length≤1000000):
  Calls Tryz.prog 106 #[.bool s,x.v] w fun e w'=>∃r:Iv,e=.returned r.v∧r.Is w' (s&&decide (0 < a)) a∧Gr w w':=by
 have b1:=Bk.made w 118 #[.bool false,Nl];have HG1:=I ((Gr.refl w).alloc (.cells #[.bool false,Nl] 118));have HB:=I b1;have H1:=I (f7 _ x _ (hx.gr HG1) ha);rw[vl] at H1;clear hx ha b1;go_enter Tryz.func106,Tryz.ntmps106;go_wp2_with fail;refine cm1 H1 fun u w1 HU G1=>?_
 have HG2:=I (HG1.trans G1);have HB2:=I (G1.bk HB);clear H1 HB;generalize hpe:w.heap.size=p at*;have HPE:=I hpe;clear hpe;obtain⟨A,n,c⟩:=u;have HN:=I HU.len;simp only[Sv.v] at*;obtain⟨q,hq⟩:∃q,q=(s&&decide (0 < a)):=⟨_,rfl⟩;have HQ:=I hq;have hqn:q=(s&&decide ((0:Int) < n)):=by
  rw[hq]
  congr 1
  by_cases h:a=0
  ·have:n=0:=by rw[← HN.out,h,al];rfl
   simp[h,this]
  ·have:n≠0:=fun e=>h (bw.1 (HN.trans e))
   rw[dt om,dt om]
 obtain⟨B5,F5⟩:=HB2.put2 (.bool q) (.slice A n c);have c0_:=HB2.c2;have fz:=HB2.frozen;have H5:=I F5;obtain⟨d0,d1⟩:=B5.c2;clear F5 B5 hq;cases s
 ·obtain rfl:q=false:=by rw[hqn];rfl
  clear hqn;go_wp2;generalize (w1.setCell ⟨p,0,none⟩ (.bool false)).setCell ⟨p,1,none⟩ (.slice A n c)=W5 at*;refine pex ?_;refine bodyPost_ret (by simp[results,Tryz.results106,go_sem,d0,d1];try rfl) rfl ?_;exact⟨⟨false,⟨A,n,c⟩⟩,rfl,⟨HQ.out,HU.fr H5 HB2 (bf _ _ _ _)⟩,HG2.fr_at H5 (Nat.le_of_eq HPE)⟩
 ·by_cases hn:n=0
  ·subst hn;have hd:decide ((0:Int) < (0:Nat))=false:=rfl;obtain rfl:q=false:=by rw[hqn,hd];rfl
   clear hqn;go_wp2;generalize (w1.setCell ⟨p,0,none⟩ (.bool false)).setCell ⟨p,1,none⟩ (.slice A 0 c)=W5 at*;refine pex ?_;refine bodyPost_ret (by simp[results,Tryz.results106,go_sem,d0,d1];try rfl) rfl ?_;exact⟨⟨false,⟨A,0,c⟩⟩,rfl,⟨HQ.out,HU.fr H5 HB2 (bf _ _ _ _)⟩,HG2.fr_at H5 (Nat.le_of_eq HPE)⟩
  ·have hd:decide ((0:Int) < n)=true:=by simp;omega
   have hd2:decide (0 < n)=true:=by simp;omega
   obtain rfl:q=true:=by rw[hqn,hd];rfl
   clear hqn;go_wp2;generalize (w1.setCell ⟨p,0,none⟩ (.bool true)).setCell ⟨p,1,none⟩ (.slice A n c)=W5 at*;refine pex ?_;refine bodyPost_ret (by simp[results,Tryz.results106,go_sem,d0,d1];try rfl) rfl ?_;exact⟨⟨true,⟨A,n,c⟩⟩,rfl,⟨HQ.out,HU.fr H5 HB2 (bf _ _ _ _)⟩,HG2.fr_at H5 (Nat.le_of_eq HPE)⟩
theorem jw (w:World) (x:Sv) (m:Nat) (hx:x.Num w (a7 m)) (hm:(a7 m).length≤1000000):
  Calls Tryz.prog 54 #[x.v] w fun e w'=>∃y:Sv,e=.returned y.v∧y.Num w' (a7 (se m))∧Gr w w':=by
 have H1:=I (f7 w x _ hx hm);rw[vl] at H1;clear hx hm;go_enter Tryz.func54,Tryz.ntmps54;go_wp2_with fail;go_at_call 109
 refine cm2 H1 fun u w1 hu G1=>?_
 obtain⟨A,n,c⟩:=u;have HN:=I hu.len;have HU:=I hu;have HG1:=I G1;clear hu H1;simp only[Sv.v] at*;by_cases h0:m=0
 ·have hn0:n=0:=by rw[← HN.out,h0,al];rfl
  subst hn0;have HR:Hid (Lb (w1.alloc (.cells #[.int .u32 1] 200)) w1.heap.size [1]):=Bk.made w1 200 #[.int .u32 1];have HG:=I (HG1.alloc (.cells #[.int .u32 1] 200));have HE:Hid (se m=1):=if_pos h0;clear h0;go_wp2;go_ret;exact⟨⟨some ⟨w1.heap.size,0,none⟩,1,1⟩,rfl,by rw[HE.out,fi dx dx];exact fo HR (Lim.one dx) rfl dx,HG.out⟩
 ·have hn0:n≠0:=fun e=>h0 (bw.1 (HN.trans e))
  have hnd:((n:Int) == 0)=false:=by simp;omega
  have HE:Hid (se m=m):=if_neg h0;clear h0;go_wp2;go_ret;exact⟨⟨A,n,c⟩,rfl,by rw[HE.out];exact HU.out,HG1.out⟩
theorem me (w:World) (s:Bool) (x y:Sv) (a b:Nat) (hx:x.Num w (a7 a)) (hy:y.Num w (a7 b)) (ha:(a7 a).length≤300000) (hb0:0 < b) (hb:(a7 b).length≤300000):
  Calls Tryz.prog 56 #[.bool s,x.v,y.v] w fun e w'=>∃r:Rv,e=.returned r.v∧r.Is w' (quot s a b)∧Gr w w':=by
 have b1:=Bk.made w 35 Rl;have HG1:=I ((Gr.refl w).alloc (.cells Rl 35));have HB:=I b1;have HX:=I (hx.gr HG1);have HY:=I (hy.gr HG1);have H1:=I (a35 _ x y a b HX HY ha hb);have hg0:0 < Nat.gcd a b:=Nat.gcd_pos_of_pos_right a hb0;have hgb:(a7 (Nat.gcd a b)).length≤300000:=nt (aq (Nat.le_of_dvd hb0 (Nat.gcd_dvd_right a b))) hb;have HQ0:Hid (quot s a b=⟨s&&decide (0 < a / Nat.gcd a b),a / Nat.gcd a b,den0 (b / Nat.gcd a b)⟩):=by
  unfold quot;by_cases h0:a=0
  ·rw[if_pos h0,h0,Nat.zero_div,Nat.gcd_zero_left,Nat.div_self hb0,df om,Bool.and_false];exact rfl
  ·have:0 < a / Nat.gcd a b:=Nat.div_pos (Nat.le_of_dvd om (Nat.gcd_dvd_left a b)) hg0;rw[if_neg h0,dt this,Bool.and_true];exact rfl
 clear hx hy b1;go_enter Tryz.func56,Tryz.ntmps56;go_wp2_with fail;go_at_call 112
 refine cm1 H1 fun z w1 HZ G1=>?_
 have HG2:=I (HG1.trans G1);have HX1:=I (HX.gr G1);have HY1:=I (HY.gr G1);have HB1:=I (G1.bk HB);clear H1 HX HY HB;generalize Nat.gcd a b=g at*;have H2:=I (oh w1 x z a g HX1 HZ ha hgb hg0);go_wp2_with fail;go_at_call 113
 refine H2.mono ?_;rintro e w2 ⟨q1,r1,rfl,hq1,hr1,G2⟩;have HN1:=I hq1;have HG3:=I (HG2.trans G2);have HB2:=I (G2.bk HB1);have H3:=I (oh w2 y z b g (HY1.gr G2) (HZ.gr G2) hb hgb hg0);clear hq1 hr1 G2 H2 HB1;go_wp2_with fail;go_at_call 113
 refine H3.mono ?_;rintro e w4 ⟨q2,r2,rfl,hq2,hr2,G3⟩;have HN2:=I hq2;have HN3:=I (HN1.gr G3);have HG4:=I (HG3.trans G3);have HBs:=I (G3.bk HB2);clear hq2 hr2 G3 H3 HB2 HN1;generalize a / g=m at*;generalize b / g=k at*;generalize hpe:w.heap.size=p at*;have HPE:=I hpe;clear hpe;obtain⟨r0,r1',r2'⟩:=HBs.c3;have fz:=HBs.frozen;obtain⟨A,n,c⟩:=q1;obtain⟨B,l,d⟩:=q2;have hn:=I HN3.len;have hl:=I HN2.len;simp only[Sv.v] at*
 -- the sign
 have key:∀(S:Bool) (K:Nat),S=(s&&decide ((0:Int) < n))→K=den0 k→Hid (quot s a b=⟨S,m,K⟩):=fun S K hS hK=>by
  rw[HQ0.out,hS,hK];have:decide (0 < m)=decide ((0:Int) < n):=by
   by_cases h:m=0
   ·have:n=0:=by rw[← hn.out,h,al];rfl
    simp[h,this]
   ·have:n≠0:=fun e=>h (bw.1 (hn.trans e))
    rw[dt om,dt om]
  rw[this];exact rfl
 by_cases hl1:l=1
 ·subst hl1;obtain⟨y,ad,hy,hy9,hA,hb',dd⟩:=HN2.at (i:=0) Nat.one_pos;simp only at hA;subst hA;have hky:k=y:=by
   have h:=vl k
   match hh:a7 k,hl.out with
   | [z],_=>
    rw[hh] at hy h;obtain rfl:z=y:=by simpa using hy
    rw[← h];exact (show val [z]=z by simp[val])
  rw[add_zero] at dd;clear hy hb' hy9;by_cases hy1:y=1
  ·have hk1:Hid (0=den0 k):=by unfold den0;rw[if_pos (hky.trans hy1)];exact rfl
   subst hy1;clear hky;cases s
   ·have HQQ:=key false (0) (by rfl) (hk1.out);clear key;go_wp2;refine pex ?_;refine ks HBs fun W5 B5 F5=>?_
    have d_:=B5.c3;refine bret Tryz.results56 ?_;exact⟨⟨false,⟨A,n,c⟩,Sv.none⟩,rfl,by rw[HQQ.out];exact⟨rfl,HN3.fr F5 HBs (b7 _ _ _ _ _ _ _),by rw[al];exact Sv.Num.none _⟩,HG4.fr_at F5 (Nat.le_of_eq HPE)⟩
   ·by_cases hn0:n=0
    ·subst hn0;have HQQ:=key false (0) (by rfl) (hk1.out);clear key;go_wp2;refine pex ?_;refine ks HBs fun W5 B5 F5=>?_
     have d_:=B5.c3;refine bret Tryz.results56 ?_;exact⟨⟨false,⟨A,0,c⟩,Sv.none⟩,rfl,by rw[HQQ.out];exact⟨rfl,HN3.fr F5 HBs (b7 _ _ _ _ _ _ _),by rw[al];exact Sv.Num.none _⟩,HG4.fr_at F5 (Nat.le_of_eq HPE)⟩
    ·have hn1:decide ((0:Int) < n)=true:=by simp;omega
     have hn2:decide (0 < n)=true:=by simp;omega
     have hn3:0 < n:=by omega
     have HQQ:=key true (0) (by rw[hn1];rfl) (hk1.out);clear key;go_wp2;refine pex ?_;refine ks HBs fun W5 B5 F5=>?_
     have d_:=B5.c3;refine bret Tryz.results56 ?_;exact⟨⟨true,⟨A,n,c⟩,Sv.none⟩,rfl,by rw[HQQ.out];exact⟨rfl,HN3.fr F5 HBs (b7 _ _ _ _ _ _ _),by rw[al];exact Sv.Num.none _⟩,HG4.fr_at F5 (Nat.le_of_eq HPE)⟩
  ·have hyd:((y:Int) == 1)=false:=by simp;omega
   have hk1:Hid (k=den0 k):=by unfold den0;rw[if_neg (by rw[hky];exact hy1)];exact rfl
   clear hky;cases s
   ·have HQQ:=key false (k) (by rfl) (hk1.out);clear key;go_wp2;refine pex ?_;refine ks HBs fun W5 B5 F5=>?_
    have d_:=B5.c3;refine bret Tryz.results56 ?_;exact⟨⟨false,⟨A,n,c⟩,⟨some ad,1,d⟩⟩,rfl,by rw[HQQ.out];exact⟨rfl,HN3.fr F5 HBs (b7 _ _ _ _ _ _ _),HN2.fr F5 HBs (b7 _ _ _ _ _ _ _)⟩,HG4.fr_at F5 (Nat.le_of_eq HPE)⟩
   ·by_cases hn0:n=0
    ·subst hn0;have HQQ:=key false (k) (by rfl) (hk1.out);clear key;go_wp2;refine pex ?_;refine ks HBs fun W5 B5 F5=>?_
     have d_:=B5.c3;refine bret Tryz.results56 ?_;exact⟨⟨false,⟨A,0,c⟩,⟨some ad,1,d⟩⟩,rfl,by rw[HQQ.out];exact⟨rfl,HN3.fr F5 HBs (b7 _ _ _ _ _ _ _),HN2.fr F5 HBs (b7 _ _ _ _ _ _ _)⟩,HG4.fr_at F5 (Nat.le_of_eq HPE)⟩
    ·have hn1:decide ((0:Int) < n)=true:=by simp;omega
     have hn2:decide (0 < n)=true:=by simp;omega
     have hn3:0 < n:=by omega
     have HQQ:=key true (k) (by rw[hn1];rfl) (hk1.out);clear key;go_wp2;refine pex ?_;refine ks HBs fun W5 B5 F5=>?_
     have d_:=B5.c3;refine bret Tryz.results56 ?_;exact⟨⟨true,⟨A,n,c⟩,⟨some ad,1,d⟩⟩,rfl,by rw[HQQ.out];exact⟨rfl,HN3.fr F5 HBs (b7 _ _ _ _ _ _ _),HN2.fr F5 HBs (b7 _ _ _ _ _ _ _)⟩,HG4.fr_at F5 (Nat.le_of_eq HPE)⟩
 ·have hld:((l:Int) == 1)=false:=by simp;omega
  have hk1:Hid (k=den0 k):=by
   unfold den0;rw[if_neg fun e=>hl1 (by rw[← hl.out,e,fi dx dx];rfl)];exact rfl
  cases s
  ·have HQQ:=key false (k) (by rfl) (hk1.out);clear key;go_wp2;refine pex ?_;refine ks HBs fun W5 B5 F5=>?_
   have d_:=B5.c3;refine bret Tryz.results56 ?_;exact⟨⟨false,⟨A,n,c⟩,⟨B,l,d⟩⟩,rfl,by rw[HQQ.out];exact⟨rfl,HN3.fr F5 HBs (b7 _ _ _ _ _ _ _),HN2.fr F5 HBs (b7 _ _ _ _ _ _ _)⟩,HG4.fr_at F5 (Nat.le_of_eq HPE)⟩
  ·by_cases hn0:n=0
   ·subst hn0;have HQQ:=key false (k) (by rfl) (hk1.out);clear key;go_wp2;refine pex ?_;refine ks HBs fun W5 B5 F5=>?_
    have d_:=B5.c3;refine bret Tryz.results56 ?_;exact⟨⟨false,⟨A,0,c⟩,⟨B,l,d⟩⟩,rfl,by rw[HQQ.out];exact⟨rfl,HN3.fr F5 HBs (b7 _ _ _ _ _ _ _),HN2.fr F5 HBs (b7 _ _ _ _ _ _ _)⟩,HG4.fr_at F5 (Nat.le_of_eq HPE)⟩
   ·have hn1:decide ((0:Int) < n)=true:=by simp;omega
    have hn2:decide (0 < n)=true:=by simp;omega
    have hn3:0 < n:=by omega
    have HQQ:=key true (k) (by rw[hn1];rfl) (hk1.out);clear key;go_wp2;refine pex ?_;refine ks HBs fun W5 B5 F5=>?_
    have d_:=B5.c3;refine bret Tryz.results56 ?_;exact⟨⟨true,⟨A,n,c⟩,⟨B,l,d⟩⟩,rfl,by rw[HQQ.out];exact⟨rfl,HN3.fr F5 HBs (b7 _ _ _ _ _ _ _),HN2.fr F5 HBs (b7 _ _ _ _ _ _ _)⟩,HG4.fr_at F5 (Nat.le_of_eq HPE)⟩
theorem a8r (w:World) (x y:Sv) (m n:Nat) (hx:x.Num w (a7 m)) (hy:y.Num w (a7 n)):
  Calls Tryz.prog 195 #[x.v,y.v] w fun e w'=>e=.returned (.bool (decide (m=n)))∧Gr w w':=by
 obtain⟨A,k,c⟩:=x;obtain⟨B,l,d⟩:=y;have hk:=hx.len;have hl:=hy.len;have hk9:=hx.is.max;have hkc:=hx.is.cap;(try simp only at hk hl hk9 hkc)
 have HX:=I hx;have HY:=I hy;by_cases hkl:k=l
 ·subst hkl;have hnn:((k:Int) != k)=false:=by simp
  have HK:=I hk;have HL:=I hl;clear hx hy hk hl;(try simp only)
  go_enter Tryz.func195,Tryz.ntmps195;go_wp2;go_loopw [5] (fun i wr=>∃t:Nat,i=.int .i64 t∧t≤k∧Hid ((a7 m).take t=(a7 n).take t)∧Hid (Gr w wr)) (fun i _=>k - (intOf i).toNat)
  case atStart=>exact⟨0,rfl,nq _,rfl,Gr.refl w⟩
  case round=>
   obtain⟨t,rfl,ht,hT,hG⟩:=hrel;by_cases htk:t < k
   ·obtain⟨p,ad,hp,hp9,hA,hb,d1⟩:=(HX.gr hG).at (i:=t) htk;obtain⟨q,ad2,hq,hq9,hB,hb2,d2⟩:=(HY.gr hG).at (i:=t) htk;(try simp only at hA hB)
    subst hA hB;have e1:wr.drew.cell? (ad.add t)=some (.int .u32 p):=d1;have e2:wr.drew.cell? (ad2.add t)=some (.int .u32 q):=d2;have hG3:Hid (Gr w wr.drew):=hG.drew;by_cases hpq:p=q
    ·subst hpq;have HT:Hid ((a7 m).take (t+1)=(a7 n).take (t+1)):=by
      rw[List.take_add_one,List.take_add_one,hT.out,hp,hq];exact rfl
     clear hp hq hp9 hq9 hb hb2 hT;go_wp2;go_region
     all_goals go_wp2
     all_goals go_roundw
     all_goals first
      | exact⟨t+1,by go_num,by omega,HT,hG3⟩
      | (simp[intOf];omega)
    ·have hpd:((p:Int) != q)=true:=by simp;omega
     have HE:Hid (decide (m=n)=false):=by
      have h:¬m=n:=fun e=>by
       subst e;rw[hp] at hq;injection hq with hq;exact hpq hq
      exact df h
     clear hp hq hp9 hq9 hb hb2 hT;go_wp2;go_region
     all_goals go_wp2
     all_goals go_ret
     all_goals exact⟨by rw[HE.out];rfl,hG3.out⟩
   ·obtain rfl:t=k:=by omega
    have HE:Hid (decide (m=n)=true):=by
     have h:=hT.out;rw[List.take_of_length_le (by rw[HK.out];exact nr _),List.take_of_length_le (by rw[HL.out];exact nr _)] at h;exact dt (qx h)
    clear hT;go_wp2;go_ret;exact⟨by rw[HE.out];rfl,hG.out⟩
 ·have hnn:((k:Int) != l)=true:=by simp;omega
  have HE:Hid (decide (m=n)=false):=by
   have h:¬m=n:=fun e=>hkl (by rw[← hk,← hl,e])
   exact df h
  clear hx hy hk hl;(try simp only)
  go_enter Tryz.func195,Tryz.ntmps195;go_wp2;go_ret;exact⟨by rw[HE.out];rfl,Gr.refl w⟩
theorem a16 (w:World) (a b:Rv) (x y:Q) (ha:a.Is w x) (hb:b.Is w y):
  Calls Tryz.prog 151 #[a.v,b.v] w fun e w'=>e=.returned (.bool (decide (x=y)))∧Gr w w':=by
 obtain⟨B1,B2,G⟩:=a3o w 35 35 a.ar b.ar;have HA:=I (ha.gr G);have HB:=I (hb.gr G);have HG:=I G;have C1:=I B1;have C2:=I B2;have a0_:=B1.c3;have b0_:=B2.c3;have N1:=I ha.neg;have N2:=I hb.neg;have hE:Hid (decide (x=y)=(a.neg == b.neg&&(decide (x.num=y.num)&&decide (x.den=y.den)))):=by
  rw[N1.out,N2.out];exact Q.dec_eq x y
 have HE1:=I (a8r _ a.num b.num _ _ HA.num HB.num);clear ha hb B1 B2 G;simp only[Rv.v];cases hn:(a.neg == b.neg)
 ·rw[hn] at hE;go_enter Tryz.func151,Tryz.ntmps151;go_wp2;go_ret;exact⟨by rw[hE.out];rfl,HG.out⟩
 ·rw[hn] at hE;go_enter Tryz.func151,Tryz.ntmps151;go_wp2_with fail;go_at_call 195
  refine cm0 HE1 fun w1 G1=>?_
  have HG1:=I (HG.trans G1);have HE2:=I (a8r w1 a.den b.den _ _ (HA.den.gr G1) (HB.den.gr G1));obtain⟨f0,f1,f2⟩:=(G1.bk C1).c3;obtain⟨g0,g1,g2⟩:=(G1.bk C2).c3;clear HE1 a0_ b0_;cases h1:decide (x.num=y.num)
  ·rw[h1] at hE;go_wp2;go_ret;exact⟨by rw[hE.out];rfl,HG1.out⟩
  ·rw[h1] at hE;generalize decide (x.den=y.den)=d at*;go_wp2_with fail;go_at_call 195
   refine cm0 HE2 fun w2 G2=>?_
   have HG2:=I (HG1.trans G2);clear HE2;go_wp2;go_ret;exact⟨by rw[hE.out];rfl,HG2.out⟩
structure RMulSt (a b o:List Nat) (i m:Nat):Prop where
 len:o.length=m
 lim:Lim o
 sum:val o=val (a.take i)*val b
 zer:∀j,i+b.length≤j→j < m→o[j]?=some 0
theorem RMulSt.start (a b:List Nat) (m:Nat):RMulSt a b (List.replicate m 0) 0 m:=
 ⟨by simp,Lim.zeros _,by rw[iu];simp[val],fun j _ hj=>i6 hj⟩
structure RMulIn (a b o:List Nat) (i x k c m:Nat):Prop where
 len:o.length=m
 lim:Lim o
 car:c < B32
 sum:val o+B32 ^ (i+k)*c=val (a.take i)*val b+B32 ^ i*(x*val (b.take k))
 zer:∀j,i+b.length≤j→j < m→o[j]?=some 0
theorem RMulSt.into {a b o:List Nat} {i m:Nat} (h:RMulSt a b o i m) (x:Nat):RMulIn a b o i x 0 0 m:=
 ⟨h.len,h.lim,by decide,by rw[h.sum];simp[val],h.zer⟩
theorem RMulIn.step {a b o:List Nat} {i x k c y z s m:Nat} (h:RMulIn a b o i x k c m) (hx:x < B32) (hb:Lim b) (hy:b[k]?=some y) (hz:o[i+k]?=some z) (hs:s=c+(x*y+z)):
  RMulIn a b (o.set (i+k) (s % B32)) i x (k+1) (s / B32) m:=by
 have hk:=(gs hy).1;have h1:y < B32:=hb.at hy;have h2:z < B32:=h.lim.at hz;have h3:=h.car;have h4:x*y≤(B32 - 1)*(B32 - 1):=Nat.mul_le_mul om om;have h5:s < B32*B32:=by
  have:(B32 - 1)*(B32 - 1)=18446744065119617025:=by decide
  have:B32*B32=18446744073709551616:=by decide
  have:=ba;omega
 refine⟨by rw[List.length_set];exact h.len,h.lim.set _ (Nat.mod_lt _ dx),Nat.div_lt_of_lt_mul h5,?_,fun j hj hm=>by rw[ck om];exact h.zer j hj hm⟩;have e1:=ep (s % B32) hz;have e2:=h.sum;have e3:=bn hy;have e5:B32 ^ (i+k)*(s % B32)+B32 ^ (i+(k+1))*(s / B32)=B32 ^ (i+k)*s:=by
  rw[show i+(k+1)=(i+k)+1 by omega,Nat.pow_succ,zO,← Nat.mul_add,Nat.mod_add_div]
 have e6:B32 ^ (i+k)*s=B32 ^ (i+k)*c+B32 ^ (i+k)*(x*y)+B32 ^ (i+k)*z:=by rw[hs,Nat.mul_add,Nat.mul_add,Nat.add_assoc]
 have e7:B32 ^ i*(x*val (b.take (k+1)))=B32 ^ i*(x*val (b.take k))+B32 ^ (i+k)*(x*y):=by
  rw[e3,Nat.mul_add,Nat.mul_add,Nat.pow_add]
  congr 1
  simp only[zO,Nat.mul_left_comm,Nat.mul_comm]
 omega
theorem RMulIn.done {a b o:List Nat} {i x c m:Nat} (h:RMulIn a b o i x b.length c m) (ha:a[i]?=some x) (him:i+b.length < m):RMulSt a b (o.set (i+b.length) c) (i+1) m:=by
 have e1:=ep c (h.zer (i+b.length) (nr _) him);have e2:=h.sum;rw[List.take_length] at e2;refine⟨by rw[List.length_set];exact h.len,h.lim.set _ h.car,?_,fun j hj hm=>by rw[ck om];exact h.zer j om hm⟩;rw[bn ha,Nat.add_mul,zO];rw[Nat.mul_zero] at e1;omega
theorem RMulSt.done {a b o:List Nat} {m:Nat} (h:RMulSt a b o a.length m):val o=val a*val b:=by
 rw[h.sum,List.take_length]
theorem ko (w:World) (x y:Sv) (la lb:List Nat) (hx:x.Num w la) (hy:y.Num w lb) (ha:la.length≤400000) (hb:lb.length≤400000):
  Calls Tryz.prog 53 #[.slice x.A x.n x.c,.slice y.A y.n y.c] w fun e w'=>∃z:Sv,e=.returned z.v∧z.Num w' (a7 (val la*val lb))∧Gr w w':=by
 obtain⟨A,n,c⟩:=x;obtain⟨B,m,d⟩:=y;have HU2:=I hx;have HV:=I hy;have HN:=I hx.len;have HM:=I hy.len;(try simp only at HN HM ⊢)
 have hn9:n≤400000:=by rw[← HN.out];exact ha
 have hm9:m≤400000:=by rw[← HM.out];exact hb
 have hw0:IntKind.i64.wrap ((n:Int)+m+1)=(n:Int)+m+1:=wi _ om;have hmk:=ajo (n+m+1) om w;rw[show (((n+m+1:Nat)):Int)=(n:Int)+m+1 by omega] at hmk;have HR0:=I (Lb.made w (n+m+1));have HG4:Hid (Gr w (w.alloc (.cells (Array.replicate (n+m+1) (.int .u32 0)) 200))):=(Gr.refl w).alloc _;have HS0:=I (RMulSt.start la lb (n+m+1));clear hx hy ha hb;go_enter Tryz.func53,Tryz.ntmps53;go_wp2;clear hmk hw0;generalize hge:w.heap.size=g at*;have HGE:=I hge;clear hge;go_loopw [6] (fun i wr=>∃(t:Nat) (o:List Nat),i=.int .i64 t∧t≤n∧Hid (RMulSt la lb o t (n+m+1))∧Hid (Lb wr g o)∧Hid (Gr w wr)) (fun i _=>n - (intOf i).toNat)
 case atStart=>exact⟨0,_,rfl,nq _,HS0,HR0,HG4⟩
 case round=>
  obtain⟨t,o,rfl,ht,hS,hR,hG⟩:=hrel;by_cases htn:t < n
  ·obtain⟨p,ad,hp,hp9,hAe,hbl,d1⟩:=(HU2.gr hG).at (i:=t) htn;(try simp only at hAe)
   subst hAe;have HP:=I hp;have HI0:=I (hS.into p);have HP9:=I hp9;clear hp hp9 hbl hS d1;go_wp2;go_loopw [7,8] (fun s8 i wx=>(∃(k cr:Nat) (o:List Nat),i=.int .i64 k∧s8=.int .u64 cr∧k≤m∧Hid (RMulIn la lb o t p k cr (n+m+1))∧Hid (Lb wx g o)∧Hid (Gr w wx))∨(∃o:List Nat,i=.int .i64 ((m:Int)+1)∧Hid (RMulSt la lb o (t+1) (n+m+1))∧Hid (Lb wx g o)∧Hid (Gr w wx))) (fun _ i _=>m+1 - (intOf i).toNat)
   case atStart=>exact Or.inl ⟨0,0,_,rfl,rfl,nq _,HI0,hR,hG⟩
   case round=>
    rcases hrel with ⟨k,cr,o2,rfl,rfl,hk,hS2,hR2,hG2⟩ | ⟨o2,rfl,hS2,hR2,hG2⟩
    ·have fz:=hR2.fz;have hcr:cr < 4294967296:=hS2.car;have hlen2:o2.length=n+m+1:=hS2.len;obtain⟨z,hz⟩:∃z,o2[t+k]?=some z:=⟨_,ge om⟩;have q0:=hR2.cell hz;obtain⟨p',ad',hp',hp9',hA',_,d1⟩:=(HU2.gr hG2).at (i:=t) htn;(try simp only at hA')
     injection hA' with hA';subst hA';obtain rfl:p=p':=by have h:=HP.out;rw[hp'] at h;injection h with h;exact h.symm
     have HL:=I (ln wr.drew ⟨B,m,d⟩ lb k (HV.gr hG2.drew) om);(try simp only at HL)
     have hyb:=lq HV.lim k;obtain⟨s,hs⟩:∃s,s=cr+(p*lim0 lb k+z):=⟨_,rfl⟩;have HX:=I (a5r HP9 hyb (hS2.lim.at hz) hcr hs);obtain⟨lo,hlo⟩:∃lo,lo=s % B32:=⟨_,rfl⟩;obtain⟨hi,hhi⟩:∃hi,hi=s / B32:=⟨_,rfl⟩;have E1:Hid ((s:Int) % 4294967296=lo):=by rw[ba] at hlo;exact (by omega:(s:Int) % 4294967296=lo)
     have E2:Hid ((s:Int) / 4294967296=hi):=by rw[ba] at hhi;exact (by omega:(s:Int) / 4294967296=hi)
     have HL2:Hid (Lb (wr.drew.setCell ⟨g,t+k,none⟩ (lv lo)) g (o2.set (t+k) lo)):=Lb.put (w:=wr.drew) hR2 (t+k) lo;have HG5:=I (hG2.drew.set (p:=⟨g,t+k,none⟩) (Nat.le_of_eq HGE) (lv lo));have HFIN:Hid ((k < m→RMulIn la lb (o2.set (t+k) lo) t p (k+1) hi (n+m+1))∧(k=m→RMulSt la lb (o2.set (t+k) lo) (t+1) (n+m+1))):=by
      refine⟨fun hkm=>?_,fun hkm=>?_⟩
      ·obtain⟨q,hq⟩:∃q,lb[k]?=some q:=⟨_,ge (by rw[HM.out];exact hkm)⟩;rw[hlo,hhi];exact hS2.step HP9 HV.lim hq hz (by rw[hs,jn hq])
      ·subst hkm;have h0:=hS2.zer (t+lb.length) (nr _) (by rw[HM.out];omega);rw[HM.out,hz] at h0;injection h0 with h0;have hy0:lim0 lb k=0:=gw (by rw[HM.out];exact nr _);have hsc:lo=cr:=by
        rw[hlo,show s=cr by rw[hs,hy0,h0,Nat.mul_zero];rfl];exact Nat.mod_eq_of_lt hcr
       rw[hsc];have h1:=hS2.out;rw[← HM.out] at h1 ⊢;have h2:=h1.done HP (by rw[HM.out];omega);rw[HM.out] at h2 ⊢;exact h2
     have HHI:Hid (k=m→True):=fun _=>trivial
     clear hz hlen2 hp' hp9' hs hlo hhi hyb hR2 hS2;have hwk:decide ((k:Int)≤m)=true:=by simp;omega
     have hwk2:IntKind.i64.wrap ((t:Int)+(k:Int))=(t:Int)+(k:Int):=wi _ om;have hbi1:(0:Int)≤(t:Int)+(k:Int):=by omega
     have hbi2:(t:Int)+(k:Int) < (n:Int)+(m:Int)+1:=by omega
     have hbi3:((t:Int)+(k:Int)).toNat=t+k:=by omega
     generalize lim0 lb k=yk at*;go_wp2_with fail
     first | (go_region_held3 (fun W=>W.cell? (ad.add t)=some (.int .u32 (p:Int))∧W.cell? ⟨g,t+k,none⟩=some (.int .u32 (z:Int))∧W=wr.drew) (first | go_keep | exact⟨d1,q0,rfl⟩) (first | (go_at_call 108;refine HL.out.mono ?_;rintro e w5 ⟨rfl,rfl⟩))) | fail
     go_wp2;go_roundw
     case rel=>
      rw[HX.out,E1.out,E2.out];rcases zU k m with hkm | hkm
      ·exact Or.inl ⟨k+1,hi,_,by go_num,rfl,by omega,HFIN.1 hkm,HL2,HG5⟩
      ·have hkm2:k=m:=by omega
       exact Or.inr ⟨_,by rw[hkm2],HFIN.2 hkm2,HL2,HG5⟩
     case measure=>simp[intOf];omega
    ·have hwk:decide ((m:Int)+1≤m)=false:=by simp;omega
     go_wp2;go_roundw
     case rel=>exact⟨t+1,o2,by go_num,by omega,hS2,hR2,hG2⟩
     case measure=>simp[intOf];omega
  ·obtain rfl:t=n:=by omega
   have e1:val o=val la*val lb:=by
    have h:=hS.out;rw[← HN.out] at h;exact h.done
   have hlen:o.length=t+m+1:=hS.len;have HT:=I (f7 wr ⟨some ⟨g,0,none⟩,t+m+1,t+m+1⟩ o (fo hR hS.lim hlen om) om);rw[e1] at HT;clear e1 hlen;go_wp2_with fail;go_at_call 109
   refine cm1 HT fun z w5 HZ G5=>?_
   have HG6:=I (hG.trans G5);clear HT;go_wp2;go_ret;exact⟨z,rfl,HZ.out,HG6.out⟩
theorem xx (w:World) (s:Bool) (x:Sv) (m:Nat) (hx:x.Num w (a7 m)) (hm:(a7 m).length≤1000000):
  Calls Tryz.prog 67 #[.agg #[.bool s,x.v]] w fun e w'=>e=.returned (.int .i64 (isg s m))∧Gr w w':=by
 have B1:=Bk.made w 118 #[.bool s,x.v];have HG:=I ((Gr.refl w).alloc (.cells #[.bool s,x.v] 118));have C1:=I B1;have a0_:=B1.c2;have HM:=I (jh _ s x m (hx.gr HG) hm);clear hx hm B1;go_enter Tryz.func67,Tryz.ntmps67;go_wp2_with fail;go_at_call 106
 refine cm2 HM fun i w1 hi G1=>?_
 have C2:=I (G1.bk C1);have r0_:=C2.c2;have fz:=C2.frozen;have HG1:=I (HG.trans G1);obtain⟨D1,F1⟩:=C2.put2 (.bool i.neg) i.mag.v;obtain⟨d0,d1⟩:=D1.c2;have HG2:=I (HG1.fr_at F1 (nr _));have HL:=I hi.mag.len;have HN:=I hi.neg;clear hi HM C1 D1 F1 a0_;by_cases h0:m=0
 ·have hl:((i.mag.n:Int) == 0)=true:=by
   have:i.mag.n=0:=by rw[← HL.out,h0,al];rfl
   simp[this]
  have HE:Hid (isg s m=0):=by unfold isg;exact if_pos h0
  clear h0;go_wp2;go_ret;exact⟨by rw[HE.out];rfl,HG2.out⟩
 ·have hl:((i.mag.n:Int) == 0)=false:=by
   have:i.mag.n≠0:=by rw[← HL.out];exact fun e=>h0 (bw.1 e)
   simp;omega
  have HE:Hid (isg s m=if i.neg then -1 else 1):=by
   unfold isg;rw[HN.out,if_neg h0,dt om,Bool.and_true];exact rfl
  clear h0;cases hs:i.neg
  ·rw[hs] at d0 HE;go_wp2;go_ret;exact⟨by rw[HE.out];rfl,by rw[hs] at HG2;exact HG2.out⟩
  ·rw[hs] at d0 HE;go_wp2;go_ret;exact⟨by rw[HE.out];rfl,by rw[hs] at HG2;exact HG2.out⟩
theorem a15 (w:World) (a:Rv) (q:Q) (ha:a.Is w q) (hl:(a7 q.num).length≤1000000):
  Calls Tryz.prog 27 #[a.v] w fun e w'=>e=.returned (.int .i64 (isg q.neg q.num))∧Gr w w':=by
 have B1:=Bk.made w 35 #[.bool a.neg,.slice a.num.A a.num.n a.num.c,.slice a.den.A a.den.n a.den.c];have HG:=I ((Gr.refl w).alloc (.cells #[.bool a.neg,.slice a.num.A a.num.n a.num.c,.slice a.den.A a.den.n a.den.c] 35));have a0_:=B1.c3;have HS:=I (xx _ a.neg a.num _ (ha.num.gr HG) hl);rw[ha.neg] at HS;have HN:=I ha.neg;clear ha B1 hl;simp only[Rv.v] at*;go_enter Tryz.func27,Tryz.ntmps27;go_wp2_with fail;go_at_call 67
 rw[HN.out];refine cm0 HS fun w1 G1=>?_
 have HG1:=I (HG.trans (HN.out▸G1))

 go_wp2;go_ret;exact⟨rfl,HG1.out⟩
theorem xy (w:World) (a:Rv) (q:Q) (ha:a.Is w q) (hl:Sl q.num) (hd:Sl q.den):
  Calls Tryz.prog 124 #[a.v] w fun e w'=>∃r:Rv,e=.returned r.v∧r.Is w' (quot q.neg q.num q.un)∧Gr w w':=by
 obtain⟨B1,B2,G⟩:=a3o w 35 35 a.ar Rl;have HA:=I (ha.gr G);have HG:=I G;have hB1:=I B1;have hB2:=I B2;have HL:=I (nt hl (by decide:100000≤300000));have HD:Hid ((a7 q.un).length≤300000):=by
  have:(a7 q.un).length≤100000:=by
   unfold Q.un;split
   ·rw[fi dx dx];exact (by decide:1≤100000)
   ·exact hd
  exact nt this dx
 have HLD:Hid ((a7 q.den).length≤1000000):=nt hd dx;clear ha hl hd B1 B2 G;simp only[Rv.v];go_enter Tryz.func124,Tryz.ntmps124;go_wp2_with fail;generalize hW:(w.alloc (.cells a.ar 35)).alloc (.cells Rl 35)=W at*;clear hW;have hpr:¬w.heap.size=w.heap.size+1:=by omega
 have hle:Hid (w.heap.size≤w.heap.size+1):=Nat.le_succ _;generalize w.heap.size+1=r at*;generalize hp:w.heap.size=p at*;have hPE:=I hp;clear hp;have hpr2:¬r=p:=fun e=>hpr e.symm
 have a0_:=hB1.c3;have HU:=I (jw W.drew a.den _ (HA.den.gr (Gr.refl W).drew) HLD);rw[← ao3] at HU;have HNN:=I HA.neg
 first | (go_region_held3 (fun W=>W.cell? ⟨p,0,none⟩=some (.bool a.neg)∧W.cell? ⟨p,1,none⟩=some a.num.v∧W.cell? ⟨p,2,none⟩=some a.den.v)
   (first | go_keep | exact⟨hk.1,hk.2.1,hk.2.2⟩ | exact⟨hj.1,hj.2.1,hj.2.2⟩)
   (first | (go_at_call 56;refine (HQ.out).mono ?_;rintro e w2 ⟨i,rfl,hi,G2⟩;have hE1:=I (G2.bk hC1.out);have HBs:=I (G2.bk hC2.out);have HG2:=I (HG1.out.trans G2);have hj:=hE1.out.c3;obtain⟨r0,r1,r2⟩:=HBs.out.c3;have fz:=HBs.out.frozen;have HII:=I hi;clear hi G2) | (go_at_call 54;refine (HU.out).mono ?_;rintro e w1 ⟨y,rfl,hy,G1⟩;have hC1:=I (G1.bk hB1.out);have hC2:=I (G1.bk hB2.out);have HG1:=I (HG.out.drew.trans G1);have hk:=hC1.out.c3;have HQ:=I (me w1 a.neg a.num y _ _ ((HA.out.num.gr (Gr.refl W).drew).gr G1) hy HL.out q.un_pos HD.out);clear hy G1))) | fail
 go_wp2;refine pex ?_;refine ks HBs fun W5 B5 F5=>?_
 have d_:=B5.c3;refine bret Tryz.results124 ?_;exact⟨i,rfl,by rw[← HNN.out];exact HII.fr F5 HBs (b7 _ _ _ _ _ _ _),HG2.fr_at F5 (by rw[hPE.out];exact hle.out)⟩
theorem ado (w:World) (a b:Iv) (s t:Bool) (m n:Nat) (ha:a.Is w s m) (hb:b.Is w t n) (hm:(a7 m).length≤300000) (hn0:0 < n) (hn:(a7 n).length≤300000):
  Calls Tryz.prog 56 #[.bool (a.neg != b.neg),a.mag.v,b.mag.v] w fun e w'=>∃r:Rv,e=.returned r.v∧r.Is w' (quot (s != t) m n)∧Gr w w':=by
 rw[← ha.neg,← hb.neg];exact me w _ a.mag b.mag m n ha.mag hb.mag hm hn0 hn
theorem za (w:World) (x:Int) (h1:-1000000000≤x) (h2:x≤1000000000):
  Calls Tryz.prog 52 #[.int .i64 x] w fun e w'=>∃r:Iv,e=.returned r.v∧r.Is w' (decide (x < 0)) x.natAbs∧Gr w w':=by
 have b1:=Bk.made w 118 #[.bool false,Nl];have HG1:=I ((Gr.refl w).alloc (.cells #[.bool false,Nl] 118));have HB:=I b1;clear b1;have HO:=I (fun W=>z9 W x.natAbs om);by_cases h0:x < 0
 ·have hd:decide (x < 0)=true:=by simp[h0]
  rw[hd];obtain⟨n,rfl⟩:∃n:Nat,x=-(n:Int):=⟨x.natAbs,by omega⟩;rw[show (-(n:Int)).natAbs=n by omega] at*;have HLN:Hid ((a7 n).length≤1000000):=nt (b8 (k:=1) (by rw[Nat.pow_one,ba];omega)) dx;go_enter Tryz.func52,Tryz.ntmps52;have hw:IntKind.u64.wrap (-IntKind.u64.wrap (-(n:Int)))=(n:Int):=by rw[IntKind.wrap_u64,IntKind.wrap_u64];omega
  go_wp2_with fail;go_at_call 107
  refine cm2 (HO.out _) fun z w1 hz G1=>?_
  have HG2:=I (HG1.trans G1);have C2:=I (G1.bk HB);have HM:=I (jh w1 true z n hz HLN);clear hz hw HB;go_wp2_with fail;go_at_call 106
  refine cm1 HM fun i w2 HII G2=>?_
  have HG3:=I (HG2.trans G2);have HBs:=I (G2.bk C2);have r0_:=HBs.c2;have fz:=HBs.frozen;clear HM C2;generalize hp:w.heap.size=r at*;have hPE:=I hp;clear hp;go_wp2;refine pex ?_;refine ks HBs fun W5 B5 F5=>?_
  have d_:=B5.c2;refine bret Tryz.results52 ?_;exact⟨i,rfl,⟨by rw[HII.neg];rw[dt om];rfl,HII.mag.fr F5 HBs (bf _ _ _ _)⟩,HG3.fr_at F5 (Nat.le_of_eq hPE)⟩
 ·have hd:decide (x < 0)=false:=by simp;omega
  rw[hd];obtain⟨n,rfl⟩:∃n:Nat,x=(n:Int):=⟨x.natAbs,by omega⟩;rw[show ((n:Int)).natAbs=n by omega] at*;have HLN:Hid ((a7 n).length≤1000000):=nt (b8 (k:=1) (by rw[Nat.pow_one,ba];omega)) dx;go_enter Tryz.func52,Tryz.ntmps52;have hw:IntKind.u64.wrap (n:Int)=(n:Int):=by rw[IntKind.wrap_u64];omega
  go_wp2_with fail;go_at_call 107
  refine cm2 (HO.out _) fun z w1 hz G1=>?_
  have HG2:=I (HG1.trans G1);have C2:=I (G1.bk HB);have HM:=I (jh w1 false z n hz HLN);clear hz hw HB;go_wp2_with fail;go_at_call 106
  refine cm1 HM fun i w2 HII G2=>?_
  have HG3:=I (HG2.trans G2);have HBs:=I (G2.bk C2);have r0_:=HBs.c2;have fz:=HBs.frozen;clear HM C2;generalize hp:w.heap.size=r at*;have hPE:=I hp;clear hp;go_wp2;refine pex ?_;refine ks HBs fun W5 B5 F5=>?_
  have d_:=B5.c2;refine bret Tryz.results52 ?_;exact⟨i,rfl,⟨HII.neg,HII.mag.fr F5 HBs (bf _ _ _ _)⟩,HG3.fr_at F5 (Nat.le_of_eq hPE)⟩
theorem adn (w:World) (x:Int) (h1:-1000000000≤x) (h2:x≤1000000000):
  Calls Tryz.prog 61 #[.int .i64 x] w fun e w'=>∃r:Rv,e=.returned r.v∧r.Is w' (ofQ x)∧Gr w w':=by
 have B1:=Bk.made w 35 Rl;have HG:=I ((Gr.refl w).alloc (.cells Rl 35));have C1:=I B1;have HI:=I (fun W=>za W x h1 h2);clear B1;go_enter Tryz.func61,Tryz.ntmps61;go_wp2_with fail;go_at_call 52
 refine cm2 (HI.out _) fun i w1 hi G1=>?_
 have D1:=Bk.made w1 118 #[.bool i.neg,i.mag.v];have G2:=(Gr.refl w1).alloc (.cells #[.bool i.neg,i.mag.v] 118);have HG1:=I ((HG.trans G1).trans G2);have HBs:=I ((G1.trans G2).bk C1);have HII:=I (hi.gr G2);have x0_:=D1.c2;have r0_:=HBs.c3;have fz:=HBs.frozen;clear hi G2 HI C1 D1;have hne:¬w1.heap.size=w.heap.size:=fun e=>Bk.ne (Bk.made w1 118 #[.bool i.neg,i.mag.v]) HBs dx e
 have hne2:¬w.heap.size=w1.heap.size:=fun e=>hne e.symm
 go_upto_region 2 with fail;generalize hW:w1.alloc (.cells #[.bool i.neg,i.mag.v] 118)=W at*;have hWE:=I hW;clear hW;generalize hp:w.heap.size=r at*;have hPE:=I hp;clear hp;go_wp2;refine pex ?_;refine ks HBs fun W5 B5 F5=>?_
 have d_:=B5.c3;refine bret Tryz.results61 ?_;exact⟨⟨i.neg,i.mag,Sv.none⟩,rfl,⟨HII.neg,HII.mag.fr F5 HBs (b7 _ _ _ _ _ _ _),by rw[show (ofQ x).den=0 from rfl,al];exact Sv.Num.none _⟩,HG1.fr_at F5 (Nat.le_of_eq hPE)⟩
theorem a73 (w:World) (a b:Iv) (s t:Bool) (m n:Nat) (ha:a.Is w s m) (hb:b.Is w t n) (hm:(a7 m).length≤300000) (hn0:0 < n) (hn:(a7 n).length≤300000):
  Calls Tryz.prog 51 #[a.v,b.v] w fun e w'=>∃r:Rv,e=.returned (.tuple #[r.v,.int .i64 0])∧r.Is w' (quot (s != t) m n)∧Gr w w':=by
 obtain⟨B1,B2,B3,G⟩:=a7g w 118 118 35 #[.bool a.neg,a.mag.v] #[.bool b.neg,b.mag.v] Rl;have HA:=I (ha.gr G);have HB:=I (hb.gr G);have HG:=I G;have C1:=I B1;have C2:=I B2;have C3:=I B3;have b0_:=B2.c2;have HS:=I (xx _ b.neg b.mag n HB.mag (nt hn dx));have hsd:((isg b.neg n == 0)=false):=by
  unfold isg;rw[if_neg om];cases b.neg<;>rfl
 have hsd2:¬isg b.neg n=0:=by simpa using hsd
 generalize isg b.neg n=sv at*;clear ha hb B1 B2 B3 G;simp only[Iv.v];go_enter Tryz.func51,Tryz.ntmps51;go_wp2_with fail;go_at_call 67
 refine cm0 HS fun w1 G1=>?_
 have HG1:=I (HG.trans G1);have D3:=I (G1.bk C3);have HQ:=I (ado w1 a b s t m n (HA.gr G1) (HB.gr G1) hm hn0 hn);obtain⟨x0,x1⟩:=(G1.bk C1).c2;obtain⟨y0,y1⟩:=(G1.bk C2).c2;clear HS b0_ C1 C2 C3 HA HB HG;go_wp2_with fail;go_at_call 56
 refine cm1 HQ fun i w2 HII G2=>?_
 have HG2:=I (HG1.trans G2);have HBs:=I (G2.bk D3);have r0_:=HBs.c3;have fz:=HBs.frozen;have hle:Hid (w.heap.size≤w.heap.size+1+1):=nt (Nat.le_succ _) (Nat.le_succ _);clear HQ D3 x0 x1 y0 y1;generalize w.heap.size+1+1=r at*;go_wp2;refine pex ?_;refine ks HBs fun W5 B5 F5=>?_
 have d_:=B5.c3;refine bret Tryz.results51 ?_;exact⟨i,rfl,HII.fr F5 HBs (b7 _ _ _ _ _ _ _),HG2.fr_at F5 hle⟩
theorem afc (w:World) (a:Int) (b:Nat) (h1:-1000000000≤a) (h2:a≤1000000000) (h3:0 < b) (h4:b≤1000000000):
  Calls Tryz.prog 19 #[.int .i64 a,.int .i64 b] w fun e w'=>∃r:Rv,e=.returned (.tuple #[r.v,.int .i64 0])∧r.Is w' (quot (decide (a < 0)) a.natAbs b)∧Gr w w':=by
 have B1:=Bk.made w 35 Rl;have HG:=I ((Gr.refl w).alloc (.cells Rl 35));have C1:=I B1;have HI:=I (fun W=>za W a h1 h2);have HJ:=I (fun W=>za W (b:Int) om om);clear B1;go_enter Tryz.func19,Tryz.ntmps19;go_wp2_with fail;go_at_call 52
 refine cm1 (HI.out _) fun i w1 HII G1=>?_
 have HG1:=I (HG.trans G1);have C2:=I (G1.bk C1);clear HI C1;go_wp2_with fail;go_at_call 52
 refine cm2 (HJ.out _) fun j w2 hj G2=>?_
 have HG2:=I (HG1.trans G2);have C3:=I (G2.bk C2);rw[show decide ((b:Int) < 0)=false by simp,show ((b:Int)).natAbs=b by omega] at hj;have HM:=I (a73 w2 i j _ _ _ _ (HII.gr G2) hj (nt (b8 (k:=2) (by rw[ba];omega)) dx) h3 (nt (b8 (k:=2) (by rw[ba];omega)) dx));rw[Bool.bne_false] at HM;clear hj HJ C2;go_wp2_with fail;go_at_call 51
 refine cm1 HM fun k w3 HKK G3=>?_
 have HG3:=I (HG2.trans G3);have HBs:=I (G3.bk C3);have r0_:=HBs.c3;have fz:=HBs.frozen;clear HM C3;generalize hp:w.heap.size=r at*;have hPE:=I hp;clear hp;go_wp2;refine pex ?_;refine ks HBs fun W5 B5 F5=>?_
 have d_:=B5.c3;refine bret Tryz.results19 ?_;exact⟨k,rfl,HKK.fr F5 HBs (b7 _ _ _ _ _ _ _),HG3.fr_at F5 (Nat.le_of_eq hPE)⟩
theorem a3e (w:World) (a:Rv) (q:Q) (ha:a.Is w q) (hq:q.Ok) (hl:Sl q.num) (hd:Sl q.den):
  Calls Tryz.prog 142 #[a.v] w fun e w'=>e=.returned (.bool true)∧Gr w w':=by
 have B1:=Bk.made w 35 a.ar;have G:=(Gr.refl w).alloc (.cells a.ar 35);have HA:=I (ha.gr G);have HG:=I G;have C1:=I B1;have HC:=I (xy (w.alloc (.cells a.ar 35)).drew a q (HA.gr (Gr.refl _).drew) hl hd);rw[jl hq] at HC;clear ha B1 G;simp only[Rv.v] at*;go_enter Tryz.func142,Tryz.ntmps142;go_wp2_with fail;generalize hW:w.alloc (.cells a.ar 35)=W at*;clear hW;generalize w.heap.size=p at*;have a0_:=C1.c3
 first | (go_region_held3 (fun W=>W.cell? ⟨p,0,none⟩=some (.bool a.neg)∧W.cell? ⟨p,1,none⟩=some a.num.v∧W.cell? ⟨p,2,none⟩=some a.den.v)
   (first | go_keep | exact⟨hk.1,hk.2.1,hk.2.2⟩ | exact⟨hj.1,hj.2.1,hj.2.2⟩)
   (first | (go_at_call 151;refine (HQ.out).mono ?_;rintro e w2 ⟨rfl,G2⟩;have C3:=I (G2.bk C2.out);have HG2:=I (HG1.out.trans G2);have hj:=C3.out.c3;clear G2) | (go_at_call 124;refine (HC.out).mono ?_;rintro e w1 ⟨y,rfl,hy,G1⟩;have C2:=I (G1.bk C1.out);have HG1:=I (HG.out.drew.trans G1);have hk:=C2.out.c3;have HQ:=I (a16 w1 a y q q ((HA.out.gr (Gr.refl W).drew).gr G1) hy);rw[dt (rfl:q=q)] at HQ;simp only[Rv.v] at HQ;clear hy G1))) | fail
 go_wp2;go_ret;exact⟨rfl,HG2.out⟩
end
structure Q.Sm (q:Q):Prop where
 num:(a7 q.num).length≤10000
 den:(a7 q.un).length≤10000
theorem a25 {n:Nat} (h:n < B32):(a7 n).length≤10000:=nt (b8 (k:=1) (by rw[Nat.pow_one];exact h)) dx
theorem Q.Sm.small {q:Q} (h1:q.num < B32) (h2:q.den < B32):q.Sm:=⟨a25 h1,a25 (by unfold Q.un;split;decide;exact h2)⟩
theorem Q.Sm.lo {q:Q} (h:q.Sm):q.Lo:=⟨h.num,h.den⟩
theorem Q.Lo.sm {q:Q} (h:q.Lo):q.Sm:=⟨h.num,h.den⟩
theorem an0:Q.one.Lo:=Q.Sm.lo (Q.Sm.small dx dx)
theorem ajr:Q.mone.Lo:=Q.Sm.lo (Q.Sm.small dx dx)
theorem ajq:Q.zero.Lo:=Q.Sm.lo (Q.Sm.small dx dx)
abbrev Fm.zero:Fm:=⟨[],Q.zero⟩
def nx (n:Nat):List Nat→Nat×List Nat
 | []=>(0,[])
 | x::r=>(x % n,r)
theorem qq {n:Nat} (h:0 < n) (r:List Nat):(nx n r).1 < n:=by
 cases r with
 | nil=>exact h
 | cons x r=>exact Nat.mod_lt _ h
def a3t (a:Int) (b:Nat):Q:=quot (decide (a < 0)) a.natAbs b
def denN (b:Nat):Nat:=[1,1,2,4].getD b 0
def numQ (r:List Nat):Q×List Nat:=(a3t ((nx 9 r).1 - 4) (denN (nx 4 (nx 9 r).2).1),(nx 4 (nx 9 r).2).2)
structure Q.Tiny (q:Q):Prop where
 ok:q.Ok
 num:q.num≤4
 den:q.den≤4
theorem abm:∀a,a < 9→∀b,b < 4→(a3t ((a:Nat) - 4) (denN b)).Ok∧(a3t ((a:Nat) - 4) (denN b)).num≤4∧(a3t ((a:Nat) - 4) (denN b)).den≤4:=by decide
theorem ee (r:List Nat):(numQ r).1.Tiny:=by
 obtain⟨h1,h2,h3⟩:=abm _ (qq (n:=9) (by decide) r) _ (qq (n:=4) (by decide) (nx 9 r).2);exact⟨h1,h2,h3⟩
def formT:Nat→Nat→List Tm→List Nat→List Tm×List Nat
 | 0,_,ts,r=>(ts,r)
 | n+1,v,ts,r=>if 0 < (nx 3 r).1 then formT n (v+1) (snoc ts v (numQ (nx 3 r).2).1) (numQ (nx 3 r).2).2 else formT n (v+1) ts (nx 3 r).2
def fu (vars:Nat) (r:List Nat):Fm×List Nat:=(⟨(formT vars 0 [] (numQ r).2).1,(numQ r).1⟩,(formT vars 0 [] (numQ r).2).2)
structure Fm.Small (f:Fm) (vars:Nat):Prop where
 ok:f.Ok vars
 num:∀t∈f.terms,t.2.Tiny
 const:f.const.Tiny
theorem xt {l:List Tm} {k c:Q} {v:Nat} (h:Fm.Small ⟨l,k⟩ v) (hc:c.Tiny):Fm.Small ⟨snoc l v c,k⟩ (v+1):=by
 refine⟨h.ok.snoc hc.ok,fun t ht=>?_,h.const⟩;unfold snoc at ht;simp only at ht;split at ht
 ·exact h.num t ht
 ·rcases List.mem_append.1 ht with h1 | h1
  ·exact h.num t h1
  ·rw[List.mem_singleton.1 h1];exact hc
theorem ox {k:Q}:∀(n v:Nat) (ts:List Tm) (r:List Nat),Fm.Small ⟨ts,k⟩ v→Fm.Small ⟨(formT n v ts r).1,k⟩ (v+n)
 | 0,v,ts,r,h=>h
 | n+1,v,ts,r,h=>by
  unfold formT;rw[show v+(n+1)=v+1+n by omega];split
  ·exact ox n (v+1) _ _ (xt h (ee _))
  ·exact ox n (v+1) _ _ ⟨h.ok.mono (by omega),h.num,h.const⟩
theorem oy (vars:Nat) (r:List Nat):(fu vars r).1.Small vars:=by
 have h0:Fm.Small ⟨[],(numQ r).1⟩ 0:=⟨⟨fun i s t hs=>(by simp at hs),fun t ht=>(by cases ht),(ee r).ok⟩,fun t ht=>(by cases ht),ee r⟩;have:=ox vars 0 [] (numQ r).2 h0;rw[Nat.zero_add] at this;exact this
def ea:Nat→Nat→List Nat→List Fm×List Nat
 | 0,_,r=>([],r)
 | n+1,v,r=>((fu v r).1::(ea n (v+1) (fu v r).2).1,(ea n (v+1) (fu v r).2).2)
def iz:Nat→Nat→List Nat→List Fm×List Nat
 | 0,_,r=>([],r)
 | n+1,v,r=>((fu v r).1::(iz n v (fu v r).2).1,(iz n v (fu v r).2).2)
structure Gm where
 inputs:Nat
 units:List Fm
 outputs:List Fm
 deriving DecidableEq,Inhabited
def dc (r:List Nat):Gm×List Nat:=
 let i:=nx 3 r
 let u:=nx 5 i.2
 let o:=nx 3 u.2
 let us:=ea u.1 (1+i.1) o.2
 let os:=iz (1+o.1) (1+i.1+u.1) us.2
 (⟨1+i.1,us.1,os.1⟩,os.2)
structure Gm.Ok (g:Gm):Prop where
 i0:1≤g.inputs
 i9:g.inputs≤3
 u9:g.units.length≤4
 o0:1≤g.outputs.length
 o9:g.outputs.length≤3
 us:∀(j:Nat) (f:Fm),g.units[j]?=some f→f.Small (g.inputs+j)
 os:∀f∈g.outputs,f.Small (g.inputs+g.units.length)
theorem rm:∀(n v:Nat) (r:List Nat),(ea n v r).1.length=n
 | 0,_,_=>rfl
 | n+1,v,r=>by unfold ea;rw[List.length_cons,rm]
theorem qn:∀(n v:Nat) (r:List Nat),(iz n v r).1.length=n
 | 0,_,_=>rfl
 | n+1,v,r=>by unfold iz;rw[List.length_cons,qn]
theorem a0y:∀(n v:Nat) (r:List Nat) (j:Nat) (f:Fm),(ea n v r).1[j]?=some f→f.Small (v+j)
 | 0,_,_,j,f,h=>by simp[ea] at h
 | n+1,v,r,0,f,h=>by
  unfold ea at h;obtain rfl:(fu v r).1=f:=by simpa using h
  exact oy v r
 | n+1,v,r,j+1,f,h=>by
  unfold ea at h;rw[show v+(j+1)=v+1+j by omega];exact a0y n (v+1) (fu v r).2 j f (by simpa using h)
theorem vy:∀(n v:Nat) (r:List Nat),∀f∈(iz n v r).1,f.Small v
 | 0,_,_,f,h=>by simp[iz] at h
 | n+1,v,r,f,h=>by
  unfold iz at h;rcases List.mem_cons.1 h with rfl | h
  ·exact oy v r
  ·exact vy n v (fu v r).2 f h
theorem x5 (r:List Nat):(dc r).1.Ok:=by
 have h1:=qq (n:=3) (by decide) r;have h2:=qq (n:=5) (by decide) (nx 3 r).2;have h3:=qq (n:=3) (by decide) (nx 5 (nx 3 r).2).2;unfold dc;refine⟨by simp only;omega,by simp only;omega,?_,?_,?_,fun j f hf=>a0y _ _ _ j f hf,fun f hf=>?_⟩
 ·simp only[rm];omega
 ·simp only[qn];omega
 ·simp only[qn];omega
 ·have:=vy _ _ _ f hf;simp only[rm];exact this
structure Fm.Sm (f:Fm) (vars:Nat):Prop where
 ok:f.Ok vars
 num:∀t∈f.terms,t.2.Sm
 const:f.const.Sm
structure Gm.Va (g:Gm):Prop where
 i0:1≤g.inputs
 i9:g.inputs≤256
 u9:g.units.length≤1024
 o0:1≤g.outputs.length
 o9:g.outputs.length≤256
 us:∀(j:Nat) (f:Fm),g.units[j]?=some f→f.Sm (g.inputs+j)
 os:∀f∈g.outputs,f.Sm (g.inputs+g.units.length)
theorem Q.Tiny.sm {q:Q} (h:q.Tiny):q.Sm:=Q.Sm.small (nj h.num dx) (nj h.den dx)
theorem Fm.Small.sm {f:Fm} {n:Nat} (h:f.Small n):f.Sm n:=⟨h.ok,fun t ht=>(h.num t ht).sm,h.const.sm⟩
theorem Gm.Ok.va {g:Gm} (h:g.Ok):g.Va:=⟨h.i0,nt h.i9 dx,nt h.u9 dx,h.o0,nt h.o9 dx,fun j f hf=>(h.us j f hf).sm,fun f hf=>(h.os f hf).sm⟩
section
attribute [local go_sem] Oper.semAt_some
theorem uh {n:Nat} (h:Sl n):Sl (se n):=by
 unfold se;split
 ·show (a7 1).length≤100000;rw[fi dx dx];exact (by decide:1≤100000)
 ·exact h
theorem a9c (w:World) (a b:Rv) (x y:Q) (ha:a.Is w x) (hb:b.Is w y) (h1:Sl x.num) (h2:Sl y.num) (h3:Sl x.den) (h4:Sl y.den):
  Calls Tryz.prog 69 #[a.v,b.v] w fun e w'=>∃r:Rv,e=.returned r.v∧r.Is w' (Q.mul x y)∧Gr w w':=by
 have U1:Hid (Sl x.un):=uh h3;have U2:Hid (Sl y.un):=uh h4;have bd:∀m n,Sl m→Sl n→(a7 (m*n)).length≤300000:=fun m n hm hn=>nt (bh m n) (nt (Nat.add_le_add hm hn) dx)
 have HL:=I (bd _ _ h1 h2);have U3:=I (bd _ _ U1 U2);have L1:=I h1;have L2:=I h2;have L3:=I h3;have L4:=I h4;have L5:=I U1.out;have L6:=I U2.out;have hE:Hid (Q.mul x y=quot (x.neg != y.neg) (x.num*y.num) (x.un*y.un)):=rfl;have N1:=I ha.neg;have N2:=I hb.neg;clear h1 h2 h3 h4 bd;simp only[Rv.v] at*;go_enter Tryz.func69,Tryz.ntmps69;go_wp2_with fail;have h9:¬w.heap.size=w.heap.size+1+1:=by omega
 have h8:¬w.heap.size+1=w.heap.size+1+1:=by omega
 have hpo:Hid (w.heap.size≤w.heap.size+1+1):=nt (Nat.le_succ _) (Nat.le_succ _);refine nw3h fun W HG4 C1 C2 C3=>?_
 have HA4:=I (ha.gr HG4);have HB4:=I (hb.gr HG4);clear ha hb;generalize w.heap.size+1+1=r at*;generalize w.heap.size+1=q at*;generalize hp:w.heap.size=p at*;have hPE:=I hp;clear hp;have h6:¬r=p:=fun e=>h9 e.symm
 have h5:¬r=q:=fun e=>h8 e.symm
 have a0_:=C1.c3;have b0_:=C2.c3;have HG0:Hid (Gr W W.drew):=(Gr.refl W).drew;have HM0:=I (ko W.drew a.num b.num _ _ (HA4.num.gr HG0) (HB4.num.gr HG0) (nt L1 dx) (nt L2 dx));rw[vl,vl] at HM0;have HU1:Hid (∀W2,Gr W W2→Calls Tryz.prog 54 #[a.den.v] W2 fun e w'=>∃y':Sv,e=.returned y'.v∧y'.Num w' (a7 x.un)∧Gr W2 w'):=fun W2 G=>jw W2 a.den _ (HA4.den.gr G) (nt L3 dx)
 have HU2:Hid (∀W2,Gr W W2→Calls Tryz.prog 54 #[b.den.v] W2 fun e w'=>∃y':Sv,e=.returned y'.v∧y'.Num w' (a7 y.un)∧Gr W2 w'):=fun W2 G=>jw W2 b.den _ (HB4.den.gr G) (nt L4 dx)
 first | (go_region_held3 (fun W=>W.cell? ⟨p,0,none⟩=some (.bool a.neg)∧W.cell? ⟨p,1,none⟩=some a.num.v∧W.cell? ⟨p,2,none⟩=some a.den.v∧W.cell? ⟨q,0,none⟩=some (.bool b.neg)∧W.cell? ⟨q,1,none⟩=some b.num.v∧W.cell? ⟨q,2,none⟩=some b.den.v)
   (first | go_keep | exact⟨hk0.1.1,hk0.1.2.1,hk0.1.2.2,hk0.2.1,hk0.2.2.1,hk0.2.2.2⟩ | exact⟨hk1.1.1,hk1.1.2.1,hk1.1.2.2,hk1.2.1,hk1.2.2.1,hk1.2.2.2⟩ | exact⟨hk2.1.1,hk2.1.2.1,hk2.1.2.2,hk2.2.1,hk2.2.2.1,hk2.2.2.2⟩ | exact⟨hk3.1.1,hk3.1.2.1,hk3.1.2.2,hk3.2.1,hk3.2.2.1,hk3.2.2.2⟩ | exact⟨hk4.1.1,hk4.1.2.1,hk4.1.2.2,hk4.2.1,hk4.2.2.1,hk4.2.2.2⟩)
   (first | (go_at_call 56;refine (HQ.out).mono ?_;rintro e w7 ⟨i,rfl,hi,G8⟩;have HG8:=I (HG7.out.trans G8);have hk4:=ai (HG8.out.bk C1.out).c3 (HG8.out.bk C2.out).c3;have HBs:=I (HG8.out.bk C3.out);obtain⟨r0,r1,r2⟩:=HBs.out.c3;have fz:=HBs.out.frozen;have HII:=I hi;clear hi G8) | (go_at_call 53;refine (HM.out).mono ?_;rintro e w6 ⟨z,rfl,hz,G7⟩;have HG7:=I (HG6.out.trans G7);have hk3:=ai (HG7.out.bk C1.out).c3 (HG7.out.bk C2.out).c3;have HQ:=I (me w6 (a.neg != b.neg) m z _ _ (HNM2.out.gr G7) hz HL.out (Nat.mul_pos x.un_pos y.un_pos) U3.out);clear hz G7) | (go_at_call 54;refine ((HU2.out w4 HG5.out)).mono ?_;rintro e w5 ⟨v,rfl,hv,G6⟩;have HNM2:=I (HNM1.out.gr G6);have HG6:=I (HG5.out.trans G6);have hk2:=ai (HG6.out.bk C1.out).c3 (HG6.out.bk C2.out).c3;have HM:=I (ko w5 u v _ _ (HNU.out.gr G6) hv (nt L5.out dx) (nt L6.out dx));rw[vl,vl] at HM;clear hv G6) | (go_at_call 54;refine ((HU1.out w3 HG3.out)).mono ?_;rintro e w4 ⟨u,rfl,hu,G5⟩;have HNM1:=I (HNM.out.gr G5);have HG5:=I (HG3.out.trans G5);have hk1:=ai (HG5.out.bk C1.out).c3 (HG5.out.bk C2.out).c3;have HNU:=I hu;clear hu G5) | (go_at_call 53;refine (HM0.out).mono ?_;rintro e w3 ⟨m,rfl,hm,G4⟩;have HG3:=I (HG0.out.trans G4);have hk0:=ai (HG3.out.bk C1.out).c3 (HG3.out.bk C2.out).c3;have HNM:=I hm;clear hm G4))) | fail
 go_wp2;refine pex ?_;refine ks HBs fun W5 B5 F5=>?_
 have d_:=B5.c3;refine bret Tryz.results69 ?_;exact⟨i,rfl,by rw[hE.out,← N1.out,← N2.out];exact HII.fr F5 HBs (b7 _ _ _ _ _ _ _),(HG4.trans HG8).fr_at F5 (by rw[hPE.out];exact hpo.out)⟩
theorem a8m (w:World) (a b:Iv) (s t:Bool) (m n:Nat) (ha:a.Is w s m) (hb:b.Is w t n) (hm:(a7 m).length≤300000) (hn:(a7 n).length≤300000):
    Calls Tryz.prog 55 #[a.v,b.v] w fun e w'=>∃r:Iv,e=.returned r.v∧r.Is w' (sadd s m t n).1 (sadd s m t n).2∧Gr w w':=by
  obtain⟨B1,B2,B3,G⟩:=a7g w 118 118 118 #[.bool a.neg,a.mag.v] #[.bool b.neg,b.mag.v] #[.bool false,Nl];have hs:=I ha.neg;have ht:=I hb.neg;have HA:=I (ha.mag.gr G);have HB:=I (hb.mag.gr G);have HG:=I G;have HLM:=I hm;have HLN:=I hn;have hB1:=I B1;have hB2:=I B2;have hB3:=I B3;have a0_:=B1.c2;have b0_:=B2.c2;clear ha hb hm hn G B1 B2 B3;simp only[Iv.v];have HLA:Hid ((a7 m).length≤400000):=nt HLM dx;have HLB:Hid ((a7 n).length≤400000):=nt HLN dx;have HLP:Hid ((a7 (m+n)).length≤1000000):=nt (du m n _ HLM HLN) dx;by_cases hst:s=t
  · have HE:Hid (sadd s m t n=(s&&decide (0 < m+n),m+n)):=by unfold sadd;exact if_pos hst
    have hsd:(a.neg == b.neg)=true:=by rw[hs.out,ht.out,hst];simp
    go_enter Tryz.func55,Tryz.ntmps55;go_wp2_with fail;generalize hW:((w.alloc (.cells #[.bool a.neg,a.mag.v] 118)).alloc (.cells #[.bool b.neg,b.mag.v] 118)).alloc (.cells #[.bool false,Nl] 118)=W at*;clear hW;have hpr:¬w.heap.size=w.heap.size+1+1:=by omega
    have hqr:¬w.heap.size+1=w.heap.size+1+1:=by omega
    have hle:Hid (w.heap.size≤w.heap.size+1+1):=nt (Nat.le_succ _) (Nat.le_succ _);generalize w.heap.size+1+1=r at*;generalize w.heap.size+1=q at*;generalize hp:w.heap.size=p at*;have hPE:=I hp;clear hp;have hpr2:¬r=p:=fun e=>hpr e.symm
    have hqr2:¬r=q:=fun e=>hqr e.symm
    clear a0_ b0_;have a0_:=hB1.c2;have b0_:=hB2.c2;have HM:=I (a18 W.drew a.mag b.mag _ _ (HA.gr (Gr.refl W).drew) (HB.gr (Gr.refl W).drew) HLA HLB);rw[vl,vl] at HM
    first | (go_region_held3 (fun W=>W.cell? ⟨p,0,none⟩=some (.bool a.neg)∧W.cell? ⟨p,1,none⟩=some a.mag.v∧W.cell? ⟨q,0,none⟩=some (.bool b.neg)∧W.cell? ⟨q,1,none⟩=some b.mag.v) (first | go_keep | exact⟨hk1.1,hk1.2,hk2.1,hk2.2⟩ | exact⟨hj1.1,hj1.2,hj2.1,hj2.2⟩)
      (first | (go_at_call 110;refine HM.out.mono ?_;rintro e w1 ⟨z,rfl,hz,G1⟩;have hk1:=(G1.bk hB1.out).c2;have hk2:=(G1.bk hB2.out).c2;have HI:=I (jh w1 a.neg z _ hz HLP.out);have HBr:=I (G1.bk hB3.out);have HG1:=I (HG.out.drew.trans G1);have hB1':=I (G1.bk hB1.out);have hB2':=I (G1.bk hB2.out);clear hz G1)
             | (go_at_call 106;refine HI.mono ?_;rintro e w2 ⟨i,rfl,hi,G2⟩;have hj1:=(G2.bk hB1').c2;have hj2:=(G2.bk hB2').c2;have HBs:=I (G2.bk HBr);obtain⟨r0,r1⟩:=HBs.c2;have fz:=HBs.frozen;have HG2:=I (HG1.trans G2);have HII:=I hi;clear hi G2))) | fail
    go_wp2;refine pex ?_;refine ks HBs fun W5 B5 F5=>?_
    have d_:=B5.c2;refine bret Tryz.results55 ?_;exact⟨i,rfl,by rw[HE.out];exact⟨by rw[HII.neg,hs.out],HII.mag.fr F5 HBs (bf _ _ _ _)⟩,HG2.fr_at F5 (by rw[hPE.out];exact hle.out)⟩
  · have hsd:(a.neg == b.neg)=false:=by rw[hs.out,ht.out];simpa using hst
    have HC:=I (a17 _ a.mag b.mag _ _ HA HB HLA HLB);rw[vl,vl] at HC;have hle:Hid (w.heap.size≤w.heap.size+1+1):=nt (Nat.le_succ _) (Nat.le_succ _);go_enter Tryz.func55,Tryz.ntmps55;go_wp2_with fail;go_at_call 111
    refine HC.mono ?_;rintro e w1 ⟨G1,⟨hnm,z,rfl,hz⟩ | ⟨hmn,rfl⟩⟩
    · have HG3:=I (HG.trans G1)
      have HR3:=I (G1.bk hB3);obtain⟨x0,x1⟩:=(G1.bk hB1).c2;have HE:Hid (sadd s m t n=(s&&decide (0 < m - n),m - n)):=by
        unfold sadd;rw[if_neg hst,if_neg om];exact rfl
      have HI:=I (jh w1 a.neg z _ hz (nt (aq (Nat.sub_le m n)) (nt HLA dx)));clear hz G1 HC hB1 hB2 hB3 HG HA HB a0_ b0_ hnm;go_wp2_with fail;go_at_call 106
      refine cm1 HI fun i w4 HII G4=>?_
      have HG4:=I (HG3.trans G4);have HBs:=I (G4.bk HR3);obtain⟨r0,r1⟩:=HBs.c2;have fz:=HBs.frozen;clear HI;generalize w.heap.size+1+1=r at*;go_wp2;refine pex ?_;refine ks HBs fun W5 B5 F5=>?_
      have d_:=B5.c2;refine bret Tryz.results55 ?_;exact⟨i,rfl,by rw[HE.out];exact⟨by rw[HII.neg,hs.out],HII.mag.fr F5 HBs (bf _ _ _ _)⟩,HG4.fr_at F5 hle⟩
    · have HG2:=I (HG.trans G1)
      have hC1:=I (G1.bk hB1);have hC2:=I (G1.bk hB2);have hC3:=I (G1.bk hB3);obtain⟨x0,x1⟩:=hC1.c2;have y0_:=hC2.c2;have HE:Hid (sadd s m t n=(t&&decide (0 < n - m),n - m)):=by
        unfold sadd;rw[if_neg hst,if_pos hmn,dt om,Bool.and_true];exact rfl
      have HD:=I (a17 w1 b.mag a.mag _ _ (HB.gr G1) (HA.gr G1) HLB HLA);rw[vl,vl] at HD;clear G1 HC hB1 hB2 hB3 HG HA HB a0_ b0_;go_wp2_with fail;go_at_call 111
      refine HD.mono ?_;rintro e w3 ⟨G3,⟨_,z,rfl,hz⟩ | ⟨hx,rfl⟩⟩
      · have HG3:=I (HG2.trans G3)
        have HR3:=I (G3.bk hC3);obtain⟨u0,u1⟩:=(G3.bk hC2).c2;have HI:=I (jh w3 b.neg z _ hz (nt (aq (Nat.sub_le n m)) (nt HLB dx)));clear hz G3 HD hC1 hC2 hC3 x0 x1 y0_ hmn;go_wp2_with fail;go_at_call 106
        refine cm1 HI fun i w4 HII G4=>?_
        have HG4:=I (HG3.trans G4);have HBs:=I (G4.bk HR3);obtain⟨r0,r1⟩:=HBs.c2;have fz:=HBs.frozen;clear HI;generalize w.heap.size+1+1=r at*;go_wp2;refine pex ?_;refine ks HBs fun W5 B5 F5=>?_
        have d_:=B5.c2;refine bret Tryz.results55 ?_;exact⟨i,rfl,by rw[HE.out];exact⟨by rw[HII.neg,ht.out],HII.mag.fr F5 HBs (bf _ _ _ _)⟩,HG4.fr_at F5 hle⟩
      · exact absurd hx om
theorem a9d (w:World) (a b:Rv) (x y:Q) (ha:a.Is w x) (hb:b.Is w y) (hx:x.Ok) (hy:y.Ok) (h1:Sl x.num) (h2:Sl y.num) (h3:Sl x.den) (h4:Sl y.den):
  Calls Tryz.prog 20 #[a.v,b.v] w fun e w'=>∃r:Rv,e=.returned r.v∧r.Is w' (Q.add x y)∧Gr w w':=by
 obtain⟨B1,B2,B3,G⟩:=a7g w 35 35 35 a.ar b.ar Rl;have HA:=I (ha.gr G);have HB:=I (hb.gr G);have HG:=I G;have C1:=I B1;have C2:=I B2;have C3:=I B3;have U1:Hid (Sl x.un):=uh h3;have U2:Hid (Sl y.un):=uh h4;have L:∀n,Sl n→(a7 n).length≤400000:=fun n h=>nt h dx
 have L1:=I (L _ h1);have L2:=I (L _ h2);have L3:=I (nt (L _ h3) (by decide:400000≤1000000));have L4:=I (nt (L _ h4) (by decide:400000≤1000000));have L5:=I (L _ U1);have L6:=I (L _ U2);have bd:∀m n,Sl m→Sl n→(a7 (m*n)).length≤200000:=fun m n hm hn=>nt (bh m n) (Nat.add_le_add hm hn)
 have b1:=bd _ _ h1 U2;have b2:=bd _ _ h2 U1;have b3:=bd _ _ U1 U2;have BL1:=I (nt b1 (by decide:200000≤300000));have BL2:=I (nt b2 (by decide:200000≤300000));have BD:=I (nt b3 (by decide:200000≤300000));have BQ:Hid ((a7 (sadd x.neg (x.num*y.un) y.neg (y.num*x.un)).2).length≤300000):=by
  show (a7 (sadd x.neg (x.num*y.un) y.neg (y.num*x.un)).2).length≤300000;unfold sadd;split
  ·exact nt (du _ _ 200000 b1 b2) dx
  ·split
   ·exact nt (aq (Nat.sub_le _ _)) (nt b2 dx)
   ·exact nt (aq (Nat.sub_le _ _)) (nt b1 dx)
 have hE:Hid (Q.add x y=quot (sadd x.neg (x.num*y.un) y.neg (y.num*x.un)).1 (sadd x.neg (x.num*y.un) y.neg (y.num*x.un)).2 (x.un*y.un)):=by
  show Q.add x y=_;have e:∀u v:Q,u.Ok→(u.sg&&decide (0 < u.num*v.un))=u.neg:=fun u v hu=>by
   unfold Q.sg;by_cases h0:u.num=0
   ·rw[h0,(hu.pos h0).1];rfl
   ·rw[dt (by omega:0 < u.num),dt (Nat.mul_pos om v.un_pos),Bool.and_true,Bool.and_true]
  unfold Q.add;rw[e _ _ hx,e _ _ hy]
 clear ha hb B1 B2 B3 G L bd b1 b2 b3 hx hy h1 h2 h3 h4;simp only[Rv.v] at*;go_enter Tryz.func20,Tryz.ntmps20;go_wp2_with fail;have h9:¬w.heap.size=w.heap.size+1+1:=by omega
 have h8:¬w.heap.size+1=w.heap.size+1+1:=by omega
 have hpo:Hid (w.heap.size≤w.heap.size+1+1):=nt (Nat.le_succ _) (Nat.le_succ _);generalize hW:((w.alloc (.cells a.ar 35)).alloc (.cells b.ar 35)).alloc (.cells Rl 35)=W at*;clear hW;generalize w.heap.size+1+1=r at*;generalize w.heap.size+1=q at*;generalize hp:w.heap.size=p at*;have hPE:=I hp;clear hp;obtain⟨a0,a1,a2⟩:=C1.c3;obtain⟨b0,b1,b2⟩:=C2.c3;have HG0:Hid (Gr W W.drew):=(Gr.refl W).drew;have kp:Hid (∀X,Gr W X→(fun W=>W.cell? ⟨p,0,none⟩=some (.bool a.neg)∧W.cell? ⟨p,1,none⟩=some a.num.v∧W.cell? ⟨p,2,none⟩=some a.den.v∧W.cell? ⟨q,0,none⟩=some (.bool b.neg)∧W.cell? ⟨q,1,none⟩=some b.num.v∧W.cell? ⟨q,2,none⟩=some b.den.v) X):=fun X G=>⟨G.keep a0,G.keep a1,G.keep a2,G.keep b0,G.keep b1,G.keep b2⟩
 have HU:Hid (∀W2,Gr W W2→Calls Tryz.prog 54 #[b.den.v] W2 fun e w'=>∃u:Sv,e=.returned u.v∧u.Num w' (a7 y.un)∧Gr W2 w'):=fun W2 G=>jw W2 b.den _ (HB.den.gr G) L4
 have HM:Hid (∀W2 {u:Sv},Gr W W2→u.Num W2 (a7 y.un)→Calls Tryz.prog 53 #[a.num.v,u.v] W2 fun e w'=>∃z:Sv,e=.returned z.v∧z.Num w' (a7 (x.num*y.un))∧Gr W2 w'):=fun W2 u G hu=>by
  have h:=ko W2 a.num u _ _ (HA.num.gr G) hu L1 L6;rw[vl,vl] at h;exact h
 go_cut [5] from 8 (fun s wx=>∃(g:Nat) (z:Sv),s=.pointer (some ⟨g,0,none⟩)∧Hid (Bk wx g 118 #[.bool a.neg,z.v])∧Hid (z.Num wx (a7 (x.num*y.un)))∧Hid (Gr W wx)∧Hid (W.heap.size≤g))
 case first=>
  first | (go_region_held3 (fun W=>W.cell? ⟨p,0,none⟩=some (.bool a.neg)∧W.cell? ⟨p,1,none⟩=some a.num.v∧W.cell? ⟨p,2,none⟩=some a.den.v∧W.cell? ⟨q,0,none⟩=some (.bool b.neg)∧W.cell? ⟨q,1,none⟩=some b.num.v∧W.cell? ⟨q,2,none⟩=some b.den.v)
    (first | exact kp.out _ (by first | exact HH2.out | exact HH2.out.alloc _ | exact HH1.out | exact HH1.out.alloc _ | exact HG0.out | exact HG0.out.alloc _ | exact ((Gr.refl _).alloc _).drew | exact (((HH2.out).set (nr _) _).set (nr _) _) | exact (((HH2.out).set HH1.out.size _).set HH1.out.size _) | exact (((HH2.out.alloc _).set HH2.out.size _).set HH2.out.size _) | exact (((HH2.out.alloc _).set (nr _) _).set (nr _) _)) | go_keep)
    (first | (go_at_call 53;refine (HM.out _ HH1.out hU1.out).mono ?_;rintro e v2 ⟨z,rfl,hz,G⟩;have HH2:=I (HH1.out.trans G);have hU2:=I (hU1.out.gr G);have hZ2:=I hz;clear hz;(first | (have hN2:=I (G.bk hN1.out);obtain⟨n20,n21⟩:=hN2.out.c2;have fz:=hN2.out.frozen;clear G) | clear G)) | (go_at_call 53;with_reducible show Calls _ _ _ (World.alloc _ _) _;refine (HM.out _ (HH1.out.alloc (.cells #[.bool false,.slice none 0 0] 118)) (hU1.out.gr ((Gr.refl _).alloc (.cells #[.bool false,.slice none 0 0] 118)))).mono ?_;rintro e v2 ⟨z,rfl,hz,G⟩;have HH2:=I ((HH1.out.alloc (.cells #[.bool false,.slice none 0 0] 118)).trans G);have hU2:=I (hU1.out.gr (((Gr.refl _).alloc (.cells #[.bool false,.slice none 0 0] 118)).trans G));have hZ2:=I hz;clear hz;have hN2:=I (G.bk (Bk.made _ 118 #[.bool false,.slice none 0 0]));obtain⟨n20,n21⟩:=hN2.out.c2;have fz:=hN2.out.frozen;clear G) | (go_at_call 54;refine (HU.out _ HG0.out).mono ?_;rintro e v1 ⟨u,rfl,hu,G⟩;have HH1:=I (HG0.out.trans G);have hU1:=I hu;clear hu;clear G) | (go_at_call 54;with_reducible show Calls _ _ _ (World.drew (World.alloc _ _)) _;refine (HU.out _ (((Gr.refl W).alloc (.cells #[.bool false,.slice none 0 0] 118)).drew)).mono ?_;rintro e v1 ⟨u,rfl,hu,G⟩;have HH1:=I ((((Gr.refl W).alloc (.cells #[.bool false,.slice none 0 0] 118)).drew).trans G);have hU1:=I hu;clear hu;have hN1:=I (G.bk ((((Gr.refl _).drew).bk (Bk.made W 118 #[.bool false,.slice none 0 0]))));obtain⟨n10,n11⟩:=hN1.out.c2;have fz:=hN1.out.frozen;clear G))) | fail
  all_goals (go_wp2_with fail;go_meet)
  ·exact⟨_,z,rfl,I (Bk.made v2 118 #[.bool a.neg,z.v]),I (hZ2.gr ((Gr.refl _).alloc _)),I (HH2.alloc _),I HH2.size⟩
  ·exact⟨_,z,rfl,I (hN2.put2 _ _).1,I (hZ2.fr (hN2.put2 _ _).2 hN2 (bf _ _ _ _)),I ((HH2.set HH1.size _).set HH1.size _),I HH1.size⟩
  ·exact⟨_,z,rfl,I (hN2.put2 _ _).1,I (hZ2.fr (hN2.put2 _ _).2 hN2 (bf _ _ _ _)),I ((HH2.set (nr _) _).set (nr _) _),I (nr _)⟩
 case rest=>
  generalize wc=wa at*;obtain⟨g,z,rfl,E1,Z1,K1,le1⟩:=hcut;have D1:=I (K1.bk C1);have D2:=I (K1.bk C2);have D3:=I (K1.bk C3);have HA1:=I (HA.gr K1);have HB1:=I (HB.gr K1);clear a0 a1 a2 b0 b1 b2 HG0 kp HU HM;obtain⟨a0,a1,a2⟩:=D1.c3;obtain⟨b0,b1,b2⟩:=D2.c3;go_wp2_with fail;have HG0:Hid (Gr wa wa.drew):=(Gr.refl wa).drew;have kp:Hid (∀X,Gr wa X→(fun W=>W.cell? ⟨p,0,none⟩=some (.bool a.neg)∧W.cell? ⟨p,1,none⟩=some a.num.v∧W.cell? ⟨p,2,none⟩=some a.den.v∧W.cell? ⟨q,0,none⟩=some (.bool b.neg)∧W.cell? ⟨q,1,none⟩=some b.num.v∧W.cell? ⟨q,2,none⟩=some b.den.v) X):=fun X G=>⟨G.keep a0,G.keep a1,G.keep a2,G.keep b0,G.keep b1,G.keep b2⟩
  have HU:Hid (∀W2,Gr wa W2→Calls Tryz.prog 54 #[a.den.v] W2 fun e w'=>∃u:Sv,e=.returned u.v∧u.Num w' (a7 x.un)∧Gr W2 w'):=fun W2 G=>jw W2 a.den _ (HA1.den.gr G) L3
  have HM:Hid (∀W2 {u:Sv},Gr wa W2→u.Num W2 (a7 x.un)→Calls Tryz.prog 53 #[b.num.v,u.v] W2 fun e w'=>∃z:Sv,e=.returned z.v∧z.Num w' (a7 (y.num*x.un))∧Gr W2 w'):=fun W2 u G hu=>by
   have h:=ko W2 b.num u _ _ (HB1.num.gr G) hu L2 L5;rw[vl,vl] at h;exact h
  go_cut [6] from 17 (fun s wx=>∃(g:Nat) (z:Sv),s=.pointer (some ⟨g,0,none⟩)∧Hid (Bk wx g 118 #[.bool b.neg,z.v])∧Hid (z.Num wx (a7 (y.num*x.un)))∧Hid (Gr wa wx)∧Hid (wa.heap.size≤g))
  case first=>
   first | (go_region_held3 (fun W=>W.cell? ⟨p,0,none⟩=some (.bool a.neg)∧W.cell? ⟨p,1,none⟩=some a.num.v∧W.cell? ⟨p,2,none⟩=some a.den.v∧W.cell? ⟨q,0,none⟩=some (.bool b.neg)∧W.cell? ⟨q,1,none⟩=some b.num.v∧W.cell? ⟨q,2,none⟩=some b.den.v)
     (first | exact kp.out _ (by first | exact HH2.out | exact HH2.out.alloc _ | exact HH1.out | exact HH1.out.alloc _ | exact HG0.out | exact HG0.out.alloc _ | exact ((Gr.refl _).alloc _).drew | exact (((HH2.out).set (nr _) _).set (nr _) _) | exact (((HH2.out).set HH1.out.size _).set HH1.out.size _) | exact (((HH2.out.alloc _).set HH2.out.size _).set HH2.out.size _) | exact (((HH2.out.alloc _).set (nr _) _).set (nr _) _)) | go_keep)
     (first | (go_at_call 53;refine (HM.out _ HH1.out hU1.out).mono ?_;rintro e v2 ⟨z,rfl,hz,G⟩;have HH2:=I (HH1.out.trans G);have hU2:=I (hU1.out.gr G);have hZ2:=I hz;clear hz;(first | (have hN2:=I (G.bk hN1.out);obtain⟨n20,n21⟩:=hN2.out.c2;have fz:=hN2.out.frozen;clear G) | clear G)) | (go_at_call 53;with_reducible show Calls _ _ _ (World.alloc _ _) _;refine (HM.out _ (HH1.out.alloc (.cells #[.bool false,.slice none 0 0] 118)) (hU1.out.gr ((Gr.refl _).alloc (.cells #[.bool false,.slice none 0 0] 118)))).mono ?_;rintro e v2 ⟨z,rfl,hz,G⟩;have HH2:=I ((HH1.out.alloc (.cells #[.bool false,.slice none 0 0] 118)).trans G);have hU2:=I (hU1.out.gr (((Gr.refl _).alloc (.cells #[.bool false,.slice none 0 0] 118)).trans G));have hZ2:=I hz;clear hz;have hN2:=I (G.bk (Bk.made _ 118 #[.bool false,.slice none 0 0]));obtain⟨n20,n21⟩:=hN2.out.c2;have fz:=hN2.out.frozen;clear G) | (go_at_call 54;refine (HU.out _ HG0.out).mono ?_;rintro e v1 ⟨u,rfl,hu,G⟩;have HH1:=I (HG0.out.trans G);have hU1:=I hu;clear hu;clear G) | (go_at_call 54;with_reducible show Calls _ _ _ (World.drew (World.alloc _ _)) _;refine (HU.out _ (((Gr.refl wa).alloc (.cells #[.bool false,.slice none 0 0] 118)).drew)).mono ?_;rintro e v1 ⟨u,rfl,hu,G⟩;have HH1:=I ((((Gr.refl wa).alloc (.cells #[.bool false,.slice none 0 0] 118)).drew).trans G);have hU1:=I hu;clear hu;have hN1:=I (G.bk ((((Gr.refl _).drew).bk (Bk.made wa 118 #[.bool false,.slice none 0 0]))));obtain⟨n10,n11⟩:=hN1.out.c2;have fz:=hN1.out.frozen;clear G))) | fail
   all_goals (go_wp2_with fail;go_meet)
   ·exact⟨_,z,rfl,I (Bk.made v2 118 #[.bool b.neg,z.v]),I (hZ2.gr ((Gr.refl _).alloc _)),I (HH2.alloc _),I HH2.size⟩
   ·exact⟨_,z,rfl,I (hN2.put2 _ _).1,I (hZ2.fr (hN2.put2 _ _).2 hN2 (bf _ _ _ _)),I ((HH2.set HH1.size _).set HH1.size _),I HH1.size⟩
   ·exact⟨_,z,rfl,I (hN2.put2 _ _).1,I (hZ2.fr (hN2.put2 _ _).2 hN2 (bf _ _ _ _)),I ((HH2.set (nr _) _).set (nr _) _),I (nr _)⟩
  case rest=>
   obtain⟨g2,z2,rfl,E2,Z2,K2,le2⟩:=hcut;have J:=I (a8m wc ⟨a.neg,z⟩ ⟨b.neg,z2⟩ x.neg y.neg (x.num*y.un) (y.num*x.un) ⟨HA1.neg,Z1.gr K2⟩ ⟨HB1.neg,Z2.out⟩ BL1 BL2);have F1:=I (K2.bk E1);have HK:=I (K1.trans K2);have HA2:=I (HA.gr HK);have HB2:=I (HB.gr HK);have HS:=I (HG.trans HK);have c1:=I (HK.bk C1);have c2:=I (HK.bk C2);have c3:=I (HK.bk C3);have e0_:=F1.c2;have f0_:=E2.c2;clear a0 a1 a2 b0 b1 b2 HG0 kp HU HM D1 D2 D3 C1 C2 C3 E1 E2 HA1 HB1 Z1 Z2;simp only[Iv.v] at J;go_wp2_with fail;refine cm2 J fun sm w3 hsm G3=>?_
   have D3:=Bk.made w3 118 #[.bool sm.neg,sm.mag.v];have G4:=G3.alloc (.cells #[.bool sm.neg,sm.mag.v] 118);have HSM:=I (hsm.gr ((Gr.refl w3).alloc (.cells #[.bool sm.neg,sm.mag.v] 118)));have HG4:=I (HS.trans G4);have C1:=I (G4.bk c1);have C2:=I (G4.bk c2);have C3:=I (G4.bk c3);have HA4:=I (HA2.gr G4);have HB4:=I (HB2.gr G4);have C4:=I D3;clear hsm G4 J D3 HS c1 c2 c3 HA2 HB2 e0_ f0_ F1 HK K1 K2 HA HB HG;go_wp2_with fail;have h7:¬w3.heap.size=r:=fun e=>Bk.ne C4 C3 dx e
   generalize hW:w3.alloc (.cells #[.bool sm.neg,sm.mag.v] 118)=W at*;clear hW;generalize w3.heap.size=g at*;have h6:¬r=p:=fun e=>h9 e.symm
   have h5:¬r=q:=fun e=>h8 e.symm
   have h4:¬r=g:=fun e=>h7 e.symm
   obtain⟨a0,a1,a2⟩:=C1.c3;obtain⟨b0,b1,b2⟩:=C2.c3;have y0_:=C4.c2;have HG0:Hid (Gr W W.drew):=(Gr.refl W).drew;have HU1:=I (jw W.drew a.den _ (HA4.den.gr HG0) L3);have HU2:Hid (∀W2,Gr W W2→Calls Tryz.prog 54 #[b.den.v] W2 fun e w'=>∃y':Sv,e=.returned y'.v∧y'.Num w' (a7 y.un)∧Gr W2 w'):=fun W2 G=>jw W2 b.den _ (HB4.den.gr G) L4
   first | (go_region_held3 (fun W=>W.cell? ⟨p,0,none⟩=some (.bool a.neg)∧W.cell? ⟨p,1,none⟩=some a.num.v∧W.cell? ⟨p,2,none⟩=some a.den.v∧W.cell? ⟨q,0,none⟩=some (.bool b.neg)∧W.cell? ⟨q,1,none⟩=some b.num.v∧W.cell? ⟨q,2,none⟩=some b.den.v∧W.cell? ⟨g,0,none⟩=some (.bool sm.neg)∧W.cell? ⟨g,1,none⟩=some sm.mag.v)
     (first | go_keep | exact⟨hk1.1.1,hk1.1.2.1,hk1.1.2.2,hk1.2.1.1,hk1.2.1.2.1,hk1.2.1.2.2,hk1.2.2.1,hk1.2.2.2⟩ | exact⟨hk2.1.1,hk2.1.2.1,hk2.1.2.2,hk2.2.1.1,hk2.2.1.2.1,hk2.2.1.2.2,hk2.2.2.1,hk2.2.2.2⟩ | exact⟨hk3.1.1,hk3.1.2.1,hk3.1.2.2,hk3.2.1.1,hk3.2.1.2.1,hk3.2.1.2.2,hk3.2.2.1,hk3.2.2.2⟩ | exact⟨hk4.1.1,hk4.1.2.1,hk4.1.2.2,hk4.2.1.1,hk4.2.1.2.1,hk4.2.1.2.2,hk4.2.2.1,hk4.2.2.2⟩)
     (first | (go_at_call 56;refine (HQ.out).mono ?_;rintro e w7 ⟨i,rfl,hi,G8⟩;have HG8:=I (HG7.out.trans G8);have hk4:=ai (HG8.out.bk C1.out).c3 (ai (HG8.out.bk C2.out).c3 (HG8.out.bk C4.out).c2);have HBs:=I (HG8.out.bk C3.out);obtain⟨r0,r1,r2⟩:=HBs.out.c3;have fz:=HBs.out.frozen;have HII:=I hi;rw[HSM.out.neg] at HII;clear hi G8) | (go_at_call 53;refine (HM.out).mono ?_;rintro e w6 ⟨z,rfl,hz,G7⟩;have HG7:=I (HG6.out.trans G7);have hk3:=ai (HG7.out.bk C1.out).c3 (ai (HG7.out.bk C2.out).c3 (HG7.out.bk C4.out).c2);have HQ:=I (me w6 sm.neg sm.mag z _ _ (HSM.out.mag.gr HG7.out) hz BQ.out (Nat.mul_pos x.un_pos y.un_pos) BD.out);clear hz G7) | (go_at_call 54;refine ((HU2.out w4 HG5.out)).mono ?_;rintro e w5 ⟨v,rfl,hv,G6⟩;have HG6:=I (HG5.out.trans G6);have hk2:=ai (HG6.out.bk C1.out).c3 (ai (HG6.out.bk C2.out).c3 (HG6.out.bk C4.out).c2);have HM:=I (ko w5 u v _ _ (HNU.out.gr G6) hv L5.out L6.out);rw[vl,vl] at HM;clear hv G6) | (go_at_call 54;refine (HU1.out).mono ?_;rintro e w4 ⟨u,rfl,hu,G5⟩;have HG5:=I (HG0.out.trans G5);have hk1:=ai (HG5.out.bk C1.out).c3 (ai (HG5.out.bk C2.out).c3 (HG5.out.bk C4.out).c2);have HNU:=I hu;clear hu G5))) | fail
   go_wp2;refine pex ?_;refine ks HBs fun W5 B5 F5=>?_
   have d_:=B5.c3;refine bret Tryz.results20 ?_;exact⟨i,rfl,by rw[hE.out];exact HII.fr F5 HBs (b7 _ _ _ _ _ _ _),(HG4.trans HG8).fr_at F5 (by rw[hPE.out];exact hpo.out)⟩
end
theorem um (q:Q):(isg q.neg q.num == 0)=decide (q.num=0):=by
 unfold isg;by_cases h:q.num=0
 ·simp[h]
 ·rw[if_neg h,df h];cases q.neg<;>rfl
def fc (v:Int) (c:Q):Bool→List Tm→List Tm→List Tm
 | done,[],acc=>if done then acc else snoc acc v (ci c)
 | done,t::r,acc=>
  if t.1=v then fc v c true r (snoc acc t.1 (Q.add t.2 c))
  else if done=false∧v < t.1 then fc v c true r (snoc (snoc acc v (ci c)) t.1 t.2)
  else fc v c done r (snoc acc t.1 t.2)
def kh (l:List Tm) (v:Int) (c:Q):List Tm:=fc v c false l []
theorem dy (l:List Tm) (v:Int) (q:Q):(snoc l v q).length≤l.length+1:=by
 unfold snoc;split
 ·omega
 ·simp
theorem n8 (v:Int) (c:Q):∀(l:List Tm) (d:Bool) (acc:List Tm),(fc v c d l acc).length≤acc.length+l.length+(if d then 0 else 1)
 | [],d,acc=>by
  unfold fc;cases d
  ·have:=dy acc v (ci c);simp;omega
  ·simp
 | t::r,d,acc=>by
  unfold fc;split
  ·have h1:=n8 v c r true (snoc acc t.1 (Q.add t.2 c));have h2:=dy acc t.1 (Q.add t.2 c);simp at h1 ⊢;omega
  ·split
   ·rename_i h;have h1:=n8 v c r true (snoc (snoc acc v (ci c)) t.1 t.2);have h2:=dy acc v (ci c);have h3:=dy (snoc acc v (ci c)) t.1 t.2;rw[h.1];simp at h1 ⊢;omega
   ·have h1:=n8 v c r d (snoc acc t.1 t.2);have h2:=dy acc t.1 t.2;cases d<;>simp at h1 ⊢<;>omega
theorem Q.Sm.b31 {q:Q} (h:q.Sm):Sl q.num∧Sl q.den:=⟨nt h.num dx,kl (nt h.den dx)⟩
def addT:List Tm→List Tm→List Tm
 | acc,[]=>acc
 | acc,t::r=>addT (kh acc t.1 t.2) r
theorem a2s (t:Tm):∀(l acc:List Tm),addT acc (l++[t])=kh (addT acc l) t.1 t.2
 | [],acc=>rfl
 | s::l,acc=>a2s t l (kh acc s.1 s.2)
def Fm.addR (f g:Fm):Fm:=⟨addT f.terms g.terms,Q.add f.const g.const⟩
def Good (t:Tm):Prop:=t.2.Sm∧t.2.Ok
def eb (c:Q):List Tm→List Tm→List Tm
 | acc,[]=>acc
 | acc,t::r=>eb c (snoc acc t.1 (Q.mul t.2 c)) r
def Fm.scaleR (f:Fm) (c:Q):Fm:=⟨eb c [] f.terms,Q.mul f.const c⟩
theorem Q.one_mul {c:Q} (h:c.Ok):Q.mul Q.one c=c:=by
 have e:=jl h;unfold Q.mul;have h1:(Q.one.neg != c.neg)=c.neg:=by cases c.neg<;>rfl
 have h2:Q.one.un=1:=rfl;rw[h1,h2,show Q.one.num=1 from rfl,Nat.one_mul,Nat.one_mul];exact e
theorem Q.zero_mul (c:Q):Q.mul Q.zero c=Q.zero:=by
 unfold Q.mul quot;rw[show Q.zero.num=0 from rfl,Nat.zero_mul,if_pos rfl]
theorem Q.add_zero {k:Q} (h:k.Ok):Q.add k Q.zero=k:=by
 have e:=jl h;have hs:=sg_ok h;unfold Q.add;have h2:Q.zero.un=1:=rfl;have h3:Q.zero.num=0:=rfl;have h4:Q.zero.sg=false:=rfl;rw[h2,h3,h4,hs,Nat.mul_one,Nat.zero_mul,Nat.mul_one];by_cases h0:k.num=0
 ·obtain⟨h5,h6⟩:=h.pos h0;obtain rfl:k=Q.zero:=by obtain⟨n,a,d⟩:=k;simp only at h0 h5 h6;subst h0 h5 h6;rfl
  decide
 ·have hd:decide (0 < k.num)=true:=dt om;have:sadd (k.neg&&decide (0 < k.num)) k.num (false&&decide (0 < 0)) 0=(k.neg,k.num):=by
   unfold sadd;cases hn:k.neg
   ·simp
   ·simp;omega
  rw[this];exact e
theorem vq {v:Nat} {c:Q} (hc:c.Ok):∀(l acc:List Tm),(∀t∈l,t.1 < v∧t.2.num≠0)→fc v c false l acc=snoc (acc++l) v c
 | [],acc,_=>by
  unfold fc;rw[if_neg dx,l5 hc,List.append_nil]
 | t::r,acc,h=>by
  have ⟨h1,h2⟩:=h t (mf ..);unfold fc;rw[if_neg om,if_neg (fun e=>by have:=e.2;omega),show snoc acc t.1 t.2=acc++[t] from if_neg h2,vq hc r _ (fun s hs=>h s (zC _ hs)),List.append_assoc];rfl
theorem a75 {v:Nat} {c:Q} (hc:c.Ok) (l:List Tm) (h:∀t∈l,t.1 < v∧t.2.num≠0):kh l v c=snoc l v c:=by
 unfold kh;rw[vq hc l [] h,zX]
abbrev varF (v:Int):Fm:=⟨[(v,Q.one)],Q.zero⟩
theorem a6s {v:Int} {c:Q} (hc:c.Ok):Fm.scaleR (varF v) c=⟨snoc [] v c,Q.zero⟩:=by
 unfold Fm.scaleR eb eb;rw[Q.one_mul hc,Q.zero_mul]
theorem ag6 {ts:List Tm} {k c:Q} {v:Nat} (h:Fm.Small ⟨ts,k⟩ v) (hc:c.Tiny):Fm.addR ⟨ts,k⟩ (Fm.scaleR (varF v) c)=⟨snoc ts v c,k⟩:=by
 rw[a6s hc.ok];unfold Fm.addR;simp only;rw[Q.add_zero h.ok.const]
 congr 1
 by_cases h0:c.num=0
 ·rw[show snoc [] (v:Int) c=[] from if_pos h0,show snoc ts (v:Int) c=ts from if_pos h0];rfl
 ·rw[show snoc [] (v:Int) c=[((v:Int),c)] from if_neg h0];show kh ts v c=_;exact a75 hc.ok ts fun t ht=>⟨(h.ok.each t ht).2.1,(h.ok.each t ht).2.2.1⟩
def Q.abs (q:Q):Q:=⟨false,q.num,q.den⟩
def boxQ:Nat→List Nat→(List Q×List Q)×List Nat
 | 0,r=>(([],[]),r)
 | n+1,r=>(((numQ r).1::(boxQ n (numQ (numQ r).2).2).1.1,Q.add (numQ r).1 (numQ (numQ r).2).1.abs::(boxQ n (numQ (numQ r).2).2).1.2),(boxQ n (numQ (numQ r).2).2).2)
theorem ac3 (n:Nat) (r:List Nat):boxQ (n+1) r=(((numQ r).1::(boxQ n (numQ (numQ r).2).2).1.1,Q.add (numQ r).1 (numQ (numQ r).2).1.abs::(boxQ n (numQ (numQ r).2).2).1.2),(boxQ n (numQ (numQ r).2).2).2):=rfl
structure Rgm where
 lo:List Q
 hi:List Q
 rows:List Fm
def kf (n:Nat) (r:List Nat):Rgm×List Nat:=
 (⟨(boxQ n r).1.1,(boxQ n r).1.2,(iz (nx 3 (boxQ n r).2).1 n (nx 3 (boxQ n r).2).2).1⟩,(iz (nx 3 (boxQ n r).2).1 n (nx 3 (boxQ n r).2).2).2)
structure Qr where
 g:Gm
 rg:Rgm
 goal:Fm
def ak (r:List Nat):Qr×List Nat:=
 (⟨(dc r).1,(kf (dc r).1.inputs (dc r).2).1,(fu ((dc r).1.inputs+(dc r).1.units.length) (kf (dc r).1.inputs (dc r).2).2).1⟩,(fu ((dc r).1.inputs+(dc r).1.units.length) (kf (dc r).1.inputs (dc r).2).2).2)
structure Q.Qt (q:Q):Prop where
 ok:q.Ok
 un:q.un ∣ 4
 num:q.num≤4
theorem ak3:∀a,a < 9→∀b,b < 4→(a3t ((a:Nat) - 4) (denN b)).Ok∧4 % (a3t ((a:Nat) - 4) (denN b)).un=0∧(a3t ((a:Nat) - 4) (denN b)).num≤4:=by decide
theorem zu (r:List Nat):(numQ r).1.Qt:=by
 obtain⟨h1,h2,h3⟩:=ak3 _ (qq (n:=9) dx r) _ (qq (n:=4) dx (nx 9 r).2);exact⟨h1,Nat.dvd_of_mod_eq_zero h2,h3⟩
theorem a4m {P:Q→Prop} {l:List Tm} {v:Int} {c:Q} (h:∀t∈l,P t.2) (hc:P c):∀t∈snoc l v c,P t.2:=fun t ht=>by
 unfold snoc at ht;split at ht
 ·exact h t ht
 ·rcases zJ.1 ht with h1 | h1
  ·exact h t h1
  ·rw[mj h1];exact hc
theorem ut:∀(y acc:List Tm),(addT acc y).length≤acc.length+y.length
 | [],acc=>by simp[addT]
 | s::y,acc=>by
  unfold addT;have h1:=ut y (kh acc s.1 s.2);have h2:(kh acc s.1 s.2).length≤acc.length+1:=by have:=n8 s.1 s.2 acc false [];simpa [kh] using this
  rw[zW];omega
theorem ru {P:Q→Prop} {c:Q}:∀(y acc:List Tm),(∀t∈acc,P t.2)→(∀t∈y,P (Q.mul t.2 c))→∀t∈eb c acc y,P t.2
 | [],acc,h,_=>by simpa [eb] using h
 | s::y,acc,h,hy=>by
  unfold eb;exact ru y _ (a4m h (hy s (mf ..))) fun t ht=>hy t (zC _ ht)
theorem rq {c:Q}:∀(y acc:List Tm),(eb c acc y).length≤acc.length+y.length
 | [],acc=>by simp[eb]
 | s::y,acc=>by
  unfold eb;have h1:=rq (c:=c) y (snoc acc s.1 (Q.mul s.2 c));have h2:=dy acc s.1 (Q.mul s.2 c);rw[zW];omega
structure Fm.Qt (f:Fm) (vars:Nat):Prop where
 len:f.terms.length≤vars
 each:∀t∈f.terms,t.2.Qt
 const:f.const.Qt
theorem a0g:∀(n v:Nat) (ts:List Tm) (r:List Nat),(∀t∈ts,t.2.Qt)→(∀t∈(formT n v ts r).1,t.2.Qt)∧(formT n v ts r).1.length≤ts.length+n
 | 0,v,ts,r,h=>⟨h,nr _⟩
 | n+1,v,ts,r,h=>by
  unfold formT;split
  ·obtain⟨h1,h2⟩:=a0g n (v+1) (snoc ts v (numQ (nx 3 r).2).1) (numQ (nx 3 r).2).2 (a4m h (zu _));have:=dy ts v (numQ (nx 3 r).2).1;exact⟨h1,by omega⟩
  ·obtain⟨h1,h2⟩:=a0g n (v+1) ts (nx 3 r).2 h;exact⟨h1,by omega⟩
theorem afg (vars:Nat) (r:List Nat):(fu vars r).1.Qt vars:=by
 obtain⟨h1,h2⟩:=a0g vars 0 [] (numQ r).2 (fun t h=>by cases h);exact⟨by simpa [fu] using h2,h1,zu r⟩
abbrev iP (n:Int):PV:=.raw (.int .i64 n)
abbrev bP (b:Bool):PV:=.raw (.bool b)
def qC (q:Q):List PV:=[bP q.neg,.nat q.num,.nat q.den]
abbrev ratP (q:Q):PV:=.agg (qC q)
def tmC (t:Tm):List PV:=[iP t.1,bP t.2.neg,.nat t.2.num,.nat t.2.den]
abbrev cf (l:List Tm):PV:=.rows 138 4 [200] (l.map tmC)
def fmC (f:Fm):List PV:=[cf f.terms,bP f.const.neg,.nat f.const.num,.nat f.const.den]
abbrev fmP (f:Fm):PV:=.agg (fmC f)
abbrev bc (l:List Fm):PV:=.rows 37 4 [138,200] (l.map fmC)
abbrev dg (l:List Q):PV:=.rows 35 3 [200] (l.map qC)
def gmC (g:Gm):List PV:=[iP g.inputs,bc g.units,bc g.outputs]
abbrev gmP (g:Gm):PV:=.agg (gmC g)
def rgC (r:Rgm):List PV:=[dg r.lo,dg r.hi,bc r.rows]
abbrev rgP (r:Rgm):PV:=.agg (rgC r)
def rwC (r:Rw):List PV:=[iP r.kind,iP r.index,iP r.lo,iP r.hi]
abbrev rwP (r:Rw):PV:=.agg (rwC r)
def mmC (m:Mm):List PV:=[iP m.1.kind,iP m.1.index,iP m.1.lo,iP m.1.hi,bP m.2.neg,.nat m.2.num,.nat m.2.den]
abbrev mmsP (l:List Mm):PV:=.rows 98 7 [200] (l.map mmC)
theorem ae {α β:Type} {f:α→β} {l:List α} {i:Nat} {a:α} (h:l[i]?=some a):(l.map f)[i]?=some (f a):=by rw[List.getElem?_map,h];rfl
theorem vu (r:Rw):PCalls Tryz.prog [] 275 [rwP r] (bP (r.lo == 0&&r.hi == 0)):=by
 refine PCalls.of [96] ah a1z (by kernel_rfl) Tryz.func275 rfl rfl (fun D=>?_);refine y5 (a9i ah Y Y ?_);refine y5 (a1h ?_);refine gp ah rfl ?_;cases h1:(r.lo == 0)
 ·refine dh rfl rfl rfl (fun hd=>ot rfl rfl rfl (congrArg some h1) hd) ?_;refine gp ah rfl (zb rfl ?_);refine a9g ?_;exact⟨_,rfl,.pv _⟩
 ·refine dh rfl rfl rfl (fun hd=>ot rfl rfl rfl (congrArg some h1) hd) ?_;refine gp ah rfl ?_;refine dh rfl rfl rfl (fun hd=>ot rfl rfl rfl rfl hd) ?_;refine gp ah rfl (zb rfl ?_);refine a9g ?_;exact⟨_,rfl,.pv _⟩
section
attribute [local go_sem] Oper.semAt_some
def Q.cmpQ (x y:Q):Int:=if x.sign < y.sign then -1 else if y.sign < x.sign then 1 else cmpI (x.sg&&decide (0 < x.num*y.un)) (x.num*y.un) (y.sg&&decide (0 < y.num*x.un)) (y.num*x.un)
theorem a8u (w:World) (a b:Rv) (x y:Q) (ha:a.Is w x) (hb:b.Is w y) (h1:(a7 x.num).length≤100000) (h2:(a7 y.num).length≤100000) (h3:Sl x.un) (h4:Sl y.un):
  Calls Tryz.prog 127 #[a.v,b.v] w fun e w'=>e=.returned (.int .i64 (Q.cmpQ x y))∧Gr w w':=by
 have L1:=I h1;have L2:=I h2;have D1:=I (nt (kl h3) (by decide:100000≤400000));have D2:=I (nt (kl h4) (by decide:100000≤400000));have M1:=I (nt (nc h1 h4) (by decide:200000≤1000000));have M2:=I (nt (nc h2 h3) (by decide:200000≤1000000));have hE:Hid (Q.cmpQ x y=if x.sign < y.sign then -1 else if y.sign < x.sign then 1 else cmpI (x.sg&&decide (0 < x.num*y.un)) (x.num*y.un) (y.sg&&decide (0 < y.num*x.un)) (y.num*x.un)):=rfl;clear h1 h2 h3 h4;simp only[Rv.v];go_enter Tryz.func127,Tryz.ntmps127;go_wp2_with fail;refine nw2h fun W HG hB1 hB2=>?_
 have HA:=I (ha.gr HG);have HB:=I (hb.gr HG);clear ha hb;generalize w.heap.size+1=q at*;generalize w.heap.size=p at*;obtain⟨a0,a1,a2⟩:=hB1.c3;obtain⟨b0,b1,b2⟩:=hB2.c3;have HG0:Hid (Gr W W.drew):=(Gr.refl W).drew;have HX:Hid (∀W2,Gr W W2→Calls Tryz.prog 179 #[a.v,b.v] W2 fun e w'=>∃r1 r2:Iv,e=.returned (.tuple #[r1.v,r2.v])∧r1.Is w' (x.sg&&decide (0 < x.num*y.un)) (x.num*y.un)∧r2.Is w' (y.sg&&decide (0 < y.num*x.un)) (y.num*x.un)∧Gr W2 w'):=fun W2 G=>a2h W2 a b x y (HA.gr G) (HB.gr G) (nt L1 dx) (nt L2 dx) D1 D2
 have HS1:=I (tu W.drew a x (HA.gr HG0) (nt L1 dx));have HS2:Hid (∀W2,Gr W W2→Calls Tryz.prog 130 #[b.v] W2 fun e w'=>e=.returned (.int .i64 y.sign)∧Gr W2 w'):=fun W2 G=>tu W2 b y (HB.gr G) (nt L2 dx)
 simp only[Rv.v] at HS1 HS2 HX;generalize x.sign=sm at*;generalize y.sign=tn at*
 first | (go_region_held3 (fun W=>W.cell? ⟨p,0,none⟩=some (.bool a.neg)∧W.cell? ⟨p,1,none⟩=some a.num.v∧W.cell? ⟨p,2,none⟩=some a.den.v∧W.cell? ⟨q,0,none⟩=some (.bool b.neg)∧W.cell? ⟨q,1,none⟩=some b.num.v∧W.cell? ⟨q,2,none⟩=some b.den.v)
   (first | go_keep | exact⟨hk1.1.1,hk1.1.2.1,hk1.1.2.2,hk1.2.1,hk1.2.2.1,hk1.2.2.2⟩ | exact⟨hk2.1.1,hk2.1.2.1,hk2.1.2.2,hk2.2.1,hk2.2.2.1,hk2.2.2.2⟩)
   (first | (go_at_call 130;refine ((HS2.out w1 HG1.out)).mono ?_;rintro e w2 ⟨rfl,G2⟩;have HG2:=I (HG1.out.trans G2);have hk2:=ai (HG2.out.bk hB1.out).c3 (HG2.out.bk hB2.out).c3;clear G2) | (go_at_call 130;refine (HS1.out).mono ?_;rintro e w1 ⟨rfl,G1⟩;have HG1:=I (HG0.out.trans G1);have hk1:=ai (HG1.out.bk hB1.out).c3 (HG1.out.bk hB2.out).c3;clear G1))) | fail
 clear HS1 HS2 a0 a1 a2 b0 b1 b2 hk1;obtain⟨⟨a0,a1,a2⟩,b0,b1,b2⟩:=hk2;have HF:=I (HG.trans HG2);have HXX:=I (HX.out w2 HG2);by_cases h1:sm < tn
 ·rw[if_pos h1] at hE;have hd:decide (sm < tn)=true:=by simp[h1]
  have hn:(sm != tn)=true:=by simp;omega
  go_wp2;go_ret;exact⟨by rw[hE.out];rfl,HF.out⟩
 ·have hd:decide (sm < tn)=false:=by simp;omega
  rw[if_neg h1] at hE;by_cases h2:tn < sm
  ·rw[if_pos h2] at hE;have hn:(sm != tn)=true:=by simp;omega
   go_wp2;go_ret;exact⟨by rw[hE.out];rfl,HF.out⟩
  ·rw[if_neg h2] at hE;obtain rfl:sm=tn:=by omega
   have hn:(sm != sm)=false:=by simp
   generalize (x.sg&&decide (0 < x.num*y.un))=s1 at*;generalize (y.sg&&decide (0 < y.num*x.un))=s2 at*;generalize x.num*y.un=m1 at*;generalize y.num*x.un=m2 at*;go_wp2_with fail;go_at_call 179
   refine HXX.mono ?_;rintro e w3 ⟨x1,x2,rfl,hx1,hx2,G3⟩;obtain⟨E1,E2,G4⟩:=a3o w3 118 118 #[.bool x1.neg,x1.mag.v] #[.bool x2.neg,x2.mag.v];have HI:=I (af7 _ x1 x2 _ _ _ _ (hx1.gr G4) (hx2.gr G4) M1 M2);have HG4:=I ((HF.trans G3).trans G4);have x10_:=E1.c2;have x20_:=E2.c2;clear hx1 hx2 G3 G4 E1 E2 HXX a0 a1 a2 b0 b1 b2;simp only[Iv.v] at*;generalize cmpI s1 m1 s2 m2=c at*;go_wp2_with fail;go_at_call 180
   refine cm0 HI fun w4 G5=>?_
   have HG5:=I (HG4.trans G5)

   go_wp2;go_ret;exact⟨by rw[hE.out];rfl,HG5.out⟩
def Q.neg' (q:Q):Q:=ci q.flip
def Q.sub (a b:Q):Q:=Q.add a b.flip
def Q.div (a b:Q):Q:=quot (a.neg != b.neg) (a.num*b.un) (a.un*b.num)
theorem adq (w:World) (a b:Rv) (x y:Q) (ha:a.Is w x) (hb:b.Is w y) (h1:(a7 x.num).length≤100000) (h2:(a7 y.num).length≤100000) (h3:Two x y):
  Calls Tryz.prog 282 #[a.v,b.v] w fun e w'=>∃r:Rv,e=.returned r.v∧r.Is w' (Q.sub x y)∧Gr w w':=by
 have H1:=I h1;have H2:=I h2;have H3:=I h3;clear h1 h2 h3;have X_p_q:=dnx (w.heap.size) (w.heap.size+1);have X_r_q:=dnx (w.heap.size+1+1) (w.heap.size+1);simp only[Rv.v] at*;go_enter Tryz.func282,Tryz.ntmps282;go_upto_region 1 with fail;refine nw3h fun W HG D_p D_q D_r=>?_
 have HA:=I ((ha).gr HG);have HB:=I ((hb).gr HG);clear ha hb;have p_:=D_p.c3;have q_:=D_q.c3;have N_q:=dnl (w.heap.size) (w.heap.size+1);have N_r:=dnl (w.heap.size) (w.heap.size+1+1);generalize w.heap.size+1+1=r at*;generalize w.heap.size+1=q at*;have fz_q:=D_q.frozen;go_upto_region 2 with fail;refine ks D_q fun w1 B5 F5=>?_
 replace HA:=I (HA.tf' F5 D_q);replace HB:=I (HB.tf' F5 D_q);replace HG:=HG.fa F5 N_q;replace D_p:=F5.hb D_p X_p_q;replace D_r:=F5.hb D_r X_r_q;replace D_q:=B5;clear B5 F5 p_ q_ fz_q;have HF:Hid ((⟨!b.neg,b.num,b.den⟩:Rv).Is w1 y.flip):=⟨by rw[HB.neg];rfl,HB.num,HB.den⟩;have p_:=D_p.c3;have q_:=D_q.c3;go_wp2_with fail;refine cm1 (a50 w1 a ⟨!b.neg,b.num,b.den⟩ x y.flip HA HF H1 H2 H3) fun i w2 HI G=>?_
 replace D_r:=G.hb D_r;replace HG:=HG.tr G;clear p_ q_ HF;have z0_:=D_r.c3;have fz:=D_r.frozen;go_wp2;refine pex ?_;refine ks D_r fun W5 B5 F5=>?_
 have d_:=B5.c3;refine bret Tryz.results282 ?_;exact⟨i,rfl,HI.tf' F5 D_r,HG.fr_at F5 N_r⟩
end
structure XOk (w:World) (X:Nat→Prop) (T:List Nat):Prop where
 old:∀b,X b→b < w.heap.size
 ty:∀b cs t fr,X b→w.heap[b]?=some (.cells cs t fr)→t ∉ T
section
variable {w w':World} {X:Nat→Prop} {T:List Nat} {v:Value} {q:Q} {us:List Value}
theorem XOk.gr (h:XOk w X T) (G:Gr w w'):XOk w' X T:=⟨fun b hb=>nk (h.old b hb) G.size,fun b cs t fr hb hh=>h.ty b cs t fr hb (by rw[← G.below.block b (h.old b hb)];exact hh)⟩
theorem Sv.Ty.av {x:Sv} {e:Nat} (h:x.Ty w e) (hX:XOk w X T) (he:e∈T):x.Av X:=fun ad ha hn hx=>by
 obtain⟨cs,fr,hh⟩:=h ad ha hn;exact hX.ty _ cs e fr hx hh he
theorem a5q {x:Sv} {n:Nat} (h:x.Num w (a7 n)) (hX:XOk w X T) (hu:200∈T):(PV.nat n).Rep w X x.v:=by
 rw[PV.Rep];exact⟨x,rfl,h,h.ty.av hX hu⟩
theorem m8 (v:Value):(PV.raw v).Rep w X v:=by rw[PV.Rep]
theorem jy {u:Value} (h:(PV.raw u).Rep w X v):v=u:=by rw[PV.Rep] at h;exact h
theorem qt {n:Nat} (h:(PV.nat n).Rep w X v):∃x:Sv,v=x.v∧x.Num w (a7 n):=by
 rw[PV.Rep] at h;obtain⟨x,e,h,_⟩:=h;exact⟨x,e,h⟩
theorem q_to {r:Rv} (h:r.Is w q) (hX:XOk w X T) (hu:200∈T):PV.RepL w X (qC q) r.cs:=by
 unfold qC;refine PV.RepL.cons ?_ (PV.RepL.cons (a5q h.num hX hu) (PV.RepL.cons (a5q h.den hX hu) PV.RepL.nil));rw[← h.neg];exact m8 _
theorem q_of (h:PV.RepL w X (qC q) us):∃r:Rv,us=r.cs∧r.Is w q:=by
 unfold qC at h;rw[PV.RepL] at h;obtain⟨u1,us1,rfl,h1,h⟩:=h;rw[PV.RepL] at h;obtain⟨u2,us2,rfl,h2,h⟩:=h;rw[PV.RepL] at h;obtain⟨u3,us3,rfl,h3,h⟩:=h;rw[PV.RepL] at h;subst h;obtain rfl:=jy h1;obtain⟨x,rfl,hx⟩:=qt h2;obtain⟨y,rfl,hy⟩:=qt h3;exact⟨⟨q.neg,x,y⟩,rfl,rfl,hx,hy⟩
theorem a1b {r:Rv} (h:r.Is w q) (hX:XOk w X T) (hu:200∈T):(ratP q).Rep w X r.v:=by
 rw[PV.Rep];exact⟨r.cs,rfl,q_to h hX hu⟩
theorem xz (h:(ratP q).Rep w X v):∃r:Rv,v=r.v∧r.Is w q:=by
 rw[PV.Rep] at h;obtain⟨us,rfl,h⟩:=h;obtain⟨r,rfl,hr⟩:=q_of h;exact⟨r,rfl,hr⟩
theorem a44 {p:PV} (h:PV.RepL w X [p] us):∃u,us=[u]∧p.Rep w X u:=by
 rw[PV.RepL] at h;obtain⟨u,us',rfl,h1,h⟩:=h;rw[PV.RepL] at h;subst h;exact⟨u,rfl,h1⟩
theorem a2o {p q:PV} (h:PV.RepL w X [p,q] us):∃u v,us=[u,v]∧p.Rep w X u∧q.Rep w X v:=by
 rw[PV.RepL] at h;obtain⟨u,us',rfl,h1,h⟩:=h;obtain⟨v,rfl,h2⟩:=a44 h;exact⟨u,v,rfl,h1,h2⟩
end
section
variable {P:Program} {f:FuncId} {x z:Q}
abbrev u32:Nat:=200
abbrev TU:List Nat:=[200]
abbrev TF:List Nat:=[138,200]
theorem aig (hc:fv P f=true) (h:∀(w:World) (a:Rv),a.Is w x→Calls P f #[a.v] w fun e w'=>∃r:Rv,e=.returned r.v∧r.Is w' z∧Gr w w'):PCalls P TU f [ratP x] (ratP z):=⟨hc,fun w X us h1 h2 h3=>by
 obtain⟨u,rfl,g⟩:=a44 h3;obtain⟨a,rfl,ha⟩:=xz g;exact (h w a ha).mono fun e w' ⟨r,he,hr,G⟩=>⟨_,he,a1b hr (XOk.gr ⟨h1,h2⟩ G) (zH.2 rfl),G⟩⟩
theorem a9p {y:Q} (hc:fv P f=true) (h:∀(w:World) (a b:Rv),a.Is w x→b.Is w y→Calls P f #[a.v,b.v] w fun e w'=>∃r:Rv,e=.returned r.v∧r.Is w' z∧Gr w w'):PCalls P TU f [ratP x,ratP y] (ratP z):=⟨hc,fun w X us h1 h2 h3=>by
 obtain⟨u,v,rfl,g1,g2⟩:=a2o h3;obtain⟨a,rfl,ha⟩:=xz g1;obtain⟨b,rfl,hb⟩:=xz g2;exact (h w a b ha hb).mono fun e w' ⟨r,he,hr,G⟩=>⟨_,he,a1b hr (XOk.gr ⟨h1,h2⟩ G) (zH.2 rfl),G⟩⟩
theorem alq {i:Value} (hc:fv P f=true) (h:∀(w:World),Calls P f #[i] w fun e w'=>∃r:Rv,e=.returned r.v∧r.Is w' z∧Gr w w'):PCalls P TU f [.raw i] (ratP z):=⟨hc,fun w X us h1 h2 h3=>by
 obtain⟨u,rfl,g⟩:=a44 h3;obtain rfl:=jy g;exact (h w).mono fun e w' ⟨r,he,hr,G⟩=>⟨_,he,a1b hr (XOk.gr ⟨h1,h2⟩ G) (zH.2 rfl),G⟩⟩
theorem aoe {i j:Value} (hc:fv P f=true) (h:∀(w:World),Calls P f #[i,j] w fun e w'=>∃r:Rv,e=.returned (.tuple #[r.v,.int .i64 0])∧r.Is w' z∧Gr w w'):PCalls P TU f [.raw i,.raw j] (.tup [ratP z,iP 0]):=⟨hc,fun w X us h1 h2 h3=>by
 obtain⟨u,v,rfl,g1,g2⟩:=a2o h3;obtain rfl:=jy g1;obtain rfl:=jy g2;exact (h w).mono fun e w' ⟨r,he,hr,G⟩=>⟨_,he,by rw[PV.Rep];exact⟨_,rfl,PV.RepL.cons (a1b hr (XOk.gr ⟨h1,h2⟩ G) (zH.2 rfl)) (PV.RepL.cons (m8 _) PV.RepL.nil)⟩,G⟩⟩
theorem a76 {z:Value} (hc:fv P f=true) (h:∀(w:World) (a:Rv),a.Is w x→Calls P f #[a.v] w fun e w'=>e=.returned z∧Gr w w'):PCalls P [] f [ratP x] (.raw z):=⟨hc,fun w X us h1 h2 h3=>by
 obtain⟨u,rfl,g⟩:=a44 h3;obtain⟨a,rfl,ha⟩:=xz g;exact (h w a ha).mono fun e w' ⟨he,G⟩=>⟨_,he,m8 _,G⟩⟩
theorem alp {y:Q} {z:Value} (hc:fv P f=true) (h:∀(w:World) (a b:Rv),a.Is w x→b.Is w y→Calls P f #[a.v,b.v] w fun e w'=>e=.returned z∧Gr w w'):PCalls P [] f [ratP x,ratP y] (.raw z):=⟨hc,fun w X us h1 h2 h3=>by
 obtain⟨u,v,rfl,g1,g2⟩:=a2o h3;obtain⟨a,rfl,ha⟩:=xz g1;obtain⟨b,rfl,hb⟩:=xz g2;exact (h w a b ha hb).mono fun e w' ⟨he,G⟩=>⟨_,he,m8 _,G⟩⟩
end
theorem Q.Sm.num' {q:Q} (h:q.Sm):(a7 q.num).length≤100000:=nt h.num dx
theorem Q.Sm.un' {q:Q} (h:q.Sm):Sl q.un:=nt h.den dx
theorem Q.Sm.den' {q:Q} (h:q.Sm):Sl q.den:=kl h.un'
theorem a9v {q:Q} (h:q.Sm):PCalls Tryz.prog [] 130 [ratP q] (iP q.sign):=a76 (by kernel_rfl) fun w a ha=>tu w a q ha (nt h.num dx)
theorem aa8 {q:Q} (h:q.Sm):PCalls Tryz.prog TU 177 [ratP q] (ratP (ci q)):=aig (by kernel_rfl) fun w a ha=>xg w a q ha (nt h.num dx) h.un'
theorem ae1 {x y:Q} (h:x.Sm) (k:y.Sm):PCalls Tryz.prog TU 230 [ratP x,ratP y] (ratP (Q.mul x y)):=a9p (by kernel_rfl) fun w a b ha hb=>acy w a b x y ha hb h.num' k.num' ⟨h.un',k.un'⟩
theorem aof {x y:Q} (h:x.Sm) (k:y.Sm):PCalls Tryz.prog TU 282 [ratP x,ratP y] (ratP (Q.sub x y)):=a9p (by kernel_rfl) fun w a b ha hb=>adq w a b x y ha hb h.num' k.num' ⟨h.un',k.un'⟩
theorem p_of (x:Int) (h1:-1000000000≤x) (h2:x≤1000000000):PCalls Tryz.prog TU 188 [iP x] (ratP (ofQ x)):=alq (by kernel_rfl) fun w=>ahq w x h1 h2
theorem lc {q:Q} (h:q.Sm) (hq:q.Ok):PCalls Tryz.prog [] 126 [ratP q] (bP true):=a76 (by kernel_rfl) fun w a ha=>a6t w a q ha hq (nt h.num dx) h.un'
theorem aol {x y:Q} (h:x.Sm) (k:y.Sm):PCalls Tryz.prog [] 127 [ratP x,ratP y] (iP (Q.cmpQ x y)):=alp (by kernel_rfl) fun w a b ha hb=>a8u w a b x y ha hb h.num' k.num' h.un' k.un'
structure Fm.Lo (f:Fm):Prop where
 num:∀t∈f.terms,t.2.Lo
 const:f.const.Lo
 len:f.terms.length≤400
theorem ig {q:Q} (h:q.Sm):PCalls Tryz.prog [] 27 [ratP q] (iP (isg q.neg q.num)):=a76 (by kernel_rfl) fun w a ha=>a15 w a q ha (nt h.num dx)
theorem kg {q:Q} (h:q.Sm):PCalls Tryz.prog TU 124 [ratP q] (ratP (ci q)):=aig (by kernel_rfl) fun w a ha=>xy w a q ha h.num' h.den'
theorem a72 {x y:Q} (h:x.Sm) (k:y.Sm) (hx:x.Ok) (hy:y.Ok):PCalls Tryz.prog TU 20 [ratP x,ratP y] (ratP (Q.add x y)):=a9p (by kernel_rfl) fun w a b ha hb=>a9d w a b x y ha hb hx hy h.num' k.num' h.den' k.den'
theorem adb {x y:Q} (h:x.Sm) (k:y.Sm):PCalls Tryz.prog TU 69 [ratP x,ratP y] (ratP (Q.mul x y)):=a9p (by kernel_rfl) fun w a b ha hb=>a9c w a b x y ha hb h.num' k.num' h.den' k.den'
theorem r_of (x:Int) (h1:-1000000000≤x) (h2:x≤1000000000):PCalls Tryz.prog TU 61 [iP x] (ratP (ofQ x)):=alq (by kernel_rfl) fun w=>adn w x h1 h2
theorem alh (a:Int) (b:Nat) (h1:-1000000000≤a) (h2:a≤1000000000) (h3:0 < b) (h4:b≤1000000000):PCalls Tryz.prog TU 19 [iP a,iP b] (.tup [ratP (quot (decide (a < 0)) a.natAbs b),iP 0]):=aoe (by kernel_rfl) fun w=>afc w a b h1 h2 h3 h4
theorem mm {q:Q} (h:q.Sm) (hq:q.Ok):PCalls Tryz.prog [] 142 [ratP q] (bP true):=a76 (by kernel_rfl) fun w a ha=>a3e w a q ha hq h.num' h.den'
theorem a1d {x y:Q}:PCalls Tryz.prog [] 151 [ratP x,ratP y] (bP (decide (x=y))):=alp (by kernel_rfl) fun w a b ha hb=>a16 w a b x y ha hb
theorem ak6 {q:Q} (h:q.Sm):q.flip.Sm:=⟨h.num,h.den⟩
theorem ai7 {q:Q} (h:q.Sm):PCalls Tryz.prog TU 66 [ratP q] (ratP q.neg'):=by
 refine pc [35] (by kernel_rfl) Tryz.func66 Y Y (fun D=>?_);refine pa Y Y (pa Y Y (pr Y ?_));refine rc (kg (ak6 h)) Y Y Y Y Y Y Y Y (rn Y ?_);exact pt (xm Y Y)
theorem amw {q:Q} (h:q.Sm):q.neg'.Sm:=by
 have:=(show Q.Bd q.flip 10000 10000 from ⟨h.num,h.den⟩).canon;exact⟨this.num,this.den⟩
theorem ad8 {x y:Q} (h:x.Sm) (k:y.Sm) (hx:x.Ok) (hy:y.neg'.Ok):PCalls Tryz.prog TU 28 [ratP x,ratP y] (ratP (Q.add x y.neg')):=by
 refine pc [35] (by kernel_rfl) Tryz.func28 Y Y (fun D=>?_);refine pa Y Y (pr Y ?_);refine rc (ai7 k) Y Y Y Y Y Y Y Y ?_;refine rc (a72 h (amw k) hx hy) Y Y Y Y Y Y Y Y (rn (by kernel_rfl) ?_);exact pt (xm Y Y)
theorem a3a {x y:Q} (h:x.Sm) (k:y.Sm) (hx:x.Ok) (hy:y.neg'.Ok) (hs:(Q.add x y.neg').Sm):PCalls Tryz.prog TU 123 [ratP x,ratP y] (iP (isg (Q.add x y.neg').neg (Q.add x y.neg').num)):=by
 refine pc [35] (by kernel_rfl) Tryz.func123 Y Y (fun D=>?_);refine pa Y Y (pr Y ?_);refine rc (ad8 h k hx hy) Y Y Y Y Y Y Y Y ?_;refine rc (ig hs) Y Y Y Y Y Y Y Y (rn Y ?_);exact pt (xm Y Y)
def minR (x y:Q):Q:=bif decide (isg (Q.add x y.neg').neg (Q.add x y.neg').num≤0) then ci x else ci y
theorem ald {x y:Q} (h:x.Sm) (k:y.Sm) (hx:x.Ok) (hy:y.neg'.Ok) (hs:(Q.add x y.neg').Sm):PCalls Tryz.prog TU 65 [ratP x,ratP y] (ratP (minR x y)):=by
 refine pc [35] (by kernel_rfl) Tryz.func65 Y Y (fun D=>?_);refine pa Y Y (ps (pr Y ?_));refine rc (a3a h k hx hy hs) Y Y Y Y Y Y Y Y ?_;refine ro Y Y Y (fun hd=>ot Y Y Y Y hd) Y (rn Y ?_);refine pif Y (fun e=>?_) (fun e=>pk ?_)
 ·refine pr Y ?_;refine rc (kg h) Y Y Y Y Y Y Y Y (rn Y ?_);exact pt (xm Y (by unfold minR;rw[e];rfl))
 ·refine pr Y ?_;refine rc (kg k) Y Y Y Y Y Y Y Y (rn Y ?_);exact pt (xm Y (by unfold minR;rw[e];rfl))
structure Dc where
 kind:Int
 index:Int
 at_:Q
 deriving DecidableEq,Inhabited
structure Lm where
 unit:Int
 upper:Bool
 value:Q
 proof:List Mm
 deriving Inhabited
structure Sc where
 q:Qr
 path:List Dc
 lems:List Lm
def qyC (q:Qr):List PV:=[iP q.g.inputs,bc q.g.units,bc q.g.outputs,dg q.rg.lo,dg q.rg.hi,bc q.rg.rows,cf q.goal.terms,bP q.goal.const.neg,.nat q.goal.const.num,.nat q.goal.const.den]
abbrev qyP (q:Qr):PV:=.agg (qyC q)
def dcC (d:Dc):List PV:=[iP d.kind,iP d.index,bP d.at_.neg,.nat d.at_.num,.nat d.at_.den]
abbrev dcP (d:Dc):PV:=.agg (dcC d)
abbrev dcsP (l:List Dc):PV:=.rows 42 5 [200] (l.map dcC)
def lmC (m:Lm):List PV:=[iP m.unit,bP m.upper,bP m.value.neg,.nat m.value.num,.nat m.value.den,mmsP m.proof]
abbrev lmP (m:Lm):PV:=.agg (lmC m)
abbrev lmsP (l:List Lm):PV:=.rows 100 6 [200,98] (l.map lmC)
def scC (s:Sc):List PV:=[iP s.q.g.inputs,bc s.q.g.units,bc s.q.g.outputs,dg s.q.rg.lo,dg s.q.rg.hi,bc s.q.rg.rows,cf s.q.goal.terms,bP s.q.goal.const.neg,.nat s.q.goal.const.num,.nat s.q.goal.const.den,dcsP s.path,lmsP s.lems]
abbrev scP (s:Sc):PV:=.agg (scC s)
end Go.Proofs.YtbhbainhmfjpdaaGreatDoor
