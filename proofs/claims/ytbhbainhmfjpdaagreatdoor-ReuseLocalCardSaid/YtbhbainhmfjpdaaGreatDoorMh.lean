/- Walks of the search and of what it calls, part 8. -/
import Derived.Test.YtbhbainhmfjpdaaGreatDoorMg
import Derived.ArgAppend
import Derived.Lib.MinMax
set_option linter.unusedVariables false
set_option linter.unusedSimpArgs false
set_option maxRecDepth 100000
set_option maxHeartbeats 8000000
namespace Go.Proofs.YtbhbainhmfjpdaaGreatDoor
open Go.RowKit
section
attribute [local go_sem] Oper.semAt_some
theorem af8 (w:World) (x y:Sv) (a b:Nat) (hx:x.Num w (ab a)) (hy:y.Num w (ab b)) (ha:(ab a).length≤1000000) (hb:(ab b).length≤1000000) (hb0:0 < b):
  Calls Tryz.prog 267 #[x.v,y.v] w fun e w'=>∃p:Sv,e=.returned p.v∧p.Num w' (ab (Nat.gcd a b))∧Gr w w':=by
 have H1:=I (bx w x _ hx);rw[vl] at H1;have HY:=I hy;have HA:=I ha;have HB:=I hb;clear hx hy ha hb hb0;go_enter Tryz.func267,Tryz.ntmps267;go_wp2_with fail;refine cm1 H1 fun u w1 HU G1=>?_
 have HG1:=I G1;have H2:=I (bx w1 y _ (HY.gr G1));rw[vl] at H2;clear H1 HY;go_wp2_with fail;refine cm1 H2 fun v w2 HV G2=>?_
 have HG2:=I (HG1.trans G2);have HU2:=I (HU.gr G2);clear HG1 HU H2;simp only[Sv.v] at*;go_wp2;go_loopw [0,1] (fun s0 s1 wr=>∃(p q:Sv) (m n:Nat),s0=.slice p.A p.n p.c∧s1=.slice q.A q.n q.c∧Hid ((ab m).length≤1000000)∧Hid ((ab n).length≤1000000)∧Hid (Nat.gcd m n=Nat.gcd a b)∧Hid ((ab n).length=q.n)∧Hid (p.Num wr (ab m))∧Hid (q.Num wr (ab n))∧Hid (Gr w wr)) (fun _ s1 wr=>aew wr s1)
 case atStart=>exact⟨u,v,a,b,rfl,rfl,HA,HB,rfl,HV.len,HU2,HV,HG2⟩
 case round=>
  obtain⟨p,q,m,n,rfl,rfl,hm,hn,hgc,hln,hP,hQ,hG⟩:=hrel;clear HU2 HV HG2 HA HB;by_cases h2:2 < q.n
  ·have hq0:decide ((2:Int) < q.n)=true:=by simp;omega
   have hn0:0 < n:=by
    rcases Nat.eq_zero_or_pos n with h | h
    ·have:=hln.out;rw[h,aq] at this;simp at this;omega
    ·exact h
   have HD:=I (pd wr p q m n hP hQ hm hn hn0);have hmn:m % n < n:=Nat.mod_lt _ hn0;have HN:Hid (Nat.gcd n (m % n)=Nat.gcd a b):=by rw[← hgc.out,Nat.gcd_comm m n,Nat.gcd_rec n m,Nat.gcd_comm];exact rfl
   have HR9:Hid ((ab (m % n)).length≤1000000):=nt (aw (Nat.le_of_lt hmn)) hn;have HM:=I (vz hQ);simp only[Sv.v] at HM;generalize m % n=rr at*;go_wp2_with fail;refine HD.mono ?_;rintro e w3 ⟨z,r,rfl,hz,hr,G3⟩;have HQ3:=I (hQ.gr G3);have HR:=I hr;have HG3:=I (hG.trans G3);have HM2:=I (vz hr);simp only[Sv.v] at HM2;clear hz hr G3 HD;simp only[Sv.v];go_wp2;go_roundw
   case rel=>exact⟨q,r,n,rr,rfl,rfl,hn,HR9,HN,HR.len,HQ3,HR,HG3⟩
   case measure=>
    rw[HM.out,HM2.out];exact hmn
  ·have hq0:decide ((2:Int) < q.n)=false:=by simp;omega
   by_cases h0:q.n=0
   ·have hz0:((q.n:Int) == 0)=true:=by simp[h0]
    have hgg:Hid (Nat.gcd a b=m):=by
     have h:n=0:=bw.1 (hln.trans h0);rw[← hgc.out,h];exact Nat.gcd_zero_right m
    have HMK:=I (fun W hW=>ou W p _ (hP.gr hW) hm);rw[vl] at HMK;clear h2 h0;go_wp2_with fail;refine cm1 (HMK.out _ (Gr.refl _)) fun z w4 HZ G4=>?_
    have HG4:=I (hG.trans G4);clear HMK;go_wp2;go_ret;exact⟨z,rfl,by rw[hgg.out];exact HZ.out,HG4.out⟩
   ·have hz0:((q.n:Int) == 0)=false:=by simp;omega
    have hn0:0 < n:=by
     rcases Nat.eq_zero_or_pos n with h | h
     ·have:=hln.out;rw[h,aq] at this;simp at this;omega
     ·exact h
    have hn9:n < 18446744073709551616:=by
     have h1:=fc n;have h3:B32 ^ (ab n).length≤B32 ^ 2:=Nat.pow_le_pow_right dx (by rw[hln.out];omega);have h4:B32 ^ 2=18446744073709551616:=by decide
     omega
    have H3:=I (pd wr p q m n hP hQ hm hn hn0);have hr9:m % n < 18446744073709551616:=nm (Nat.mod_lt _ hn0) hn9;have HGC:Hid (Nat.gcd n (m % n)=Nat.gcd a b):=by rw[← hgc.out,Nat.gcd_comm m n,Nat.gcd_rec n m,Nat.gcd_comm];exact rfl
    clear h2 h0;go_wp2_with fail;refine H3.mono ?_;rintro e w3 ⟨z,r,rfl,hz,hr,G3⟩;have HG3:=I (hG.trans G3);have H4:=I (a5e w3 q n (hQ.gr G3) hn9);have HR:=I hr;clear hz hr G3 H3;generalize m % n=rr at*;go_wp2_with fail;refine cm0 H4 fun w4 G4=>?_
    have HG4:=I (HG3.trans G4);have H5:=I (a5e w4 r rr (HR.gr G4) hr9);clear H4;go_wp2_with fail;refine cm0 H5 fun w5 G5=>?_
    have HG5:=I (HG4.trans G5);clear H5;go_wp2;go_loopw [11,13] (fun s s' wx=>∃c d:Nat,s=.int .u64 c∧s'=.int .u64 d∧c < 18446744073709551616∧d < 18446744073709551616∧Hid (Nat.gcd c d=Nat.gcd a b)∧Hid (Gr w wx)) (fun _ s' _=>(intOf s').toNat)
    case atStart=>exact⟨n,rr,rfl,rfl,hn9,hr9,HGC,HG5⟩
    case round=>
     obtain⟨c,d,rfl,rfl,hc,hd,hgd,hGx⟩:=hrel;by_cases h0:0 < d
     ·have HN:Hid (Nat.gcd d (c % d)=Nat.gcd a b):=by rw[← hgd.out,Nat.gcd_comm c d,Nat.gcd_rec d c,Nat.gcd_comm];exact rfl
      have hlt:c % d < d:=Nat.mod_lt _ h0;have E0:Hid ((c:Int) % (d:Int)=((c % d:Nat):Int)):=(Int.natCast_emod c d).symm;have HGd:Hid (Gr w wr.drew):=hGx.drew;have hq0:¬(d:Int)=0:=by omega
      have hq1:((d:Int) == 0)=false:=by simp;omega
      go_wp2;go_region
      all_goals go_wp2
      all_goals go_roundw
      all_goals rw[E0.out]
      all_goals first
       | exact⟨d,c % d,rfl,rfl,hd,by omega,HN,HGd⟩
       | (simp[intOf];exact hlt)
       | (simp[intOf];omega)
     ·obtain rfl:d=0:=by omega
      have hgg:Hid (Nat.gcd a b=c):=by rw[← hgd.out];exact Nat.gcd_zero_right c
      have HO:=I (fun W=>ab5 W c hc);go_wp2_with fail;refine cm1 (HO.out _) fun z w6 HZ G6=>?_
      have HG6:=I (hGx.trans G6);clear HO;go_wp2;go_ret;exact⟨z,rfl,by rw[hgg.out];exact HZ.out,HG6.out⟩
abbrev Sl (n:Nat):Prop:=(ab n).length≤100000
abbrev Two (x y:Q):Prop:=Sl x.un∧Sl y.un
theorem Sl.big {n:Nat} (h:Sl n):(ab n).length≤1000000:=nt h dx
theorem vu (w:World) (s:Bool) (x y:Sv) (a b:Nat) (hx:x.Num w (ab a)) (hy:y.Num w (ab b)) (ha:(ab a).length≤1000000) (hb0:0 < b) (hb:(ab b).length≤1000000):
  Calls Tryz.prog 216 #[.bool s,x.v,y.v] w fun e w'=>∃r:Rv,e=.returned r.v∧r.Is w' (quot s a b)∧Gr w w':=by
 have b1:=Bk.made w 35 Rl;have HG1:=I ((Gr.refl w).alloc (.cells Rl 35));have HB:=I b1;have H1:=I (ou _ x _ (hx.gr HG1) ha);rw[vl] at H1;have HY:=I (hy.gr HG1);have HA:=I ha;have HBB:=I hb;clear hx hy ha hb b1;go_enter Tryz.func216,Tryz.ntmps216;go_wp2_with fail;refine cm1 H1 fun u w1 HU G1=>?_
 have HG2:=I (HG1.trans G1);have HB2:=I (G1.bk HB);have H2:=I (ou w1 y _ (HY.gr G1) HBB);rw[vl] at H2;have hpz:=I (nr w.heap.size);clear H1 HY HB;generalize hpe:w.heap.size=p at*;have HPE:=I hpe;clear hpe;obtain⟨A,n,c⟩:=u;have HN:=I HU.len;simp only[Sv.v] at*;by_cases h0:a=0
 ·have hn0:n=0:=by rw[← HN.out,h0,aq];rfl
  subst hn0;have HQ:Hid (quot s a b=Q.zero):=by unfold quot;exact if_pos h0
  clear h0;have c0_:=HB2.c3;have fz:=HB2.frozen;go_wp2;refine pex ?_;refine ks HB2 fun W5 B5 F5=>?_
  have d_:=B5.c3;refine bret Tryz.results216 ?_;exact⟨⟨false,Sv.none,Sv.none⟩,rfl,by rw[HQ.out];exact⟨rfl,by rw[aq];exact Sv.Num.none _,by rw[aq];exact Sv.Num.none _⟩,HG2.fr_at F5 (Nat.le_of_eq HPE)⟩
 ·have hn0:n≠0:=fun e=>h0 (bw.1 (HN.trans e))
  have hnd:((n:Int) == 0)=false:=by simp;omega
  go_wp2_with fail;refine cm2 H2 fun v w2 hv G2=>?_
  have HV:=I hv;have HG3:=I (HG2.trans G2);have HU3:=I (HU.gr G2);have HB3:=I (G2.bk HB2);have H3:=I (vh w2 v b hv);clear hv HG2 HU HB2 H2;go_wp2_with fail;refine cm0 H3 fun w3 G3=>?_
  have HG4:=I (HG3.trans G3);have HU4:=I (HU3.gr G3);have HV4:=I (HV.gr G3);have HB4:=I (G3.bk HB3);clear HG3 HU3 HB3 H3 HV;by_cases hb1:b=1
  ·have hbd:decide (b=1)=true:=by simp[hb1]
   have HQ:Hid (quot s a b=⟨s,a,0⟩):=by
    unfold quot;rw[if_neg h0,hb1,Nat.gcd_one_right,Nat.div_one];exact rfl
   have c0_:=HB4.c3;have fz:=HB4.frozen;go_wp2;refine pex ?_;refine ks HB4 fun W5 B5 F5=>?_
   have d_:=B5.c3;refine bret Tryz.results216 ?_;exact⟨⟨s,⟨A,n,c⟩,Sv.none⟩,rfl,by rw[HQ.out];exact⟨rfl,(HU4.fr F5 HB4 (ba _ _ _ _ _ _ _)),by rw[aq];exact Sv.Num.none _⟩,HG4.fr_at F5 (Nat.le_of_eq HPE)⟩
  ·have hbd:decide (b=1)=false:=by simp[hb1]
   have H5:=I (af8 w3 ⟨A,n,c⟩ v a b HU4 HV4 HA HBB hb0);have hg0:0 < Nat.gcd a b:=Nat.gcd_pos_of_pos_right a hb0;have hgb:(ab (Nat.gcd a b)).length≤1000000:=nt (aw (Nat.le_of_dvd hb0 (Nat.gcd_dvd_right a b))) HBB;have HQ0:Hid (quot s a b=⟨s,a / Nat.gcd a b,den0 (b / Nat.gcd a b)⟩):=by unfold quot;exact if_neg h0
   go_wp2_with fail;refine cm2 H5 fun z w4 hz G4=>?_
   have HZ:=I hz;have HG5:=I (HG4.trans G4);have HU5:=I (HU4.gr G4);have HV5:=I (HV4.gr G4);have HB5:=I (G4.bk HB4);have H6:=I (vh w4 z _ hz);clear hz HG4 HU4 HV4 HB4 H5;generalize Nat.gcd a b=g at*;go_wp2_with fail;refine cm0 H6 fun w5 G5=>?_
   have HG6:=I (HG5.trans G5);have HU6:=I (HU5.gr G5);have HV6:=I (HV5.gr G5);have HZ6:=I (HZ.gr G5);have HB6:=I (G5.bk HB5);clear HG5 HU5 HV5 HB5 H6 HZ;by_cases hg1:g=1
   ·have hgd:decide (g=1)=true:=by simp[hg1]
    have HQ:Hid (quot s a b=⟨s,a,b⟩):=by
     rw[HQ0.out,hg1,Nat.div_one,Nat.div_one];exact congrArg (Q.mk s a) (if_neg hb1)
    have H7:=I (vh w5 v b HV6);go_wp2_with fail;refine cm0 H7 fun w6 G6=>?_
    have HG7:=I (HG6.trans G6);have HU7:=I (HU6.gr G6);have HV7:=I (HV6.gr G6);have HB7:=I (G6.bk HB6);clear H7;have c0_:=HB7.c3;have fz:=HB7.frozen;go_wp2;refine pex ?_;refine ks HB7 fun W5 B5 F5=>?_
    have d_:=B5.c3;refine bret Tryz.results216 ?_;exact⟨⟨s,⟨A,n,c⟩,v⟩,rfl,by rw[HQ.out];exact⟨rfl,(HU7.fr F5 HB7 (ba _ _ _ _ _ _ _)),(HV7.fr F5 HB7 (ba _ _ _ _ _ _ _))⟩,HG7.fr_at F5 (Nat.le_of_eq HPE)⟩
   ·have hgd:decide (g=1)=false:=by simp[hg1]
    have H7:=I (pd w5 ⟨A,n,c⟩ z a g HU6 HZ6 HA hgb hg0);go_wp2_with fail;refine H7.mono ?_;rintro e w6 ⟨q1,r1,rfl,hq1,hr1,G6⟩;have HN1:=I hq1;have HG7:=I (HG6.trans G6);have HB7:=I (G6.bk HB6);have H8:=I (pd w6 v z b g (HV6.gr G6) (HZ6.gr G6) HBB hgb hg0);clear hq1 hr1 G6 H7 HG6 HB6;go_wp2_with fail;refine H8.mono ?_;rintro e w7 ⟨q2,r2,rfl,hq2,hr2,G7⟩;have HN2:=I hq2;have HN3:=I (HN1.gr G7);have HG8:=I (HG7.trans G7);have HB8:=I (G7.bk HB7);have H9:=I (vh w7 q2 _ hq2);clear hq2 hr2 G7 H8 HG7 HB7 HN1;go_wp2_with fail;refine cm0 H9 fun w8 G8=>?_
    have HN4:=I (HN2.gr G8);have HN5:=I (HN3.gr G8);have HG9:=I (HG8.trans G8);have HB9:=I (G8.bk HB8);clear H9 HG8 HB8 HN2 HN3;by_cases hd1:b / g=1
    ·have hdd:decide (b / g=1)=true:=by simp[hd1]
     have HQ:Hid (quot s a b=⟨s,a / g,0⟩):=by rw[HQ0.out,hd1];exact rfl
     have c0_:=HB9.c3;have fz:=HB9.frozen;go_wp2;refine pex ?_;refine ks HB9 fun W5 B5 F5=>?_
     have d_:=B5.c3;refine bret Tryz.results216 ?_;exact⟨⟨s,q1,Sv.none⟩,rfl,by rw[HQ.out];exact⟨rfl,(HN5.fr F5 HB9 (ba _ _ _ _ _ _ _)),by rw[aq];exact Sv.Num.none _⟩,HG9.fr_at F5 (Nat.le_of_eq HPE)⟩
    ·have hdd:decide (b / g=1)=false:=by simp[hd1]
     have HQ:Hid (quot s a b=⟨s,a / g,b / g⟩):=by
      rw[HQ0.out];exact congrArg (Q.mk s (a / g)) (if_neg hd1)
     have c0_:=HB9.c3;have fz:=HB9.frozen;go_wp2;refine pex ?_;refine ks HB9 fun W5 B5 F5=>?_
     have d_:=B5.c3;refine bret Tryz.results216 ?_;exact⟨⟨s,q1,q2⟩,rfl,by rw[HQ.out];exact⟨rfl,(HN5.fr F5 HB9 (ba _ _ _ _ _ _ _)),(HN4.fr F5 HB9 (ba _ _ _ _ _ _ _))⟩,HG9.fr_at F5 (Nat.le_of_eq HPE)⟩
theorem nu (w:World) (s:Bool) (x:Sv) (a:Nat) (hx:x.Num w (ab a)) (ha:(ab a).length≤1000000):
  Calls Tryz.prog 221 #[.bool s,x.v] w fun e w'=>∃r:Iv,e=.returned r.v∧r.Is w' (s&&decide (0 < a)) a∧Gr w w':=by
 have b1:=Bk.made w 118 #[.bool false,Nl];have HG1:=I ((Gr.refl w).alloc (.cells #[.bool false,Nl] 118));have HB:=I b1;have H1:=I (ou _ x _ (hx.gr HG1) ha);rw[vl] at H1;clear hx ha b1;go_enter Tryz.func221,Tryz.ntmps221;go_wp2_with fail;refine cm1 H1 fun u w1 HU G1=>?_
 have HG2:=I (HG1.trans G1);have HB2:=I (G1.bk HB);clear H1 HB;generalize hpe:w.heap.size=p at*;have HPE:=I hpe;clear hpe;obtain⟨A,n,c⟩:=u;have HN:=I HU.len;simp only[Sv.v] at*;obtain⟨q,hq⟩:∃q,q=(s&&decide (0 < a)):=⟨_,rfl⟩;have HQ:=I hq;have hqn:q=(s&&decide ((0:Int) < n)):=by
  rw[hq]
  congr 1
  by_cases h:a=0
  ·have:n=0:=by rw[← HN.out,h,aq];rfl
   simp[h,this]
  ·have:n≠0:=fun e=>h (bw.1 (HN.trans e))
   rw[dt om,dt om]
 obtain⟨B5,F5⟩:=HB2.put2 (.bool q) (.slice A n c);have c0_:=HB2.c2;have fz:=HB2.frozen;have H5:=I F5;obtain⟨d0,d1⟩:=B5.c2;clear F5 B5 hq;cases s
 ·obtain rfl:q=false:=by rw[hqn];rfl
  clear hqn;go_wp2;generalize (w1.setCell ⟨p,0,none⟩ (.bool false)).setCell ⟨p,1,none⟩ (.slice A n c)=W5 at*;refine pex ?_;refine bodyPost_ret (by simp[results,Tryz.results221,go_sem,d0,d1];try rfl) rfl ?_;exact⟨⟨false,⟨A,n,c⟩⟩,rfl,⟨HQ.out,HU.fr H5 HB2 (bf _ _ _ _)⟩,HG2.fr_at H5 (Nat.le_of_eq HPE)⟩
 ·by_cases hn:n=0
  ·subst hn;have hd:decide ((0:Int) < (0:Nat))=false:=rfl;obtain rfl:q=false:=by rw[hqn,hd];rfl
   clear hqn;go_wp2;generalize (w1.setCell ⟨p,0,none⟩ (.bool false)).setCell ⟨p,1,none⟩ (.slice A 0 c)=W5 at*;refine pex ?_;refine bodyPost_ret (by simp[results,Tryz.results221,go_sem,d0,d1];try rfl) rfl ?_;exact⟨⟨false,⟨A,0,c⟩⟩,rfl,⟨HQ.out,HU.fr H5 HB2 (bf _ _ _ _)⟩,HG2.fr_at H5 (Nat.le_of_eq HPE)⟩
  ·have hd:decide ((0:Int) < n)=true:=by simp;omega
   have hd2:decide (0 < n)=true:=by simp;omega
   obtain rfl:q=true:=by rw[hqn,hd];rfl
   clear hqn;go_wp2;generalize (w1.setCell ⟨p,0,none⟩ (.bool true)).setCell ⟨p,1,none⟩ (.slice A n c)=W5 at*;refine pex ?_;refine bodyPost_ret (by simp[results,Tryz.results221,go_sem,d0,d1];try rfl) rfl ?_;exact⟨⟨true,⟨A,n,c⟩⟩,rfl,⟨HQ.out,HU.fr H5 HB2 (bf _ _ _ _)⟩,HG2.fr_at H5 (Nat.le_of_eq HPE)⟩
def isg (s:Bool) (m:Nat):Int:=if m=0 then 0 else if s then -1 else 1
theorem yy (w:World) (x:Iv) (s:Bool) (m:Nat) (hx:x.Is w s m) (hm:(ab m).length≤1000000):
  Calls Tryz.prog 182 #[x.v] w fun e w'=>e=.returned (.int .i64 (isg s m))∧Gr w w':=by
 obtain⟨s',mag⟩:=x;obtain rfl:s'=s:=hx.neg;have b1:=Bk.made w 118 #[.bool s',mag.v];have HG1:=I ((Gr.refl w).alloc (.cells #[.bool s',mag.v] 118));have HB:=I b1;have H1:=I (a7a _ mag _ (hx.mag.gr HG1) hm);rw[vl] at H1;have c1:=b1.cell 1;clear hx hm b1;simp only[Iv.v] at*;go_enter Tryz.func182,Tryz.ntmps182;go_wp2_with fail;refine H1.mono ?_;rintro e w1 ⟨⟨r,rfl,hr,hr0⟩,G1⟩;have HG2:=I (HG1.trans G1);have c0:=(G1.bk HB).cell 0;clear G1 H1 HB c1;by_cases h0:m=0
 ·have HE:Hid (isg s' m=0):=by unfold isg;exact if_pos h0
  rw[dt h0] at hr0;go_wp2;go_ret;exact⟨by rw[HE.out];rfl,HG2.out⟩
 ·have HE:Hid (isg s' m=if s' then -1 else 1):=by unfold isg;exact if_neg h0
  rw[df h0] at hr0;cases s'
  ·go_wp2;go_ret;exact⟨by rw[HE.out];rfl,HG2.out⟩
  ·go_wp2;go_ret;exact⟨by rw[HE.out];rfl,HG2.out⟩
theorem a8y (w:World) (x y:Sv) (a b:List Nat) (hx:x.Num w a) (hy:y.Num w b) (ha:a.length≤1000000) (hb:b.length≤1000000) (hle:val b≤val a):
  Calls Tryz.prog 339 #[x.v,y.v] w fun e w'=>∃z:Sv,e=.returned (.tuple #[z.v,.int .i64 0])∧z.Num w' (ab (val a - val b))∧Gr w w':=by
 have H1:=I (bx w x a hx);have HY:=I hy;have HA:Hid ((ab (val a)).length≤1000000):=nt (bb (eq hx.lim)) ha;have HB:Hid ((ab (val b)).length≤1000000):=nt (bb (eq hy.lim)) hb;have HLE:=I hle;clear hx hy ha hb hle;go_enter Tryz.func339,Tryz.ntmps339;go_wp2_with fail;refine cm1 H1 fun u w1 HU G1=>?_
 have HG1:=I G1;have H2:=I (bx w1 y b (HY.gr G1));clear H1 HY;go_wp2_with fail;refine cm2 H2 fun v w0 hv G2=>?_
 have HG2:=I (HG1.trans G2);have HU2:=I (HU.gr G2);have HV:=I hv;have H3:=I (mo w0 u v _ _ (HU.gr G2) hv);clear hv HG1 HU H2;rw[vl,vl] at H3;have hc0:0≤cmpN (val a) (val b):=by
  have:=HLE.out;unfold cmpN;split
  ·omega
  ·split<;>omega
 go_wp2_with fail;refine cm0 H3 fun w2 G3=>?_
 have HG3:=I (HG2.trans G3);have HU3:=I (HU2.gr G3);have HV3:=I (HV.gr G3);clear HG2 HU2 HV H3;generalize cmpN (val a) (val b)=cm at*;have hcd:decide (cm < 0)=false:=by simp;omega
 obtain⟨A,n,c⟩:=u;obtain⟨B,m,d⟩:=v;have HN:=I HU3.len;have HM:=I HV3.len;have VA:=I (vl (val a));have VB:=I (vl (val b));have hmn:m≤n:=by
  have:=aw HLE;rw[HN.out,HM.out] at this;exact this
 simp only[Sv.v] at*;have hn9:n≤1000000:=by rw[← HN.out];exact HA.out
 generalize ab (val a)=la at*;generalize ab (val b)=lb at*;have hmk:=a3e n om w2;have HR0:=I (Lb.made w2 n);have HG4:Hid (Gr w (w2.alloc (.cells (Array.replicate n (.int .u32 0)) 200))):=HG3.alloc _;have HGs:Hid (Gr w2 (w2.alloc (.cells (Array.replicate n (.int .u32 0)) 200))):=(Gr.refl w2).alloc _;have HS0:=I (SubSt.start la lb n);have hg0:Hid (w.heap.size≤w2.heap.size):=HG3.size;go_wp2;clear hmk;generalize hge:w2.heap.size=g at*;have HGE:=I hge;clear hge;go_loopw [7,10,24] (fun s7 s10 i wr=>∃(t cr:Nat) (o:List Nat),i=.int .i64 t∧s7=.int .u64 cr∧t≤n∧cr≤1∧Hid (SubSt la lb o t cr n)∧Hid (Lb wr g o)∧Hid (Gr w wr)∧Hid (Gr w2 wr)) (fun _ _ i _=>n - (intOf i).toNat)
 case atStart=>exact⟨0,0,_,rfl,rfl,nq _,by omega,HS0,HR0,HG4,HGs⟩
 case round=>
  obtain⟨t,cr,o,rfl,rfl,ht,hcr,hS,hR,hG,hGG⟩:=hrel;have fz:=hR.fz;by_cases htn:t < n
  ·obtain⟨p,ad,hp,hp9,hAe,hbl,d1⟩:=(HU3.gr hGG).at (i:=t) htn;simp only at hAe;subst hAe;have HP:=I (jy hp);have q0:=hR.cell (hS.zer t (nr _) om);have hB:=bc;rw[hB] at hp9;by_cases htm:t < m
   ·obtain⟨q,ad2,hq,hq9,hBe,hbl2,d2⟩:=(HV3.gr hGG).at (i:=t) htm;simp only at hBe;subst hBe;rw[hB] at hq9;obtain⟨lo,c',hlo,hc',hlc⟩:∃lo c':Nat,lo < 4294967296∧c'≤1∧lo+cr+q=p+4294967296*c':=by
     by_cases h:cr+q≤p
     ·exact⟨p - cr - q,0,by omega,by omega,by omega⟩
     ·exact⟨p+4294967296 - cr - q,1,by omega,by omega,by omega⟩
    have HST:=I (hS.step HU3.lim HV3.lim htn (x:=lo) (c':=c') (by rw[hB];exact hlo) hc' (by rw[HP.out,jy hq];exact hlc));have E1:Hid (IntKind.u64.wrap (IntKind.u64.wrap ((p:Int) - cr) - q) % 4294967296=lo):=by
     have h:IntKind.u64.wrap (IntKind.u64.wrap ((p:Int) - cr) - q) % 4294967296=lo:=by rw[IntKind.wrap_u64,IntKind.wrap_u64];omega
     exact h
    have E2:Hid (IntKind.u64.wrap (IntKind.u64.wrap ((p:Int) - cr) - q) / 9223372036854775808=c'):=by
     have h:IntKind.u64.wrap (IntKind.u64.wrap ((p:Int) - cr) - q) / 9223372036854775808=c':=by rw[IntKind.wrap_u64,IntKind.wrap_u64];omega
     exact h
    have HL2:=I (hR.put t lo);have HG5:=I (hG.set (p:=⟨g,t,none⟩) hg0 (lv lo));have HG6:=I (hGG.set (p:=⟨g,t,none⟩) (by rw[HGE.out];exact nr _) (lv lo));clear hp hq hbl hbl2 hlc hlo;go_wp2;go_roundw
    case rel=>
     rw[E1.out,E2.out];exact⟨t+1,c',_,by go_num,rfl,by omega,hc',HST,HL2,HG5,HG6⟩
    case measure=>simp[intOf];omega
   ·obtain⟨lo,c',hlo,hc',hlc⟩:∃lo c':Nat,lo < 4294967296∧c'≤1∧lo+cr+0=p+4294967296*c':=by
     by_cases h:cr+0≤p
     ·exact⟨p - cr - 0,0,by omega,by omega,by omega⟩
     ·exact⟨p+4294967296 - cr - 0,1,by omega,by omega,by omega⟩
    have HST:=I (hS.step HU3.lim HV3.lim htn (x:=lo) (c':=c') (by rw[hB];exact hlo) hc' (by rw[HP.out,im (by rw[HV3.len];simp only;omega)];exact hlc));have E1:Hid (IntKind.u64.wrap ((p:Int) - cr) % 4294967296=lo):=by
     have h:IntKind.u64.wrap ((p:Int) - cr) % 4294967296=lo:=by rw[IntKind.wrap_u64];omega
     exact h
    have E2:Hid (IntKind.u64.wrap ((p:Int) - cr) / 9223372036854775808=c'):=by
     have h:IntKind.u64.wrap ((p:Int) - cr) / 9223372036854775808=c':=by rw[IntKind.wrap_u64];omega
     exact h
    have HL2:=I (hR.put t lo);have HG5:=I (hG.set (p:=⟨g,t,none⟩) hg0 (lv lo));have HG6:=I (hGG.set (p:=⟨g,t,none⟩) (by rw[HGE.out];exact nr _) (lv lo));clear hp hbl hlc hlo;go_wp2;go_roundw
    case rel=>
     rw[E1.out,E2.out];exact⟨t+1,c',_,by go_num,rfl,by omega,hc',HST,HL2,HG5,HG6⟩
    case measure=>simp[intOf];omega
  ·obtain rfl:t=n:=by omega
   have e1:=hS.done (by rw[HU3.len];exact nr _) (by rw[HV3.len];exact hmn) (nr _) (by rw[VA.out,VB.out];exact HLE.out);have hlen:=hS.len;have HT:=I (bx wr ⟨some ⟨g,0,none⟩,t,t⟩ o (by have:=hR.num hS.lim om;rw[hlen] at this;exact this));rw[e1,VA.out,VB.out] at HT;clear e1 hlen;go_wp2_with fail;refine cm1 HT fun z w5 HZ G5=>?_
   have HG6:=I (hG.trans G5);clear HT;go_wp2;go_returns;exact⟨z,rfl,HZ.out,HG6.out⟩
theorem a8e (w:World) (t u v:TypeId) (a b c:Array Value):
    Bk (((w.alloc (.cells a t)).alloc (.cells b u)).alloc (.cells c v)) w.heap.size t a∧Bk (((w.alloc (.cells a t)).alloc (.cells b u)).alloc (.cells c v)) (w.heap.size+1) u b∧Bk (((w.alloc (.cells a t)).alloc (.cells b u)).alloc (.cells c v)) (w.heap.size+1+1) v c∧Gr w (((w.alloc (.cells a t)).alloc (.cells b u)).alloc (.cells c v)):=by
  have s1:(w.alloc (.cells a t)).heap.size=w.heap.size+1:=World.size_alloc ..;have s2:((w.alloc (.cells a t)).alloc (.cells b u)).heap.size=w.heap.size+1+1:=by rw[World.size_alloc,s1]
  refine⟨((Bk.made w t a).alloc _).alloc _,?_,?_,(((Gr.refl w).alloc _).alloc _).alloc _⟩
  · have:=(Bk.made (w.alloc (.cells a t)) u b).alloc (.cells c v)
    rwa [s1] at this
  · have:=Bk.made ((w.alloc (.cells a t)).alloc (.cells b u)) v c
    rwa [s2] at this
theorem bh (m n:Nat):(ab (m*n)).length≤(ab m).length+(ab n).length:=by
  refine bb ?_;rw[Nat.pow_add];exact nj (Nat.mul_le_mul_right _ (Nat.le_of_lt (fc m))) (Nat.mul_lt_mul_of_pos_left (fc n) (Nat.pow_pos dx))
theorem ee (m n k:Nat) (hm:(ab m).length≤k) (hn:(ab n).length≤k):(ab (m+n)).length≤k+1:=by
  refine bb ?_;have h1:=nk (fc m) (Nat.pow_le_pow_right (by decide:0 < B32) hm);have h2:=nk (fc n) (Nat.pow_le_pow_right (by decide:0 < B32) hn);rw[Nat.pow_succ,bc] at*;omega
theorem a6x (w:World) (a b:Iv) (s t:Bool) (m n:Nat) (ha:a.Is w s m) (hb:b.Is w t n) (hm:(ab m).length≤400000) (hn:(ab n).length≤400000):
    Calls Tryz.prog 219 #[a.v,b.v] w fun e w'=>∃r:Iv,e=.returned r.v∧r.Is w' ((s != t)&&decide (0 < m*n)) (m*n)∧Gr w w':=by
  have hs:=I ha.neg;have ht:=I hb.neg;have HLM:=I hm;have HLN:=I hn;clear hm hn;simp only[Iv.v];go_enter Tryz.func219,Tryz.ntmps219;go_wp2_with fail;refine nw3h fun W HG hB1 hB2 hB3=>?_
  have HA:=I (ha.mag.gr HG);have HB:=I (hb.mag.gr HG);clear ha hb;have hpr:¬w.heap.size=w.heap.size+1+1:=by omega
  have hqr:¬w.heap.size+1=w.heap.size+1+1:=by omega
  have hle:Hid (w.heap.size≤w.heap.size+1+1):=nt (Nat.le_succ _) (Nat.le_succ _);generalize w.heap.size+1+1=r at*;generalize w.heap.size+1=q at*;generalize hp:w.heap.size=p at*;have hPE:=I hp;clear hp;have hpr2:¬r=p:=fun e=>hpr e.symm
  have hqr2:¬r=q:=fun e=>hqr e.symm
  have a0_:=hB1.c2;have b0_:=hB2.c2;have HM:=I (a19 W.drew a.mag b.mag _ _ (HA.gr (Gr.refl W).drew) (HB.gr (Gr.refl W).drew) (nt HLM dx) (nt HLN dx));rw[vl,vl] at HM;have HLP:Hid ((ab (m*n)).length≤1000000):=nt (bh m n) (nt (Nat.add_le_add HLM HLN) dx)
  first | (go_region_held3 (fun W=>W.cell? ⟨p,0,none⟩=some (.bool a.neg)∧W.cell? ⟨p,1,none⟩=some a.mag.v∧W.cell? ⟨q,0,none⟩=some (.bool b.neg)∧W.cell? ⟨q,1,none⟩=some b.mag.v) (first | go_keep | exact⟨hk1.1,hk1.2,hk2.1,hk2.2⟩ | exact⟨hj1.1,hj1.2,hj2.1,hj2.2⟩)
    (first | (go_at_call 270;refine HM.out.mono ?_;rintro e w1 ⟨z,rfl,hz,G1⟩;have hk1:=(G1.bk hB1.out).c2;have hk2:=(G1.bk hB2.out).c2;have HI:=I (nu w1 (a.neg != b.neg) z _ hz HLP.out);have HBr:=I (G1.bk hB3.out);have HG1:=I (HG.out.drew.trans G1);have hB1':=I (G1.bk hB1.out);have hB2':=I (G1.bk hB2.out);clear hz G1)
           | (go_at_call 221;refine HI.mono ?_;rintro e w2 ⟨i,rfl,hi,G2⟩;have hj1:=(G2.bk hB1').c2;have hj2:=(G2.bk hB2').c2;have HBs:=I (G2.bk HBr);obtain⟨r0,r1⟩:=HBs.c2;have fz:=HBs.frozen;have HG2:=I (HG1.trans G2);have HII:=I hi;clear hi G2))) | fail
  go_wp2;refine pex ?_;refine ks HBs fun W5 B5 F5=>?_
  have d_:=B5.c2;refine bret Tryz.results219 ?_;exact⟨i,rfl,⟨by rw[HII.neg,hs.out,ht.out],HII.mag.fr F5 HBs (bf _ _ _ _)⟩,HG2.fr_at F5 (by rw[hPE.out];exact hle.out)⟩
theorem af7 (w:World) (a b:Iv) (s t:Bool) (m n:Nat) (ha:a.Is w s m) (hb:b.Is w t n) (hm:(ab m).length≤900000) (hn:(ab n).length≤900000):
    Calls Tryz.prog 283 #[a.v,b.v] w fun e w'=>∃r:Iv,e=.returned r.v∧r.Is w' (sadd s m t n).1 (sadd s m t n).2∧Gr w w':=by
  obtain⟨B1,B2,B3,G⟩:=a8e w 118 118 118 #[.bool a.neg,a.mag.v] #[.bool b.neg,b.mag.v] #[.bool false,Nl];have hs:=I ha.neg;have ht:=I hb.neg;have HA:=I (ha.mag.gr G);have HB:=I (hb.mag.gr G);have HG:=I G;have HLM:=I hm;have HLN:=I hn;have hB1:=I B1;have hB2:=I B2;have hB3:=I B3;have a0_:=B1.c2;have b0_:=B2.c2;clear ha hb hm hn G B1 B2 B3;simp only[Iv.v];have HLA:Hid ((ab m).length≤1000000):=nt HLM dx;have HLB:Hid ((ab n).length≤1000000):=nt HLN dx;have HLP:Hid ((ab (m+n)).length≤1000000):=nt (ee m n _ HLM HLN) dx;by_cases hst:s=t
  · have HE:Hid (sadd s m t n=(s&&decide (0 < m+n),m+n)):=by unfold sadd;exact if_pos hst
    have hsd:(a.neg == b.neg)=true:=by rw[hs.out,ht.out,hst];simp
    go_enter Tryz.func283,Tryz.ntmps283;go_wp2_with fail;generalize hW:((w.alloc (.cells #[.bool a.neg,a.mag.v] 118)).alloc (.cells #[.bool b.neg,b.mag.v] 118)).alloc (.cells #[.bool false,Nl] 118)=W at*;clear hW;have hpr:¬w.heap.size=w.heap.size+1+1:=by omega
    have hqr:¬w.heap.size+1=w.heap.size+1+1:=by omega
    have hle:Hid (w.heap.size≤w.heap.size+1+1):=nt (Nat.le_succ _) (Nat.le_succ _);generalize w.heap.size+1+1=r at*;generalize w.heap.size+1=q at*;generalize hp:w.heap.size=p at*;have hPE:=I hp;clear hp;have hpr2:¬r=p:=fun e=>hpr e.symm
    have hqr2:¬r=q:=fun e=>hqr e.symm
    clear a0_ b0_;have a0_:=hB1.c2;have b0_:=hB2.c2;have HM:=I (ak1 W.drew a.mag b.mag _ _ (HA.gr (Gr.refl W).drew) (HB.gr (Gr.refl W).drew) HLA HLB);rw[vl,vl] at HM
    first | (go_region_held3 (fun W=>W.cell? ⟨p,0,none⟩=some (.bool a.neg)∧W.cell? ⟨p,1,none⟩=some a.mag.v∧W.cell? ⟨q,0,none⟩=some (.bool b.neg)∧W.cell? ⟨q,1,none⟩=some b.mag.v) (first | go_keep | exact⟨hk1.1,hk1.2,hk2.1,hk2.2⟩ | exact⟨hj1.1,hj1.2,hj2.1,hj2.2⟩)
      (first | (go_at_call 338;refine HM.out.mono ?_;rintro e w1 ⟨z,rfl,hz,G1⟩;have hk1:=(G1.bk hB1.out).c2;have hk2:=(G1.bk hB2.out).c2;have HI:=I (nu w1 a.neg z _ hz HLP.out);have HBr:=I (G1.bk hB3.out);have HG1:=I (HG.out.drew.trans G1);have hB1':=I (G1.bk hB1.out);have hB2':=I (G1.bk hB2.out);clear hz G1)
             | (go_at_call 221;refine HI.mono ?_;rintro e w2 ⟨i,rfl,hi,G2⟩;have hj1:=(G2.bk hB1').c2;have hj2:=(G2.bk hB2').c2;have HBs:=I (G2.bk HBr);obtain⟨r0,r1⟩:=HBs.c2;have fz:=HBs.frozen;have HG2:=I (HG1.trans G2);have HII:=I hi;clear hi G2))) | fail
    go_wp2;refine pex ?_;refine ks HBs fun W5 B5 F5=>?_
    have d_:=B5.c2;refine bret Tryz.results283 ?_;exact⟨i,rfl,by rw[HE.out];exact⟨by rw[HII.neg,hs.out],HII.mag.fr F5 HBs (bf _ _ _ _)⟩,HG2.fr_at F5 (by rw[hPE.out];exact hle.out)⟩
  · have hsd:(a.neg == b.neg)=false:=by rw[hs.out,ht.out];simpa using hst
    have HC:=I (mo _ a.mag b.mag _ _ HA HB);rw[vl,vl] at HC;go_enter Tryz.func283,Tryz.ntmps283;go_wp2_with fail;refine cm0 HC fun w1 G1=>?_
    have HG1:=I (HG.trans G1);have HA1:=I (HA.gr G1);have HB1':=I (HB.gr G1);have C1:=I (G1.bk hB1);have C2:=I (G1.bk hB2);have C3:=I (G1.bk hB3);clear HC hB1 hB2 hB3 HG HA HB a0_ b0_;have hpq:¬w.heap.size=w.heap.size+1:=by omega
    have hpr:¬w.heap.size=w.heap.size+1+1:=by omega
    have hqr:¬w.heap.size+1=w.heap.size+1+1:=by omega
    have hle:Hid (w.heap.size≤w.heap.size+1+1):=nt (Nat.le_succ _) (Nat.le_succ _);have hlq:Hid (w.heap.size≤w.heap.size+1):=Nat.le_succ _;generalize w.heap.size+1+1=r at*;generalize w.heap.size+1=q at*;generalize hp:w.heap.size=p at*;have hPE:=I hp;clear hp;have a0_:=C1.c2;have b0_:=C2.c2;by_cases hmn:m < n
    · have hc:Hid (cmpN m n=-1):=qn hmn
      have HE:Hid (sadd s m t n=(t&&decide (0 < n - m),n - m)):=by
        unfold sadd;rw[if_neg hst,if_pos hmn,dt om,Bool.and_true];exact rfl
      rw[hc.out];have f1:=C1.frozen;have f2:=C2.frozen;obtain⟨D1,F1⟩:=C1.put2 (.bool b.neg) b.mag.v;have D2:=F1.bk C2 fun e=>hpq e.symm
      obtain⟨E2,F2⟩:=D2.put2 (.bool a.neg) a.mag.v;have E1:=F2.bk D1 hpq;have E3:=F2.bk (F1.bk C3 fun e=>hpr e.symm) fun e=>hqr e.symm
      have HA2:=I ((HA1.fr F1 C1 (bf _ _ _ _)).fr F2 D2 (bf _ _ _ _));have HB2:=I ((HB1'.fr F1 C1 (bf _ _ _ _)).fr F2 D2 (bf _ _ _ _));have HG2:=I ((HG1.fr_at F1 (Nat.le_of_eq hPE)).fr_at F2 (by rw[hPE.out];exact hlq.out));have HE1:=I E1;have HE3:=I E3;clear D1 D2 E1 E2 E3 F1 F2;go_wp2_with fail;generalize (((w1.setCell ⟨p,0,none⟩ (.bool b.neg)).setCell ⟨p,1,none⟩ b.mag.v).setCell ⟨q,0,none⟩ (.bool a.neg)).setCell ⟨q,1,none⟩ a.mag.v=W2 at*;have HMN:val (ab m)≤val (ab n):=by rw[vl,vl];omega
      have HLS:Hid ((ab (n - m)).length≤1000000):=nt (aw (Nat.sub_le n m)) HLB;clear hc;have H7:=I (a8y W2 b.mag a.mag _ _ HB2 HA2 HLB HLA HMN);rw[vl,vl] at H7;refine cm2 H7 fun z w3 hz G3=>?_
      have HG3:=I (HG2.trans G3);obtain⟨p0,p1⟩:=(G3.bk HE1).c2;have HR3:=I (G3.bk HE3);have HI:=I (nu w3 b.neg z _ hz HLS);clear hz H7;go_wp2_with fail;refine cm1 HI fun i w4 HII G4=>?_
      have HG4:=I (HG3.trans G4);have HBs:=I (G4.bk HR3);obtain⟨r0,r1⟩:=HBs.c2;have fz:=HBs.frozen;clear HI;go_wp2;refine pex ?_;refine ks HBs fun W5 B5 F5=>?_
      have d_:=B5.c2;refine bret Tryz.results283 ?_;exact⟨i,rfl,by rw[HE.out];exact⟨by rw[HII.neg,ht.out],HII.mag.fr F5 HBs (bf _ _ _ _)⟩,HG4.fr_at F5 (by rw[hPE.out];exact hle.out)⟩
    · have hc0:0≤cmpN m n:=by unfold cmpN;rw[if_neg hmn];split<;>omega
      have HE:Hid (sadd s m t n=(s&&decide (0 < m - n),m - n)):=by
        unfold sadd;rw[if_neg hst,if_neg hmn];exact rfl
      have hcd:decide (cmpN m n < 0)=false:=by simp;omega
      generalize cmpN m n=cm at*;have HMN:val (ab n)≤val (ab m):=by rw[vl,vl];omega
      have HLS:Hid ((ab (m - n)).length≤1000000):=nt (aw (Nat.sub_le m n)) HLA;go_wp2_with fail;have H7:=I (a8y w1 a.mag b.mag _ _ HA1 HB1' HLA HLB HMN);rw[vl,vl] at H7;refine cm2 H7 fun z w3 hz G3=>?_
      have HG3:=I (HG1.trans G3);obtain⟨p0,p1⟩:=(G3.bk C1).c2;have HR3:=I (G3.bk C3);have HI:=I (nu w3 a.neg z _ hz HLS);clear hz H7;go_wp2_with fail;refine cm1 HI fun i w4 HII G4=>?_
      have HG4:=I (HG3.trans G4);have HBs:=I (G4.bk HR3);obtain⟨r0,r1⟩:=HBs.c2;have fz:=HBs.frozen;clear HI;go_wp2;refine pex ?_;refine ks HBs fun W5 B5 F5=>?_
      have d_:=B5.c2;refine bret Tryz.results283 ?_;exact⟨i,rfl,by rw[HE.out];exact⟨by rw[HII.neg,hs.out],HII.mag.fr F5 HBs (bf _ _ _ _)⟩,HG4.fr_at F5 (by rw[hPE.out];exact hle.out)⟩
theorem a1c (w:World) (t u:TypeId) (a b:Array Value):
    Bk ((w.alloc (.cells a t)).alloc (.cells b u)) w.heap.size t a∧Bk ((w.alloc (.cells a t)).alloc (.cells b u)) (w.heap.size+1) u b∧Gr w ((w.alloc (.cells a t)).alloc (.cells b u)):=by
  have s1:(w.alloc (.cells a t)).heap.size=w.heap.size+1:=World.size_alloc ..;refine⟨(Bk.made w t a).alloc _,?_,((Gr.refl w).alloc _).alloc _⟩;have:=Bk.made (w.alloc (.cells a t)) u b;rwa [s1] at this
def cmpI (s:Bool) (m:Nat) (t:Bool) (n:Nat):Int:=if isg s m < isg t n then -1 else if isg t n < isg s m then 1 else if isg s m < 0 then cmpN n m else cmpN m n
theorem af6 (w:World) (a b:Iv) (s t:Bool) (m n:Nat) (ha:a.Is w s m) (hb:b.Is w t n) (hm:(ab m).length≤1000000) (hn:(ab n).length≤1000000):
    Calls Tryz.prog 180 #[a.v,b.v] w fun e w'=>e=.returned (.int .i64 (cmpI s m t n))∧Gr w w':=by
  have HLM:=I hm;have HLN:=I hn;clear hm hn;simp only[Iv.v];go_enter Tryz.func180,Tryz.ntmps180;go_wp2_with fail;refine nw2h fun W HG hB1 hB2=>?_
  have HA:=I (ha.gr HG);have HB:=I (hb.gr HG);clear ha hb;generalize w.heap.size+1=q at*;generalize w.heap.size=p at*;have a0_:=hB1.c2;have b0_:=hB2.c2;have HS1:=I (yy W.drew a s m (HA.gr (Gr.refl W).drew) HLM);simp only[Iv.v] at HS1;have hE:Hid (cmpI s m t n=if isg s m < isg t n then -1 else if isg t n < isg s m then 1 else if isg s m < 0 then cmpN n m else cmpN m n):=rfl;generalize isg s m=sm at*;have HS2:Hid (∀W2,Gr W W2→Calls Tryz.prog 182 #[b.v] W2 fun e w'=>e=.returned (.int .i64 (isg t n))∧Gr W2 w'):=fun W2 G=>yy W2 b t n (HB.gr G) HLN
  generalize isg t n=tn at*;simp only[Iv.v] at HS2
  first | (go_region_held3 (fun W=>W.cell? ⟨p,0,none⟩=some (.bool a.neg)∧W.cell? ⟨p,1,none⟩=some a.mag.v∧W.cell? ⟨q,0,none⟩=some (.bool b.neg)∧W.cell? ⟨q,1,none⟩=some b.mag.v) (first | go_keep | exact⟨hk1.1,hk1.2,hk2.1,hk2.2⟩ | exact⟨hj1.1,hj1.2,hj2.1,hj2.2⟩)
    (first | (go_at_call 182;refine (HS2.out w1 HG1.out).mono ?_;rintro e w2 ⟨rfl,G2⟩;have hj1:=(HG1.out.trans G2 |>.bk hB1.out).c2;have hj2:=(HG1.out.trans G2 |>.bk hB2.out).c2;have HG2:=I (HG1.out.trans G2);clear G2)
           | (go_at_call 182;refine HS1.mono ?_;rintro e w1 ⟨rfl,G1⟩;have hk1:=(G1.bk hB1).c2;have hk2:=(G1.bk hB2).c2;have HG1:=I ((Gr.refl W).drew.trans G1);clear G1))) | fail
  obtain⟨k0,k1⟩:=hj1;obtain⟨l0,l1⟩:=hj2;have HF:=I (HG.trans HG2);have HC1:=I (mo w2 a.mag b.mag _ _ (HA.mag.gr HG2) (HB.mag.gr HG2));have HC2:=I (mo w2 b.mag a.mag _ _ (HB.mag.gr HG2) (HA.mag.gr HG2));rw[vl,vl] at HC1 HC2;clear HS1 HS2;by_cases h1:sm < tn
  · rw[if_pos h1] at hE
    have hd:decide (sm < tn)=true:=by simp[h1]
    go_wp2;go_ret;exact⟨by rw[hE.out];rfl,HF.out⟩
  · have hd:decide (sm < tn)=false:=by simp;omega
    rw[if_neg h1] at hE;by_cases h2:tn < sm
    · rw[if_pos h2] at hE
      have hd2:decide (tn < sm)=true:=by simp[h2]
      go_wp2;go_ret;exact⟨by rw[hE.out];rfl,HF.out⟩
    · rw[if_neg h2] at hE
      have hd2:decide (tn < sm)=false:=by simp;omega
      by_cases h3:sm < 0
      · rw[if_pos h3] at hE
        have hd3:decide (sm < 0)=true:=by simp[h3]
        generalize cmpN n m=c at*;go_wp2_with fail;refine cm0 HC2 fun w3 G3=>?_
        have HG3:=I (HF.trans G3)

        go_wp2;go_ret;exact⟨by rw[hE.out];rfl,HG3.out⟩
      · rw[if_neg h3] at hE
        have hd3:decide (sm < 0)=false:=by simp;omega
        generalize cmpN m n=c at*;go_wp2_with fail;refine cm0 HC1 fun w3 G3=>?_
        have HG3:=I (HF.trans G3)

        go_wp2;go_ret;exact⟨by rw[hE.out];rfl,HG3.out⟩
theorem aja (w:World) (x:Int) (h1:-1000000000≤x) (h2:x≤1000000000):
    Calls Tryz.prog 225 #[.int .i64 x] w fun e w'=>∃r:Iv,e=.returned r.v∧r.Is w' (decide (x < 0)) x.natAbs∧Gr w w':=by
  have b1:=Bk.made w 118 #[.bool false,Nl];have HG1:=I ((Gr.refl w).alloc (.cells #[.bool false,Nl] 118));have HB:=I b1;clear b1;have HO:=I (fun W=>ab5 W x.natAbs om);by_cases h0:x < 0
  · have hd:decide (x < 0)=true:=by simp[h0]
    rw[hd];obtain⟨n,rfl⟩:∃n:Nat,x=-(n:Int):=⟨x.natAbs,by omega⟩;rw[show (-(n:Int)).natAbs=n by omega] at*;go_enter Tryz.func225,Tryz.ntmps225;have hw:IntKind.u64.wrap (-IntKind.u64.wrap (-(n:Int)))=(n:Int):=by rw[IntKind.wrap_u64,IntKind.wrap_u64];omega
    go_wp2_with fail;refine cm1 (HO.out _) fun z w1 HZ G1=>?_
    have HG2:=I (HG1.trans G1);have HBs:=I (G1.bk HB);have r0_:=HBs.c2;have fz:=HBs.frozen;clear hw HB;generalize hp:w.heap.size=r at*;have hPE:=I hp;clear hp;go_wp2;refine pex ?_;refine ks HBs fun W5 B5 F5=>?_
    have d_:=B5.c2;refine bret Tryz.results225 ?_;exact⟨⟨true,z⟩,rfl,⟨rfl,HZ.fr F5 HBs (bf _ _ _ _)⟩,HG2.fr_at F5 (Nat.le_of_eq hPE)⟩
  · have hd:decide (x < 0)=false:=by simp;omega
    rw[hd];obtain⟨n,rfl⟩:∃n:Nat,x=(n:Int):=⟨x.natAbs,by omega⟩;rw[show ((n:Int)).natAbs=n by omega] at*;go_enter Tryz.func225,Tryz.ntmps225;have hw:IntKind.u64.wrap (n:Int)=(n:Int):=by rw[IntKind.wrap_u64];omega
    go_wp2_with fail;refine cm1 (HO.out _) fun z w1 HZ G1=>?_
    have HG2:=I (HG1.trans G1);have HBs:=I (G1.bk HB);have r0_:=HBs.c2;have fz:=HBs.frozen;clear hw HB;generalize hp:w.heap.size=r at*;have hPE:=I hp;clear hp;go_wp2;refine pex ?_;refine ks HBs fun W5 B5 F5=>?_
    have d_:=B5.c2;refine bret Tryz.results225 ?_;exact⟨⟨false,z⟩,rfl,⟨rfl,HZ.fr F5 HBs (bf _ _ _ _)⟩,HG2.fr_at F5 (Nat.le_of_eq hPE)⟩
theorem Q.dec_eq (x y:Q):decide (x=y)=(x.neg == y.neg&&(decide (x.num=y.num)&&decide (x.den=y.den))):=by
 obtain⟨s,m,k⟩:=x;obtain⟨t,n,l⟩:=y;rw[Bool.eq_iff_iff];simp only[de,be,beq_iff_eq,Q.mk.injEq]
theorem an2 (w:World) (x y:Sv) (m n:Nat) (hx:x.Num w (ab m)) (hy:y.Num w (ab n)):
  Calls Tryz.prog 222 #[x.v,y.v] w fun e w'=>e=.returned (.bool (decide (m=n)))∧Gr w w':=by
 obtain⟨A,k,c⟩:=x;obtain⟨B,l,d⟩:=y;have hk:=hx.len;have hl:=hy.len;have hk9:=hx.is.max;have hkc:=hx.is.cap;(try simp only at hk hl hk9 hkc)
 have HX:=I hx;have HY:=I hy;by_cases hkl:k=l
 ·subst hkl;have hnn:((k:Int) != k)=false:=by simp
  have HK:=I hk;have HL:=I hl;clear hx hy hk hl;(try simp only)
  go_enter Tryz.func222,Tryz.ntmps222;go_wp2;go_loopw [13] (fun i wr=>∃t:Nat,i=.int .i64 t∧t≤k∧Hid ((ab m).take t=(ab n).take t)∧Hid (Gr w wr)) (fun i _=>k - (intOf i).toNat)
  case atStart=>exact⟨0,rfl,nq _,rfl,Gr.refl w⟩
  case round=>
   obtain⟨t,rfl,ht,hT,hG⟩:=hrel;by_cases htk:t < k
   ·obtain⟨p,ad,hp,hp9,hA,hb,d1⟩:=(HX.gr hG).at (i:=t) htk;obtain⟨q,ad2,hq,hq9,hB,hb2,d2⟩:=(HY.gr hG).at (i:=t) htk;(try simp only at hA hB)
    subst hA hB;have e1:wr.drew.cell? (ad.add t)=some (.int .u32 p):=d1;have e2:wr.drew.cell? (ad2.add t)=some (.int .u32 q):=d2;have hG3:Hid (Gr w wr.drew):=hG.drew;by_cases hpq:p=q
    ·subst hpq;have HT:Hid ((ab m).take (t+1)=(ab n).take (t+1)):=by
      rw[List.take_add_one,List.take_add_one,hT.out,hp,hq];exact rfl
     clear hp hq hp9 hq9 hb hb2 hT;go_wp2;go_region
     all_goals go_wp2
     all_goals go_roundw
     all_goals first
      | exact⟨t+1,by go_num,by omega,HT,hG3⟩
      | (simp[intOf];omega)
    ·have hpd:((p:Int) != q)=true:=by simp;omega
     have HE:Hid (decide (m=n)=false):=by
      have h:¬m=n:=fun e=>by
       subst e;rw[hp] at hq;injection hq with hq;exact hpq hq
      exact df h
     clear hp hq hp9 hq9 hb hb2 hT;go_wp2;go_region
     all_goals go_wp2
     all_goals go_ret
     all_goals exact⟨by rw[HE.out];rfl,hG3.out⟩
   ·obtain rfl:t=k:=by omega
    have HE:Hid (decide (m=n)=true):=by
     have h:=hT.out;rw[List.take_of_length_le (by rw[HK.out];exact nr _),List.take_of_length_le (by rw[HL.out];exact nr _)] at h;exact dt (se h)
    clear hT;go_wp2;go_ret;exact⟨by rw[HE.out];rfl,hG.out⟩
 ·have hnn:((k:Int) != l)=true:=by simp;omega
  have HE:Hid (decide (m=n)=false):=by
   have h:¬m=n:=fun e=>hkl (by rw[← hk,← hl,e])
   exact df h
  clear hx hy hk hl;(try simp only)
  go_enter Tryz.func222,Tryz.ntmps222;go_wp2;go_ret;exact⟨by rw[HE.out];rfl,Gr.refl w⟩
theorem Q.sign_isg (q:Q):isg q.sg q.num=q.sign:=by
 unfold isg Q.sign Q.sg;by_cases h:q.num=0
 ·rw[if_pos h,if_pos h]
 ·rw[if_neg h,if_neg h,dt om,Bool.and_true]
theorem tl (w:World) (a:Rv) (q:Q) (ha:a.Is w q) (hl:(ab q.num).length≤1000000):
  Calls Tryz.prog 183 #[a.v] w fun e w'=>∃r:Iv,e=.returned r.v∧r.Is w' q.sg q.num∧Gr w w':=by
 obtain⟨B1,B2,G⟩:=a1c w 35 118 a.ar #[.bool false,Nl];have HG:=I G;have hB2:=I B2;have a0_:=B1.c3;have HI:=I (nu _ a.neg a.num _ (ha.num.gr G) hl);have hE:Hid ((a.neg&&decide (0 < q.num))=q.sg):=by rw[ha.neg];exact rfl
 clear ha hl B1 B2 G;simp only[Rv.v];go_enter Tryz.func183,Tryz.ntmps183;go_wp2_with fail;refine cm2 HI fun i w1 hi G1=>?_
 rw[hE.out] at hi;have HII:=I hi;have HG1:=I (HG.trans G1);have HBs:=I (G1.bk hB2);have r0_:=HBs.c2;have fz:=HBs.frozen;clear hi HI a0_ hB2;have hle:Hid (w.heap.size≤w.heap.size+1):=Nat.le_succ _;generalize w.heap.size+1=r at*;go_wp2;refine pex ?_;refine ks HBs fun W5 B5 F5=>?_
 have d_:=B5.c2;refine bret Tryz.results183 ?_;exact⟨i,rfl,⟨HII.neg,HII.mag.fr F5 HBs (bf _ _ _ _)⟩,HG1.fr_at F5 hle⟩
theorem vq (w:World) (a:Rv) (q:Q) (ha:a.Is w q) (hl:(ab q.num).length≤1000000):
  Calls Tryz.prog 130 #[a.v] w fun e w'=>e=.returned (.int .i64 q.sign)∧Gr w w':=by
 have B1:=Bk.made w 35 a.ar;have HG:=I ((Gr.refl w).alloc (.cells a.ar 35));have a0_:=B1.c3;have HS:=I (tl _ a q (ha.gr HG) hl);have hE:=I (Q.sign_isg q);have HL:=I hl;clear ha B1 hl;simp only[Rv.v] at*;go_enter Tryz.func130,Tryz.ntmps130;go_wp2_with fail;refine cm2 HS fun i w1 hi G1=>?_
 have HG1:=I (HG.trans G1);have HI:=I (yy w1 i _ _ hi HL);rw[hE.out] at HI;clear hi HS a0_;go_wp2_with fail;refine cm0 HI fun w2 G2=>?_
 have HG2:=I (HG1.trans G2)

 go_wp2;go_ret;exact⟨rfl,HG2.out⟩
theorem zf (w:World) (a:Rv) (q:Q) (ha:a.Is w q) (hl:(ab q.num).length≤1000000) (hd:Sl q.un):
  Calls Tryz.prog 177 #[a.v] w fun e w'=>∃r:Rv,e=.returned r.v∧r.Is w' (quot q.neg q.num q.un)∧Gr w w':=by
 obtain⟨B1,B2,G⟩:=a1c w 35 35 a.ar Rl;have HA:=I (ha.gr G);have HG:=I G;have hB1:=I B1;have hB2:=I B2;have hld:(ab q.den).length≤1000000:=by
  refine nt (aw ?_) hd.big;unfold Q.un;split<;>omega
 have HL:=I hl;have HD:=I hd.big;have HLD:=I hld;clear ha hl hd hld B1 B2 G;simp only[Rv.v];go_enter Tryz.func177,Tryz.ntmps177;go_wp2_with fail;generalize hW:(w.alloc (.cells a.ar 35)).alloc (.cells Rl 35)=W at*;clear hW;have hpr:¬w.heap.size=w.heap.size+1:=by omega
 have hle:Hid (w.heap.size≤w.heap.size+1):=Nat.le_succ _;generalize w.heap.size+1=r at*;generalize hp:w.heap.size=p at*;have hPE:=I hp;clear hp;have hpr2:¬r=p:=fun e=>hpr e.symm
 have a0_:=hB1.c3;have HU:=I (ju W.drew a q (HA.gr (Gr.refl W).drew) HLD);simp only[Rv.v] at HU;have HNN:=I HA.neg
 first | (go_region_held3 (fun W=>W.cell? ⟨p,0,none⟩=some (.bool a.neg)∧W.cell? ⟨p,1,none⟩=some a.num.v∧W.cell? ⟨p,2,none⟩=some a.den.v)
   (first | go_keep | exact⟨hk.1,hk.2.1,hk.2.2⟩ | exact⟨hj.1,hj.2.1,hj.2.2⟩)
   (first | (go_at_call 216;refine (HQ.out).mono ?_;rintro e w2 ⟨i,rfl,hi,G2⟩;have hE1:=I (G2.bk hC1.out);have HBs:=I (G2.bk hC2.out);have HG2:=I (HG1.out.trans G2);have hj:=hE1.out.c3;obtain⟨r0,r1,r2⟩:=HBs.out.c3;have fz:=HBs.out.frozen;have HII:=I hi;clear hi G2) | (go_at_call 217;refine (HU.out).mono ?_;rintro e w1 ⟨y,rfl,hy,G1⟩;have hC1:=I (G1.bk hB1.out);have hC2:=I (G1.bk hB2.out);have HG1:=I (HG.out.drew.trans G1);have hk:=hC1.out.c3;have HQ:=I (vu w1 a.neg a.num y _ _ ((HA.out.num.gr (Gr.refl W).drew).gr G1) hy HL.out q.un_pos HD.out);clear hy G1))) | fail
 go_wp2;refine pex ?_;refine ks HBs fun W5 B5 F5=>?_
 have d_:=B5.c3;refine bret Tryz.results177 ?_;exact⟨i,rfl,by rw[← HNN.out];exact⟨HII.neg,HII.num.fr F5 HBs (ba _ _ _ _ _ _ _),HII.den.fr F5 HBs (ba _ _ _ _ _ _ _)⟩,HG2.fr_at F5 (by rw[hPE.out];exact hle.out)⟩
theorem aoh (w:World) (t u v x:TypeId) (a b c d:Array Value):
  Bk ((((w.alloc (.cells a t)).alloc (.cells b u)).alloc (.cells c v)).alloc (.cells d x)) w.heap.size t a∧Bk ((((w.alloc (.cells a t)).alloc (.cells b u)).alloc (.cells c v)).alloc (.cells d x)) (w.heap.size+1) u b∧Bk ((((w.alloc (.cells a t)).alloc (.cells b u)).alloc (.cells c v)).alloc (.cells d x)) (w.heap.size+1+1) v c∧Bk ((((w.alloc (.cells a t)).alloc (.cells b u)).alloc (.cells c v)).alloc (.cells d x)) (w.heap.size+1+1+1) x d∧Gr w ((((w.alloc (.cells a t)).alloc (.cells b u)).alloc (.cells c v)).alloc (.cells d x)):=by
 obtain⟨h1,h2,h3,h4⟩:=a8e w t u v a b c;refine⟨h1.alloc _,h2.alloc _,h3.alloc _,?_,h4.alloc _⟩;have s1:(w.alloc (.cells a t)).heap.size=w.heap.size+1:=World.size_alloc ..;have s2:((w.alloc (.cells a t)).alloc (.cells b u)).heap.size=w.heap.size+1+1:=by rw[World.size_alloc,s1]
 have s3:(((w.alloc (.cells a t)).alloc (.cells b u)).alloc (.cells c v)).heap.size=w.heap.size+1+1+1:=by rw[World.size_alloc,s2]
 have:=Bk.made (((w.alloc (.cells a t)).alloc (.cells b u)).alloc (.cells c v)) x d;rwa [s3] at this
theorem a5r (s:Bool) (m:Nat):((s != false)&&decide (0 < m))=(s&&decide (0 < m)):=by cases s<;>rfl
theorem a3w (w:World) (a b:Rv) (x y:Q) (ha:a.Is w x) (hb:b.Is w y) (h1:(ab x.num).length≤400000) (h2:(ab y.num).length≤400000) (h3:(ab x.den).length≤400000) (h4:(ab y.den).length≤400000):
  Calls Tryz.prog 179 #[a.v,b.v] w fun e w'=>∃r1 r2:Iv,e=.returned (.tuple #[r1.v,r2.v])∧r1.Is w' (x.sg&&decide (0 < x.num*y.un)) (x.num*y.un)∧r2.Is w' (y.sg&&decide (0 < y.num*x.un)) (y.num*x.un)∧Gr w w':=by
 obtain⟨B1,B2,B3,B4,G⟩:=aoh w 35 35 118 118 a.ar b.ar #[.bool false,Nl] #[.bool false,Nl];have HA:=I (ha.gr G);have HB:=I (hb.gr G);have HG:=I G;have hB1:=I B1;have hB2:=I B2;have hB3:=I B3;have hB4:=I B4;have un_len:∀q:Q,(ab q.den).length≤400000→(ab q.un).length≤400000:=fun q h=>by
  unfold Q.un;split
  ·rw[fp dx dx];decide
  ·exact h
 have L1:=I h1;have L2:=I h2;have L3:=I (un_len x h3);have L4:=I (un_len y h4);have L5:=I (nt h3 (by decide:400000≤1000000));have L6:=I (nt h4 (by decide:400000≤1000000));have L7:=I (nt h1 (by decide:400000≤1000000));have L8:=I (nt h2 (by decide:400000≤1000000));clear ha hb h1 h2 h3 h4 un_len B1 B2 B3 B4 G;simp only[Rv.v];go_enter Tryz.func179,Tryz.ntmps179;go_wp2_with fail;generalize hW:(((w.alloc (.cells a.ar 35)).alloc (.cells b.ar 35)).alloc (.cells #[.bool false,Nl] 118)).alloc (.cells #[.bool false,Nl] 118)=W at*;clear hW;have hpr:¬w.heap.size=w.heap.size+1+1:=by omega
 have hqr:¬w.heap.size+1=w.heap.size+1+1:=by omega
 have hps:¬w.heap.size=w.heap.size+1+1+1:=by omega
 have hqs:¬w.heap.size+1=w.heap.size+1+1+1:=by omega
 have hrs:¬w.heap.size+1+1=w.heap.size+1+1+1:=by omega
 have hle:Hid (w.heap.size≤w.heap.size+1+1):=nt (Nat.le_succ _) (Nat.le_succ _);have hls:Hid (w.heap.size≤w.heap.size+1+1+1):=nt (nt (Nat.le_succ _) (Nat.le_succ _)) (Nat.le_succ _);generalize w.heap.size+1+1+1=s at*;generalize w.heap.size+1+1=r at*;generalize w.heap.size+1=q at*;generalize hp:w.heap.size=p at*;have hPE:=I hp;clear hp;have hpr2:¬r=p:=fun e=>hpr e.symm
 have hqr2:¬r=q:=fun e=>hqr e.symm
 have hps2:¬s=p:=fun e=>hps e.symm
 have hqs2:¬s=q:=fun e=>hqs e.symm
 have hrs2:¬s=r:=fun e=>hrs e.symm
 have hk:_∧_:=⟨hB1.c3,hB2.c3⟩;obtain⟨⟨a0,a1,a2⟩,b0,b1,b2⟩:=hk;have HU1:=I (ju W.drew a x (HA.gr (Gr.refl W).drew) L5);have HU2:Hid (∀W2,Gr W W2→Calls Tryz.prog 217 #[b.v] W2 fun e w'=>∃y':Sv,e=.returned y'.v∧y'.Num w' (ab y.un)∧Gr W2 w'):=fun W2 G=>ju W2 b y (HB.gr G) L6
 simp only[Rv.v] at HU1 HU2;have HG0:Hid (Gr W W.drew):=(Gr.refl W).drew
 first | (go_region_held3 (fun W=>W.cell? ⟨p,0,none⟩=some (.bool a.neg)∧W.cell? ⟨p,1,none⟩=some a.num.v∧W.cell? ⟨p,2,none⟩=some a.den.v∧W.cell? ⟨q,0,none⟩=some (.bool b.neg)∧W.cell? ⟨q,1,none⟩=some b.num.v∧W.cell? ⟨q,2,none⟩=some b.den.v)
   (first | go_keep | exact⟨hk.1.1,hk.1.2.1,hk.1.2.2,hk.2.1,hk.2.2.1,hk.2.2.2⟩ | exact⟨hj.1.1,hj.1.2.1,hj.1.2.2,hj.2.1,hj.2.2.1,hj.2.2.2⟩)
   (first | (go_at_call 217;refine ((HU2.out w1 HG1.out)).mono ?_;rintro e w2 ⟨v,rfl,hv,G2⟩;have HG2:=I (HG1.out.trans G2);have hj:=ai (HG2.out.bk hB1.out).c3 (HG2.out.bk hB2.out).c3;have HNV:=I hv;have HNU2:=I (HNU.out.gr G2);clear hv G2) | (go_at_call 217;refine (HU1.out).mono ?_;rintro e w1 ⟨u,rfl,hu,G1⟩;have HG1:=I (HG0.out.trans G1);have hk:=ai (HG1.out.bk hB1.out).c3 (HG1.out.bk hB2.out).c3;have HNU:=I hu;clear hu G1))) | fail
 clear HU1 HU2 HG0 a0 a1 a2 b0 b1 b2 hk HG1 HNU;obtain⟨⟨a0,a1,a2⟩,b0,b1,b2⟩:=hj;have hF:=I (HG.trans HG2);have C1:=I (HG2.bk hB1);have C2:=I (HG2.bk hB2);have C3:=I (HG2.bk hB3);have C4:=I (HG2.bk hB4);have HA2:=I (HA.gr HG2);have HB2:=I (HB.gr HG2);clear HG HG2 hB1 hB2 hB3 hB4 HA HB;go_wp2_with fail;have HG0:Hid (Gr w2 w2.drew):=(Gr.refl w2).drew;have HS1:=I (tl w2.drew a x (HA2.gr HG0) L7);have HS2:Hid (∀W2,Gr w2 W2→Calls Tryz.prog 183 #[b.v] W2 fun e w'=>∃r:Iv,e=.returned r.v∧r.Is w' y.sg y.num∧Gr W2 w'):=fun W2 G=>tl W2 b y (HB2.gr G) L8
 simp only[Rv.v] at HS1 HS2
 first | (go_region_held3 (fun W=>W.cell? ⟨p,0,none⟩=some (.bool a.neg)∧W.cell? ⟨p,1,none⟩=some a.num.v∧W.cell? ⟨p,2,none⟩=some a.den.v∧W.cell? ⟨q,0,none⟩=some (.bool b.neg)∧W.cell? ⟨q,1,none⟩=some b.num.v∧W.cell? ⟨q,2,none⟩=some b.den.v)
   (first | go_keep | exact⟨hk1.1.1,hk1.1.2.1,hk1.1.2.2,hk1.2.1,hk1.2.2.1,hk1.2.2.2⟩ | exact⟨hk2.1.1,hk2.1.2.1,hk2.1.2.2,hk2.2.1,hk2.2.2.1,hk2.2.2.2⟩ | exact⟨hk3.1.1,hk3.1.2.1,hk3.1.2.2,hk3.2.1,hk3.2.2.1,hk3.2.2.2⟩ | exact⟨hk4.1.1,hk4.1.2.1,hk4.1.2.2,hk4.2.1,hk4.2.2.1,hk4.2.2.2⟩)
   (first | (go_at_call 219;refine (HM2.out).mono ?_;rintro e w6 ⟨m2,rfl,hm2,G6⟩;have HR3:=I (HR2.out.gr G6);have HG6:=I (HG5.out.trans G6);have hk4:=ai (HG6.out.bk C1.out).c3 (HG6.out.bk C2.out).c3;have HR4:=I hm2;have D3:=I (HG6.out.bk C3.out);have D4:=I (HG6.out.bk C4.out);obtain⟨r0,r1⟩:=D3.out.c2;obtain⟨s0,s1⟩:=D4.out.c2;have fr:=D3.out.frozen;have fs:=D4.out.frozen;clear hm2 G6) | (go_at_call 183;refine (HS3.out).mono ?_;rintro e w5 ⟨i2,rfl,hi2,G5⟩;have HR2:=I (HR1.out.gr G5);have HG5:=I (HG4.out.trans G5);have hk3:=ai (HG5.out.bk C1.out).c3 (HG5.out.bk C2.out).c3;have HM2:=I (a6x w5 i2 ⟨false,u⟩ y.sg false y.num x.un hi2 ⟨rfl,HNU2.out.gr HG5.out⟩ L2.out L3.out);rw[a5r] at HM2;simp only[Iv.v] at HM2;clear hi2 G5) | (go_at_call 219;refine (HM1.out).mono ?_;rintro e w4 ⟨m1,rfl,hm1,G4⟩;have HG4:=I (HG3.out.trans G4);have hk2:=ai (HG4.out.bk C1.out).c3 (HG4.out.bk C2.out).c3;have HR1:=I hm1;have HS3:=I (HS2.out w4 HG4.out);clear hm1 G4) | (go_at_call 183;refine (HS1.out).mono ?_;rintro e w3 ⟨i1,rfl,hi1,G3⟩;have HG3:=I (HG0.out.trans G3);have hk1:=ai (HG3.out.bk C1.out).c3 (HG3.out.bk C2.out).c3;have HM1:=I (a6x w3 i1 ⟨false,v⟩ x.sg false x.num y.un hi1 ⟨rfl,HNV.out.gr HG3.out⟩ L1.out L4.out);rw[a5r] at HM1;simp only[Iv.v] at HM1;clear hi1 G3))) | fail
 obtain⟨E3,F3⟩:=D3.put2 (.bool m1.neg) m1.mag.v;have E4:=F3.bk D4 hrs2;obtain⟨E5,F5⟩:=E4.put2 (.bool m2.neg) m2.mag.v;have E6:=F5.bk E3 hrs;have R1:=I ((HR3.fr F3 D3 (bf _ _ _ _)).fr F5 E4 (bf _ _ _ _));have R2:=I ((HR4.fr F3 D3 (bf _ _ _ _)).fr F5 E4 (bf _ _ _ _));have HGF:=I (((hF.trans HG6).fr_at F3 (by rw[hPE.out];exact hle.out)).fr_at F5 (by rw[hPE.out];exact hls.out));obtain⟨d0,d1⟩:=E6.c2;obtain⟨e0,e1⟩:=E5.c2;clear E3 E4 E5 E6 F3 F5;go_wp2;generalize (((w6.setCell ⟨r,0,none⟩ (.bool m1.neg)).setCell ⟨r,1,none⟩ m1.mag.v).setCell ⟨s,0,none⟩ (.bool m2.neg)).setCell ⟨s,1,none⟩ m2.mag.v=W5 at*;refine pex ?_;refine bodyPost_ret (by simp[results,Tryz.results179,go_sem,d0,d1,e0,e1];try rfl) rfl ?_;exact⟨m1,m2,rfl,R1.out,R2.out,HGF.out⟩
theorem Two.len {x y:Q} (h:Two x y):(ab (x.un*y.un)).length≤1000000:=nt (bh _ _) (nt (Nat.add_le_add h.1 h.2) dx)
theorem a8r {x y:Q} (h:Two x y):Sl x.un:=h.1
theorem a5d {x y:Q} (h:Two x y):Sl y.un:=h.2
theorem l7 {x:Q} (h:Sl x.un):(ab x.den).length≤100000:=by
 refine nt (aw ?_) h;unfold Q.un;split<;>omega
theorem a0f {n:Nat} (h:Sl n):(ab n).length≤100000:=h
theorem oo {m n:Nat} (hm:(ab m).length≤100000) (hn:Sl n):(ab (m*n)).length≤200000:=nt (bh m n) (Nat.add_le_add hm hn)
theorem adf (s t:Bool) (m n:Nat) (hm:(ab m).length≤200000) (hn:(ab n).length≤200000):(ab (sadd s m t n).2).length≤200001:=by
 unfold sadd;split
 ·exact ee m n _ hm hn
 ·split
  ·exact nt (aw (Nat.sub_le n m)) (nt hn dx)
  ·exact nt (aw (Nat.sub_le m n)) (nt hm dx)
theorem a62 (w:World) (a b:Rv) (x y:Q) (ha:a.Is w x) (hb:b.Is w y) (h1:(ab x.num).length≤100000) (h2:(ab y.num).length≤100000) (h3:Two x y):
  Calls Tryz.prog 229 #[a.v,b.v] w fun e w'=>∃r:Rv,e=.returned r.v∧r.Is w' (Q.add x y)∧Gr w w':=by
 obtain⟨B1,B2,B3,G⟩:=a8e w 35 35 35 a.ar b.ar Rl;have HA:=I (ha.gr G);have HB:=I (hb.gr G);have HG:=I G;have hB1:=I B1;have hB2:=I B2;have hB3:=I B3;have U1:=I (a8r h3);have U2:=I (a5d h3);have U3:=I h3.len;have L1:=I (oo h1 U2);have L2:=I (oo h2 U1);have HX:=I (a3w _ a b x y HA HB (nt h1 dx) (nt h2 dx) (nt (l7 U1) dx) (nt (l7 U2) dx));have hE:Hid (Q.add x y=quot (sadd (x.sg&&decide (0 < x.num*y.un)) (x.num*y.un) (y.sg&&decide (0 < y.num*x.un)) (y.num*x.un)).1 (sadd (x.sg&&decide (0 < x.num*y.un)) (x.num*y.un) (y.sg&&decide (0 < y.num*x.un)) (y.num*x.un)).2 (x.un*y.un)):=rfl;have a0_:=B1.c3;have b0_:=B2.c3;clear ha hb h1 h2 h3 B1 B2 B3 G;simp only[Rv.v] at*;generalize (x.sg&&decide (0 < x.num*y.un))=s1 at*;generalize (y.sg&&decide (0 < y.num*x.un))=s2 at*;generalize x.num*y.un=m1 at*;generalize y.num*x.un=m2 at*;go_enter Tryz.func229,Tryz.ntmps229;go_wp2_with fail;refine HX.mono ?_;rintro e w1 ⟨x1,x2,rfl,hx1,hx2,G1⟩;obtain⟨D1,D2,G2⟩:=a1c w1 118 118 #[.bool x1.neg,x1.mag.v] #[.bool x2.neg,x2.mag.v];have HI:=I (af7 _ x1 x2 _ _ _ _ (hx1.gr G2) (hx2.gr G2) (nt L1 dx) (nt L2 dx));have HG2:=I ((HG.trans G1).trans G2);have HGa:=I (G1.trans G2);have x10_:=D1.c2;have x20_:=D2.c2;have HL:=I (adf s1 s2 m1 m2 L1 L2);clear hx1 hx2 G1 G2 D1 D2 HX a0_ b0_;simp only[Iv.v] at*;go_wp2_with fail;refine cm2 HI fun sm w3 hsm G3=>?_
 have D3:=Bk.made w3 118 #[.bool sm.neg,sm.mag.v];have G4:=(Gr.refl w3).alloc (.cells #[.bool sm.neg,sm.mag.v] 118);have HSM:=I (hsm.gr G4);have HG4:=I ((HG2.trans G3).trans G4);have HGb:=I ((HGa.trans G3).trans G4);have C1:=I (HGb.bk hB1);have C2:=I (HGb.bk hB2);have C3:=I (HGb.bk hB3);have HA4:=I (HA.gr HGb);have HB4:=I (HB.gr HGb);have C4:=I D3;have hpo:Hid (w.heap.size≤w.heap.size+1+1):=nt (Nat.le_succ _) (Nat.le_succ _);have hlt:=C3.lt;rw[World.size_alloc] at hlt;clear hsm G4 HI D3 HG2 HGa HGb HA HB hB1 hB2 hB3 HG x10_ x20_;go_wp2_with fail;have h9:¬w.heap.size=w.heap.size+1+1:=by omega
 have h8:¬w.heap.size+1=w.heap.size+1+1:=by omega
 have h7:¬w3.heap.size=w.heap.size+1+1:=fun e=>Bk.ne C4 C3 dx e
 generalize hW:w3.alloc (.cells #[.bool sm.neg,sm.mag.v] 118)=W at*;clear hW hlt;generalize w.heap.size+1+1=r at*;generalize w.heap.size+1=q at*;generalize hp:w.heap.size=p at*;have hPE:=I hp;clear hp;generalize w3.heap.size=g at*;have h6:¬r=p:=fun e=>h9 e.symm
 have h5:¬r=q:=fun e=>h8 e.symm
 have h4:¬r=g:=fun e=>h7 e.symm
 have a0_:=C1.c3;have b0_:=C2.c3;have z0_:=C4.c2;have HG0:Hid (Gr W W.drew):=(Gr.refl W).drew;have HU1:=I (ju W.drew a x (HA4.gr HG0) (nt (l7 U1) dx));have HU2:Hid (∀W2,Gr W W2→Calls Tryz.prog 217 #[b.v] W2 fun e w'=>∃y':Sv,e=.returned y'.v∧y'.Num w' (ab y.un)∧Gr W2 w'):=fun W2 G=>ju W2 b y (HB4.gr G) (nt (l7 U2) dx)
 simp only[Rv.v] at HU1 HU2
 first | (go_region_held3 (fun W=>W.cell? ⟨p,0,none⟩=some (.bool a.neg)∧W.cell? ⟨p,1,none⟩=some a.num.v∧W.cell? ⟨p,2,none⟩=some a.den.v∧W.cell? ⟨q,0,none⟩=some (.bool b.neg)∧W.cell? ⟨q,1,none⟩=some b.num.v∧W.cell? ⟨q,2,none⟩=some b.den.v∧W.cell? ⟨g,0,none⟩=some (.bool sm.neg)∧W.cell? ⟨g,1,none⟩=some sm.mag.v)
   (first | go_keep | exact⟨hk1.1.1,hk1.1.2.1,hk1.1.2.2,hk1.2.1.1,hk1.2.1.2.1,hk1.2.1.2.2,hk1.2.2.1,hk1.2.2.2⟩ | exact⟨hk2.1.1,hk2.1.2.1,hk2.1.2.2,hk2.2.1.1,hk2.2.1.2.1,hk2.2.1.2.2,hk2.2.2.1,hk2.2.2.2⟩ | exact⟨hk3.1.1,hk3.1.2.1,hk3.1.2.2,hk3.2.1.1,hk3.2.1.2.1,hk3.2.1.2.2,hk3.2.2.1,hk3.2.2.2⟩ | exact⟨hk4.1.1,hk4.1.2.1,hk4.1.2.2,hk4.2.1.1,hk4.2.1.2.1,hk4.2.1.2.2,hk4.2.2.1,hk4.2.2.2⟩)
   (first | (go_at_call 216;refine (HQ.out).mono ?_;rintro e w7 ⟨i,rfl,hi,G8⟩;have HG8:=I (HG7.out.trans G8);have hk4:=ai (HG8.out.bk C1.out).c3 (ai (HG8.out.bk C2.out).c3 (HG8.out.bk C4.out).c2);have HBs:=I (HG8.out.bk C3.out);obtain⟨r0,r1,r2⟩:=HBs.out.c3;have fz:=HBs.out.frozen;have HII:=I hi;clear hi G8) | (go_at_call 270;refine (HM.out).mono ?_;rintro e w6 ⟨z,rfl,hz,G7⟩;have HG7:=I (HG6.out.trans G7);have hk3:=ai (HG7.out.bk C1.out).c3 (ai (HG7.out.bk C2.out).c3 (HG7.out.bk C4.out).c2);have HQ:=I (vu w6 sm.neg sm.mag z _ _ (HSM.out.mag.gr HG7.out) hz (nt HL.out dx) (Nat.mul_pos x.un_pos y.un_pos) U3.out);clear hz G7) | (go_at_call 217;refine ((HU2.out w4 HG5.out)).mono ?_;rintro e w5 ⟨v,rfl,hv,G6⟩;have HG6:=I (HG5.out.trans G6);have hk2:=ai (HG6.out.bk C1.out).c3 (ai (HG6.out.bk C2.out).c3 (HG6.out.bk C4.out).c2);have HM:=I (a19 w5 u v _ _ (HNU.out.gr G6) hv (nt (a0f U1.out) dx) (nt (a0f U2.out) dx));rw[vl,vl] at HM;clear hv G6) | (go_at_call 217;refine (HU1.out).mono ?_;rintro e w4 ⟨u,rfl,hu,G5⟩;have HG5:=I (HG0.out.trans G5);have hk1:=ai (HG5.out.bk C1.out).c3 (ai (HG5.out.bk C2.out).c3 (HG5.out.bk C4.out).c2);have HNU:=I hu;clear hu G5))) | fail
 go_wp2;refine pex ?_;refine ks HBs fun W5 B5 F5=>?_
 have d_:=B5.c3;refine bret Tryz.results229 ?_;exact⟨i,rfl,by rw[hE.out,← HSM.neg];exact HII.fr F5 HBs (ba _ _ _ _ _ _ _),(HG4.trans HG8).fr_at F5 (by rw[hPE.out];exact hpo.out)⟩
theorem adh (w:World) (a b:Rv) (x y:Q) (ha:a.Is w x) (hb:b.Is w y) (h1:(ab x.num).length≤100000) (h2:(ab y.num).length≤100000) (h3:Two x y):
  Calls Tryz.prog 230 #[a.v,b.v] w fun e w'=>∃r:Rv,e=.returned r.v∧r.Is w' (Q.mul x y)∧Gr w w':=by
 have U1:=I (a8r h3);have U2:=I (a5d h3);have U3:=I h3.len;have L1:=I h1;have L2:=I h2;have hE:Hid (Q.mul x y=quot (x.neg != y.neg) (x.num*y.num) (x.un*y.un)):=rfl;have N1:=I ha.neg;have N2:=I hb.neg;have HL:Hid ((ab (x.num*y.num)).length≤1000000):=nt (bh _ _) (nt (Nat.add_le_add h1 h2) dx);clear h1 h2 h3;simp only[Rv.v] at*;go_enter Tryz.func230,Tryz.ntmps230;go_wp2_with fail;have h9:¬w.heap.size=w.heap.size+1+1:=by omega
 have h8:¬w.heap.size+1=w.heap.size+1+1:=by omega
 have hpo:Hid (w.heap.size≤w.heap.size+1+1):=nt (Nat.le_succ _) (Nat.le_succ _);refine nw3h fun W HG4 C1 C2 C3=>?_
 have HA4:=I (ha.gr HG4);have HB4:=I (hb.gr HG4);clear ha hb;generalize w.heap.size+1+1=r at*;generalize w.heap.size+1=q at*;generalize hp:w.heap.size=p at*;have hPE:=I hp;clear hp;have h6:¬r=p:=fun e=>h9 e.symm
 have h5:¬r=q:=fun e=>h8 e.symm
 have a0_:=C1.c3;have b0_:=C2.c3;have HG0:Hid (Gr W W.drew):=(Gr.refl W).drew;have HM0:=I (a19 W.drew a.num b.num _ _ (HA4.num.gr HG0) (HB4.num.gr HG0) (nt L1 dx) (nt L2 dx));rw[vl,vl] at HM0;have HU1:Hid (∀W2,Gr W W2→Calls Tryz.prog 217 #[a.v] W2 fun e w'=>∃y':Sv,e=.returned y'.v∧y'.Num w' (ab x.un)∧Gr W2 w'):=fun W2 G=>ju W2 a x (HA4.gr G) (nt (l7 U1) dx)
 have HU2:Hid (∀W2,Gr W W2→Calls Tryz.prog 217 #[b.v] W2 fun e w'=>∃y':Sv,e=.returned y'.v∧y'.Num w' (ab y.un)∧Gr W2 w'):=fun W2 G=>ju W2 b y (HB4.gr G) (nt (l7 U2) dx)
 simp only[Rv.v] at HU1 HU2
 first | (go_region_held3 (fun W=>W.cell? ⟨p,0,none⟩=some (.bool a.neg)∧W.cell? ⟨p,1,none⟩=some a.num.v∧W.cell? ⟨p,2,none⟩=some a.den.v∧W.cell? ⟨q,0,none⟩=some (.bool b.neg)∧W.cell? ⟨q,1,none⟩=some b.num.v∧W.cell? ⟨q,2,none⟩=some b.den.v)
   (first | go_keep | exact⟨hk0.1.1,hk0.1.2.1,hk0.1.2.2,hk0.2.1,hk0.2.2.1,hk0.2.2.2⟩ | exact⟨hk1.1.1,hk1.1.2.1,hk1.1.2.2,hk1.2.1,hk1.2.2.1,hk1.2.2.2⟩ | exact⟨hk2.1.1,hk2.1.2.1,hk2.1.2.2,hk2.2.1,hk2.2.2.1,hk2.2.2.2⟩ | exact⟨hk3.1.1,hk3.1.2.1,hk3.1.2.2,hk3.2.1,hk3.2.2.1,hk3.2.2.2⟩ | exact⟨hk4.1.1,hk4.1.2.1,hk4.1.2.2,hk4.2.1,hk4.2.2.1,hk4.2.2.2⟩)
   (first | (go_at_call 216;refine (HQ.out).mono ?_;rintro e w7 ⟨i,rfl,hi,G8⟩;have HG8:=I (HG7.out.trans G8);have hk4:=ai (HG8.out.bk C1.out).c3 (HG8.out.bk C2.out).c3;have HBs:=I (HG8.out.bk C3.out);obtain⟨r0,r1,r2⟩:=HBs.out.c3;have fz:=HBs.out.frozen;have HII:=I hi;clear hi G8) | (go_at_call 270;refine (HM.out).mono ?_;rintro e w6 ⟨z,rfl,hz,G7⟩;have HG7:=I (HG6.out.trans G7);have hk3:=ai (HG7.out.bk C1.out).c3 (HG7.out.bk C2.out).c3;have HQ:=I (vu w6 (a.neg != b.neg) m z _ _ (HNM2.out.gr G7) hz HL.out (Nat.mul_pos x.un_pos y.un_pos) U3.out);clear hz G7) | (go_at_call 217;refine ((HU2.out w4 HG5.out)).mono ?_;rintro e w5 ⟨v,rfl,hv,G6⟩;have HNM2:=I (HNM1.out.gr G6);have HG6:=I (HG5.out.trans G6);have hk2:=ai (HG6.out.bk C1.out).c3 (HG6.out.bk C2.out).c3;have HM:=I (a19 w5 u v _ _ (HNU.out.gr G6) hv (nt (a0f U1.out) dx) (nt (a0f U2.out) dx));rw[vl,vl] at HM;clear hv G6) | (go_at_call 217;refine ((HU1.out w3 HG3.out)).mono ?_;rintro e w4 ⟨u,rfl,hu,G5⟩;have HNM1:=I (HNM.out.gr G5);have HG5:=I (HG3.out.trans G5);have hk1:=ai (HG5.out.bk C1.out).c3 (HG5.out.bk C2.out).c3;have HNU:=I hu;clear hu G5) | (go_at_call 270;refine (HM0.out).mono ?_;rintro e w3 ⟨m,rfl,hm,G4⟩;have HG3:=I (HG0.out.trans G4);have hk0:=ai (HG3.out.bk C1.out).c3 (HG3.out.bk C2.out).c3;have HNM:=I hm;clear hm G4))) | fail
 go_wp2;refine pex ?_;refine ks HBs fun W5 B5 F5=>?_
 have d_:=B5.c3;refine bret Tryz.results230 ?_;exact⟨i,rfl,by rw[hE.out,← N1.out,← N2.out];exact HII.fr F5 HBs (ba _ _ _ _ _ _ _),(HG4.trans HG8).fr_at F5 (by rw[hPE.out];exact hpo.out)⟩
theorem a8m (w:World) (a:Iv) (s:Bool) (m:Nat) (ha:a.Is w s m) (hl:(ab m).length≤1000000):
  Calls Tryz.prog 224 #[a.v] w fun e w'=>∃r:Rv,e=.returned r.v∧r.Is w' (quot s m 1)∧Gr w w':=by
 have HL:=I hl;clear hl;simp only[Iv.v];go_enter Tryz.func224,Tryz.ntmps224;go_wp2_with fail;refine nw2h fun W HG C1 C2=>?_
 have HA:=I (ha.gr HG);clear ha;have hpr:¬w.heap.size=w.heap.size+1:=by omega
 have hle:Hid (w.heap.size≤w.heap.size+1):=Nat.le_succ _;generalize w.heap.size+1=r at*;generalize hp:w.heap.size=p at*;have hPE:=I hp;clear hp;have hpr2:¬r=p:=fun e=>hpr e.symm
 have a0_:=C1.c2;have HG0:Hid (Gr W W.drew):=(Gr.refl W).drew;have HO:=I (ab3 W.drew)
 first | (go_region_held3 (fun W=>W.cell? ⟨p,0,none⟩=some (.bool a.neg)∧W.cell? ⟨p,1,none⟩=some a.mag.v)
   (first | go_keep | exact⟨hk1.1,hk1.2⟩ | exact⟨hk2.1,hk2.2⟩)
   (first | (go_at_call 216;refine (HQ.out).mono ?_;rintro e w2 ⟨i,rfl,hi,G2⟩;have HG2:=I (HG1.out.trans G2);have hk2:=(HG2.out.bk C1.out).c2;have HBs:=I (HG2.out.bk C2.out);obtain⟨r0,r1,r2⟩:=HBs.out.c3;have fz:=HBs.out.frozen;have HII:=I hi;clear hi G2) | (go_at_call 269;refine (HO.out).mono ?_;rintro e w1 ⟨u,rfl,hu,G1⟩;have HG1:=I (HG0.out.trans G1);have hk1:=(HG1.out.bk C1.out).c2;have HQ:=I (vu w1 a.neg a.mag u _ 1 (HA.out.mag.gr HG1.out) hu HL.out dx (by rw[fp dx dx];decide));clear hu G1))) | fail
 go_wp2;refine pex ?_;refine ks HBs fun W5 B5 F5=>?_
 have d_:=B5.c3;refine bret Tryz.results224 ?_;exact⟨i,rfl,by rw[← HA.neg];exact HII.fr F5 HBs (ba _ _ _ _ _ _ _),(HG.trans HG2).fr_at F5 (by rw[hPE.out];exact hle.out)⟩
def ofQ (x:Int):Q:=⟨decide (x < 0),x.natAbs,0⟩
theorem adz (x:Int):quot (decide (x < 0)) x.natAbs 1=ofQ x:=by
 unfold quot ofQ;by_cases h:x.natAbs=0
 ·have:x=0:=by omega
  subst this;rfl
 ·rw[if_neg h,Nat.gcd_one_right,Nat.div_one];rfl
theorem ahq (w:World) (x:Int) (h1:-1000000000≤x) (h2:x≤1000000000):
  Calls Tryz.prog 188 #[.int .i64 x] w fun e w'=>∃r:Rv,e=.returned r.v∧r.Is w' (ofQ x)∧Gr w w':=by
 have B1:=Bk.made w 35 Rl;have HG:=I ((Gr.refl w).alloc (.cells Rl 35));have C1:=I B1;have HI:=I (fun W=>aja W x h1 h2);have HL:Hid ((ab x.natAbs).length≤1000000):=nt (bb (k:=1) (by rw[Nat.pow_one,bc];omega)) dx;have hE:=I (adz x);clear B1;go_enter Tryz.func188,Tryz.ntmps188;go_wp2_with fail;refine cm2 (HI.out _) fun i w1 hi G1=>?_
 have HG1:=I (HG.trans G1);have C2:=I (G1.bk C1);have HW:=I (a8m w1 i _ _ hi HL);rw[hE.out] at HW;clear hi HI C1;go_wp2_with fail;refine cm1 HW fun j w2 HII G2=>?_
 have HG2:=I (HG1.trans G2);have HBs:=I (G2.bk C2);have r0_:=HBs.c3;have fz:=HBs.frozen;clear HW C2;generalize hp:w.heap.size=r at*;have hPE:=I hp;clear hp;go_wp2;refine pex ?_;refine ks HBs fun W5 B5 F5=>?_
 have d_:=B5.c3;refine bret Tryz.results188 ?_;exact⟨j,rfl,HII.fr F5 HBs (ba _ _ _ _ _ _ _),HG2.fr_at F5 (Nat.le_of_eq hPE)⟩
theorem a8a (w:World) (x:Sv) (m:Nat) (hx:x.Num w (ab m)):
  Calls Tryz.prog 176 #[x.v] w fun e w'=>e=.returned (.bool true)∧Gr w w':=by
 obtain⟨A,n,c⟩:=x;have hn:=hx.len;simp only at hn;have hc9:=hx.is.max;have hcn:=hx.is.cap;simp only at hc9 hcn;cases n with
 | zero=>
  go_enter Tryz.func176,Tryz.ntmps176;go_wp2;go_ret;exact⟨rfl,Gr.refl w⟩
 | succ j=>
  obtain⟨p,ad,hp,hp9,hAe,hbl,d1⟩:=hx.at (i:=j) (Nat.lt_succ_self j);simp only at hAe;subst hAe;have hp0:p≠0:=by
   have:=ue m p;rw[List.getLast?_eq_getElem?,hn] at this;exact this hp
  have hpd:((p:Int) != 0)=true:=by simp;omega
  have hnd:(((j+1:Nat):Int) == 0)=false:=by simp;omega
  have hw1:IntKind.i64.wrap (((j+1:Nat):Int) - 1)=(j:Int):=by rw[wi _ om];omega
  clear hp hbl hn hx;go_enter Tryz.func176,Tryz.ntmps176;go_wp2;go_ret;exact⟨rfl,Gr.refl w⟩
theorem ah4 {a b:Nat} (h:a=b):((a:Int) == (b:Int))=true:=by simp[h]
theorem a7n (w:World) (a:Rv) (q:Q) (ha:a.Is w q) (hq:q.Ok) (hl:(ab q.num).length≤1000000) (hd:Sl q.un):
  Calls Tryz.prog 126 #[a.v] w fun e w'=>e=.returned (.bool true)∧Gr w w':=by
 have B1:=Bk.made w 35 a.ar;have HG:=I ((Gr.refl w).alloc (.cells a.ar 35));have C1:=I B1;have HA:=I (ha.gr HG);have a0_:=B1.c3;have HNV:=I (a8a _ a.num _ HA.num);have HC:=I (zf _ a q HA hl hd);rw[jw hq] at HC;have hln:Hid (a.num.n=(ab q.num).length):=ha.num.len.symm;have hld:Hid (a.den.n=(ab q.den).length):=ha.den.len.symm;have HNN:=I ha.neg;clear ha hl hd B1;simp only[Rv.v] at*;by_cases h0:q.den=0
 ·have hdd:((a.den.n:Int) == 0)=true:=by
   have hd0:a.den.n=0:=by rw[hld.out,h0,aq];rfl
   simp[hd0]
  clear h0;go_enter Tryz.func126,Tryz.ntmps126;go_wp2_with fail;go_at_call 176
  refine cm0 HNV fun w1 G1=>?_
  have HG1:=I (HG.trans G1);obtain⟨b0,b1,b2⟩:=(G1.bk C1).c3;clear HNV HC C1 HG a0_;cases hs:a.neg
  ·rw[hs] at b0;go_wp2;go_ret;exact⟨rfl,HG1.out⟩
  ·rw[hs] at b0;have hn0:0 < a.num.n:=by
    rw[hln.out];refine Nat.pos_of_ne_zero fun e=>?_
    have h:=(hq.pos (bw.1 e)).1;rw[← HNN.out,hs] at h;cases h
   have hn1:decide ((0:Int) < a.num.n)=true:=by simp;omega
   go_wp2;go_ret;exact⟨rfl,HG1.out⟩
 ·have hdd:((a.den.n:Int) == 0)=false:=by
   have hd0:a.den.n≠0:=by rw[hld.out];exact fun e=>h0 (bw.1 e)
   simp;omega
  clear h0;go_enter Tryz.func126,Tryz.ntmps126;go_wp2_with fail;go_at_call 177
  refine cm2 HC fun c w1 hc G1=>?_
  have D1:=Bk.made w1 35 c.ar;have G2:=(Gr.refl w1).alloc (.cells c.ar 35);have HG1:=I ((HG.trans G1).trans G2);have C2:=I ((G1.trans G2).bk C1);have C3:=I D1;have HA2:=I ((HA.gr G1).gr G2);have HC2:=I (hc.gr G2);have e1:((a.num.n:Int) == (c.num.n:Int))=true:=ah4 (hln.trans hc.num.len);have e2:((a.den.n:Int) == (c.den.n:Int))=true:=ah4 (hld.trans hc.den.len);have e3:(a.neg == c.neg)=true:=by rw[HNN.out,hc.neg];simp
  have HK1:=I (mo _ a.num c.num _ _ HA2.num HC2.num);rw[vl,a21] at HK1;obtain⟨b0,b1,b2⟩:=C2.c3;have c0_:=C3.c3;clear hc G2 D1 HC HNV C1 HG a0_ HA;go_wp2_with fail;go_at_call 178
  refine cm0 HK1 fun w2 G2=>?_
  have HG2:=I (HG1.trans G2);have HK2:=I (mo w2 a.den c.den _ _ (HA2.den.gr G2) (HC2.den.gr G2));rw[vl,a21] at HK2;obtain⟨f0,f1,f2⟩:=(G2.bk C2).c3;obtain⟨g0,g1,g2⟩:=(G2.bk C3).c3;clear HK1 b0 b1 b2 c0_;go_wp2_with fail;go_at_call 178
  refine cm0 HK2 fun w3 G3=>?_
  have HG3:=I (HG2.trans G3);clear HK2;go_wp2;go_ret;exact⟨rfl,HG3.out⟩
end
abbrev Tm:=Int×Q
structure Fm where
 terms:List Tm
 const:Q
 deriving DecidableEq,Inhabited
def Tm.Ok (vars:Nat) (t:Tm):Prop:=0≤t.1∧t.1 < vars∧t.2.num≠0∧t.2.Ok
instance (vars:Nat) (t:Tm):Decidable (Tm.Ok vars t):=by unfold Tm.Ok;infer_instance
structure Fm.Ok (f:Fm) (vars:Nat):Prop where
 asc:∀(i:Nat) (s t:Tm),f.terms[i]?=some s→f.terms[i+1]?=some t→s.1 < t.1
 each:∀t∈f.terms,Tm.Ok vars t
 const:f.const.Ok
def snoc (l:List Tm) (v:Int) (c:Q):List Tm:=if c.num=0 then l else l++[(v,c)]
theorem Fm.Ok.mono {f:Fm} {a b:Nat} (h:f.Ok a) (hab:a≤b):f.Ok b:=⟨h.asc,fun t ht=>by
 obtain⟨h1,h2,h3⟩:=h.each t ht;exact⟨h1,by omega,h3⟩,h.const⟩
theorem Fm.Ok.snoc {l:List Tm} {k c:Q} {v:Nat} (h:Fm.Ok ⟨l,k⟩ v) (hc:c.Ok):Fm.Ok ⟨snoc l v c,k⟩ (v+1):=by
 unfold Go.Proofs.YtbhbainhmfjpdaaGreatDoor.snoc;split
 ·exact h.mono (by omega)
 ·rename_i h0
  refine⟨fun i s t hs ht=>?_,fun t ht=>?_,h.const⟩
  ·simp only at hs ht;have hi:=(List.getElem?_eq_some_iff.1 ht).1;rw[List.length_append,List.length_singleton] at hi;rw[List.getElem?_append_left (by omega)] at hs;rcases Nat.lt_or_ge (i+1) l.length with h1 | h1
   ·rw[List.getElem?_append_left h1] at ht;exact h.asc i s t hs ht
   ·rw[List.getElem?_append_right h1,show i+1 - l.length=0 by omega] at ht;obtain rfl:(((v:Int),c):Tm)=t:=by simpa using ht
    have:=(h.each s (List.mem_of_getElem? hs)).2.1;simpa using this
  ·rcases List.mem_append.1 ht with h1 | h1
   ·exact (h.mono (by omega)).each t h1
   ·rw[List.mem_singleton.1 h1];exact⟨by simp only;omega,by simp only;omega,h0,hc⟩
structure Tv where
 var:Int
 coef:Rv
def Tv.cs (t:Tv):List Value:=[.int .i64 t.var,.bool t.coef.neg,.slice t.coef.num.A t.coef.num.n t.coef.num.c,.slice t.coef.den.A t.coef.den.n t.coef.den.c]
structure Tv.Is (w:World) (t:Tv) (x:Tm):Prop where
 var:t.var=x.1
 coef:t.coef.Is w x.2
abbrev anp (w:World) (x:Sv) (l:List Tm):Prop:=Rows Tv.cs Tv.Is 138 4 w x l
structure Fv where
 terms:Sv
 const:Rv
def Fv.cs (f:Fv):List Value:=[.slice f.terms.A f.terms.n f.terms.c,.bool f.const.neg,.slice f.const.num.A f.const.num.n f.const.num.c,.slice f.const.den.A f.const.den.n f.const.den.c]
structure Fv.Is (w:World) (f:Fv) (x:Fm):Prop where
 terms:anp w f.terms x.terms
 const:f.const.Is w x.const
theorem Rv.Is.tf' {w w':World} {f:Rv} {x:Q} {p t:Nat} {us:Array Value} (h:f.Is w x) (F:Fr (fun b=>b=p) w w') (hb:Bk w p t us) (h2:t≠200:=by decide):f.Is w' x:=
 h.tf F (fun b cs fr e hh=>Bk.not_ty hb h2 cs fr (e▸hh))
structure Q.Bd (q:Q) (n d:Nat):Prop where
 num:(ab q.num).length≤n
 den:(ab q.un).length≤d
theorem ac9 (s:Bool) (a d:Nat) (hd:0 < d):(Q.mk s a (den0 d)).un=d:=by
 unfold Q.un den0;by_cases h:d=1
 ·rw[if_pos h];exact (if_pos rfl).trans h.symm
 ·rw[if_neg h];exact if_neg (Nat.ne_of_gt hd)
theorem amm:(ab 1).length=1:=by rw[fp dx dx];rfl
theorem abi {b:Nat} (h:0 < b):1≤(ab b).length:=by
 rcases Nat.eq_zero_or_pos (ab b).length with e | e
 ·have:=bw.1 e;omega
 ·exact e
theorem xz (s:Bool) {a b n d:Nat} (ha:(ab a).length≤n) (hb0:0 < b) (hb:(ab b).length≤d):(quot s a b).Bd n d:=by
 unfold quot;split
 ·exact⟨by rw[show (Q.zero).num=0 from rfl,aq];exact nq _,nt (by rw[show (Q.zero).un=1 from rfl,amm];exact abi hb0) hb⟩
 ·rename_i h0
  have hg:=Nat.gcd_pos_of_pos_left b (Nat.pos_of_ne_zero h0);have hd2:0 < b / Nat.gcd a b:=Nat.div_pos (Nat.le_of_dvd hb0 (Nat.gcd_dvd_right ..)) hg;refine⟨nt (aw (Nat.div_le_self _ _)) ha,?_⟩;rw[ac9 _ _ _ hd2];exact nt (aw (Nat.div_le_self _ _)) hb
theorem Q.Bd.mul {x y:Q} {n d m e:Nat} (h:x.Bd n d) (k:y.Bd m e):(Q.mul x y).Bd (n+m) (d+e):=
 xz _ (nt (bh _ _) (Nat.add_le_add h.num k.num)) (Nat.mul_pos x.un_pos y.un_pos) (nt (bh _ _) (Nat.add_le_add h.den k.den))
theorem Q.Bd.add {x y:Q} {n d m e:Nat} (h:x.Bd n d) (k:y.Bd m e):(Q.add x y).Bd (n+m+d+e+1) (d+e):=by
 have h1:(ab (x.num*y.un)).length≤n+m+d+e:=nt (bh _ _) (by have:=h.num;have:=k.den;omega);have h2:(ab (y.num*x.un)).length≤n+m+d+e:=nt (bh _ _) (by have:=k.num;have:=h.den;omega);unfold Q.add;refine xz _ ?_ (Nat.mul_pos x.un_pos y.un_pos) (nt (bh _ _) (Nat.add_le_add h.den k.den));unfold sadd;split
 ·exact ee _ _ _ h1 h2
 ·split
  ·exact nt (aw (Nat.sub_le _ _)) om
  ·exact nt (aw (Nat.sub_le _ _)) om
structure Q.Lo (q:Q):Prop where
 num:(ab q.num).length≤10000
 den:(ab q.un).length≤10000
theorem Q.Lo.bd {q:Q} (h:q.Lo):q.Bd 10000 10000:=⟨h.num,h.den⟩
def ck (q:Q):Q:=quot q.neg q.num q.un
theorem Q.Bd.canon {x:Q} {n d:Nat} (h:x.Bd n d):(ck x).Bd n d:=xz _ h.num x.un_pos h.den
theorem lq {q:Q} (h:q.Ok):ck q=q:=jw h
theorem xp (q:Q):(q.sign != 0)=!decide (q.num=0):=by
 unfold Q.sign;by_cases h:q.num=0
 ·simp[h]
 ·rw[if_neg h];cases q.neg<;>simp[h]
theorem ajd {w w':World} {v:Value} (hg:w.grownBy w' v.ownBlock):Fr (fun b=>v.ownBlock=some b) w w':=
 ⟨(Below.refl 0 w).grown hg (nq _) (fun _ _=>nq _),fun b hb hne=>hg.block b hb (fun e=>hne e.symm)⟩
def Own {α β:Type} (cs:β→List Value) (Is:World→β→α→Prop) (e k:Nat) (w:World) (B:Nat) (x:Sv) (xs:List α):Prop:=
 ∃ts:List (β×α),w.ownsRow B e k (.slice x.A x.n x.c) x.n (ts.flatMap fun p=>cs p.1)∧xs=ts.map (·.2)∧∀p∈ts,Is w p.1 p.2
section
variable {α β:Type} {cs:β→List Value} {Is:World→β→α→Prop} {e k:Nat} {w w':World} {B:Nat} {x:Sv} {xs:List α}
theorem Own.nil (w:World) (B:Nat):Own cs Is e k w B Sv.none []:=⟨[],World.ownsRow_nil w B e k,rfl,fun p h=>by cases h⟩
theorem Own.rows (h:Own cs Is e k w B x xs) (h0:0 < k):Rows cs Is e k w x xs:=by
 obtain⟨ts,h1,h2,h3⟩:=h;obtain⟨y,hy,_,hi,ht⟩:=Sv.of_row h1 h0;obtain⟨yA,yn,yc⟩:=y;obtain⟨xA,xn,xc⟩:=x;simp only[Value.slice.injEq] at hy;obtain⟨rfl,rfl,rfl⟩:=hy;exact⟨ts,hi,h2,h3,ht⟩
theorem Own.go (h:Own cs Is e k w B x xs) (hI:∀p,∀a,Is w p a→Is w' p a) (hk:∀b,(Value.slice x.A x.n x.c).ownBlock=some b→w'.heap[b]?=w.heap[b]?):Own cs Is e k w' B x xs:=by
 obtain⟨ts,h1,h2,h3⟩:=h;exact⟨ts,pu h1 hk,h2,fun p hp=>hI _ _ (h3 p hp)⟩
theorem Own.lt (h:Own cs Is e k w B x xs):∀b,(Value.slice x.A x.n x.c).ownBlock=some b→B≤b∧b < w.heap.size:=by
 obtain⟨ts,h1,_⟩:=h;exact World.ownsRow.lt h1
end
def Rv.At (q:Q) (v:Value) (W:World):Prop:=∃r:Rv,v=r.v∧r.Is W q
theorem Rv.At.gr {W W':World} {v:Value} {q:Q} (h:Rv.At q v W) (G:Gr W W'):Rv.At q v W':=by
 obtain⟨r,e,hr⟩:=h;exact⟨r,e,hr.gr G⟩
theorem abd (w:World) (t0:TypeId) (a0:Array Value):Bk (w.alloc (.cells a0 t0)) w.heap.size t0 a0∧Gr w (w.alloc (.cells a0 t0)):=⟨Bk.made w t0 a0,(Gr.refl w).alloc _⟩
def NewAt (t:TypeId) (cs:Array Value) (N:Nat) (v:Value) (W:World):Prop:=∃b,v=.pointer (some ⟨b,0,Option.none⟩)∧Bk W b t cs∧N≤b
theorem NewAt.gr {W W':World} {v:Value} {t N:Nat} {cs:Array Value} (h:NewAt t cs N v W) (G:Gr W W'):NewAt t cs N v W':=by
 obtain⟨b,e,h1,h2⟩:=h;exact⟨b,e,G.bk h1,h2⟩
theorem NewAt.made (W:World) (t:TypeId) (cs:Array Value) (N:Nat) (h:N≤W.heap.size):NewAt t cs N (.pointer (some ⟨W.heap.size,0,Option.none⟩)) (W.alloc (.cells cs t)):=⟨_,rfl,Bk.made _ _ _,h⟩
theorem NewAt.is {W:World} {b t N:Nat} {cs:Array Value} (h:NewAt t cs N (.pointer (some ⟨b,0,Option.none⟩)) W):Bk W b t cs∧N≤b:=by
 obtain⟨b',e,h1,h2⟩:=h;injection e with e;injection e with e;injection e with e;subst e;exact⟨h1,h2⟩
theorem Gr.od {W W':World} (G:Gr W.drew W'):Gr W W':=(Gr.refl W).drew.trans G
theorem Fr.none {X:Nat→Prop} {w w':World} (h:Fr (fun _=>False) w w'):Fr X w w':=h.wide fun _ _ h=>h.elim
section
attribute [local go_sem] Oper.semAt_some
abbrev aoj (p:Sv):Value:=.agg #[.slice none 0 0,.int .i64 0,.int .i64 0,.bool false,.slice none 0 0,.slice none 0 0,.slice none 0 0,.bool false,.slice p.A p.n p.c]
theorem Bk.c9 {w:World} {p t:Nat} {a b c d e f g h i:Value} (k:Bk w p t #[a,b,c,d,e,f,g,h,i]):w.cell? ⟨p,0,none⟩=some a∧w.cell? ⟨p,1,none⟩=some b∧w.cell? ⟨p,2,none⟩=some c∧w.cell? ⟨p,3,none⟩=some d∧w.cell? ⟨p,4,none⟩=some e∧w.cell? ⟨p,5,none⟩=some f∧w.cell? ⟨p,6,none⟩=some g∧w.cell? ⟨p,7,none⟩=some h∧w.cell? ⟨p,8,none⟩=some i:=⟨k.cell 0,k.cell 1,k.cell 2,k.cell 3,k.cell 4,k.cell 5,k.cell 6,k.cell 7,k.cell 8⟩
end
section
variable {P:Program} {t e size bytes:Nat}
end
section
attribute [local go_sem] Oper.semAt_some
structure Rw where
 kind:Int
 index:Int
 lo:Int
 hi:Int
 deriving DecidableEq,Inhabited
structure Mv where
 row:Rw
 coef:Rv
abbrev Mm:=Rw×Q
abbrev Mv.ar (t:Mv):Array Value:=#[.int .i64 t.row.kind,.int .i64 t.row.index,.int .i64 t.row.lo,.int .i64 t.row.hi,.bool t.coef.neg,.slice t.coef.num.A t.coef.num.n t.coef.num.c,.slice t.coef.den.A t.coef.den.n t.coef.den.c]
attribute [go_sem] Mv.ar
end
def putT (l:List Tm) (v:Int) (q:Q):List Tm:=if q.num=0 then l else l++[(v,ck q)]
theorem aa5 (l:List Tm) (v:Int) {q:Q} (h:q.Ok):putT l v q=snoc l v q:=by unfold putT snoc;rw[lq h]
def mrgT (c:Q):Nat→List Tm→List Tm→List Tm→List Tm
 | 0,_,_,acc=>acc
 | _+1,[],[],acc=>acc
 | n+1,s::la,[],acc=>mrgT c n la [] (putT acc s.1 s.2)
 | n+1,[],t::lb,acc=>mrgT c n [] lb (putT acc t.1 (Q.mul t.2 c))
 | n+1,s::la,t::lb,acc=>if s.1 < t.1 then mrgT c n la (t::lb) (putT acc s.1 s.2) else if t.1 < s.1 then mrgT c n (s::la) lb (putT acc t.1 (Q.mul t.2 c)) else mrgT c n la lb (putT acc s.1 (Q.add s.2 (Q.mul t.2 c)))
def mrg (f g:Fm) (c:Q):Fm:=⟨mrgT c (f.terms.length+g.terms.length) f.terms g.terms [],Q.add f.const (Q.mul g.const c)⟩
theorem aey (c:Q) (n:Nat) (acc:List Tm):mrgT c n [] [] acc=acc:=by cases n<;>rfl
theorem rh (l:List Tm) (v:Int) (q:Q):(putT l v q).length≤l.length+1:=by
 unfold putT;split
 ·omega
 ·simp
section
attribute [local go_sem] Oper.semAt_some
theorem a51:ElemS Tryz.prog 32 200 1 4:=a1y (z:=.int .u32 0) (by kernel_rfl) (by kernel_rfl) rfl dx
structure RAddSt (a b o:List Nat) (i c:Nat):Prop where
 len:o.length=i
 lim:Lim o
 car:c≤1
 sum:val o+B32 ^ i*c=val (a.take i)+val (b.take i)
theorem RAddSt.start (a b:List Nat):RAddSt a b [] 0 0:=⟨rfl,Lim.nil,by omega,by simp[val]⟩
theorem RAddSt.step {a b o:List Nat} {i c:Nat} (h:RAddSt a b o i c) (ha:Lim a) (hb:Lim b) {s:Nat} (hs:s=c+(lim0 a i+lim0 b i)):RAddSt a b (o++[s % B32]) (i+1) (s / B32):=by
 have h1:=md ha i;have h2:=md hb i;have h3:=h.car;have hB:=bc;refine⟨by rw[List.length_append,h.len];rfl,h.lim.append (Lim.one (Nat.mod_lt _ dx)),?_,?_⟩
 ·have:=Nat.div_lt_of_lt_mul (show s < B32*2 by omega);omega
 ·have e2:=h.sum;have e3:=cb a i;have e4:=cb b i;have e5:B32 ^ i*(s % B32)+B32 ^ (i+1)*(s / B32)=B32 ^ i*s:=by
   rw[Nat.pow_succ,Nat.mul_assoc,← Nat.mul_add,Nat.mod_add_div]
  have e6:B32 ^ i*s=B32 ^ i*c+B32 ^ i*lim0 a i+B32 ^ i*lim0 b i:=by rw[hs,← Nat.add_assoc,Nat.mul_add,Nat.mul_add]
  rw[vg,h.len];omega
theorem RAddSt.done {a b o:List Nat} {n c:Nat} (h:RAddSt a b o n c) (ha:a.length≤n) (hb:b.length≤n):val (o++[c])=val a+val b∧Lim (o++[c]):=by
 have e2:=h.sum;rw[gy ha,gy hb] at e2;exact⟨by rw[vg,h.len];exact e2,h.lim.append (Lim.one (by have:=h.car;have:=bc;omega))⟩
theorem fo (v:Int):∀u∈(#[Value.int .u32 v]:Array Value).toList,u.oneCell'=true:=by
 intro u hu;simp at hu;subst hu;rfl
theorem a2l (w:World) (x y:Sv) (a b:List Nat) (hx:x.Num w a) (hy:y.Num w b) (ha:a.length≤400000) (hb:b.length≤400000):
  Calls Tryz.prog 110 #[.slice x.A x.n x.c,.slice y.A y.n y.c] w fun e w'=>∃z:Sv,e=.returned z.v∧z.Num w' (ab (val a+val b))∧Gr w w':=by
 have HX:=I hx;have HY:=I hy;have HNx:=I hx.len;have HNy:=I hy.len;have hn9:x.n≤400000:=by rw[← HNx.out];exact ha
 have hm9:y.n≤400000:=by rw[← HNy.out];exact hb
 have HS0:=I (RAddSt.start a b);have R0:Hid (w.ownsRow w.heap.size 200 1 Nl 0 (([]:List Nat).map lv)):=⟨rfl,.inl ⟨rfl,rfl⟩⟩;have HLx:Hid (∀W (i:Nat),Gr w W→i≤1000000000→Calls Tryz.prog 108 #[x.v,.int .i64 i] W fun e w'=>e=.returned (.int .u32 (lim0 a i))∧w'=W):=fun W i G hi=>mb W x a i (hx.gr G) hi
 have HLy:Hid (∀W (i:Nat),Gr w W→i≤1000000000→Calls Tryz.prog 108 #[y.v,.int .i64 i] W fun e w'=>e=.returned (.int .u32 (lim0 b i))∧w'=W):=fun W i G hi=>mb W y b i (hy.gr G) hi
 clear hx hy ha hb;obtain⟨A,n,c⟩:=x;obtain⟨B,m,d⟩:=y;simp only at*;go_enter Tryz.func110,Tryz.ntmps110;go_wp2;go_loopw [5,6,7] (fun s5 s6 i wr=>∃(t cr:Nat) (o:List Nat),i=.int .i64 t∧s6=.int .u64 cr∧(t≤n∨t≤m)∧cr≤1∧Hid (RAddSt a b o t cr)∧Hid (wr.ownsRow w.heap.size 200 1 s5 t (o.map lv))∧Hid (Gr w wr)) (fun _ _ i _=>n+m - (intOf i).toNat)
 case atStart=>exact⟨0,0,[],rfl,rfl,.inl (nq _),by omega,HS0,R0,Gr.refl w⟩
 case round=>
  obtain⟨t,cr,o,rfl,rfl,ht,hcr,hS,hR,hG⟩:=hrel;by_cases hlt:t < n∨t < m
  ·have HA1:=I (HLx.out wr t hG om);have HA2:=I (HLy.out wr t hG om);obtain⟨s,hs⟩:∃s,s=cr+(lim0 a t+lim0 b t):=⟨_,rfl⟩;have HST:=I (hS.step HX.lim HY.lim hs);have hp9:=md HX.lim t;have hq9:=md HY.lim t;rw[bc] at hp9 hq9;obtain⟨lo,hlo⟩:∃lo,lo=s % B32:=⟨_,rfl⟩;obtain⟨hi,hhi⟩:∃hi,hi=s / B32:=⟨_,rfl⟩;rw[← hlo,← hhi] at HST;have hhi1:hi≤1:=HST.car;generalize lim0 a t=p at*;generalize lim0 b t=q at*;have E1:Hid (((cr:Int)+(p+q)) % 4294967296=lo):=by rw[bc] at hlo;exact (by omega:((cr:Int)+(p+q)) % 4294967296=lo)
   have E2:Hid (((cr:Int)+(p+q)) / 4294967296=hi):=by rw[bc] at hhi;exact (by omega:((cr:Int)+(p+q)) / 4294967296=hi)
   have hsz:=hG.size;clear hlo hhi hs;by_cases htn:t < n
   ·go_wp2_with fail;go_at_call 108
    refine HA1.mono ?_;rintro e w2 ⟨rfl,rfl⟩;go_wp2_with fail;go_at_call 108
    refine HA2.mono ?_;rintro e w2 ⟨rfl,rfl⟩;go_wp2_with (at_builtin;refine fj (w:=w2) a51 rfl (.tmp 31) (.tmp 34) rfl w.heap.size u5 t (o.map lv) #[.int .u32 (((cr:Int)+(p+q)) % 4294967296)] rfl rfl rfl hR.out (fo _) (by unfold maxLen;omega) om hsz ?_;intro v5 w5 h5 F5 _);rw[E1.out] at h5;have HR5:Hid (w5.ownsRow w.heap.size 200 1 v5 (t+1) ((o++[lo]).map lv)):=by rw[List.map_append];exact h5
    have HG5:Hid (Gr w w5):=hG.step F5 fun b _ e=>(mw hR b e).1
    clear h5 F5;go_roundw
    case rel=>
     rw[E2.out];exact⟨t+1,hi,_,by go_num,rfl,by omega,hhi1,HST,HR5,HG5⟩
    case measure=>simp[intOf];omega
   ·have htm:t < m:=by omega
    have hd1:decide ((t:Int) < n)=false:=by simp;omega
    have hd2:decide ((t:Int) < m)=true:=by simp;omega
    go_wp2_with fail;go_at_call 108
    refine HA1.mono ?_;rintro e w2 ⟨rfl,rfl⟩;go_wp2_with fail;go_at_call 108
    refine HA2.mono ?_;rintro e w2 ⟨rfl,rfl⟩;go_wp2_with (at_builtin;refine fj (w:=w2) a51 rfl (.tmp 31) (.tmp 34) rfl w.heap.size u5 t (o.map lv) #[.int .u32 (((cr:Int)+(p+q)) % 4294967296)] rfl rfl rfl hR.out (fo _) (by unfold maxLen;omega) om hsz ?_;intro v5 w5 h5 F5 _);rw[E1.out] at h5;have HR5:Hid (w5.ownsRow w.heap.size 200 1 v5 (t+1) ((o++[lo]).map lv)):=by rw[List.map_append];exact h5
    have HG5:Hid (Gr w w5):=hG.step F5 fun b _ e=>(mw hR b e).1
    clear h5 F5;go_roundw
    case rel=>
     rw[E2.out];exact⟨t+1,hi,_,by go_num,rfl,by omega,hhi1,HST,HR5,HG5⟩
    case measure=>simp[intOf];omega
  ·have hd1:decide ((t:Int) < n)=false:=by simp;omega
   have hd2:decide ((t:Int) < m)=false:=by simp;omega
   have hnn:¬t < n:=by omega
   have hmm:¬t < m:=by omega
   obtain⟨e1,e2⟩:=hS.done (by rw[HNx.out];omega) (by rw[HNy.out];omega);have HE1:=I e1;have HE2:=I e2;have hsz:=hG.size;have ht9:t≤400000:=by omega
   clear e1 e2 hlt ht;have hc:Hid ((cr:Int) % 4294967296=cr):=(by omega:(cr:Int) % 4294967296=cr);go_wp2_with (at_builtin;refine fj (w:=wr) a51 rfl (.tmp 38) (.tmp 41) rfl w.heap.size u5 t (o.map lv) #[.int .u32 (cr:Int)] rfl rfl rfl hR.out (fo _) (by unfold maxLen;omega) om hsz ?_;intro v5 w5 h5 F5 _);obtain⟨z,hzv,hzn,hz,hty⟩:=Sv.of_row h5 dx;have HZZ:Hid (z.Num w5 (o++[cr])):=⟨by rw[List.map_append];exact hz,HE2.out,hty⟩;have HLN:Hid ((o++[cr]).length≤1000000):=by
    rw[List.length_append,hS.len];exact (show t+1≤1000000 by omega)
   have HT:=I (f8 w5 z _ HZZ HLN);rw[HE1.out] at HT;have HG5:Hid (Gr w w5):=hG.step F5 fun b _ e=>(mw hR b e).1
   subst hzv;clear h5 F5 hz hty hzn;simp only[Sv.v];go_wp2_with fail;go_at_call 109
   refine cm1 HT fun k w6 HK G6=>?_
   have HG6:=I (HG5.trans G6);clear HT;go_wp2;go_ret;exact⟨k,rfl,HK.out,HG6.out⟩
theorem abu {a b:List Nat} {k:Nat} (h:∀j,k≤j→lim0 a j=lim0 b j):∀d,val (a.take (k+d))+val (b.take k)=val (b.take (k+d))+val (a.take k)
 | 0=>by rw[Nat.add_zero,Nat.add_comm]
 | d+1=>by
  have ih:=abu h d;rw[← Nat.add_assoc,cb,cb,h (k+d) om];omega
theorem a72 {a b:List Nat} {k:Nat} (h:∀j,k≤j→lim0 a j=lim0 b j):val a+val (b.take k)=val b+val (a.take k):=by
 have:=abu h (a.length+b.length);rw[List.take_of_length_le (show a.length≤k+(a.length+b.length) by omega),List.take_of_length_le (show b.length≤k+(a.length+b.length) by omega)] at this;exact this
theorem abt {a b:List Nat} {j:Nat} (ha:Lim a) (h:∀i,j+1≤i→lim0 a i=lim0 b i) (hlt:lim0 a j < lim0 b j):val a < val b:=by
 have h1:=a72 h;rw[cb,cb] at h1;have h2:=eq (ha.take j);have h3:B32 ^ (a.take j).length≤B32 ^ j:=Nat.pow_le_pow_right dx (by rw[List.length_take];omega);have h4:B32 ^ j*(lim0 a j+1)≤B32 ^ j*lim0 b j:=Nat.mul_le_mul_left _ hlt;rw[Nat.mul_add] at h4;omega
theorem a61 (w:World) (x y:Sv) (a b:List Nat) (hx:x.Num w a) (hy:y.Num w b) (ha:a.length≤400000) (hb:b.length≤400000):
  Calls Tryz.prog 166 #[.slice x.A x.n x.c,.slice y.A y.n y.c] w fun e w'=>e=.returned (.int .i64 (cmpN (val a) (val b)))∧w'=w:=by
 have HNx:=I hx.len;have HNy:=I hy.len;have hn9:x.n≤400000:=by rw[← HNx.out];exact ha
 have hm9:y.n≤400000:=by rw[← HNy.out];exact hb
 have HLA:=I hx.lim;have HLB:=I hy.lim;have HLx:Hid (∀(i:Nat),i≤1000000000→Calls Tryz.prog 108 #[x.v,.int .i64 i] w fun e w'=>e=.returned (.int .u32 (lim0 a i))∧w'=w):=fun i hi=>mb w x a i hx hi
 have HLy:Hid (∀(i:Nat),i≤1000000000→Calls Tryz.prog 108 #[y.v,.int .i64 i] w fun e w'=>e=.returned (.int .u32 (lim0 b i))∧w'=w):=fun i hi=>mb w y b i hy hi
 obtain⟨N,hN,hN1,hN2,hmx⟩:∃N:Nat,N≤400000∧x.n≤N∧y.n≤N∧max (x.n:Int) (y.n:Int)=(N:Int):=⟨max x.n y.n,by omega,by omega,by omega,by omega⟩;have H0:Hid (∀j,N≤j→lim0 a j=lim0 b j):=fun j hj=>by
  rw[im (by rw[HNx.out];omega),im (by rw[HNy.out];omega)]
 clear hx hy ha hb;go_enter Tryz.func166,Tryz.ntmps166;go_wp2;clear hmx;go_loopw [5] (fun s wr=>∃k:Nat,s=.int .i64 ((k:Int) - 1)∧k≤N∧Hid (∀j,k≤j→lim0 a j=lim0 b j)∧wr=w) (fun s _=>(intOf s+1).toNat)
 case atStart=>exact⟨N,rfl,nr _,H0,rfl⟩
 case round=>
  obtain⟨k,rfl,hk,hD,rfl⟩:=hrel;cases k with
  | zero=>
   have hE:Hid (cmpN (val a) (val b)=0):=by
    have h:=a72 hD;simp only[List.take_zero,val] at h;rw[show val a=val b by omega];exact a21 _
   have h0:((0:Nat):Int) - 1=-1:=rfl;rw[h0];go_wp2;go_ret;exact⟨by rw[hE.out];rfl,rfl⟩
  | succ j=>
   have hj:(((j+1:Nat):Int) - 1)=(j:Int):=by omega
   rw[hj];have HA1:=I (HLx.out j om);have HA2:=I (HLy.out j om);have HC1:Hid (lim0 a j < lim0 b j→cmpN (val a) (val b)=-1):=fun h=>qn (abt HLA hD h)
   have HC2:Hid (lim0 b j < lim0 a j→cmpN (val a) (val b)=1):=fun h=>a54 (abt HLB (fun i hi=>(hD.out i hi).symm) h)
   have HD2:Hid (lim0 a j=lim0 b j→∀i,j≤i→lim0 a i=lim0 b i):=fun h i hi=>by
    rcases Nat.eq_or_lt_of_le hi with rfl | h1
    ·exact h
    ·exact hD.out i h1
   generalize hp:lim0 a j=p at*;generalize hq:lim0 b j=q at*;clear hp hq hD;by_cases h1:p < q
   ·have hE:=I (HC1.out h1);have hd:decide ((p:Int) < q)=true:=by simp;omega
    go_wp2_with fail;go_at_call 108
    refine HA1.mono ?_;rintro e w2 ⟨rfl,rfl⟩;go_wp2_with fail;go_at_call 108
    refine HA2.mono ?_;rintro e w2 ⟨rfl,rfl⟩;go_wp2;go_ret;exact⟨by rw[hE.out];rfl,rfl⟩
   ·have hd:decide ((p:Int) < q)=false:=by simp;omega
    have hd3:¬p < q:=h1;go_wp2_with fail;go_at_call 108
    refine HA1.mono ?_;rintro e w2 ⟨rfl,rfl⟩;go_wp2_with fail;go_at_call 108
    refine HA2.mono ?_;rintro e w2 ⟨rfl,rfl⟩;go_wp2_with fail;go_at_call 108
    refine HA1.mono ?_;rintro e w2 ⟨rfl,rfl⟩;go_wp2_with fail;go_at_call 108
    refine HA2.mono ?_;rintro e w2 ⟨rfl,rfl⟩;by_cases h2:q < p
    ·have hE:=I (HC2.out h2);have hd2:decide ((q:Int) < p)=true:=by simp;omega
     go_wp2;go_ret;exact⟨by rw[hE.out];rfl,rfl⟩
    ·have hd2:decide ((q:Int) < p)=false:=by simp;omega
     have hDD:=I (HD2.out om);go_wp2;go_roundw
     case rel=>exact⟨j,rfl,by omega,hDD,trivial⟩
     case measure=>first | (simp[intOf];done) | (simp[intOf];omega)
end
end Go.Proofs.YtbhbainhmfjpdaaGreatDoor
