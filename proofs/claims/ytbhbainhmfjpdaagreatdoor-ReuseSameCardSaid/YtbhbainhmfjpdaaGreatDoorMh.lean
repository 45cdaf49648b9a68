/- Walks of the search and of what it calls, part 8. -/
import Derived.Test.YtbhbainhmfjpdaaGreatDoorMg
import Derived.ArgAppend
import Derived.Lib.MinMax
set_option linter.unusedVariables false
set_option linter.unusedSimpArgs false
set_option maxRecDepth 100000
set_option maxHeartbeats 8000000
namespace Go.Proofs.YtbhbainhmfjpdaaGreatDoor
open Go.RowKit
section
attribute [local go_sem] Oper.semAt_some
theorem a3o (w:World) (t u:TypeId) (a b:Array Value):
    Bk ((w.alloc (.cells a t)).alloc (.cells b u)) w.heap.size t a∧Bk ((w.alloc (.cells a t)).alloc (.cells b u)) (w.heap.size+1) u b∧Gr w ((w.alloc (.cells a t)).alloc (.cells b u)):=by
  have s1:(w.alloc (.cells a t)).heap.size=w.heap.size+1:=World.size_alloc ..;refine⟨(Bk.made w t a).alloc _,?_,((Gr.refl w).alloc _).alloc _⟩;have:=Bk.made (w.alloc (.cells a t)) u b;rwa [s1] at this
def cmpI (s:Bool) (m:Nat) (t:Bool) (n:Nat):Int:=if isg s m < isg t n then -1 else if isg t n < isg s m then 1 else if isg s m < 0 then cmpN n m else cmpN m n
theorem af7 (w:World) (a b:Iv) (s t:Bool) (m n:Nat) (ha:a.Is w s m) (hb:b.Is w t n) (hm:(a7 m).length≤1000000) (hn:(a7 n).length≤1000000):
    Calls Tryz.prog 180 #[a.v,b.v] w fun e w'=>e=.returned (.int .i64 (cmpI s m t n))∧Gr w w':=by
  have HLM:=I hm;have HLN:=I hn;clear hm hn;simp only[Iv.v];go_enter Tryz.func180,Tryz.ntmps180;go_wp2_with fail;refine nw2h fun W HG hB1 hB2=>?_
  have HA:=I (ha.gr HG);have HB:=I (hb.gr HG);clear ha hb;generalize w.heap.size+1=q at*;generalize w.heap.size=p at*;have a0_:=hB1.c2;have b0_:=hB2.c2;have HS1:=I (wy W.drew a s m (HA.gr (Gr.refl W).drew) HLM);simp only[Iv.v] at HS1;have hE:Hid (cmpI s m t n=if isg s m < isg t n then -1 else if isg t n < isg s m then 1 else if isg s m < 0 then cmpN n m else cmpN m n):=rfl;generalize isg s m=sm at*;have HS2:Hid (∀W2,Gr W W2→Calls Tryz.prog 182 #[b.v] W2 fun e w'=>e=.returned (.int .i64 (isg t n))∧Gr W2 w'):=fun W2 G=>wy W2 b t n (HB.gr G) HLN
  generalize isg t n=tn at*;simp only[Iv.v] at HS2
  first | (go_region_held3 (fun W=>W.cell? ⟨p,0,none⟩=some (.bool a.neg)∧W.cell? ⟨p,1,none⟩=some a.mag.v∧W.cell? ⟨q,0,none⟩=some (.bool b.neg)∧W.cell? ⟨q,1,none⟩=some b.mag.v) (first | go_keep | exact⟨hk1.1,hk1.2,hk2.1,hk2.2⟩ | exact⟨hj1.1,hj1.2,hj2.1,hj2.2⟩)
    (first | (go_at_call 182;refine (HS2.out w1 HG1.out).mono ?_;rintro e w2 ⟨rfl,G2⟩;have hj1:=(HG1.out.trans G2 |>.bk hB1.out).c2;have hj2:=(HG1.out.trans G2 |>.bk hB2.out).c2;have HG2:=I (HG1.out.trans G2);clear G2)
           | (go_at_call 182;refine HS1.mono ?_;rintro e w1 ⟨rfl,G1⟩;have hk1:=(G1.bk hB1).c2;have hk2:=(G1.bk hB2).c2;have HG1:=I ((Gr.refl W).drew.trans G1);clear G1))) | fail
  obtain⟨k0,k1⟩:=hj1;obtain⟨l0,l1⟩:=hj2;have HF:=I (HG.trans HG2);have HC1:=I (m5 w2 a.mag b.mag _ _ (HA.mag.gr HG2) (HB.mag.gr HG2));have HC2:=I (m5 w2 b.mag a.mag _ _ (HB.mag.gr HG2) (HA.mag.gr HG2));rw[vl,vl] at HC1 HC2;clear HS1 HS2;by_cases h1:sm < tn
  · rw[if_pos h1] at hE
    have hd:decide (sm < tn)=true:=by simp[h1]
    go_wp2;go_ret;exact⟨by rw[hE.out];rfl,HF.out⟩
  · have hd:decide (sm < tn)=false:=by simp;omega
    rw[if_neg h1] at hE;by_cases h2:tn < sm
    · rw[if_pos h2] at hE
      have hd2:decide (tn < sm)=true:=by simp[h2]
      go_wp2;go_ret;exact⟨by rw[hE.out];rfl,HF.out⟩
    · rw[if_neg h2] at hE
      have hd2:decide (tn < sm)=false:=by simp;omega
      by_cases h3:sm < 0
      · rw[if_pos h3] at hE
        have hd3:decide (sm < 0)=true:=by simp[h3]
        generalize cmpN n m=c at*;go_wp2_with fail;refine cm0 HC2 fun w3 G3=>?_
        have HG3:=I (HF.trans G3)

        go_wp2;go_ret;exact⟨by rw[hE.out];rfl,HG3.out⟩
      · rw[if_neg h3] at hE
        have hd3:decide (sm < 0)=false:=by simp;omega
        generalize cmpN m n=c at*;go_wp2_with fail;refine cm0 HC1 fun w3 G3=>?_
        have HG3:=I (HF.trans G3)

        go_wp2;go_ret;exact⟨by rw[hE.out];rfl,HG3.out⟩
theorem ajz (w:World) (x:Int) (h1:-1000000000≤x) (h2:x≤1000000000):
    Calls Tryz.prog 225 #[.int .i64 x] w fun e w'=>∃r:Iv,e=.returned r.v∧r.Is w' (decide (x < 0)) x.natAbs∧Gr w w':=by
  have b1:=Bk.made w 118 #[.bool false,Nl];have HG1:=I ((Gr.refl w).alloc (.cells #[.bool false,Nl] 118));have HB:=I b1;clear b1;have HO:=I (fun W=>aao W x.natAbs om);by_cases h0:x < 0
  · have hd:decide (x < 0)=true:=by simp[h0]
    rw[hd];obtain⟨n,rfl⟩:∃n:Nat,x=-(n:Int):=⟨x.natAbs,by omega⟩;rw[show (-(n:Int)).natAbs=n by omega] at*;go_enter Tryz.func225,Tryz.ntmps225;have hw:IntKind.u64.wrap (-IntKind.u64.wrap (-(n:Int)))=(n:Int):=by rw[IntKind.wrap_u64,IntKind.wrap_u64];omega
    go_wp2_with fail;refine cm1 (HO.out _) fun z w1 HZ G1=>?_
    have HG2:=I (HG1.trans G1);have HBs:=I (G1.bk HB);have r0_:=HBs.c2;have fz:=HBs.frozen;clear hw HB;generalize hp:w.heap.size=r at*;have hPE:=I hp;clear hp;go_wp2;refine pex ?_;refine ks HBs fun W5 B5 F5=>?_
    have d_:=B5.c2;refine bret Tryz.results225 ?_;exact⟨⟨true,z⟩,rfl,⟨rfl,HZ.fr F5 HBs (bf _ _ _ _)⟩,HG2.fr_at F5 (Nat.le_of_eq hPE)⟩
  · have hd:decide (x < 0)=false:=by simp;omega
    rw[hd];obtain⟨n,rfl⟩:∃n:Nat,x=(n:Int):=⟨x.natAbs,by omega⟩;rw[show ((n:Int)).natAbs=n by omega] at*;go_enter Tryz.func225,Tryz.ntmps225;have hw:IntKind.u64.wrap (n:Int)=(n:Int):=by rw[IntKind.wrap_u64];omega
    go_wp2_with fail;refine cm1 (HO.out _) fun z w1 HZ G1=>?_
    have HG2:=I (HG1.trans G1);have HBs:=I (G1.bk HB);have r0_:=HBs.c2;have fz:=HBs.frozen;clear hw HB;generalize hp:w.heap.size=r at*;have hPE:=I hp;clear hp;go_wp2;refine pex ?_;refine ks HBs fun W5 B5 F5=>?_
    have d_:=B5.c2;refine bret Tryz.results225 ?_;exact⟨⟨false,z⟩,rfl,⟨rfl,HZ.fr F5 HBs (bf _ _ _ _)⟩,HG2.fr_at F5 (Nat.le_of_eq hPE)⟩
theorem Q.dec_eq (x y:Q):decide (x=y)=(x.neg == y.neg&&(decide (x.num=y.num)&&decide (x.den=y.den))):=by
 obtain⟨s,m,k⟩:=x;obtain⟨t,n,l⟩:=y;rw[Bool.eq_iff_iff];simp only[de,be,beq_iff_eq,Q.mk.injEq]
theorem ang (w:World) (x y:Sv) (m n:Nat) (hx:x.Num w (a7 m)) (hy:y.Num w (a7 n)):
  Calls Tryz.prog 222 #[x.v,y.v] w fun e w'=>e=.returned (.bool (decide (m=n)))∧Gr w w':=by
 obtain⟨A,k,c⟩:=x;obtain⟨B,l,d⟩:=y;have hk:=hx.len;have hl:=hy.len;have hk9:=hx.is.max;have hkc:=hx.is.cap;(try simp only at hk hl hk9 hkc)
 have HX:=I hx;have HY:=I hy;by_cases hkl:k=l
 ·subst hkl;have hnn:((k:Int) != k)=false:=by simp
  have HK:=I hk;have HL:=I hl;clear hx hy hk hl;(try simp only)
  go_enter Tryz.func222,Tryz.ntmps222;go_wp2;go_loopw [13] (fun i wr=>∃t:Nat,i=.int .i64 t∧t≤k∧Hid ((a7 m).take t=(a7 n).take t)∧Hid (Gr w wr)) (fun i _=>k - (intOf i).toNat)
  case atStart=>exact⟨0,rfl,nq _,rfl,Gr.refl w⟩
  case round=>
   obtain⟨t,rfl,ht,hT,hG⟩:=hrel;by_cases htk:t < k
   ·obtain⟨p,ad,hp,hp9,hA,hb,d1⟩:=(HX.gr hG).at (i:=t) htk;obtain⟨q,ad2,hq,hq9,hB,hb2,d2⟩:=(HY.gr hG).at (i:=t) htk;(try simp only at hA hB)
    subst hA hB;have e1:wr.drew.cell? (ad.add t)=some (.int .u32 p):=d1;have e2:wr.drew.cell? (ad2.add t)=some (.int .u32 q):=d2;have hG3:Hid (Gr w wr.drew):=hG.drew;by_cases hpq:p=q
    ·subst hpq;have HT:Hid ((a7 m).take (t+1)=(a7 n).take (t+1)):=by
      rw[List.take_add_one,List.take_add_one,hT.out,hp,hq];exact rfl
     clear hp hq hp9 hq9 hb hb2 hT;go_wp2;go_region
     all_goals go_wp2
     all_goals go_roundw
     all_goals first
      | exact⟨t+1,by go_num,by omega,HT,hG3⟩
      | (simp[intOf];omega)
    ·have hpd:((p:Int) != q)=true:=by simp;omega
     have HE:Hid (decide (m=n)=false):=by
      have h:¬m=n:=fun e=>by
       subst e;rw[hp] at hq;injection hq with hq;exact hpq hq
      exact df h
     clear hp hq hp9 hq9 hb hb2 hT;go_wp2;go_region
     all_goals go_wp2
     all_goals go_ret
     all_goals exact⟨by rw[HE.out];rfl,hG3.out⟩
   ·obtain rfl:t=k:=by omega
    have HE:Hid (decide (m=n)=true):=by
     have h:=hT.out;rw[List.take_of_length_le (by rw[HK.out];exact nr _),List.take_of_length_le (by rw[HL.out];exact nr _)] at h;exact dt (qx h)
    clear hT;go_wp2;go_ret;exact⟨by rw[HE.out];rfl,hG.out⟩
 ·have hnn:((k:Int) != l)=true:=by simp;omega
  have HE:Hid (decide (m=n)=false):=by
   have h:¬m=n:=fun e=>hkl (by rw[← hk,← hl,e])
   exact df h
  clear hx hy hk hl;(try simp only)
  go_enter Tryz.func222,Tryz.ntmps222;go_wp2;go_ret;exact⟨by rw[HE.out];rfl,Gr.refl w⟩
theorem Q.sign_isg (q:Q):isg q.sg q.num=q.sign:=by
 unfold isg Q.sign Q.sg;by_cases h:q.num=0
 ·rw[if_pos h,if_pos h]
 ·rw[if_neg h,if_neg h,dt om,Bool.and_true]
theorem rp (w:World) (a:Rv) (q:Q) (ha:a.Is w q) (hl:(a7 q.num).length≤1000000):
  Calls Tryz.prog 183 #[a.v] w fun e w'=>∃r:Iv,e=.returned r.v∧r.Is w' q.sg q.num∧Gr w w':=by
 obtain⟨B1,B2,G⟩:=a3o w 35 118 a.ar #[.bool false,Nl];have HG:=I G;have hB2:=I B2;have a0_:=B1.c3;have HI:=I (mu _ a.neg a.num _ (ha.num.gr G) hl);have hE:Hid ((a.neg&&decide (0 < q.num))=q.sg):=by rw[ha.neg];exact rfl
 clear ha hl B1 B2 G;simp only[Rv.v];go_enter Tryz.func183,Tryz.ntmps183;go_wp2_with fail;refine cm2 HI fun i w1 hi G1=>?_
 rw[hE.out] at hi;have HII:=I hi;have HG1:=I (HG.trans G1);have HBs:=I (G1.bk hB2);have r0_:=HBs.c2;have fz:=HBs.frozen;clear hi HI a0_ hB2;have hle:Hid (w.heap.size≤w.heap.size+1):=Nat.le_succ _;generalize w.heap.size+1=r at*;go_wp2;refine pex ?_;refine ks HBs fun W5 B5 F5=>?_
 have d_:=B5.c2;refine bret Tryz.results183 ?_;exact⟨i,rfl,⟨HII.neg,HII.mag.fr F5 HBs (bf _ _ _ _)⟩,HG1.fr_at F5 hle⟩
theorem tu (w:World) (a:Rv) (q:Q) (ha:a.Is w q) (hl:(a7 q.num).length≤1000000):
  Calls Tryz.prog 130 #[a.v] w fun e w'=>e=.returned (.int .i64 q.sign)∧Gr w w':=by
 have B1:=Bk.made w 35 a.ar;have HG:=I ((Gr.refl w).alloc (.cells a.ar 35));have a0_:=B1.c3;have HS:=I (rp _ a q (ha.gr HG) hl);have hE:=I (Q.sign_isg q);have HL:=I hl;clear ha B1 hl;simp only[Rv.v] at*;go_enter Tryz.func130,Tryz.ntmps130;go_wp2_with fail;refine cm2 HS fun i w1 hi G1=>?_
 have HG1:=I (HG.trans G1);have HI:=I (wy w1 i _ _ hi HL);rw[hE.out] at HI;clear hi HS a0_;go_wp2_with fail;refine cm0 HI fun w2 G2=>?_
 have HG2:=I (HG1.trans G2)

 go_wp2;go_ret;exact⟨rfl,HG2.out⟩
theorem xg (w:World) (a:Rv) (q:Q) (ha:a.Is w q) (hl:(a7 q.num).length≤1000000) (hd:Sl q.un):
  Calls Tryz.prog 177 #[a.v] w fun e w'=>∃r:Rv,e=.returned r.v∧r.Is w' (quot q.neg q.num q.un)∧Gr w w':=by
 obtain⟨B1,B2,G⟩:=a3o w 35 35 a.ar Rl;have HA:=I (ha.gr G);have HG:=I G;have hB1:=I B1;have hB2:=I B2;have hld:(a7 q.den).length≤1000000:=by
  refine nt (aq ?_) hd.big;unfold Q.un;split<;>omega
 have HL:=I hl;have HD:=I hd.big;have HLD:=I hld;clear ha hl hd hld B1 B2 G;simp only[Rv.v];go_enter Tryz.func177,Tryz.ntmps177;go_wp2_with fail;generalize hW:(w.alloc (.cells a.ar 35)).alloc (.cells Rl 35)=W at*;clear hW;have hpr:¬w.heap.size=w.heap.size+1:=by omega
 have hle:Hid (w.heap.size≤w.heap.size+1):=Nat.le_succ _;generalize w.heap.size+1=r at*;generalize hp:w.heap.size=p at*;have hPE:=I hp;clear hp;have hpr2:¬r=p:=fun e=>hpr e.symm
 have a0_:=hB1.c3;have HU:=I (jj W.drew a q (HA.gr (Gr.refl W).drew) HLD);simp only[Rv.v] at HU;have HNN:=I HA.neg
 first | (go_region_held3 (fun W=>W.cell? ⟨p,0,none⟩=some (.bool a.neg)∧W.cell? ⟨p,1,none⟩=some a.num.v∧W.cell? ⟨p,2,none⟩=some a.den.v)
   (first | go_keep | exact⟨hk.1,hk.2.1,hk.2.2⟩ | exact⟨hj.1,hj.2.1,hj.2.2⟩)
   (first | (go_at_call 216;refine (HQ.out).mono ?_;rintro e w2 ⟨i,rfl,hi,G2⟩;have hE1:=I (G2.bk hC1.out);have HBs:=I (G2.bk hC2.out);have HG2:=I (HG1.out.trans G2);have hj:=hE1.out.c3;obtain⟨r0,r1,r2⟩:=HBs.out.c3;have fz:=HBs.out.frozen;have HII:=I hi;clear hi G2) | (go_at_call 217;refine (HU.out).mono ?_;rintro e w1 ⟨y,rfl,hy,G1⟩;have hC1:=I (G1.bk hB1.out);have hC2:=I (G1.bk hB2.out);have HG1:=I (HG.out.drew.trans G1);have hk:=hC1.out.c3;have HQ:=I (ud w1 a.neg a.num y _ _ ((HA.out.num.gr (Gr.refl W).drew).gr G1) hy HL.out q.un_pos HD.out);clear hy G1))) | fail
 go_wp2;refine pex ?_;refine ks HBs fun W5 B5 F5=>?_
 have d_:=B5.c3;refine bret Tryz.results177 ?_;exact⟨i,rfl,by rw[← HNN.out];exact⟨HII.neg,HII.num.fr F5 HBs (b7 _ _ _ _ _ _ _),HII.den.fr F5 HBs (b7 _ _ _ _ _ _ _)⟩,HG2.fr_at F5 (by rw[hPE.out];exact hle.out)⟩
theorem aon (w:World) (t u v x:TypeId) (a b c d:Array Value):
  Bk ((((w.alloc (.cells a t)).alloc (.cells b u)).alloc (.cells c v)).alloc (.cells d x)) w.heap.size t a∧Bk ((((w.alloc (.cells a t)).alloc (.cells b u)).alloc (.cells c v)).alloc (.cells d x)) (w.heap.size+1) u b∧Bk ((((w.alloc (.cells a t)).alloc (.cells b u)).alloc (.cells c v)).alloc (.cells d x)) (w.heap.size+1+1) v c∧Bk ((((w.alloc (.cells a t)).alloc (.cells b u)).alloc (.cells c v)).alloc (.cells d x)) (w.heap.size+1+1+1) x d∧Gr w ((((w.alloc (.cells a t)).alloc (.cells b u)).alloc (.cells c v)).alloc (.cells d x)):=by
 obtain⟨h1,h2,h3,h4⟩:=a7g w t u v a b c;refine⟨h1.alloc _,h2.alloc _,h3.alloc _,?_,h4.alloc _⟩;have s1:(w.alloc (.cells a t)).heap.size=w.heap.size+1:=World.size_alloc ..;have s2:((w.alloc (.cells a t)).alloc (.cells b u)).heap.size=w.heap.size+1+1:=by rw[World.size_alloc,s1]
 have s3:(((w.alloc (.cells a t)).alloc (.cells b u)).alloc (.cells c v)).heap.size=w.heap.size+1+1+1:=by rw[World.size_alloc,s2]
 have:=Bk.made (((w.alloc (.cells a t)).alloc (.cells b u)).alloc (.cells c v)) x d;rwa [s3] at this
theorem a4p (s:Bool) (m:Nat):((s != false)&&decide (0 < m))=(s&&decide (0 < m)):=by cases s<;>rfl
theorem a2h (w:World) (a b:Rv) (x y:Q) (ha:a.Is w x) (hb:b.Is w y) (h1:(a7 x.num).length≤400000) (h2:(a7 y.num).length≤400000) (h3:(a7 x.den).length≤400000) (h4:(a7 y.den).length≤400000):
  Calls Tryz.prog 179 #[a.v,b.v] w fun e w'=>∃r1 r2:Iv,e=.returned (.tuple #[r1.v,r2.v])∧r1.Is w' (x.sg&&decide (0 < x.num*y.un)) (x.num*y.un)∧r2.Is w' (y.sg&&decide (0 < y.num*x.un)) (y.num*x.un)∧Gr w w':=by
 obtain⟨B1,B2,B3,B4,G⟩:=aon w 35 35 118 118 a.ar b.ar #[.bool false,Nl] #[.bool false,Nl];have HA:=I (ha.gr G);have HB:=I (hb.gr G);have HG:=I G;have hB1:=I B1;have hB2:=I B2;have hB3:=I B3;have hB4:=I B4;have un_len:∀q:Q,(a7 q.den).length≤400000→(a7 q.un).length≤400000:=fun q h=>by
  unfold Q.un;split
  ·rw[fi dx dx];decide
  ·exact h
 have L1:=I h1;have L2:=I h2;have L3:=I (un_len x h3);have L4:=I (un_len y h4);have L5:=I (nt h3 (by decide:400000≤1000000));have L6:=I (nt h4 (by decide:400000≤1000000));have L7:=I (nt h1 (by decide:400000≤1000000));have L8:=I (nt h2 (by decide:400000≤1000000));clear ha hb h1 h2 h3 h4 un_len B1 B2 B3 B4 G;simp only[Rv.v];go_enter Tryz.func179,Tryz.ntmps179;go_wp2_with fail;generalize hW:(((w.alloc (.cells a.ar 35)).alloc (.cells b.ar 35)).alloc (.cells #[.bool false,Nl] 118)).alloc (.cells #[.bool false,Nl] 118)=W at*;clear hW;have hpr:¬w.heap.size=w.heap.size+1+1:=by omega
 have hqr:¬w.heap.size+1=w.heap.size+1+1:=by omega
 have hps:¬w.heap.size=w.heap.size+1+1+1:=by omega
 have hqs:¬w.heap.size+1=w.heap.size+1+1+1:=by omega
 have hrs:¬w.heap.size+1+1=w.heap.size+1+1+1:=by omega
 have hle:Hid (w.heap.size≤w.heap.size+1+1):=nt (Nat.le_succ _) (Nat.le_succ _);have hls:Hid (w.heap.size≤w.heap.size+1+1+1):=nt (nt (Nat.le_succ _) (Nat.le_succ _)) (Nat.le_succ _);generalize w.heap.size+1+1+1=s at*;generalize w.heap.size+1+1=r at*;generalize w.heap.size+1=q at*;generalize hp:w.heap.size=p at*;have hPE:=I hp;clear hp;have hpr2:¬r=p:=fun e=>hpr e.symm
 have hqr2:¬r=q:=fun e=>hqr e.symm
 have hps2:¬s=p:=fun e=>hps e.symm
 have hqs2:¬s=q:=fun e=>hqs e.symm
 have hrs2:¬s=r:=fun e=>hrs e.symm
 have hk:_∧_:=⟨hB1.c3,hB2.c3⟩;obtain⟨⟨a0,a1,a2⟩,b0,b1,b2⟩:=hk;have HU1:=I (jj W.drew a x (HA.gr (Gr.refl W).drew) L5);have HU2:Hid (∀W2,Gr W W2→Calls Tryz.prog 217 #[b.v] W2 fun e w'=>∃y':Sv,e=.returned y'.v∧y'.Num w' (a7 y.un)∧Gr W2 w'):=fun W2 G=>jj W2 b y (HB.gr G) L6
 simp only[Rv.v] at HU1 HU2;have HG0:Hid (Gr W W.drew):=(Gr.refl W).drew
 first | (go_region_held3 (fun W=>W.cell? ⟨p,0,none⟩=some (.bool a.neg)∧W.cell? ⟨p,1,none⟩=some a.num.v∧W.cell? ⟨p,2,none⟩=some a.den.v∧W.cell? ⟨q,0,none⟩=some (.bool b.neg)∧W.cell? ⟨q,1,none⟩=some b.num.v∧W.cell? ⟨q,2,none⟩=some b.den.v)
   (first | go_keep | exact⟨hk.1.1,hk.1.2.1,hk.1.2.2,hk.2.1,hk.2.2.1,hk.2.2.2⟩ | exact⟨hj.1.1,hj.1.2.1,hj.1.2.2,hj.2.1,hj.2.2.1,hj.2.2.2⟩)
   (first | (go_at_call 217;refine ((HU2.out w1 HG1.out)).mono ?_;rintro e w2 ⟨v,rfl,hv,G2⟩;have HG2:=I (HG1.out.trans G2);have hj:=ai (HG2.out.bk hB1.out).c3 (HG2.out.bk hB2.out).c3;have HNV:=I hv;have HNU2:=I (HNU.out.gr G2);clear hv G2) | (go_at_call 217;refine (HU1.out).mono ?_;rintro e w1 ⟨u,rfl,hu,G1⟩;have HG1:=I (HG0.out.trans G1);have hk:=ai (HG1.out.bk hB1.out).c3 (HG1.out.bk hB2.out).c3;have HNU:=I hu;clear hu G1))) | fail
 clear HU1 HU2 HG0 a0 a1 a2 b0 b1 b2 hk HG1 HNU;obtain⟨⟨a0,a1,a2⟩,b0,b1,b2⟩:=hj;have hF:=I (HG.trans HG2);have C1:=I (HG2.bk hB1);have C2:=I (HG2.bk hB2);have C3:=I (HG2.bk hB3);have C4:=I (HG2.bk hB4);have HA2:=I (HA.gr HG2);have HB2:=I (HB.gr HG2);clear HG HG2 hB1 hB2 hB3 hB4 HA HB;go_wp2_with fail;have HG0:Hid (Gr w2 w2.drew):=(Gr.refl w2).drew;have HS1:=I (rp w2.drew a x (HA2.gr HG0) L7);have HS2:Hid (∀W2,Gr w2 W2→Calls Tryz.prog 183 #[b.v] W2 fun e w'=>∃r:Iv,e=.returned r.v∧r.Is w' y.sg y.num∧Gr W2 w'):=fun W2 G=>rp W2 b y (HB2.gr G) L8
 simp only[Rv.v] at HS1 HS2
 first | (go_region_held3 (fun W=>W.cell? ⟨p,0,none⟩=some (.bool a.neg)∧W.cell? ⟨p,1,none⟩=some a.num.v∧W.cell? ⟨p,2,none⟩=some a.den.v∧W.cell? ⟨q,0,none⟩=some (.bool b.neg)∧W.cell? ⟨q,1,none⟩=some b.num.v∧W.cell? ⟨q,2,none⟩=some b.den.v)
   (first | go_keep | exact⟨hk1.1.1,hk1.1.2.1,hk1.1.2.2,hk1.2.1,hk1.2.2.1,hk1.2.2.2⟩ | exact⟨hk2.1.1,hk2.1.2.1,hk2.1.2.2,hk2.2.1,hk2.2.2.1,hk2.2.2.2⟩ | exact⟨hk3.1.1,hk3.1.2.1,hk3.1.2.2,hk3.2.1,hk3.2.2.1,hk3.2.2.2⟩ | exact⟨hk4.1.1,hk4.1.2.1,hk4.1.2.2,hk4.2.1,hk4.2.2.1,hk4.2.2.2⟩)
   (first | (go_at_call 219;refine (HM2.out).mono ?_;rintro e w6 ⟨m2,rfl,hm2,G6⟩;have HR3:=I (HR2.out.gr G6);have HG6:=I (HG5.out.trans G6);have hk4:=ai (HG6.out.bk C1.out).c3 (HG6.out.bk C2.out).c3;have HR4:=I hm2;have D3:=I (HG6.out.bk C3.out);have D4:=I (HG6.out.bk C4.out);obtain⟨r0,r1⟩:=D3.out.c2;obtain⟨s0,s1⟩:=D4.out.c2;have fr:=D3.out.frozen;have fs:=D4.out.frozen;clear hm2 G6) | (go_at_call 183;refine (HS3.out).mono ?_;rintro e w5 ⟨i2,rfl,hi2,G5⟩;have HR2:=I (HR1.out.gr G5);have HG5:=I (HG4.out.trans G5);have hk3:=ai (HG5.out.bk C1.out).c3 (HG5.out.bk C2.out).c3;have HM2:=I (a64 w5 i2 ⟨false,u⟩ y.sg false y.num x.un hi2 ⟨rfl,HNU2.out.gr HG5.out⟩ L2.out L3.out);rw[a4p] at HM2;simp only[Iv.v] at HM2;clear hi2 G5) | (go_at_call 219;refine (HM1.out).mono ?_;rintro e w4 ⟨m1,rfl,hm1,G4⟩;have HG4:=I (HG3.out.trans G4);have hk2:=ai (HG4.out.bk C1.out).c3 (HG4.out.bk C2.out).c3;have HR1:=I hm1;have HS3:=I (HS2.out w4 HG4.out);clear hm1 G4) | (go_at_call 183;refine (HS1.out).mono ?_;rintro e w3 ⟨i1,rfl,hi1,G3⟩;have HG3:=I (HG0.out.trans G3);have hk1:=ai (HG3.out.bk C1.out).c3 (HG3.out.bk C2.out).c3;have HM1:=I (a64 w3 i1 ⟨false,v⟩ x.sg false x.num y.un hi1 ⟨rfl,HNV.out.gr HG3.out⟩ L1.out L4.out);rw[a4p] at HM1;simp only[Iv.v] at HM1;clear hi1 G3))) | fail
 obtain⟨E3,F3⟩:=D3.put2 (.bool m1.neg) m1.mag.v;have E4:=F3.bk D4 hrs2;obtain⟨E5,F5⟩:=E4.put2 (.bool m2.neg) m2.mag.v;have E6:=F5.bk E3 hrs;have R1:=I ((HR3.fr F3 D3 (bf _ _ _ _)).fr F5 E4 (bf _ _ _ _));have R2:=I ((HR4.fr F3 D3 (bf _ _ _ _)).fr F5 E4 (bf _ _ _ _));have HGF:=I (((hF.trans HG6).fr_at F3 (by rw[hPE.out];exact hle.out)).fr_at F5 (by rw[hPE.out];exact hls.out));obtain⟨d0,d1⟩:=E6.c2;obtain⟨e0,e1⟩:=E5.c2;clear E3 E4 E5 E6 F3 F5;go_wp2;generalize (((w6.setCell ⟨r,0,none⟩ (.bool m1.neg)).setCell ⟨r,1,none⟩ m1.mag.v).setCell ⟨s,0,none⟩ (.bool m2.neg)).setCell ⟨s,1,none⟩ m2.mag.v=W5 at*;refine pex ?_;refine bodyPost_ret (by simp[results,Tryz.results179,go_sem,d0,d1,e0,e1];try rfl) rfl ?_;exact⟨m1,m2,rfl,R1.out,R2.out,HGF.out⟩
theorem Two.len {x y:Q} (h:Two x y):(a7 (x.un*y.un)).length≤1000000:=nt (bh _ _) (nt (Nat.add_le_add h.1 h.2) dx)
theorem a7v {x y:Q} (h:Two x y):Sl x.un:=h.1
theorem a4b {x y:Q} (h:Two x y):Sl y.un:=h.2
theorem kl {x:Q} (h:Sl x.un):(a7 x.den).length≤100000:=by
 refine nt (aq ?_) h;unfold Q.un;split<;>omega
theorem yt {n:Nat} (h:Sl n):(a7 n).length≤100000:=h
theorem nc {m n:Nat} (hm:(a7 m).length≤100000) (hn:Sl n):(a7 (m*n)).length≤200000:=nt (bh m n) (Nat.add_le_add hm hn)
theorem acw (s t:Bool) (m n:Nat) (hm:(a7 m).length≤200000) (hn:(a7 n).length≤200000):(a7 (sadd s m t n).2).length≤200001:=by
 unfold sadd;split
 ·exact du m n _ hm hn
 ·split
  ·exact nt (aq (Nat.sub_le n m)) (nt hn dx)
  ·exact nt (aq (Nat.sub_le m n)) (nt hm dx)
theorem a50 (w:World) (a b:Rv) (x y:Q) (ha:a.Is w x) (hb:b.Is w y) (h1:(a7 x.num).length≤100000) (h2:(a7 y.num).length≤100000) (h3:Two x y):
  Calls Tryz.prog 229 #[a.v,b.v] w fun e w'=>∃r:Rv,e=.returned r.v∧r.Is w' (Q.add x y)∧Gr w w':=by
 obtain⟨B1,B2,B3,G⟩:=a7g w 35 35 35 a.ar b.ar Rl;have HA:=I (ha.gr G);have HB:=I (hb.gr G);have HG:=I G;have hB1:=I B1;have hB2:=I B2;have hB3:=I B3;have U1:=I (a7v h3);have U2:=I (a4b h3);have U3:=I h3.len;have L1:=I (nc h1 U2);have L2:=I (nc h2 U1);have HX:=I (a2h _ a b x y HA HB (nt h1 dx) (nt h2 dx) (nt (kl U1) dx) (nt (kl U2) dx));have hE:Hid (Q.add x y=quot (sadd (x.sg&&decide (0 < x.num*y.un)) (x.num*y.un) (y.sg&&decide (0 < y.num*x.un)) (y.num*x.un)).1 (sadd (x.sg&&decide (0 < x.num*y.un)) (x.num*y.un) (y.sg&&decide (0 < y.num*x.un)) (y.num*x.un)).2 (x.un*y.un)):=rfl;have a0_:=B1.c3;have b0_:=B2.c3;clear ha hb h1 h2 h3 B1 B2 B3 G;simp only[Rv.v] at*;generalize (x.sg&&decide (0 < x.num*y.un))=s1 at*;generalize (y.sg&&decide (0 < y.num*x.un))=s2 at*;generalize x.num*y.un=m1 at*;generalize y.num*x.un=m2 at*;go_enter Tryz.func229,Tryz.ntmps229;go_wp2_with fail;refine HX.mono ?_;rintro e w1 ⟨x1,x2,rfl,hx1,hx2,G1⟩;obtain⟨D1,D2,G2⟩:=a3o w1 118 118 #[.bool x1.neg,x1.mag.v] #[.bool x2.neg,x2.mag.v];have HI:=I (af8 _ x1 x2 _ _ _ _ (hx1.gr G2) (hx2.gr G2) (nt L1 dx) (nt L2 dx));have HG2:=I ((HG.trans G1).trans G2);have HGa:=I (G1.trans G2);have x10_:=D1.c2;have x20_:=D2.c2;have HL:=I (acw s1 s2 m1 m2 L1 L2);clear hx1 hx2 G1 G2 D1 D2 HX a0_ b0_;simp only[Iv.v] at*;go_wp2_with fail;refine cm2 HI fun sm w3 hsm G3=>?_
 have D3:=Bk.made w3 118 #[.bool sm.neg,sm.mag.v];have G4:=(Gr.refl w3).alloc (.cells #[.bool sm.neg,sm.mag.v] 118);have HSM:=I (hsm.gr G4);have HG4:=I ((HG2.trans G3).trans G4);have HGb:=I ((HGa.trans G3).trans G4);have C1:=I (HGb.bk hB1);have C2:=I (HGb.bk hB2);have C3:=I (HGb.bk hB3);have HA4:=I (HA.gr HGb);have HB4:=I (HB.gr HGb);have C4:=I D3;have hpo:Hid (w.heap.size≤w.heap.size+1+1):=nt (Nat.le_succ _) (Nat.le_succ _);have hlt:=C3.lt;rw[World.size_alloc] at hlt;clear hsm G4 HI D3 HG2 HGa HGb HA HB hB1 hB2 hB3 HG x10_ x20_;go_wp2_with fail;have h9:¬w.heap.size=w.heap.size+1+1:=by omega
 have h8:¬w.heap.size+1=w.heap.size+1+1:=by omega
 have h7:¬w3.heap.size=w.heap.size+1+1:=fun e=>Bk.ne C4 C3 dx e
 generalize hW:w3.alloc (.cells #[.bool sm.neg,sm.mag.v] 118)=W at*;clear hW hlt;generalize w.heap.size+1+1=r at*;generalize w.heap.size+1=q at*;generalize hp:w.heap.size=p at*;have hPE:=I hp;clear hp;generalize w3.heap.size=g at*;have h6:¬r=p:=fun e=>h9 e.symm
 have h5:¬r=q:=fun e=>h8 e.symm
 have h4:¬r=g:=fun e=>h7 e.symm
 have a0_:=C1.c3;have b0_:=C2.c3;have z0_:=C4.c2;have HG0:Hid (Gr W W.drew):=(Gr.refl W).drew;have HU1:=I (jj W.drew a x (HA4.gr HG0) (nt (kl U1) dx));have HU2:Hid (∀W2,Gr W W2→Calls Tryz.prog 217 #[b.v] W2 fun e w'=>∃y':Sv,e=.returned y'.v∧y'.Num w' (a7 y.un)∧Gr W2 w'):=fun W2 G=>jj W2 b y (HB4.gr G) (nt (kl U2) dx)
 simp only[Rv.v] at HU1 HU2
 first | (go_region_held3 (fun W=>W.cell? ⟨p,0,none⟩=some (.bool a.neg)∧W.cell? ⟨p,1,none⟩=some a.num.v∧W.cell? ⟨p,2,none⟩=some a.den.v∧W.cell? ⟨q,0,none⟩=some (.bool b.neg)∧W.cell? ⟨q,1,none⟩=some b.num.v∧W.cell? ⟨q,2,none⟩=some b.den.v∧W.cell? ⟨g,0,none⟩=some (.bool sm.neg)∧W.cell? ⟨g,1,none⟩=some sm.mag.v)
   (first | go_keep | exact⟨hk1.1.1,hk1.1.2.1,hk1.1.2.2,hk1.2.1.1,hk1.2.1.2.1,hk1.2.1.2.2,hk1.2.2.1,hk1.2.2.2⟩ | exact⟨hk2.1.1,hk2.1.2.1,hk2.1.2.2,hk2.2.1.1,hk2.2.1.2.1,hk2.2.1.2.2,hk2.2.2.1,hk2.2.2.2⟩ | exact⟨hk3.1.1,hk3.1.2.1,hk3.1.2.2,hk3.2.1.1,hk3.2.1.2.1,hk3.2.1.2.2,hk3.2.2.1,hk3.2.2.2⟩ | exact⟨hk4.1.1,hk4.1.2.1,hk4.1.2.2,hk4.2.1.1,hk4.2.1.2.1,hk4.2.1.2.2,hk4.2.2.1,hk4.2.2.2⟩)
   (first | (go_at_call 216;refine (HQ.out).mono ?_;rintro e w7 ⟨i,rfl,hi,G8⟩;have HG8:=I (HG7.out.trans G8);have hk4:=ai (HG8.out.bk C1.out).c3 (ai (HG8.out.bk C2.out).c3 (HG8.out.bk C4.out).c2);have HBs:=I (HG8.out.bk C3.out);obtain⟨r0,r1,r2⟩:=HBs.out.c3;have fz:=HBs.out.frozen;have HII:=I hi;clear hi G8) | (go_at_call 270;refine (HM.out).mono ?_;rintro e w6 ⟨z,rfl,hz,G7⟩;have HG7:=I (HG6.out.trans G7);have hk3:=ai (HG7.out.bk C1.out).c3 (ai (HG7.out.bk C2.out).c3 (HG7.out.bk C4.out).c2);have HQ:=I (ud w6 sm.neg sm.mag z _ _ (HSM.out.mag.gr HG7.out) hz (nt HL.out dx) (Nat.mul_pos x.un_pos y.un_pos) U3.out);clear hz G7) | (go_at_call 217;refine ((HU2.out w4 HG5.out)).mono ?_;rintro e w5 ⟨v,rfl,hv,G6⟩;have HG6:=I (HG5.out.trans G6);have hk2:=ai (HG6.out.bk C1.out).c3 (ai (HG6.out.bk C2.out).c3 (HG6.out.bk C4.out).c2);have HM:=I (zv w5 u v _ _ (HNU.out.gr G6) hv (nt (yt U1.out) dx) (nt (yt U2.out) dx));rw[vl,vl] at HM;clear hv G6) | (go_at_call 217;refine (HU1.out).mono ?_;rintro e w4 ⟨u,rfl,hu,G5⟩;have HG5:=I (HG0.out.trans G5);have hk1:=ai (HG5.out.bk C1.out).c3 (ai (HG5.out.bk C2.out).c3 (HG5.out.bk C4.out).c2);have HNU:=I hu;clear hu G5))) | fail
 go_wp2;refine pex ?_;refine ks HBs fun W5 B5 F5=>?_
 have d_:=B5.c3;refine bret Tryz.results229 ?_;exact⟨i,rfl,by rw[hE.out,← HSM.neg];exact HII.fr F5 HBs (b7 _ _ _ _ _ _ _),(HG4.trans HG8).fr_at F5 (by rw[hPE.out];exact hpo.out)⟩
theorem acy (w:World) (a b:Rv) (x y:Q) (ha:a.Is w x) (hb:b.Is w y) (h1:(a7 x.num).length≤100000) (h2:(a7 y.num).length≤100000) (h3:Two x y):
  Calls Tryz.prog 230 #[a.v,b.v] w fun e w'=>∃r:Rv,e=.returned r.v∧r.Is w' (Q.mul x y)∧Gr w w':=by
 have U1:=I (a7v h3);have U2:=I (a4b h3);have U3:=I h3.len;have L1:=I h1;have L2:=I h2;have hE:Hid (Q.mul x y=quot (x.neg != y.neg) (x.num*y.num) (x.un*y.un)):=rfl;have N1:=I ha.neg;have N2:=I hb.neg;have HL:Hid ((a7 (x.num*y.num)).length≤1000000):=nt (bh _ _) (nt (Nat.add_le_add h1 h2) dx);clear h1 h2 h3;simp only[Rv.v] at*;go_enter Tryz.func230,Tryz.ntmps230;go_wp2_with fail;have h9:¬w.heap.size=w.heap.size+1+1:=by omega
 have h8:¬w.heap.size+1=w.heap.size+1+1:=by omega
 have hpo:Hid (w.heap.size≤w.heap.size+1+1):=nt (Nat.le_succ _) (Nat.le_succ _);refine nw3h fun W HG4 C1 C2 C3=>?_
 have HA4:=I (ha.gr HG4);have HB4:=I (hb.gr HG4);clear ha hb;generalize w.heap.size+1+1=r at*;generalize w.heap.size+1=q at*;generalize hp:w.heap.size=p at*;have hPE:=I hp;clear hp;have h6:¬r=p:=fun e=>h9 e.symm
 have h5:¬r=q:=fun e=>h8 e.symm
 have a0_:=C1.c3;have b0_:=C2.c3;have HG0:Hid (Gr W W.drew):=(Gr.refl W).drew;have HM0:=I (zv W.drew a.num b.num _ _ (HA4.num.gr HG0) (HB4.num.gr HG0) (nt L1 dx) (nt L2 dx));rw[vl,vl] at HM0;have HU1:Hid (∀W2,Gr W W2→Calls Tryz.prog 217 #[a.v] W2 fun e w'=>∃y':Sv,e=.returned y'.v∧y'.Num w' (a7 x.un)∧Gr W2 w'):=fun W2 G=>jj W2 a x (HA4.gr G) (nt (kl U1) dx)
 have HU2:Hid (∀W2,Gr W W2→Calls Tryz.prog 217 #[b.v] W2 fun e w'=>∃y':Sv,e=.returned y'.v∧y'.Num w' (a7 y.un)∧Gr W2 w'):=fun W2 G=>jj W2 b y (HB4.gr G) (nt (kl U2) dx)
 simp only[Rv.v] at HU1 HU2
 first | (go_region_held3 (fun W=>W.cell? ⟨p,0,none⟩=some (.bool a.neg)∧W.cell? ⟨p,1,none⟩=some a.num.v∧W.cell? ⟨p,2,none⟩=some a.den.v∧W.cell? ⟨q,0,none⟩=some (.bool b.neg)∧W.cell? ⟨q,1,none⟩=some b.num.v∧W.cell? ⟨q,2,none⟩=some b.den.v)
   (first | go_keep | exact⟨hk0.1.1,hk0.1.2.1,hk0.1.2.2,hk0.2.1,hk0.2.2.1,hk0.2.2.2⟩ | exact⟨hk1.1.1,hk1.1.2.1,hk1.1.2.2,hk1.2.1,hk1.2.2.1,hk1.2.2.2⟩ | exact⟨hk2.1.1,hk2.1.2.1,hk2.1.2.2,hk2.2.1,hk2.2.2.1,hk2.2.2.2⟩ | exact⟨hk3.1.1,hk3.1.2.1,hk3.1.2.2,hk3.2.1,hk3.2.2.1,hk3.2.2.2⟩ | exact⟨hk4.1.1,hk4.1.2.1,hk4.1.2.2,hk4.2.1,hk4.2.2.1,hk4.2.2.2⟩)
   (first | (go_at_call 216;refine (HQ.out).mono ?_;rintro e w7 ⟨i,rfl,hi,G8⟩;have HG8:=I (HG7.out.trans G8);have hk4:=ai (HG8.out.bk C1.out).c3 (HG8.out.bk C2.out).c3;have HBs:=I (HG8.out.bk C3.out);obtain⟨r0,r1,r2⟩:=HBs.out.c3;have fz:=HBs.out.frozen;have HII:=I hi;clear hi G8) | (go_at_call 270;refine (HM.out).mono ?_;rintro e w6 ⟨z,rfl,hz,G7⟩;have HG7:=I (HG6.out.trans G7);have hk3:=ai (HG7.out.bk C1.out).c3 (HG7.out.bk C2.out).c3;have HQ:=I (ud w6 (a.neg != b.neg) m z _ _ (HNM2.out.gr G7) hz HL.out (Nat.mul_pos x.un_pos y.un_pos) U3.out);clear hz G7) | (go_at_call 217;refine ((HU2.out w4 HG5.out)).mono ?_;rintro e w5 ⟨v,rfl,hv,G6⟩;have HNM2:=I (HNM1.out.gr G6);have HG6:=I (HG5.out.trans G6);have hk2:=ai (HG6.out.bk C1.out).c3 (HG6.out.bk C2.out).c3;have HM:=I (zv w5 u v _ _ (HNU.out.gr G6) hv (nt (yt U1.out) dx) (nt (yt U2.out) dx));rw[vl,vl] at HM;clear hv G6) | (go_at_call 217;refine ((HU1.out w3 HG3.out)).mono ?_;rintro e w4 ⟨u,rfl,hu,G5⟩;have HNM1:=I (HNM.out.gr G5);have HG5:=I (HG3.out.trans G5);have hk1:=ai (HG5.out.bk C1.out).c3 (HG5.out.bk C2.out).c3;have HNU:=I hu;clear hu G5) | (go_at_call 270;refine (HM0.out).mono ?_;rintro e w3 ⟨m,rfl,hm,G4⟩;have HG3:=I (HG0.out.trans G4);have hk0:=ai (HG3.out.bk C1.out).c3 (HG3.out.bk C2.out).c3;have HNM:=I hm;clear hm G4))) | fail
 go_wp2;refine pex ?_;refine ks HBs fun W5 B5 F5=>?_
 have d_:=B5.c3;refine bret Tryz.results230 ?_;exact⟨i,rfl,by rw[hE.out,← N1.out,← N2.out];exact HII.fr F5 HBs (b7 _ _ _ _ _ _ _),(HG4.trans HG8).fr_at F5 (by rw[hPE.out];exact hpo.out)⟩
theorem a7q (w:World) (a:Iv) (s:Bool) (m:Nat) (ha:a.Is w s m) (hl:(a7 m).length≤1000000):
  Calls Tryz.prog 224 #[a.v] w fun e w'=>∃r:Rv,e=.returned r.v∧r.Is w' (quot s m 1)∧Gr w w':=by
 have HL:=I hl;clear hl;simp only[Iv.v];go_enter Tryz.func224,Tryz.ntmps224;go_wp2_with fail;refine nw2h fun W HG C1 C2=>?_
 have HA:=I (ha.gr HG);clear ha;have hpr:¬w.heap.size=w.heap.size+1:=by omega
 have hle:Hid (w.heap.size≤w.heap.size+1):=Nat.le_succ _;generalize w.heap.size+1=r at*;generalize hp:w.heap.size=p at*;have hPE:=I hp;clear hp;have hpr2:¬r=p:=fun e=>hpr e.symm
 have a0_:=C1.c2;have HG0:Hid (Gr W W.drew):=(Gr.refl W).drew;have HO:=I (aan W.drew)
 first | (go_region_held3 (fun W=>W.cell? ⟨p,0,none⟩=some (.bool a.neg)∧W.cell? ⟨p,1,none⟩=some a.mag.v)
   (first | go_keep | exact⟨hk1.1,hk1.2⟩ | exact⟨hk2.1,hk2.2⟩)
   (first | (go_at_call 216;refine (HQ.out).mono ?_;rintro e w2 ⟨i,rfl,hi,G2⟩;have HG2:=I (HG1.out.trans G2);have hk2:=(HG2.out.bk C1.out).c2;have HBs:=I (HG2.out.bk C2.out);obtain⟨r0,r1,r2⟩:=HBs.out.c3;have fz:=HBs.out.frozen;have HII:=I hi;clear hi G2) | (go_at_call 269;refine (HO.out).mono ?_;rintro e w1 ⟨u,rfl,hu,G1⟩;have HG1:=I (HG0.out.trans G1);have hk1:=(HG1.out.bk C1.out).c2;have HQ:=I (ud w1 a.neg a.mag u _ 1 (HA.out.mag.gr HG1.out) hu HL.out dx (by rw[fi dx dx];decide));clear hu G1))) | fail
 go_wp2;refine pex ?_;refine ks HBs fun W5 B5 F5=>?_
 have d_:=B5.c3;refine bret Tryz.results224 ?_;exact⟨i,rfl,by rw[← HA.neg];exact HII.fr F5 HBs (b7 _ _ _ _ _ _ _),(HG.trans HG2).fr_at F5 (by rw[hPE.out];exact hle.out)⟩
def ofQ (x:Int):Q:=⟨decide (x < 0),x.natAbs,0⟩
theorem adp (x:Int):quot (decide (x < 0)) x.natAbs 1=ofQ x:=by
 unfold quot ofQ;by_cases h:x.natAbs=0
 ·have:x=0:=by omega
  subst this;rfl
 ·rw[if_neg h,Nat.gcd_one_right,Nat.div_one];rfl
theorem ahq (w:World) (x:Int) (h1:-1000000000≤x) (h2:x≤1000000000):
  Calls Tryz.prog 188 #[.int .i64 x] w fun e w'=>∃r:Rv,e=.returned r.v∧r.Is w' (ofQ x)∧Gr w w':=by
 have B1:=Bk.made w 35 Rl;have HG:=I ((Gr.refl w).alloc (.cells Rl 35));have C1:=I B1;have HI:=I (fun W=>ajz W x h1 h2);have HL:Hid ((a7 x.natAbs).length≤1000000):=nt (b8 (k:=1) (by rw[Nat.pow_one,ba];omega)) dx;have hE:=I (adp x);clear B1;go_enter Tryz.func188,Tryz.ntmps188;go_wp2_with fail;refine cm2 (HI.out _) fun i w1 hi G1=>?_
 have HG1:=I (HG.trans G1);have C2:=I (G1.bk C1);have HW:=I (a7q w1 i _ _ hi HL);rw[hE.out] at HW;clear hi HI C1;go_wp2_with fail;refine cm1 HW fun j w2 HII G2=>?_
 have HG2:=I (HG1.trans G2);have HBs:=I (G2.bk C2);have r0_:=HBs.c3;have fz:=HBs.frozen;clear HW C2;generalize hp:w.heap.size=r at*;have hPE:=I hp;clear hp;go_wp2;refine pex ?_;refine ks HBs fun W5 B5 F5=>?_
 have d_:=B5.c3;refine bret Tryz.results188 ?_;exact⟨j,rfl,HII.fr F5 HBs (b7 _ _ _ _ _ _ _),HG2.fr_at F5 (Nat.le_of_eq hPE)⟩
theorem a7c (w:World) (x:Sv) (m:Nat) (hx:x.Num w (a7 m)):
  Calls Tryz.prog 176 #[x.v] w fun e w'=>e=.returned (.bool true)∧Gr w w':=by
 obtain⟨A,n,c⟩:=x;have hn:=hx.len;simp only at hn;have hc9:=hx.is.max;have hcn:=hx.is.cap;simp only at hc9 hcn;cases n with
 | zero=>
  go_enter Tryz.func176,Tryz.ntmps176;go_wp2;go_ret;exact⟨rfl,Gr.refl w⟩
 | succ j=>
  obtain⟨p,ad,hp,hp9,hAe,hbl,d1⟩:=hx.at (i:=j) (Nat.lt_succ_self j);simp only at hAe;subst hAe;have hp0:p≠0:=by
   have:=si m p;rw[List.getLast?_eq_getElem?,hn] at this;exact this hp
  have hpd:((p:Int) != 0)=true:=by simp;omega
  have hnd:(((j+1:Nat):Int) == 0)=false:=by simp;omega
  have hw1:IntKind.i64.wrap (((j+1:Nat):Int) - 1)=(j:Int):=by rw[wi _ om];omega
  clear hp hbl hn hx;go_enter Tryz.func176,Tryz.ntmps176;go_wp2;go_ret;exact⟨rfl,Gr.refl w⟩
theorem ah5 {a b:Nat} (h:a=b):((a:Int) == (b:Int))=true:=by simp[h]
theorem a6t (w:World) (a:Rv) (q:Q) (ha:a.Is w q) (hq:q.Ok) (hl:(a7 q.num).length≤1000000) (hd:Sl q.un):
  Calls Tryz.prog 126 #[a.v] w fun e w'=>e=.returned (.bool true)∧Gr w w':=by
 have B1:=Bk.made w 35 a.ar;have HG:=I ((Gr.refl w).alloc (.cells a.ar 35));have C1:=I B1;have HA:=I (ha.gr HG);have a0_:=B1.c3;have HNV:=I (a7c _ a.num _ HA.num);have HC:=I (xg _ a q HA hl hd);rw[jl hq] at HC;have hln:Hid (a.num.n=(a7 q.num).length):=ha.num.len.symm;have hld:Hid (a.den.n=(a7 q.den).length):=ha.den.len.symm;have HNN:=I ha.neg;clear ha hl hd B1;simp only[Rv.v] at*;by_cases h0:q.den=0
 ·have hdd:((a.den.n:Int) == 0)=true:=by
   have hd0:a.den.n=0:=by rw[hld.out,h0,al];rfl
   simp[hd0]
  clear h0;go_enter Tryz.func126,Tryz.ntmps126;go_wp2_with fail;go_at_call 176
  refine cm0 HNV fun w1 G1=>?_
  have HG1:=I (HG.trans G1);obtain⟨b0,b1,b2⟩:=(G1.bk C1).c3;clear HNV HC C1 HG a0_;cases hs:a.neg
  ·rw[hs] at b0;go_wp2;go_ret;exact⟨rfl,HG1.out⟩
  ·rw[hs] at b0;have hn0:0 < a.num.n:=by
    rw[hln.out];refine Nat.pos_of_ne_zero fun e=>?_
    have h:=(hq.pos (bw.1 e)).1;rw[← HNN.out,hs] at h;cases h
   have hn1:decide ((0:Int) < a.num.n)=true:=by simp;omega
   go_wp2;go_ret;exact⟨rfl,HG1.out⟩
 ·have hdd:((a.den.n:Int) == 0)=false:=by
   have hd0:a.den.n≠0:=by rw[hld.out];exact fun e=>h0 (bw.1 e)
   simp;omega
  clear h0;go_enter Tryz.func126,Tryz.ntmps126;go_wp2_with fail;go_at_call 177
  refine cm2 HC fun c w1 hc G1=>?_
  have D1:=Bk.made w1 35 c.ar;have G2:=(Gr.refl w1).alloc (.cells c.ar 35);have HG1:=I ((HG.trans G1).trans G2);have C2:=I ((G1.trans G2).bk C1);have C3:=I D1;have HA2:=I ((HA.gr G1).gr G2);have HC2:=I (hc.gr G2);have e1:((a.num.n:Int) == (c.num.n:Int))=true:=ah5 (hln.trans hc.num.len);have e2:((a.den.n:Int) == (c.den.n:Int))=true:=ah5 (hld.trans hc.den.len);have e3:(a.neg == c.neg)=true:=by rw[HNN.out,hc.neg];simp
  have HK1:=I (m5 _ a.num c.num _ _ HA2.num HC2.num);rw[vl,a0o] at HK1;obtain⟨b0,b1,b2⟩:=C2.c3;have c0_:=C3.c3;clear hc G2 D1 HC HNV C1 HG a0_ HA;go_wp2_with fail;go_at_call 178
  refine cm0 HK1 fun w2 G2=>?_
  have HG2:=I (HG1.trans G2);have HK2:=I (m5 w2 a.den c.den _ _ (HA2.den.gr G2) (HC2.den.gr G2));rw[vl,a0o] at HK2;obtain⟨f0,f1,f2⟩:=(G2.bk C2).c3;obtain⟨g0,g1,g2⟩:=(G2.bk C3).c3;clear HK1 b0 b1 b2 c0_;go_wp2_with fail;go_at_call 178
  refine cm0 HK2 fun w3 G3=>?_
  have HG3:=I (HG2.trans G3);clear HK2;go_wp2;go_ret;exact⟨rfl,HG3.out⟩
end
abbrev Tm:=Int×Q
structure Fm where
 terms:List Tm
 const:Q
 deriving DecidableEq,Inhabited
def Tm.Ok (vars:Nat) (t:Tm):Prop:=0≤t.1∧t.1 < vars∧t.2.num≠0∧t.2.Ok
instance (vars:Nat) (t:Tm):Decidable (Tm.Ok vars t):=by unfold Tm.Ok;infer_instance
structure Fm.Ok (f:Fm) (vars:Nat):Prop where
 asc:∀(i:Nat) (s t:Tm),f.terms[i]?=some s→f.terms[i+1]?=some t→s.1 < t.1
 each:∀t∈f.terms,Tm.Ok vars t
 const:f.const.Ok
def snoc (l:List Tm) (v:Int) (c:Q):List Tm:=if c.num=0 then l else l++[(v,c)]
theorem Fm.Ok.mono {f:Fm} {a b:Nat} (h:f.Ok a) (hab:a≤b):f.Ok b:=⟨h.asc,fun t ht=>by
 obtain⟨h1,h2,h3⟩:=h.each t ht;exact⟨h1,by omega,h3⟩,h.const⟩
theorem Fm.Ok.snoc {l:List Tm} {k c:Q} {v:Nat} (h:Fm.Ok ⟨l,k⟩ v) (hc:c.Ok):Fm.Ok ⟨snoc l v c,k⟩ (v+1):=by
 unfold Go.Proofs.YtbhbainhmfjpdaaGreatDoor.snoc;split
 ·exact h.mono (by omega)
 ·rename_i h0
  refine⟨fun i s t hs ht=>?_,fun t ht=>?_,h.const⟩
  ·simp only at hs ht;have hi:=(List.getElem?_eq_some_iff.1 ht).1;rw[List.length_append,List.length_singleton] at hi;rw[List.getElem?_append_left (by omega)] at hs;rcases Nat.lt_or_ge (i+1) l.length with h1 | h1
   ·rw[List.getElem?_append_left h1] at ht;exact h.asc i s t hs ht
   ·rw[List.getElem?_append_right h1,show i+1 - l.length=0 by omega] at ht;obtain rfl:(((v:Int),c):Tm)=t:=by simpa using ht
    have:=(h.each s (List.mem_of_getElem? hs)).2.1;simpa using this
  ·rcases List.mem_append.1 ht with h1 | h1
   ·exact (h.mono (by omega)).each t h1
   ·rw[List.mem_singleton.1 h1];exact⟨by simp only;omega,by simp only;omega,h0,hc⟩
structure Tv where
 var:Int
 coef:Rv
def Tv.cs (t:Tv):List Value:=[.int .i64 t.var,.bool t.coef.neg,.slice t.coef.num.A t.coef.num.n t.coef.num.c,.slice t.coef.den.A t.coef.den.n t.coef.den.c]
structure Tv.Is (w:World) (t:Tv) (x:Tm):Prop where
 var:t.var=x.1
 coef:t.coef.Is w x.2
abbrev ao1 (w:World) (x:Sv) (l:List Tm):Prop:=Rows Tv.cs Tv.Is 138 4 w x l
structure Fv where
 terms:Sv
 const:Rv
def Fv.cs (f:Fv):List Value:=[.slice f.terms.A f.terms.n f.terms.c,.bool f.const.neg,.slice f.const.num.A f.const.num.n f.const.num.c,.slice f.const.den.A f.const.den.n f.const.den.c]
structure Fv.Is (w:World) (f:Fv) (x:Fm):Prop where
 terms:ao1 w f.terms x.terms
 const:f.const.Is w x.const
theorem Rv.Is.tf' {w w':World} {f:Rv} {x:Q} {p t:Nat} {us:Array Value} (h:f.Is w x) (F:Fr (fun b=>b=p) w w') (hb:Bk w p t us) (h2:t≠200:=by decide):f.Is w' x:=
 h.tf F (fun b cs fr e hh=>Bk.not_ty hb h2 cs fr (e▸hh))
structure Q.Bd (q:Q) (n d:Nat):Prop where
 num:(a7 q.num).length≤n
 den:(a7 q.un).length≤d
theorem aby (s:Bool) (a d:Nat) (hd:0 < d):(Q.mk s a (den0 d)).un=d:=by
 unfold Q.un den0;by_cases h:d=1
 ·rw[if_pos h];exact (if_pos rfl).trans h.symm
 ·rw[if_neg h];exact if_neg (Nat.ne_of_gt hd)
theorem an2:(a7 1).length=1:=by rw[fi dx dx];rfl
theorem ab2 {b:Nat} (h:0 < b):1≤(a7 b).length:=by
 rcases Nat.eq_zero_or_pos (a7 b).length with e | e
 ·have:=bw.1 e;omega
 ·exact e
theorem vp (s:Bool) {a b n d:Nat} (ha:(a7 a).length≤n) (hb0:0 < b) (hb:(a7 b).length≤d):(quot s a b).Bd n d:=by
 unfold quot;split
 ·exact⟨by rw[show (Q.zero).num=0 from rfl,al];exact nq _,nt (by rw[show (Q.zero).un=1 from rfl,an2];exact ab2 hb0) hb⟩
 ·rename_i h0
  have hg:=Nat.gcd_pos_of_pos_left b (Nat.pos_of_ne_zero h0);have hd2:0 < b / Nat.gcd a b:=Nat.div_pos (Nat.le_of_dvd hb0 (Nat.gcd_dvd_right ..)) hg;refine⟨nt (aq (Nat.div_le_self _ _)) ha,?_⟩;rw[aby _ _ _ hd2];exact nt (aq (Nat.div_le_self _ _)) hb
theorem Q.Bd.mul {x y:Q} {n d m e:Nat} (h:x.Bd n d) (k:y.Bd m e):(Q.mul x y).Bd (n+m) (d+e):=
 vp _ (nt (bh _ _) (Nat.add_le_add h.num k.num)) (Nat.mul_pos x.un_pos y.un_pos) (nt (bh _ _) (Nat.add_le_add h.den k.den))
theorem Q.Bd.add {x y:Q} {n d m e:Nat} (h:x.Bd n d) (k:y.Bd m e):(Q.add x y).Bd (n+m+d+e+1) (d+e):=by
 have h1:(a7 (x.num*y.un)).length≤n+m+d+e:=nt (bh _ _) (by have:=h.num;have:=k.den;omega);have h2:(a7 (y.num*x.un)).length≤n+m+d+e:=nt (bh _ _) (by have:=k.num;have:=h.den;omega);unfold Q.add;refine vp _ ?_ (Nat.mul_pos x.un_pos y.un_pos) (nt (bh _ _) (Nat.add_le_add h.den k.den));unfold sadd;split
 ·exact du _ _ _ h1 h2
 ·split
  ·exact nt (aq (Nat.sub_le _ _)) om
  ·exact nt (aq (Nat.sub_le _ _)) om
structure Q.Lo (q:Q):Prop where
 num:(a7 q.num).length≤10000
 den:(a7 q.un).length≤10000
theorem Q.Lo.bd {q:Q} (h:q.Lo):q.Bd 10000 10000:=⟨h.num,h.den⟩
def ci (q:Q):Q:=quot q.neg q.num q.un
theorem Q.Bd.canon {x:Q} {n d:Nat} (h:x.Bd n d):(ci x).Bd n d:=vp _ h.num x.un_pos h.den
theorem l5 {q:Q} (h:q.Ok):ci q=q:=jl h
theorem vc (q:Q):(q.sign != 0)=!decide (q.num=0):=by
 unfold Q.sign;by_cases h:q.num=0
 ·simp[h]
 ·rw[if_neg h];cases q.neg<;>simp[h]
section
variable {α β:Type} {cs:β→List Value} {Is:World→β→α→Prop} {e k:Nat} {w w':World} {B:Nat} {x:Sv} {xs:List α}
end
def Rv.At (q:Q) (v:Value) (W:World):Prop:=∃r:Rv,v=r.v∧r.Is W q
theorem Rv.At.gr {W W':World} {v:Value} {q:Q} (h:Rv.At q v W) (G:Gr W W'):Rv.At q v W':=by
 obtain⟨r,e,hr⟩:=h;exact⟨r,e,hr.gr G⟩
theorem aoo (w:World) (t0:TypeId) (a0:Array Value):Bk (w.alloc (.cells a0 t0)) w.heap.size t0 a0∧Gr w (w.alloc (.cells a0 t0)):=⟨Bk.made w t0 a0,(Gr.refl w).alloc _⟩
def lenOf:Value→Nat
 | .slice _ n _=>n
 | _=>0
def NewAt (t:TypeId) (cs:Array Value) (N:Nat) (v:Value) (W:World):Prop:=∃b,v=.pointer (some ⟨b,0,Option.none⟩)∧Bk W b t cs∧N≤b
theorem NewAt.gr {W W':World} {v:Value} {t N:Nat} {cs:Array Value} (h:NewAt t cs N v W) (G:Gr W W'):NewAt t cs N v W':=by
 obtain⟨b,e,h1,h2⟩:=h;exact⟨b,e,G.bk h1,h2⟩
theorem NewAt.made (W:World) (t:TypeId) (cs:Array Value) (N:Nat) (h:N≤W.heap.size):NewAt t cs N (.pointer (some ⟨W.heap.size,0,Option.none⟩)) (W.alloc (.cells cs t)):=⟨_,rfl,Bk.made _ _ _,h⟩
section
attribute [local go_sem] Oper.semAt_some
theorem Bk.c5 {w:World} {p t:Nat} {a b c d e:Value} (h:Bk w p t #[a,b,c,d,e]):w.cell? ⟨p,0,none⟩=some a∧w.cell? ⟨p,1,none⟩=some b∧w.cell? ⟨p,2,none⟩=some c∧w.cell? ⟨p,3,none⟩=some d∧w.cell? ⟨p,4,none⟩=some e:=⟨h.cell 0,h.cell 1,h.cell 2,h.cell 3,h.cell 4⟩
end
section
variable {P:Program} {t e size bytes:Nat}
end
section
attribute [local go_sem] Oper.semAt_some
structure Rw where
 kind:Int
 index:Int
 lo:Int
 hi:Int
 deriving DecidableEq,Inhabited
structure Mv where
 row:Rw
 coef:Rv
abbrev Mm:=Rw×Q
abbrev Mv.ar (t:Mv):Array Value:=#[.int .i64 t.row.kind,.int .i64 t.row.index,.int .i64 t.row.lo,.int .i64 t.row.hi,.bool t.coef.neg,.slice t.coef.num.A t.coef.num.n t.coef.num.c,.slice t.coef.den.A t.coef.den.n t.coef.den.c]
attribute [go_sem] Mv.ar
end
def putT (l:List Tm) (v:Int) (q:Q):List Tm:=if q.num=0 then l else l++[(v,ci q)]
theorem a9k (l:List Tm) (v:Int) {q:Q} (h:q.Ok):putT l v q=snoc l v q:=by unfold putT snoc;rw[l5 h]
def mrgT (c:Q):Nat→List Tm→List Tm→List Tm→List Tm
 | 0,_,_,acc=>acc
 | _+1,[],[],acc=>acc
 | n+1,s::la,[],acc=>mrgT c n la [] (putT acc s.1 s.2)
 | n+1,[],t::lb,acc=>mrgT c n [] lb (putT acc t.1 (Q.mul t.2 c))
 | n+1,s::la,t::lb,acc=>if s.1 < t.1 then mrgT c n la (t::lb) (putT acc s.1 s.2) else if t.1 < s.1 then mrgT c n (s::la) lb (putT acc t.1 (Q.mul t.2 c)) else mrgT c n la lb (putT acc s.1 (Q.add s.2 (Q.mul t.2 c)))
def mrg (f g:Fm) (c:Q):Fm:=⟨mrgT c (f.terms.length+g.terms.length) f.terms g.terms [],Q.add f.const (Q.mul g.const c)⟩
theorem aew (c:Q) (n:Nat) (acc:List Tm):mrgT c n [] [] acc=acc:=by cases n<;>rfl
theorem qj (l:List Tm) (v:Int) (q:Q):(putT l v q).length≤l.length+1:=by
 unfold putT;split
 ·omega
 ·simp
section
attribute [local go_sem] Oper.semAt_some
theorem a3x:ElemS Tryz.prog 32 200 1 4:=a3w (z:=.int .u32 0) (by kernel_rfl) (by kernel_rfl) rfl dx
structure RAddSt (a b o:List Nat) (i c:Nat):Prop where
 len:o.length=i
 lim:Lim o
 car:c≤1
 sum:val o+B32 ^ i*c=val (a.take i)+val (b.take i)
theorem RAddSt.start (a b:List Nat):RAddSt a b [] 0 0:=⟨rfl,Lim.nil,by omega,by simp[val]⟩
theorem RAddSt.step {a b o:List Nat} {i c:Nat} (h:RAddSt a b o i c) (ha:Lim a) (hb:Lim b) {s:Nat} (hs:s=c+(lim0 a i+lim0 b i)):RAddSt a b (o++[s % B32]) (i+1) (s / B32):=by
 have h1:=lq ha i;have h2:=lq hb i;have h3:=h.car;have hB:=ba;refine⟨by rw[zI,h.len];rfl,h.lim.append (Lim.one (Nat.mod_lt _ dx)),?_,?_⟩
 ·have:=Nat.div_lt_of_lt_mul (show s < B32*2 by omega);omega
 ·have e2:=h.sum;have e3:=ca a i;have e4:=ca b i;have e5:B32 ^ i*(s % B32)+B32 ^ (i+1)*(s / B32)=B32 ^ i*s:=by
   rw[Nat.pow_succ,zO,← Nat.mul_add,Nat.mod_add_div]
  have e6:B32 ^ i*s=B32 ^ i*c+B32 ^ i*lim0 a i+B32 ^ i*lim0 b i:=by rw[hs,← Nat.add_assoc,Nat.mul_add,Nat.mul_add]
  rw[tg,h.len];omega
theorem RAddSt.done {a b o:List Nat} {n c:Nat} (h:RAddSt a b o n c) (ha:a.length≤n) (hb:b.length≤n):val (o++[c])=val a+val b∧Lim (o++[c]):=by
 have e2:=h.sum;rw[gj ha,gj hb] at e2;exact⟨by rw[tg,h.len];exact e2,h.lim.append (Lim.one (by have:=h.car;have:=ba;omega))⟩
theorem fh (v:Int):∀u∈(#[Value.int .u32 v]:Array Value).toList,u.oneCell'=true:=by
 intro u hu;simp at hu;subst hu;rfl
theorem a18 (w:World) (x y:Sv) (a b:List Nat) (hx:x.Num w a) (hy:y.Num w b) (ha:a.length≤400000) (hb:b.length≤400000):
  Calls Tryz.prog 110 #[.slice x.A x.n x.c,.slice y.A y.n y.c] w fun e w'=>∃z:Sv,e=.returned z.v∧z.Num w' (a7 (val a+val b))∧Gr w w':=by
 have HX:=I hx;have HY:=I hy;have HNx:=I hx.len;have HNy:=I hy.len;have hn9:x.n≤400000:=by rw[← HNx.out];exact ha
 have hm9:y.n≤400000:=by rw[← HNy.out];exact hb
 have HS0:=I (RAddSt.start a b);have R0:Hid (w.ownsRow w.heap.size 200 1 Nl 0 (([]:List Nat).map lv)):=⟨rfl,.inl ⟨rfl,rfl⟩⟩;have HLx:Hid (∀W (i:Nat),Gr w W→i≤1000000000→Calls Tryz.prog 108 #[x.v,.int .i64 i] W fun e w'=>e=.returned (.int .u32 (lim0 a i))∧w'=W):=fun W i G hi=>ln W x a i (hx.gr G) hi
 have HLy:Hid (∀W (i:Nat),Gr w W→i≤1000000000→Calls Tryz.prog 108 #[y.v,.int .i64 i] W fun e w'=>e=.returned (.int .u32 (lim0 b i))∧w'=W):=fun W i G hi=>ln W y b i (hy.gr G) hi
 clear hx hy ha hb;obtain⟨A,n,c⟩:=x;obtain⟨B,m,d⟩:=y;simp only at*;go_enter Tryz.func110,Tryz.ntmps110;go_wp2;go_loopw [5,6,7] (fun s5 s6 i wr=>∃(t cr:Nat) (o:List Nat),i=.int .i64 t∧s6=.int .u64 cr∧(t≤n∨t≤m)∧cr≤1∧Hid (RAddSt a b o t cr)∧Hid (wr.ownsRow w.heap.size 200 1 s5 t (o.map lv))∧Hid (Gr w wr)) (fun _ _ i _=>n+m - (intOf i).toNat)
 case atStart=>exact⟨0,0,[],rfl,rfl,.inl (nq _),by omega,HS0,R0,Gr.refl w⟩
 case round=>
  obtain⟨t,cr,o,rfl,rfl,ht,hcr,hS,hR,hG⟩:=hrel;by_cases hlt:t < n∨t < m
  ·have HA1:=I (HLx.out wr t hG om);have HA2:=I (HLy.out wr t hG om);obtain⟨s,hs⟩:∃s,s=cr+(lim0 a t+lim0 b t):=⟨_,rfl⟩;have HST:=I (hS.step HX.lim HY.lim hs);have hp9:=lq HX.lim t;have hq9:=lq HY.lim t;rw[ba] at hp9 hq9;obtain⟨lo,hlo⟩:∃lo,lo=s % B32:=⟨_,rfl⟩;obtain⟨hi,hhi⟩:∃hi,hi=s / B32:=⟨_,rfl⟩;rw[← hlo,← hhi] at HST;have hhi1:hi≤1:=HST.car;generalize lim0 a t=p at*;generalize lim0 b t=q at*;have E1:Hid (((cr:Int)+(p+q)) % 4294967296=lo):=by rw[ba] at hlo;exact (by omega:((cr:Int)+(p+q)) % 4294967296=lo)
   have E2:Hid (((cr:Int)+(p+q)) / 4294967296=hi):=by rw[ba] at hhi;exact (by omega:((cr:Int)+(p+q)) / 4294967296=hi)
   have hsz:=hG.size;clear hlo hhi hs;by_cases htn:t < n
   ·go_wp2_with fail;go_at_call 108
    refine HA1.mono ?_;rintro e w2 ⟨rfl,rfl⟩;go_wp2_with fail;go_at_call 108
    refine HA2.mono ?_;rintro e w2 ⟨rfl,rfl⟩;go_wp2_with (at_builtin;refine fe (w:=w2) a3x rfl (.tmp 31) (.tmp 34) rfl w.heap.size u5 t (o.map lv) #[.int .u32 (((cr:Int)+(p+q)) % 4294967296)] rfl rfl rfl hR.out (fh _) (by unfold maxLen;omega) om hsz ?_;intro v5 w5 h5 F5 _);rw[E1.out] at h5;have HR5:Hid (w5.ownsRow w.heap.size 200 1 v5 (t+1) ((o++[lo]).map lv)):=by rw[zN];exact h5
    have HG5:Hid (Gr w w5):=hG.step F5 fun b _ e=>(ma hR b e).1
    clear h5 F5;go_roundw
    case rel=>
     rw[E2.out];exact⟨t+1,hi,_,by go_num,rfl,by omega,hhi1,HST,HR5,HG5⟩
    case measure=>simp[intOf];omega
   ·have htm:t < m:=by omega
    have hd1:decide ((t:Int) < n)=false:=by simp;omega
    have hd2:decide ((t:Int) < m)=true:=by simp;omega
    go_wp2_with fail;go_at_call 108
    refine HA1.mono ?_;rintro e w2 ⟨rfl,rfl⟩;go_wp2_with fail;go_at_call 108
    refine HA2.mono ?_;rintro e w2 ⟨rfl,rfl⟩;go_wp2_with (at_builtin;refine fe (w:=w2) a3x rfl (.tmp 31) (.tmp 34) rfl w.heap.size u5 t (o.map lv) #[.int .u32 (((cr:Int)+(p+q)) % 4294967296)] rfl rfl rfl hR.out (fh _) (by unfold maxLen;omega) om hsz ?_;intro v5 w5 h5 F5 _);rw[E1.out] at h5;have HR5:Hid (w5.ownsRow w.heap.size 200 1 v5 (t+1) ((o++[lo]).map lv)):=by rw[zN];exact h5
    have HG5:Hid (Gr w w5):=hG.step F5 fun b _ e=>(ma hR b e).1
    clear h5 F5;go_roundw
    case rel=>
     rw[E2.out];exact⟨t+1,hi,_,by go_num,rfl,by omega,hhi1,HST,HR5,HG5⟩
    case measure=>simp[intOf];omega
  ·have hd1:decide ((t:Int) < n)=false:=by simp;omega
   have hd2:decide ((t:Int) < m)=false:=by simp;omega
   have hnn:¬t < n:=by omega
   have hmm:¬t < m:=by omega
   obtain⟨e1,e2⟩:=hS.done (by rw[HNx.out];omega) (by rw[HNy.out];omega);have HE1:=I e1;have HE2:=I e2;have hsz:=hG.size;have ht9:t≤400000:=by omega
   clear e1 e2 hlt ht;have hc:Hid ((cr:Int) % 4294967296=cr):=(by omega:(cr:Int) % 4294967296=cr);go_wp2_with (at_builtin;refine fe (w:=wr) a3x rfl (.tmp 38) (.tmp 41) rfl w.heap.size u5 t (o.map lv) #[.int .u32 (cr:Int)] rfl rfl rfl hR.out (fh _) (by unfold maxLen;omega) om hsz ?_;intro v5 w5 h5 F5 _);obtain⟨z,hzv,hzn,hz,hty⟩:=Sv.of_row h5 dx;have HZZ:Hid (z.Num w5 (o++[cr])):=⟨by rw[zN];exact hz,HE2.out,hty⟩;have HLN:Hid ((o++[cr]).length≤1000000):=by
    rw[zI,hS.len];exact (show t+1≤1000000 by omega)
   have HT:=I (f7 w5 z _ HZZ HLN);rw[HE1.out] at HT;have HG5:Hid (Gr w w5):=hG.step F5 fun b _ e=>(ma hR b e).1
   subst hzv;clear h5 F5 hz hty hzn;simp only[Sv.v];go_wp2_with fail;go_at_call 109
   refine cm1 HT fun k w6 HK G6=>?_
   have HG6:=I (HG5.trans G6);clear HT;go_wp2;go_ret;exact⟨k,rfl,HK.out,HG6.out⟩
theorem abf {a b:List Nat} {k:Nat} (h:∀j,k≤j→lim0 a j=lim0 b j):∀d,val (a.take (k+d))+val (b.take k)=val (b.take (k+d))+val (a.take k)
 | 0=>by rw[Nat.add_zero,Nat.add_comm]
 | d+1=>by
  have ih:=abf h d;rw[← Nat.add_assoc,ca,ca,h (k+d) om];omega
theorem a68 {a b:List Nat} {k:Nat} (h:∀j,k≤j→lim0 a j=lim0 b j):val a+val (b.take k)=val b+val (a.take k):=by
 have:=abf h (a.length+b.length);rw[List.take_of_length_le (show a.length≤k+(a.length+b.length) by omega),List.take_of_length_le (show b.length≤k+(a.length+b.length) by omega)] at this;exact this
theorem abe {a b:List Nat} {j:Nat} (ha:Lim a) (h:∀i,j+1≤i→lim0 a i=lim0 b i) (hlt:lim0 a j < lim0 b j):val a < val b:=by
 have h1:=a68 h;rw[ca,ca] at h1;have h2:=en (ha.take j);have h3:B32 ^ (a.take j).length≤B32 ^ j:=zS dx (by rw[List.length_take];omega);have h4:B32 ^ j*(lim0 a j+1)≤B32 ^ j*lim0 b j:=Nat.mul_le_mul_left _ hlt;rw[Nat.mul_add] at h4;omega
theorem a4z (w:World) (x y:Sv) (a b:List Nat) (hx:x.Num w a) (hy:y.Num w b) (ha:a.length≤400000) (hb:b.length≤400000):
  Calls Tryz.prog 166 #[.slice x.A x.n x.c,.slice y.A y.n y.c] w fun e w'=>e=.returned (.int .i64 (cmpN (val a) (val b)))∧w'=w:=by
 have HNx:=I hx.len;have HNy:=I hy.len;have hn9:x.n≤400000:=by rw[← HNx.out];exact ha
 have hm9:y.n≤400000:=by rw[← HNy.out];exact hb
 have HLA:=I hx.lim;have HLB:=I hy.lim;have HLx:Hid (∀(i:Nat),i≤1000000000→Calls Tryz.prog 108 #[x.v,.int .i64 i] w fun e w'=>e=.returned (.int .u32 (lim0 a i))∧w'=w):=fun i hi=>ln w x a i hx hi
 have HLy:Hid (∀(i:Nat),i≤1000000000→Calls Tryz.prog 108 #[y.v,.int .i64 i] w fun e w'=>e=.returned (.int .u32 (lim0 b i))∧w'=w):=fun i hi=>ln w y b i hy hi
 obtain⟨N,hN,hN1,hN2,hmx⟩:∃N:Nat,N≤400000∧x.n≤N∧y.n≤N∧max (x.n:Int) (y.n:Int)=(N:Int):=⟨max x.n y.n,by omega,by omega,by omega,by omega⟩;have H0:Hid (∀j,N≤j→lim0 a j=lim0 b j):=fun j hj=>by
  rw[gw (by rw[HNx.out];omega),gw (by rw[HNy.out];omega)]
 clear hx hy ha hb;go_enter Tryz.func166,Tryz.ntmps166;go_wp2;clear hmx;go_loopw [5] (fun s wr=>∃k:Nat,s=.int .i64 ((k:Int) - 1)∧k≤N∧Hid (∀j,k≤j→lim0 a j=lim0 b j)∧wr=w) (fun s _=>(intOf s+1).toNat)
 case atStart=>exact⟨N,rfl,nr _,H0,rfl⟩
 case round=>
  obtain⟨k,rfl,hk,hD,rfl⟩:=hrel;cases k with
  | zero=>
   have hE:Hid (cmpN (val a) (val b)=0):=by
    have h:=a68 hD;simp only[List.take_zero,val] at h;rw[show val a=val b by omega];exact a0o _
   have h0:((0:Nat):Int) - 1=-1:=rfl;rw[h0];go_wp2;go_ret;exact⟨by rw[hE.out];rfl,rfl⟩
  | succ j=>
   have hj:(((j+1:Nat):Int) - 1)=(j:Int):=by omega
   rw[hj];have HA1:=I (HLx.out j om);have HA2:=I (HLy.out j om);have HC1:Hid (lim0 a j < lim0 b j→cmpN (val a) (val b)=-1):=fun h=>pf (abe HLA hD h)
   have HC2:Hid (lim0 b j < lim0 a j→cmpN (val a) (val b)=1):=fun h=>a40 (abe HLB (fun i hi=>(hD.out i hi).symm) h)
   have HD2:Hid (lim0 a j=lim0 b j→∀i,j≤i→lim0 a i=lim0 b i):=fun h i hi=>by
    rcases Nat.eq_or_lt_of_le hi with rfl | h1
    ·exact h
    ·exact hD.out i h1
   generalize hp:lim0 a j=p at*;generalize hq:lim0 b j=q at*;clear hp hq hD;by_cases h1:p < q
   ·have hE:=I (HC1.out h1);have hd:decide ((p:Int) < q)=true:=by simp;omega
    go_wp2_with fail;go_at_call 108
    refine HA1.mono ?_;rintro e w2 ⟨rfl,rfl⟩;go_wp2_with fail;go_at_call 108
    refine HA2.mono ?_;rintro e w2 ⟨rfl,rfl⟩;go_wp2;go_ret;exact⟨by rw[hE.out];rfl,rfl⟩
   ·have hd:decide ((p:Int) < q)=false:=by simp;omega
    have hd3:¬p < q:=h1;go_wp2_with fail;go_at_call 108
    refine HA1.mono ?_;rintro e w2 ⟨rfl,rfl⟩;go_wp2_with fail;go_at_call 108
    refine HA2.mono ?_;rintro e w2 ⟨rfl,rfl⟩;go_wp2_with fail;go_at_call 108
    refine HA1.mono ?_;rintro e w2 ⟨rfl,rfl⟩;go_wp2_with fail;go_at_call 108
    refine HA2.mono ?_;rintro e w2 ⟨rfl,rfl⟩;by_cases h2:q < p
    ·have hE:=I (HC2.out h2);have hd2:decide ((q:Int) < p)=true:=by simp;omega
     go_wp2;go_ret;exact⟨by rw[hE.out];rfl,rfl⟩
    ·have hd2:decide ((q:Int) < p)=false:=by simp;omega
     have hDD:=I (HD2.out om);go_wp2;go_roundw
     case rel=>exact⟨j,rfl,by omega,hDD,trivial⟩
     case measure=>first | (simp[intOf];done) | (simp[intOf];omega)
structure RSubSt (a b o:List Nat) (i c:Nat):Prop where
 len:o.length=i
 lim:Lim o
 car:c≤1
 sum:val o+val (b.take i)=val (a.take i)+B32 ^ i*c
theorem RSubSt.start (a b:List Nat):RSubSt a b [] 0 0:=⟨rfl,Lim.nil,by omega,by simp[val]⟩
theorem RSubSt.step {a b o:List Nat} {i c x c':Nat} (h:RSubSt a b o i c) (hx:x < B32) (hc:c'≤1) (hs:x+(lim0 b i+c)=lim0 a i+B32*c'):RSubSt a b (o++[x]) (i+1) c':=by
 refine⟨by rw[zI,h.len];rfl,h.lim.append (Lim.one hx),hc,?_⟩;have e2:=h.sum;have e3:=ca a i;have e4:=ca b i;have e5:B32 ^ i*(x+(lim0 b i+c))=B32 ^ i*(lim0 a i+B32*c'):=by rw[hs]
 rw[Nat.mul_add,Nat.mul_add,Nat.mul_add] at e5;have e6:B32 ^ (i+1)*c'=B32 ^ i*(B32*c'):=by rw[Nat.pow_succ,zO]
 rw[tg,h.len];omega
theorem RSubSt.done {a b o:List Nat} {c:Nat} (h:RSubSt a b o a.length c) (hv:val b≤val a) (hb:Lim b) (hl:∀i,a.length≤i→lim0 b i=0):val o=val a - val b:=by
 have e2:=h.sum;rw[List.take_length] at e2;have h1:=en h.lim;rw[h.len] at h1;have h2:val (b.take a.length)=val b:=n5 fun i x hi hx=>by
  rw[← jn hx];exact hl i hi
 rw[h2] at e2;rcases Nat.eq_zero_or_pos c with rfl | hc
 ·omega
 ·have:c=1:=by have:=h.car;omega
  subst this;omega
theorem ajg {a b:List Nat} (hv:val b≤val a) (ha:Lim a):∀i,a.length≤i→lim0 b i=0:=fun i hi=>by
 rcases Nat.eq_zero_or_pos (lim0 b i) with h | h
 ·exact h
 ·have h1:=en ha;have h2:=ca b i;have h3:=uy b (i+1);have h4:B32 ^ a.length≤B32 ^ i:=zS dx hi;have h5:B32 ^ i*1≤B32 ^ i*lim0 b i:=Nat.mul_le_mul_left _ h;omega
theorem xv (w:World) (x y:Sv) (a b:List Nat) (hx:x.Num w a) (hy:y.Num w b) (ha:a.length≤400000) (hb:b.length≤400000):
  Calls Tryz.prog 111 #[x.v,y.v] w fun e w'=>Gr w w'∧((val b≤val a∧∃z:Sv,e=.returned (.tuple #[z.v,.int .i64 0])∧z.Num w' (a7 (val a - val b))∧z.New w)∨(val a < val b∧e=.returned (.tuple #[.slice none 0 0,.int .i64 2]))):=by
 have HC:=I (a4z w x y a b hx hy ha hb);have HX:=I hx;have HY:=I hy;have HNx:=I hx.len;have hn9:x.n≤400000:=by rw[← HNx.out];exact ha
 have R0:Hid (w.ownsRow w.heap.size 200 1 Nl 0 (([]:List Nat).map lv)):=⟨rfl,.inl ⟨rfl,rfl⟩⟩;have HS0:=I (RSubSt.start a b);have HLx:Hid (∀W (i:Nat),Gr w W→i≤1000000000→Calls Tryz.prog 108 #[x.v,.int .i64 i] W fun e w'=>e=.returned (.int .u32 (lim0 a i))∧w'=W):=fun W i G hi=>ln W x a i (hx.gr G) hi
 have HLy:Hid (∀W (i:Nat),Gr w W→i≤1000000000→Calls Tryz.prog 108 #[y.v,.int .i64 i] W fun e w'=>e=.returned (.int .u32 (lim0 b i))∧w'=W):=fun W i G hi=>ln W y b i (hy.gr G) hi
 clear hx hy ha hb;by_cases hab:val a < val b
 ·have hE:Hid (cmpN (val a) (val b)=-1):=pf hab;rw[hE.out] at HC;have HAB:=I hab;go_enter Tryz.func111,Tryz.ntmps111;go_wp2_with fail;go_at_call 166
  refine HC.mono ?_;rintro e w2 ⟨rfl,rfl⟩;go_wp2;go_returns;exact⟨Gr.refl _,.inr ⟨HAB.out,rfl⟩⟩
 ·have hc0:decide (cmpN (val a) (val b) < 0)=false:=by
   unfold cmpN;rw[if_neg hab];split<;>simp
  have HLE:Hid (val b≤val a):=Nat.le_of_not_lt hab;generalize cmpN (val a) (val b)=cm at*;have hc1:¬cm < 0:=by simpa using hc0
  clear hab;go_enter Tryz.func111,Tryz.ntmps111;go_wp2_with fail;go_at_call 166
  refine HC.mono ?_;rintro e w2 ⟨rfl,rfl⟩;obtain⟨A,n,c⟩:=x;simp only at*;go_wp2;go_loopw [6,7,8] (fun s6 s7 i wr=>∃(t cr:Nat) (o:List Nat),i=.int .i64 t∧s7=.int .u64 cr∧t≤n∧cr≤1∧Hid (RSubSt a b o t cr)∧Hid (wr.ownsRow w2.heap.size 200 1 s6 t (o.map lv))∧Hid (Gr w2 wr)) (fun _ _ i _=>n - (intOf i).toNat)
  case atStart=>exact⟨0,0,[],rfl,rfl,nq _,by omega,HS0,R0,Gr.refl _⟩
  case round=>
   obtain⟨t,cr,o,rfl,rfl,ht,hcr,hS,hR,hG⟩:=hrel;by_cases htn:t < n
   ·have HA1:=I (HLx.out wr t hG om);have HA2:=I (HLy.out wr t hG om);have hp9:=lq HX.lim t;have hq9:=lq HY.lim t;rw[ba] at hp9 hq9;have HST:Hid (∀x c',x < 4294967296→c'≤1→x+(lim0 b t+cr)=lim0 a t+4294967296*c'→RSubSt a b (o++[x]) (t+1) c'):=fun x c' h1 h2 h3=>hS.step h1 h2 h3
    generalize lim0 a t=p at*;generalize lim0 b t=q at*;have hsz:=hG.size;by_cases hpq:p < q+cr
    ·have hd:decide ((p:Int) < (q:Int)+cr)=true:=by simp;omega
     obtain⟨x,hx⟩:∃x,x=p+4294967296 - (q+cr):=⟨_,rfl⟩;have E1:Hid ((p:Int)+4294967296 - ((q:Int)+cr)=(x:Int)):=(by omega:(p:Int)+4294967296 - ((q:Int)+cr)=(x:Int));have HSS:=I (HST.out x 1 om om om);clear hx;go_wp2_with fail;go_at_call 108
     refine HA1.mono ?_;rintro e w3 ⟨rfl,rfl⟩;go_wp2_with fail;go_at_call 108
     refine HA2.mono ?_;rintro e w3 ⟨rfl,rfl⟩;go_wp2_with (at_builtin;refine fe (w:=w3) a3x rfl (.tmp 36) (.tmp 41) rfl w2.heap.size u6 t (o.map lv) #[.int .u32 ((p:Int)+4294967296 - ((q:Int)+cr))] rfl rfl rfl hR.out (fh _) (by unfold maxLen;omega) om hsz ?_;intro v5 w5 h5 F5 _);rw[E1.out] at h5;have HR5:Hid (w5.ownsRow w2.heap.size 200 1 v5 (t+1) ((o++[x]).map lv)):=by rw[zN];exact h5
     have HG5:Hid (Gr w2 w5):=hG.step F5 fun b _ e=>(ma hR b e).1
     clear h5 F5;go_roundw
     case rel=>exact⟨t+1,1,_,by go_num,rfl,by omega,by omega,HSS,HR5,HG5⟩
     case measure=>simp[intOf];omega
    ·have hd:decide ((p:Int) < (q:Int)+cr)=false:=by simp;omega
     obtain⟨x,hx⟩:∃x,x=p - (q+cr):=⟨_,rfl⟩;have E1:Hid ((p:Int) - ((q:Int)+cr)=(x:Int)):=(by omega:(p:Int) - ((q:Int)+cr)=(x:Int));have HSS:=I (HST.out x 0 om om om);clear hx;go_wp2_with fail;go_at_call 108
     refine HA1.mono ?_;rintro e w3 ⟨rfl,rfl⟩;go_wp2_with fail;go_at_call 108
     refine HA2.mono ?_;rintro e w3 ⟨rfl,rfl⟩;go_wp2_with (at_builtin;refine fe (w:=w3) a3x rfl (.tmp 36) (.tmp 41) rfl w2.heap.size u6 t (o.map lv) #[.int .u32 ((p:Int) - ((q:Int)+cr))] rfl rfl rfl hR.out (fh _) (by unfold maxLen;omega) om hsz ?_;intro v5 w5 h5 F5 _);rw[E1.out] at h5;have HR5:Hid (w5.ownsRow w2.heap.size 200 1 v5 (t+1) ((o++[x]).map lv)):=by rw[zN];exact h5
     have HG5:Hid (Gr w2 w5):=hG.step F5 fun b _ e=>(ma hR b e).1
     clear h5 F5;go_roundw
     case rel=>exact⟨t+1,0,_,by go_num,rfl,by omega,by omega,HSS,HR5,HG5⟩
     case measure=>simp[intOf];omega
   ·obtain rfl:t=n:=by omega
    have e1:val o=val a - val b:=by
     have h:=hS.out;rw[← HNx.out] at h;exact h.done HLE HY.lim (ajg HLE HX.lim)
    obtain⟨z,hzv,hzn,hz,hty⟩:=Sv.of_row hR dx;have HZZ:Hid (z.Num wr o):=⟨hz,hS.lim,hty⟩;have HT:=I (xw wr z _ HZZ (by rw[hS.len];omega));rw[e1] at HT;subst hzv;clear hz hty hzn e1;simp only[Sv.v];go_wp2_with fail;go_at_call 109
    refine HT.mono ?_;rintro e w6 ⟨k,rfl,hk,G6,hN⟩;have HNW:Hid (k.New w2):=fun ad h=>nt hG.size (hN ad h)
    have HK:=I hk;have HG6:=I (hG.trans G6);clear hk G6 HT hN;go_wp2;go_returns;exact⟨HG6.out,.inl ⟨HLE.out,k,rfl,HK.out,HNW.out⟩⟩
theorem a17 (w:World) (x y:Sv) (a b:List Nat) (hx:x.Num w a) (hy:y.Num w b) (ha:a.length≤400000) (hb:b.length≤400000):
  Calls Tryz.prog 111 #[x.v,y.v] w fun e w'=>Gr w w'∧((val b≤val a∧∃z:Sv,e=.returned (.tuple #[z.v,.int .i64 0])∧z.Num w' (a7 (val a - val b)))∨(val a < val b∧e=.returned (.tuple #[.slice none 0 0,.int .i64 2]))):=
 (xv w x y a b hx hy ha hb).mono fun _ _ ⟨G,h⟩=>⟨G,h.imp (fun ⟨h1,z,h2,h3,_⟩=>⟨h1,z,h2,h3⟩) id⟩
theorem a6u (w:World) (x:Sv) (m:Nat) (hx:x.Num w (a7 m)) (hl:(a7 m).length≤1000000) (hm:18446744073709551616≤m):
  Calls Tryz.prog 167 #[x.v] w fun e w'=>e=.returned (.tuple #[.int .u64 0,.bool false])∧Gr w w':=by
 have hl2:2 < (a7 m).length:=by
  rcases zU 2 (a7 m).length with h | h
  ·exact h
  ·have h1:=en (f8 m);rw[vl] at h1;have h2:B32 ^ (a7 m).length≤B32 ^ 2:=zS dx h;have h3:B32 ^ 2=18446744073709551616:=by decide
   omega
 have H1:=I (f7 w x _ hx hl);rw[vl] at H1;clear hx hl hm;go_enter Tryz.func167,Tryz.ntmps167;go_wp2_with fail;go_at_call 109
 refine cm2 H1 fun u w1 hu G1=>?_
 obtain⟨A,n,c⟩:=u;have hn:=hu.len;simp only at hn;rw[hn] at hl2;have HG1:=I G1;have d0:((n:Int) == 0)=false:=by simp;omega
 have d1:((n:Int) == 1)=false:=by simp;omega
 have d2:((n:Int) == 2)=false:=by simp;omega
 have e0:¬(n:Int)=0:=by omega
 have e1:¬(n:Int)=1:=by omega
 have e2:¬(n:Int)=2:=by omega
 have f0:¬n=0:=by omega
 have f1:¬n=1:=by omega
 have f2:¬n=2:=by omega
 clear hu H1 hn hl2;simp only[Sv.v] at*;go_wp2;go_returns;exact⟨rfl,HG1.out⟩
theorem akl {a n y j:Nat} (hn:(a7 a).length=n+1) (hy:(a7 a)[n]?=some y) (hj:y / 2 ^ j=0):a < 2 ^ (32*n+j):=by
 have h1:y < 2 ^ j:=by
  rcases zU y (2 ^ j) with h | h
  ·exact h
  ·have:=Nat.div_pos h (Nat.pow_pos (by decide:0 < 2));omega
 have e:=bn hy;rw[← hn,List.take_length,vl] at e;have h2:=en ((f8 a).take n);have h3:B32 ^ ((a7 a).take n).length≤B32 ^ n:=zS dx (by rw[List.length_take];exact Nat.min_le_left _ _);have h4:B32 ^ n=2 ^ (32*n):=by rw[Nat.pow_mul]
 have h5:B32 ^ n*(y+1)≤B32 ^ n*2 ^ j:=Nat.mul_le_mul_left _ h1;rw[Nat.pow_add,← h4];rw[Nat.mul_add,Nat.mul_one] at h5;omega
theorem a8v (w:World) (x:Sv) (a:Nat) (hx:x.Num w (a7 a)) (hl:(a7 a).length≤1000000):
  Calls Tryz.prog 168 #[x.v] w fun e w'=>∃r:Nat,e=.returned (.int .i64 (r:Int))∧a < 2 ^ r∧r≤32*x.n∧Gr w w':=by
 have H1:=I (f7 w x _ hx hl);rw[vl] at H1;have hxn:=hx.len;have HL:=I hl;clear hx hl;go_enter Tryz.func168,Tryz.ntmps168;go_wp2_with fail;go_at_call 109
 refine cm2 H1 fun u w1 hu G1=>?_
 obtain⟨A,n,c⟩:=u;have hn:(a7 a).length=n:=hu.len;have HXN:Hid (x.n=n):=(show x.n=n by omega);have HU:=I hu;have HG1:=I G1;have HN:=I hn;clear hu H1 hxn;simp only[Sv.v] at*;by_cases h0:n=0
 ·subst h0;have HE:Hid (a=0):=bw.1 HN;clear hn;go_wp2;go_ret;exact⟨0,rfl,by rw[HE.out];decide,nq _,HG1.out⟩
 ·obtain⟨m,rfl⟩:∃m,n=m+1:=⟨n - 1,by omega⟩;obtain⟨y,ad,hy,hy9,hA,hb,d⟩:=HU.at (i:=m) (Nat.lt_succ_self m);simp only at hA;subst hA;have HY:=I hy;have HY9:=I hy9;have hm9:m≤1000000:=by have:=HL.out;omega
  have f0:((m:Int)+1 == 0)=false:=by simp;omega
  have f1:¬(m:Int)+1=0:=by omega
  have w1_:IntKind.i64.wrap ((m:Int)+1 - 1)=(m:Int):=wi _ om |>.trans om;have w2_:IntKind.i64.wrap (32*(m:Int))=32*(m:Int):=wi _ om;have d1:w1.drew.cell? (ad.add m)=some (.int .u32 (y:Int)):=d;clear hy hy9 hb h0 hn;go_wp2;go_loopw [3,4] (fun s3 s4 wr=>∃(k j t:Nat),s3=.int .i64 (k:Int)∧s4=.int .u32 (t:Int)∧Hid (k=32*m+j)∧Hid (t=y / 2 ^ j)∧j≤32∧t < 4294967296∧Hid (Gr w wr)) (fun _ s4 _=>(intOf s4).toNat)
  case atStart=>exact⟨32*m,0,y,congrArg (Value.int .i64) om,rfl,rfl,(Nat.div_one y).symm,by omega,by have:=HY9.out;rw[ba] at this;exact this,HG1.out⟩
  case round=>
   obtain⟨k,j,t,rfl,rfl,hk,ht,hj,ht9,hG⟩:=hrel;by_cases h0:t=0
   ·have hd:decide ((0:Int) < (t:Int))=false:=by simp;omega
    have hd2:decide (0 < t)=false:=by simp;omega
    have HB:Hid (a < 2 ^ k):=by rw[hk.out];exact akl HN HY (by rw[← ht.out];exact h0)
    go_wp2;go_ret;exact⟨k,rfl,HB.out,by have:=hk.out;have:=HXN.out;omega,hG.out⟩
   ·have hd:decide ((0:Int) < (t:Int))=true:=by simp;omega
    have hd2:decide (0 < t)=true:=by simp;omega
    have E:Hid (((t:Int)) / 2=((t / 2:Nat):Int)):=(show (t:Int) / 2=((t / 2:Nat):Int) by omega);have hj9:j < 32:=by
     rcases zU j 32 with h | h
     ·exact h
     ·exfalso
      have h1:j=32:=by omega
      have h2:=HY9.out;rw[ba] at h2
      apply h0
      rw[ht.out,h1];exact Nat.div_eq_of_lt h2
    have HT2:Hid (t / 2=y / 2 ^ (j+1)):=(show t / 2=y / 2 ^ (j+1) by rw[ht.out,Nat.div_div_eq_div_mul,Nat.pow_succ]);have hk9:k≤32000032:=by have:=hk.out;omega
    go_wp2;go_roundw
    case rel=>
     rw[E.out];exact⟨k+1,j+1,t / 2,by go_num,rfl,by rw[hk.out];exact Nat.add_assoc ..,HT2,by omega,by omega,hG⟩
    case measure=>rw[E.out];simp[intOf];omega
theorem amg {c p:Nat} (hc:c≤1) (hp:p < 4294967296):bits .or .u64 (c:Int) ((p:Int)*2)=((c+2*p:Nat):Int):=by
 have e:((p:Int)*2)=((p*2:Nat):Int):=by omega
 rw[e,u64_or_nat _ _ om om,Nat.or_comm,nat_join 1 (p*2) c om om]
 congr 1
 omega
theorem RAddSt.step1 {a o:List Nat} {i c z:Nat} (h:RAddSt a a o i c) (ha:Lim a) (hz:lim0 a i=z):RAddSt a a (o++[(c+2*z) % B32]) (i+1) ((c+2*z) / B32):=h.step ha ha (by rw[hz];omega)
theorem a8j (w:World) (x:Sv) (a:List Nat) (hx:x.Num w a) (hl:a.length≤400000):
  Calls Tryz.prog 169 #[.slice x.A x.n x.c,.int .i64 1] w fun e w'=>∃z:Sv,e=.returned z.v∧z.Num w' (a7 (val a+val a))∧Gr w w':=by
 have HX:=I hx;have HN:=I hx.len;have hn9:x.n≤400000:=by rw[← HN.out];exact hl
 have HS0:=I (RAddSt.start a a);clear hx hl;obtain⟨A,n,c⟩:=x;simp only at*;have hmk:=ajo 0 om w;have HG0:Hid (Gr w (w.alloc (.cells #[] 200))):=(Gr.refl w).alloc _;have R0:Hid ((w.alloc (.cells #[] 200)).ownsRow w.heap.size 200 1 (.slice (some ⟨w.heap.size,0,none⟩) 0 0) 0 (([]:List Nat).map lv)):=World.ownsRow_lit w #[] 0 (Nat.le_refl _) dx rfl;simp only[Int.natCast_zero,Array.replicate_zero] at hmk;go_enter Tryz.func169,Tryz.ntmps169;go_wp2;clear hmk;generalize w.alloc (.cells #[] 200)=w0 at*;go_loopw [5,6,7] (fun s5 s6 i wr=>∃(t cr:Nat) (o:List Nat),i=.int .i64 t∧s6=.int .u64 cr∧t≤n∧cr≤1∧Hid (RAddSt a a o t cr)∧Hid (wr.ownsRow w.heap.size 200 1 s5 t (o.map lv))∧Hid (Gr w wr)) (fun _ _ i _=>n - (intOf i).toNat)
 case atStart=>exact⟨0,0,[],rfl,rfl,Nat.zero_le _,by omega,HS0,R0,HG0⟩
 case round=>
  obtain⟨t,cr,o,rfl,rfl,ht,hcr,hS,hR,hG⟩:=hrel;by_cases hlt:t < n
  ·obtain⟨p,ad,hp,hp9,hA,hbl,d⟩:=(HX.gr hG).at (i:=t) hlt;simp only at hA;subst hA;have hp2:lim0 a t=p:=by unfold lim0;rw[List.getD_eq_getElem?_getD,hp];rfl
   have HST:=I (hS.step1 HX.lim hp2);have hd1:decide ((t:Int) < n)=true:=by simp;omega
   obtain⟨lo,hlo⟩:∃lo,lo=(cr+2*p) % B32:=⟨_,rfl⟩;obtain⟨hi,hhi⟩:∃hi,hi=(cr+2*p) / B32:=⟨_,rfl⟩;rw[← hlo,← hhi] at HST;have hhi1:hi≤1:=HST.car;have hsz:=hG.size;have d1:wr.drew.cell? (ad.add t)=some (.int .u32 (p:Int)):=d;clear hp hbl hp2;rw[ba] at hp9 hlo hhi;have EO:bits .or .u64 (cr:Int) ((p:Int)*2)=((cr+2*p:Nat):Int):=amg hcr hp9;obtain⟨s,hs⟩:∃s,s=cr+2*p:=⟨_,rfl⟩;rw[← hs] at EO hlo hhi;have E1:Hid ((s:Int) % 4294967296=lo):=(show (s:Int) % 4294967296=lo by omega);have E2:Hid ((s:Int) / 4294967296=hi):=(show (s:Int) / 4294967296=hi by omega);clear hs hlo hhi;go_wp2_with (at_builtin;refine fe (w:=wr) a3x rfl (.tmp 27) (.tmp 30) rfl w.heap.size u5 t (o.map lv) #[.int .u32 ((s:Int) % 4294967296)] rfl rfl rfl hR.out (fh _) (by unfold maxLen;omega) om hsz ?_;intro v5 w5 h5 F5 _);rw[E1.out] at h5;have HR5:Hid (w5.ownsRow w.heap.size 200 1 v5 (t+1) ((o++[lo]).map lv)):=by rw[zN];exact h5
   have HG5:Hid (Gr w w5):=hG.step F5 fun b _ e=>(ma hR b e).1
   clear h5 F5;go_roundw
   case rel=>
    rw[E2.out];exact⟨t+1,hi,_,by go_num,rfl,by omega,hhi1,HST,HR5,HG5⟩
   case measure=>simp[intOf];omega
  ·have hd1:decide ((t:Int) < n)=false:=by simp;omega
   obtain rfl:t=n:=by omega
   have hnl:a.length≤t:=by rw[HN.out];exact Nat.le_refl _
   obtain⟨e1,e2⟩:=hS.done hnl hnl;have HE1:=I e1;have HE2:=I e2;have hsz:=hG.size;clear e1 e2 hlt ht hnl;have hc:Hid ((cr:Int) % 4294967296=cr):=(by omega:(cr:Int) % 4294967296=cr);go_wp2_with (at_builtin;refine fe (w:=wr) a3x rfl (.tmp 34) (.tmp 37) rfl w.heap.size u5 t (o.map lv) #[.int .u32 (cr:Int)] rfl rfl rfl hR.out (fh _) (by unfold maxLen;omega) om hsz ?_;intro v5 w5 h5 F5 _);obtain⟨z,hzv,hzn,hz,hty⟩:=Sv.of_row h5 dx;have HZZ:Hid (z.Num w5 (o++[cr])):=⟨by rw[zN];exact hz,HE2.out,hty⟩;have HLN:Hid ((o++[cr]).length≤1000000):=by
    rw[zI,hS.len];exact (show t+1≤1000000 by omega)
   have HT:=I (f7 w5 z _ HZZ HLN);rw[HE1.out] at HT;have HG5:Hid (Gr w w5):=hG.step F5 fun b _ e=>(ma hR b e).1
   subst hzv;clear h5 F5 hz hty hzn;simp only[Sv.v];go_wp2_with fail;go_at_call 109
   refine cm1 HT fun k w6 HK G6=>?_
   have HG6:=I (HG5.trans G6);clear HT;go_wp2;go_ret;exact⟨k,rfl,HK.out,HG6.out⟩
theorem v7 {i j s:Nat} (hi:i=32*j+s):2 ^ i=B32 ^ j*2 ^ s:=by
 rw[hi,Nat.pow_add,Nat.pow_mul]
theorem aga {l:List Nat} {j y:Nat} (h:l[j]?=some y):∃r,val l=val (l.take j)+B32 ^ j*(y+B32*r):=by
 obtain⟨hj,e⟩:=gs h;have e1:=jg (l.take j) (l.drop j);rw[List.take_append_drop,List.length_take,Nat.min_eq_left (Nat.le_of_lt hj),zQ hj,e,val] at e1;exact⟨_,e1⟩
theorem a7z {l:List Nat} (hl:Lim l) (j:Nat):val (l.take j) < B32 ^ j:=
 nk (en (hl.take j)) (zS dx (by rw[List.length_take];exact Nat.min_le_left _ _))
theorem anx {a i j s p:Nat} (hi:i=32*j+s) (hs:s < 32) (hp:(a7 a)[j]?=some p):a / 2 ^ i % 2=p / 2 ^ s % 2:=by
 obtain⟨r,e⟩:=aga hp;rw[vl] at e;have h1:=a7z (f8 a) j;have e2:a / B32 ^ j=p+B32*r:=by
  rw[e,Nat.add_mul_div_left _ _ (Nat.pow_pos dx),Nat.div_eq_of_lt h1,Nat.zero_add]
 have e3:B32=2 ^ s*(2*2 ^ (31 - s)):=by
  rw[← Nat.pow_succ',← Nat.pow_add,show s+(31 - s).succ=32 by omega]
 rw[v7 hi,← Nat.div_div_eq_div_mul,e2,e3,zO,Nat.add_mul_div_left _ _ (Nat.pow_pos dx),zO,Nat.add_mul_mod_self_left]
theorem ab1 {l:List Nat} (hl:Lim l) {i j s y:Nat} (hi:i=32*j+s) (hs:s≤32) (hy:l[j]?=some y) (h:val l % 2 ^ i=0):y % 2 ^ s=0:=by
 obtain⟨r,e⟩:=aga hy;have h1:=a7z hl j;have e3:B32=2 ^ s*2 ^ (32 - s):=by rw[← Nat.pow_add,show s+(32 - s)=32 by omega]
 rw[v7 hi] at h;have h2:val l % B32 ^ j=0:=by
  have:=Nat.mod_mul_right_mod (val l) (B32 ^ j) (2 ^ s);rw[h,Nat.zero_mod] at this;exact this.symm
 have h3:val (l.take j)=0:=by
  rw[e,Nat.add_mul_mod_self_left,Nat.mod_eq_of_lt h1] at h2;exact h2
 rw[e,h3,Nat.zero_add,Nat.mul_mod_mul_left] at h;have h4:=(Nat.mul_eq_zero.1 h).resolve_left (Nat.ne_of_gt (Nat.pow_pos dx));rw[e3,zO,Nat.add_mul_mod_self_left] at h4;exact h4
theorem ami {y s:Nat} (hs:s < 32) (hy:y < B32) (h:y % 2 ^ (s+1)=0):y ||| 2 ^ s=y+2 ^ s∧y+2 ^ s < B32:=by
 have h1:2 ^ s < 2 ^ (s+1):=Nat.pow_lt_pow_right dx (Nat.lt_succ_self s);have e:=nat_join (s+1) y (2 ^ s) h h1;refine⟨e,?_⟩;rw[← e];exact Nat.or_lt_two_pow (n:=32) hy (Nat.pow_lt_pow_right dx hs)
theorem amf {y s:Nat} (hs:s < 32) (hy:y < B32):bits .or .u32 (y:Int) (IntKind.u32.wrap (2 ^ s))=((y ||| 2 ^ s:Nat):Int):=by
 have h1:2 ^ s < 4294967296:=Nat.pow_lt_pow_right dx hs;have e:IntKind.u32.wrap (2 ^ s)=((2 ^ s:Nat):Int):=by
  rw[IntKind.wrap_u32',show (2:Int) ^ s=((2 ^ s:Nat):Int) by rw[Int.natCast_pow];rfl];exact Int.emod_eq_of_lt (Int.natCast_nonneg _) (Int.ofNat_lt.2 h1)
 rw[e];exact u32_or_nat y (2 ^ s) hy h1
theorem Sv.Num.ne {w w':World} {x:Sv} {l:List Nat} {g:Nat} (h:x.Num w l) (F:Fr (fun b=>b=g) w w') (hX:∀ad,x.A=some ad→ad.block≠g):x.Num w' l:=by
 have hk:∀ad,x.A=some ad→ad.block < w.heap.size→w'.heap[ad.block]?=w.heap[ad.block]?:=fun ad ha hl=>F.keep _ hl (hX ad ha)
 refine⟨⟨h.is.len,h.is.cap,h.is.max,h.is.nil,fun i u hu=>?_⟩,h.lim,h.ty.keep fun ad ha hn=>?_⟩
 ·obtain⟨ad,e,hl,hc⟩:=h.is.see i u hu;exact⟨ad,e,nk hl F.size,(World.cell?_of_block (by rw[dq];exact hk ad e hl)).trans hc⟩
 ·obtain⟨cs,fr,hh⟩:=h.ty ad ha hn;refine hk ad ha ?_;rcases zU ad.block w.heap.size with h1 | h1
  ·exact h1
  ·rw[zR h1] at hh;cases hh
structure DvSt (a b n:Nat) (o:List Nat) (i R:Nat):Prop where
 len:o.length=n
 lim:Lim o
 q:val o=a / 2 ^ i / b*2 ^ i
 r:R=a / 2 ^ i % b
theorem DvSt.start {a b i:Nat} (n:Nat) (h:a < 2 ^ i):DvSt a b n (List.replicate n 0) i 0:=by
 refine⟨List.length_replicate,fun x hx=>by rw[(List.mem_replicate.1 hx).2];decide,?_,by rw[Nat.div_eq_of_lt h,Nat.zero_mod]⟩;rw[Nat.div_eq_of_lt h,Nat.zero_div,Nat.zero_mul,te fun x hx=>(List.mem_replicate.1 hx).2]
theorem DvSt.half {a b n:Nat} {o:List Nat} {i R:Nat} (h:DvSt a b n o (i+1) R) (hb:0 < b):
  ∃X,a / 2 ^ i=2*X+a / 2 ^ i % 2∧a / 2 ^ (i+1)=X∧X=b*(X / b)+R∧R < b∧val o=2*(X / b)*2 ^ i:=by
 refine⟨a / 2 ^ (i+1),?_,rfl,?_,by rw[h.r];exact Nat.mod_lt _ hb,?_⟩
 ·rw[Nat.pow_succ,← Nat.div_div_eq_div_mul];exact (Nat.div_add_mod _ 2).symm
 ·rw[h.r];exact (Nat.div_add_mod _ b).symm
 ·rw[h.q,Nat.pow_succ,Nat.mul_comm (2 ^ i) 2,← zO,Nat.mul_comm _ 2]
theorem DvSt.low {a b n:Nat} {o:List Nat} {i R R2:Nat} (h:DvSt a b n o (i+1) R) (hb:0 < b) (e:R2=2*R+a / 2 ^ i % 2) (hlt:R2 < b):DvSt a b n o i R2:=by
 obtain⟨X,e1,e2,e3,e4,e5⟩:=h.half hb;generalize hQ:X / b=Q at*;have e6:a / 2 ^ i=b*(2*Q)+R2:=by rw[e1,e,e3,Nat.mul_add,← zO,Nat.mul_comm 2 b,zO];omega
 refine⟨h.len,h.lim,?_,?_⟩
 ·rw[e5,e6,Nat.mul_add_div hb,Nat.div_eq_of_lt hlt,Nat.add_zero]
 ·rw[e6,Nat.mul_add_mod,Nat.mod_eq_of_lt hlt]
theorem DvSt.high {a b n:Nat} {o:List Nat} {i R R2 j s y:Nat} (h:DvSt a b n o (i+1) R) (hb:0 < b) (e:R2=2*R+a / 2 ^ i % 2) (hge:b≤R2) (hi:i=32*j+s) (hs:s < 32) (hy:o[j]?=some y):
  DvSt a b n (o.set j (y ||| 2 ^ s)) i (R2 - b):=by
 obtain⟨X,e1,e2,e3,e4,e5⟩:=h.half hb;have hm:y % 2 ^ (s+1)=0:=ab1 h.lim (i:=i+1) om om hy (by rw[e5,Nat.mul_comm 2,zO,Nat.pow_succ,Nat.mul_comm 2 (2 ^ i),Nat.mul_mod_left]);obtain⟨o1,o2⟩:=ami hs (h.lim.at hy) hm;generalize hQ:X / b=Q at*;have hlt:R2 - b < b:=by omega
 have e6:a / 2 ^ i=b*(2*Q+1)+(R2 - b):=by
  have:a / 2 ^ i=b*(2*Q)+R2:=by rw[e1,e,e3,Nat.mul_add,← zO,Nat.mul_comm 2 b,zO];omega
  rw[this,Nat.mul_add,Nat.mul_one];omega
 rw[o1];refine⟨by rw[List.length_set];exact h.len,h.lim.set j o2,?_,?_⟩
 ·have e7:=ep (y+2 ^ s) hy;rw[e6,Nat.mul_add_div hb,Nat.div_eq_of_lt hlt,Nat.add_zero,Nat.add_mul,Nat.one_mul,← e5,v7 hi];rw[Nat.mul_add] at e7;omega
 ·rw[e6,Nat.mul_add_mod,Nat.mod_eq_of_lt hlt]
theorem DvSt.done {a b n R:Nat} {o:List Nat} (h:DvSt a b n o 0 R):val o=a / b∧R=a % b:=by
 refine⟨?_,?_⟩
 ·rw[h.q,Nat.pow_zero,Nat.div_one,Nat.mul_one]
 ·rw[h.r,Nat.pow_zero,Nat.div_one]
def uok (m:Nat):Bool:=decide (m < 18446744073709551616)
def uval (m:Nat):Nat:=if m < 18446744073709551616 then m else 0
theorem xu (w:World) (x:Sv) (m:Nat) (hx:x.Num w (a7 m)) (hl:(a7 m).length≤1000000):
  Calls Tryz.prog 167 #[x.v] w fun e w'=>e=.returned (.tuple #[.int .u64 (uval m),.bool (uok m)])∧Gr w w':=by
 by_cases h:m < 18446744073709551616
 ·rw[show uval m=m from if_pos h,show uok m=true from dt h];exact vg w x m hx h
 ·rw[show uval m=0 from if_neg h,show uok m=false from df h];exact a6u w x m hx hl om
theorem a8t (w:World) (x y:Sv) (a b:Nat) (hx:x.Num w (a7 a)) (hy:y.Num w (a7 b)) (ha:(a7 a).length≤300000) (hb:(a7 b).length≤300000) (hb0:0 < b) (hbig:¬(uok a=true∧uok b=true)):
  Calls Tryz.prog 113 #[x.v,y.v] w fun e w'=>∃p q:Sv,e=.returned (.tuple #[p.v,q.v,.int .i64 0])∧p.Num w' (a7 (a / b))∧q.Num w' (a7 (a % b))∧Gr w w':=by
 have H1:=I (xu w x a hx (nt ha dx));have HX:=I hx;have HY:=I hy;have HA:=I ha;have HB:=I hb;have HB0:=I hb0;have HBG:=I hbig;have HUB:Hid (uok b=true→((uval b:Nat):Int)≠0):=fun h=>by
  have h1:b < 18446744073709551616:=zK h;rw[show uval b=b from if_pos h1];omega
 clear hx hy ha hb hb0 hbig;go_enter Tryz.func113,Tryz.ntmps113;go_wp2_with fail;go_at_call 167
 refine cm0 H1 fun w1 G1=>?_
 have HG1:=I G1;have H2:=I (xu w1 y b (HY.gr G1) (nt HB dx));clear H1;go_wp2_with fail;go_at_call 167
 refine cm0 H2 fun w2 G2=>?_
 have HG2:=I (HG1.trans G2);clear H2 HG1;generalize uval a=ua at*;generalize hub:uval b=ub at*;clear hub;generalize uok a=sa at*;generalize uok b=sb at*;have HZ:Hid (sb=true→((ub:Int) == 0)=false):=fun h=>by have:=HUB.out h;simp;omega
 have HNA:=I HX.len;have hmk:=ajo x.n (by have:=HNA.out;have:=HA.out;omega) w2;have HQ0:=I (Lb.made w2 x.n);have HG3:=I (HG2.trans (((Gr.refl w2).alloc (.cells (Array.replicate x.n (.int .u32 0)) 200)).alloc (.cells #[] 200)));have HQ1:=I (((Gr.refl (w2.alloc (.cells (Array.replicate x.n (.int .u32 0)) 200))).alloc (.cells #[] 200)).bk HQ0);have HE0:Hid (Sv.Num ((w2.alloc (.cells (Array.replicate x.n (.int .u32 0)) 200)).alloc (.cells #[] 200)) ⟨some ⟨w2.heap.size+1,0,none⟩,0,0⟩ []):=wh _ _;have HBT:=I (a8v _ x a (HX.gr HG3) (nt HA dx));clear HQ0;rcases (show (sb=false∧sa=false)∨(sb=false∧sa=true)∨(sb=true∧sa=false) by have:=HBG.out;revert this;cases sa<;>cases sb<;>simp) with ⟨rfl,rfl⟩ | ⟨rfl,rfl⟩ | ⟨rfl,rfl⟩
 all_goals
  (try have hz:=HZ.out rfl)
  clear HUB HZ HBG;go_wp2_with fail;go_at_call 168
  refine HBT.mono ?_;rintro e w3 ⟨r,rfl,hr,hr9,G3⟩;have HST:=I (DvSt.start (b:=b) x.n hr);have HQ:=I (G3.bk HQ1);have HE:=I (HE0.gr G3);have HG:=I (HG3.trans G3);have hr8:r≤32*300000:=by have:=HNA.out;have:=HA.out;omega
  have HR9:=I hr9;clear hr hr9 G3 HBT HG3 HE0 HQ1 hmk;have HGS:=I HG2.size;clear HG2;generalize hge:w2.heap.size=g at*;clear hge;go_wp2;go_loopw [12,13] (fun s12 s13 wr=>∃(z:Sv) (t R:Nat) (o:List Nat),s12=.slice z.A z.n z.c∧s13=.int .i64 ((t:Int) - 1)∧t≤r∧Hid (DvSt a b x.n o t R)∧Hid (z.Num wr (a7 R))∧Hid (Lb wr g o)∧Hid (Gr w wr)) (fun _ s13 _=>(intOf s13+1).toNat)
  case atStart=>exact⟨⟨some ⟨g+1,0,none⟩,0,0⟩,r,0,_,rfl,rfl,nr _,HST,by rw[al];exact HE.out,HQ,HG⟩
  case round=>
   obtain⟨z,t,R,o,rfl,rfl,ht,hS,hZ,hQ,hG⟩:=hrel;rcases t with _ | k
   ·obtain⟨e1,e2⟩:=hS.done;have HN:Hid (Sv.Num wr ⟨some ⟨g,0,none⟩,x.n,x.n⟩ o):=fo hQ hS.lim hS.len (by have:=HNA.out;have:=HA.out;omega);have HM:=I (f7 wr _ o HN (by rw[hS.len];have:=HNA.out;have:=HA.out;omega));rw[e1] at HM;rw[e2] at hZ;clear e1 e2;go_wp2_with fail;go_at_call 109
    refine cm1 HM fun q w4 HQV G4=>?_
    have HZ4:=I (hZ.gr G4);have HG4:=I (hG.trans G4);clear HM;go_wp2;go_returns;exact⟨q,z,rfl,HQV.out,HZ4.out,HG4.out⟩
   ·have hRb:R < b:=by rw[hS.r];exact Nat.mod_lt _ HB0
    have hRl:(a7 R).length≤300000:=nt (aq (Nat.le_of_lt hRb)) HB;have HSH:=I (a8j wr z (a7 R) hZ (nt hRl dx));rw[vl] at HSH;obtain⟨j,hj⟩:∃j,j=k / 32:=⟨_,rfl⟩;obtain⟨s,hs⟩:∃s,s=k % 32:=⟨_,rfl⟩;have hks:k=32*j+s:=by omega
    have hs9:s < 32:=by omega
    have hjn:j < x.n:=by have:=HR9.out;omega
    have HKS:=I hks;have HJ:=I hj;have HS9:=I hs;have hk0:decide ((0:Int)≤(k:Int))=true:=by simp
    clear hj hs hks;rw[show (((k+1:Nat):Int) - 1)=(k:Int) by omega];go_wp2_with fail;go_at_call 169
    refine cm1 HSH fun u w4 HU G4=>?_
    obtain⟨p,ad,hp,hp9,hA,hbl,d⟩:=(HX.gr (hG.trans G4)).at (i:=j) hjn;have HBIT:=I (anx HKS hs9 hp);have HG4:=I (hG.trans G4);have HQ4:Hid (Lb w4 g o):=G4.bk hQ;clear hp hbl hG hQ HSH;obtain⟨xA,xn,xc⟩:=x;simp only at hA hjn;subst hA;have d1:w4.cell? (ad.add (k / 32))=some (.int .u32 (p:Int)):=by rw[← HJ.out];exact d
    have b1:(0:Int)≤(k:Int) / 32:=by omega
    have b2:(k:Int) / 32 < (xn:Int):=by have:=HJ.out;omega
    obtain⟨β,hβ⟩:∃β,β=a / 2 ^ k % 2:=⟨_,rfl⟩;have hβ9:β≤1:=by rw[hβ];have:=Nat.mod_lt (a / 2 ^ k) (show 0 < 2 by decide);omega
    have EB:bits .and .u32 ((p:Int) / 2 ^ (k % 32)) 1=(β:Int):=by
     rw[show ((p:Int) / 2 ^ (k % 32))=((p / 2 ^ (k % 32):Nat):Int) by rw[Int.natCast_ediv,Int.natCast_pow];rfl];refine (u32_and_nat (p / 2 ^ (k % 32)) 1 (nj (Nat.div_le_self _ _) hp9) dx).trans ?_;rw[Nat.and_one_is_mod,hβ,HBIT.out,HS9.out]
    have hlu:=I (show (a7 (R+R)).length≤400000 from nt (du R R 300000 hRl hRl) dx);have HY1:Hid (Sv.Num (w4.alloc (.cells #[.int .u32 (β:Int)] 200)) ⟨some ⟨w4.heap.size,0,none⟩,1,1⟩ [β]):=fo (Bk.made w4 200 #[.int .u32 (β:Int)]) (Lim.one (by rw[ba];omega)) rfl dx;have HAD:=I (a18 _ u _ _ _ (HU.gr ((Gr.refl w4).alloc _)) HY1 hlu (show 1≤400000 by decide));rw[vl,show val [β]=β from by simp[val]] at HAD;have GA:Hid (Gr w4 (w4.alloc (.cells #[.int .u32 (β:Int)] 200))):=(Gr.refl w4).alloc _;obtain⟨R2,hR2⟩:∃R2,R2=R+R+β:=⟨_,rfl⟩;rw[← hR2] at HAD;have HR2:Hid (R2=2*R+a / 2 ^ k % 2):=(show R2=2*R+a / 2 ^ k % 2 by rw[hR2,hβ];omega);have HL2:=I (show (a7 R2).length≤400000 from nt (aq (show R2≤b+b by omega)) (nt (du b b 300000 HB HB) dx));clear d hβ hRb hRl hR2 HY1 HU;go_wp2_with fail;go_at_call 110
    refine cm2 HAD fun v w5 hv G5=>?_
    have HV:=I hv;have HG5:=I (HG4.trans (GA.trans G5));have HQ5:Hid (Lb w5 g o):=(GA.trans G5).bk HQ4;have HY5:=I (HY.gr HG5);have HC:=I (a4z w5 v y _ _ hv HY5 HL2 (nt HB dx));rw[vl,vl] at HC;clear hv HAD GA HQ4 HG4 EB d1;go_wp2_with fail;go_at_call 166
    refine HC.mono ?_;rintro e w6 ⟨rfl,rfl⟩;clear HC;by_cases hlt:R2 < b
    ·have hc:decide ((0:Int)≤cmpN R2 b)=false:=by unfold cmpN;rw[if_pos hlt];rfl
     have HST:=I (hS.low HB0 HR2 hlt);clear hlt;generalize cmpN R2 b=cc at*;go_wp2;go_roundw
     case rel=>exact⟨v,k,R2,o,rfl,rfl,by omega,HST,HV,HQ5,HG5⟩
     case measure=>simp[intOf]
    ·have hc:decide ((0:Int)≤cmpN R2 b)=true:=by unfold cmpN;rw[if_neg hlt];split<;>rfl
     obtain⟨yl,hyl⟩:∃yl,o[j]?=some yl:=⟨_,ge (by rw[hS.len];exact hjn)⟩;have HST:=I (hS.high HB0 HR2 om HKS hs9 hyl);have HSB:=I (xv w6 v y _ _ HV HY5 HL2 (nt HB dx));rw[vl,vl] at HSB;have HLT:=I hlt;have HYL:=I hyl;clear hlt hyl;generalize cmpN R2 b=cc at*;go_wp2_with fail;go_at_call 111
     refine HSB.mono ?_;rintro e w7 ⟨G7,⟨_,z7,rfl,hz7,hn7⟩ | ⟨h7,_⟩⟩
     ·have HZ7:=I hz7;have HG7:=I (HG5.trans G7);have HQ7:Hid (Lb w7 g o):=G7.bk HQ5;have HNE:Hid (∀ad,z7.A=some ad→ad.block≠g):=fun ad h e=>by
       have h1:=hn7 ad h;have h2:=Bk.lt (show Bk w6 g _ _ from HQ5.out);omega
      clear hz7 hn7 G7 HSB;have c0:w7.cell? ⟨g,j,none⟩=some (.int .u32 (yl:Int)):=HQ7.cell HYL;have fz0:w7.frozen? ⟨g,j,none⟩=false:=HQ7.fz _;have ew:IntKind.i64.wrap ((k:Int) / 32)=(j:Int):=(wi _ om).trans (by have:=HJ.out;omega);have et:((k:Int).tmod 32)=(s:Int):=(Int.tmod_eq_emod_of_nonneg om).trans (by have:=HS9.out;omega);have hj2:(j:Int) < (xn:Int):=by omega
      clear b1 b2;go_wp2_with fail;refine wpr ?_;have kc:=I (fun (W':World) (G:Gr w7.drew W')=>ai (G.keep c0) G);refine wg 1 (tf 10 1) [0,1,2,3,4,5,6,7,8,9] [] ?_;iterate 10 refine .tk ?_
      refine .done fun W1 G1 F1=>?_
      clear F1;have GB:=(Gr.refl w7).drew.trans G1;have HZ8:=I (HZ7.gr GB);have HG8:=I (HG7.trans GB);have HQ8:Hid (Lb W1 g o):=GB.bk HQ7;have fz0:W1.frozen? ⟨g,j,none⟩=false:=HQ8.fz _;have c8:W1.cell? ⟨g,j,none⟩=some (.int .u32 (yl:Int)):=HQ8.cell HYL;have EOR:=amf hs9 (hS.lim.at HYL);clear G1 GB kc c0 HZ7 HG7 HQ7 ew et;refine wo 10 ?_;refine wpe ?_;have F8:Fr (fun b=>b=g) W1 (W1.setCell ⟨g,j,none⟩ (.int .u32 ((yl ||| 2 ^ s:Nat):Int))):=Fr.set W1 ⟨g,j,none⟩ _ rfl;have HQ9:Hid (Lb (W1.setCell ⟨g,j,none⟩ (.int .u32 ((yl ||| 2 ^ s:Nat):Int))) g (o.set j (yl ||| 2 ^ s))):=Lb.put HQ8 j _;have HZ9:=I (HZ8.ne F8 HNE);have HG9:=I (HG8.set (p:=⟨g,j,none⟩) HGS (.int .u32 ((yl ||| 2 ^ s:Nat):Int)));clear F8 HQ8 HZ8 HG8;generalize W1.setCell ⟨g,j,none⟩ (.int .u32 ((yl ||| 2 ^ s:Nat):Int))=w8 at*;go_wp2;go_roundw
      case rel=>exact⟨z7,k,R2 - b,_,rfl,rfl,by omega,HST,HZ9,HQ9,HG9⟩
      case measure=>simp[intOf]
     ·exact absurd h7 (by have:=HLT.out;omega)
theorem oh (w:World) (x y:Sv) (a b:Nat) (hx:x.Num w (a7 a)) (hy:y.Num w (a7 b)) (ha:(a7 a).length≤300000) (hb:(a7 b).length≤300000) (hb0:0 < b):
  Calls Tryz.prog 113 #[x.v,y.v] w fun e w'=>∃p q:Sv,e=.returned (.tuple #[p.v,q.v,.int .i64 0])∧p.Num w' (a7 (a / b))∧q.Num w' (a7 (a % b))∧Gr w w':=by
 by_cases h:uok a=true∧uok b=true
 ·exact ad6 w x y a b hx hy (zK h.1) hb0 (zK h.2)
 ·exact a8t w x y a b hx hy ha hb hb0 h
theorem a35 (w:World) (x y:Sv) (a b:Nat) (hx:x.Num w (a7 a)) (hy:y.Num w (a7 b)) (ha:(a7 a).length≤300000) (hb:(a7 b).length≤300000):
  Calls Tryz.prog 112 #[x.v,y.v] w fun e w'=>∃p:Sv,e=.returned p.v∧p.Num w' (a7 (Nat.gcd a b))∧Gr w w':=by
 have H1:=I (f7 w x _ hx (nt ha dx));rw[vl] at H1;have HY:=I hy;have HLB:=I (nt hb (by decide:300000≤1000000));clear hx hy;go_enter Tryz.func112,Tryz.ntmps112;go_wp2_with fail;go_at_call 109
 refine cm1 H1 fun u w1 HU G1=>?_
 have HG1:=I G1;have H2:=I (f7 w1 y _ (HY.gr G1) HLB);rw[vl] at H2;clear H1 HY;go_wp2_with fail;go_at_call 109
 refine cm1 H2 fun v w2 HV G2=>?_
 have HG2:=I (HG1.trans G2);have HU2:=I (HU.gr G2);clear HG1 HU H2;simp only[Sv.v] at*;go_wp2;go_loopw [0,1] (fun s0 s1 wr=>∃(p q:Sv) (m n:Nat),s0=.slice p.A p.n p.c∧s1=.slice q.A q.n q.c∧(a7 m).length≤300000∧(a7 n).length≤300000∧Hid (Nat.gcd m n=Nat.gcd a b)∧Hid ((a7 n).length=q.n)∧Hid (p.Num wr (a7 m))∧Hid (q.Num wr (a7 n))∧Hid (Gr w wr)∧Hid (n≤n)) (fun _ s1 wx=>aeu wx s1)
 case atStart=>exact⟨u,v,a,b,rfl,rfl,ha,hb,rfl,HV.len,HU2,HV,HG2,nr _⟩
 case round=>
  obtain⟨p,q,m,n,rfl,rfl,hm,hn,hgc,hln,hP,hQ,hG,_⟩:=hrel;by_cases h0:n=0
  ·have hq1:¬0 < q.n:=by
    have:q.n=0:=by rw[← hln.out,h0,al];rfl
    omega
   have hq0:decide ((0:Int) < q.n)=false:=by simp;omega
   have hgg:Hid (Nat.gcd a b=m):=by rw[← hgc.out,h0];exact Nat.gcd_zero_right m
   clear h0;go_wp2;go_ret;exact⟨p,rfl,by rw[hgg.out];exact hP.out,hG.out⟩
  ·have hq1:0 < q.n:=by
    have:q.n≠0:=by rw[← hln.out];exact fun e=>h0 (bw.1 e)
    omega
   have hq0:decide ((0:Int) < q.n)=true:=by simp;omega
   have HD:=I (oh wr p q m n hP hQ hm hn (Nat.pos_of_ne_zero h0));have hmn:m % n < n:=Nat.mod_lt _ om;have hrl:(a7 (m % n)).length≤300000:=nt (aq (Nat.le_of_lt hmn)) hn;have HN:Hid (Nat.gcd n (m % n)=Nat.gcd a b):=by rw[← hgc.out,Nat.gcd_comm m n,Nat.gcd_rec n m,Nat.gcd_comm];exact rfl
   have HM:=I (uk hQ);simp only[Sv.v] at HM;generalize m % n=rr at*;go_wp2_with fail;go_at_call 113
   refine HD.mono ?_;rintro e w3 ⟨z,r,rfl,hz,hr,G3⟩;have HQ3:=I (hQ.gr G3);have HR:=I hr;have HG3:=I (hG.trans G3);have HM2:=I (uk hr);simp only[Sv.v] at HM2;clear hz hr G3 HD;simp only[Sv.v];go_wp2;go_roundw
   case rel=>exact⟨q,r,n,rr,rfl,rfl,hn,hrl,HN,HR.len,HQ3,HR,HG3,nr _⟩
   case measure=>
    rw[HM.out,HM2.out];exact hmn
end
end Go.Proofs.YtbhbainhmfjpdaaGreatDoor
