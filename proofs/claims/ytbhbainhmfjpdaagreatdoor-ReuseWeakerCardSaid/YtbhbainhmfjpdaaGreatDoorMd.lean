/- Walks of the search and of what it calls, part 4. -/
import Derived.Test.YtbhbainhmfjpdaaGreatDoorMc
import Derived.Lib.MinMax
set_option linter.unusedVariables false
set_option linter.unusedSimpArgs false
set_option maxRecDepth 100000
set_option maxHeartbeats 8000000
namespace Go.Proofs.YtbhbainhmfjpdaaGreatDoor
open Go.RowKit
section
attribute [local go_sem] Oper.semAt_some
theorem made3 (w:World) (t u v:TypeId) (a b c:Array Value):
    Bk (((w.alloc (.cells a t)).alloc (.cells b u)).alloc (.cells c v)) w.heap.size t a∧Bk (((w.alloc (.cells a t)).alloc (.cells b u)).alloc (.cells c v)) (w.heap.size+1) u b∧Bk (((w.alloc (.cells a t)).alloc (.cells b u)).alloc (.cells c v)) (w.heap.size+1+1) v c∧Gr w (((w.alloc (.cells a t)).alloc (.cells b u)).alloc (.cells c v)):=by
  have s1:(w.alloc (.cells a t)).heap.size=w.heap.size+1:=World.size_alloc ..;have s2:((w.alloc (.cells a t)).alloc (.cells b u)).heap.size=w.heap.size+1+1:=by rw[World.size_alloc,s1]
  refine⟨((Bk.made w t a).alloc _).alloc _,?_,?_,(((Gr.refl w).alloc _).alloc _).alloc _⟩
  · have:=(Bk.made (w.alloc (.cells a t)) u b).alloc (.cells c v)
    rwa [s1] at this
  · have:=Bk.made ((w.alloc (.cells a t)).alloc (.cells b u)) v c
    rwa [s2] at this
theorem limbs_mul_len (m n:Nat):(limbs (m*n)).length≤(limbs m).length+(limbs n).length:=by
  refine limbs_len_le ?_;rw[Nat.pow_add];exact nj (Nat.mul_le_mul_right _ (Nat.le_of_lt (limbs_high m))) (Nat.mul_lt_mul_of_pos_left (limbs_high n) (Nat.pow_pos dx))
theorem limbs_add_len (m n k:Nat) (hm:(limbs m).length≤k) (hn:(limbs n).length≤k):(limbs (m+n)).length≤k+1:=by
  refine limbs_len_le ?_;have h1:=nk (limbs_high m) (Nat.pow_le_pow_right (by decide:0 < B32) hm);have h2:=nk (limbs_high n) (Nat.pow_le_pow_right (by decide:0 < B32) hn);rw[Nat.pow_succ,B32_eq] at*;omega
theorem imul_any (w:World) (a b:Iv) (s t:Bool) (m n:Nat) (ha:a.Is w s m) (hb:b.Is w t n) (hm:(limbs m).length≤400000) (hn:(limbs n).length≤400000):
    Calls Tryz.prog 219 #[a.v,b.v] w fun e w'=>∃r:Iv,e=.returned r.v∧r.Is w' ((s != t)&&decide (0 < m*n)) (m*n)∧Gr w w':=by
  have hs:=I ha.neg;have ht:=I hb.neg;have HLM:=I hm;have HLN:=I hn;clear hm hn;simp only[Iv.v];go_enter Tryz.func219,Tryz.ntmps219;go_wp2_with fail;refine nw3h fun W HG hB1 hB2 hB3=>?_
  have HA:=I (ha.mag.gr HG);have HB:=I (hb.mag.gr HG);clear ha hb;have hpr:¬w.heap.size=w.heap.size+1+1:=by omega
  have hqr:¬w.heap.size+1=w.heap.size+1+1:=by omega
  have hle:Hid (w.heap.size≤w.heap.size+1+1):=nt (Nat.le_succ _) (Nat.le_succ _);generalize w.heap.size+1+1=r at*;generalize w.heap.size+1=q at*;generalize hp:w.heap.size=p at*;have hPE:=I hp;clear hp;have hpr2:¬r=p:=fun e=>hpr e.symm
  have hqr2:¬r=q:=fun e=>hqr e.symm
  have a0_:=hB1.c2;have b0_:=hB2.c2;have HM:=I (mul_any W.drew a.mag b.mag _ _ (HA.gr (Gr.refl W).drew) (HB.gr (Gr.refl W).drew) (nt HLM dx) (nt HLN dx));rw[vl,vl] at HM;have HLP:Hid ((limbs (m*n)).length≤1000000):=nt (limbs_mul_len m n) (nt (Nat.add_le_add HLM HLN) dx)
  first | (go_region_held3 (fun W=>W.cell? ⟨p,0,none⟩=some (.bool a.neg)∧W.cell? ⟨p,1,none⟩=some a.mag.v∧W.cell? ⟨q,0,none⟩=some (.bool b.neg)∧W.cell? ⟨q,1,none⟩=some b.mag.v) (first | go_keep | exact⟨hk1.1,hk1.2,hk2.1,hk2.2⟩ | exact⟨hj1.1,hj1.2,hj2.1,hj2.2⟩)
    (first | (go_at_call 270;refine HM.out.mono ?_;rintro e w1 ⟨z,rfl,hz,G1⟩;have hk1:=(G1.bk hB1.out).c2;have hk2:=(G1.bk hB2.out).c2;have HI:=I (imake_any w1 (a.neg != b.neg) z _ hz HLP.out);have HBr:=I (G1.bk hB3.out);have HG1:=I (HG.out.drew.trans G1);have hB1':=I (G1.bk hB1.out);have hB2':=I (G1.bk hB2.out);clear hz G1)
           | (go_at_call 221;refine HI.mono ?_;rintro e w2 ⟨i,rfl,hi,G2⟩;have hj1:=(G2.bk hB1').c2;have hj2:=(G2.bk hB2').c2;have HBs:=I (G2.bk HBr);obtain⟨r0,r1⟩:=HBs.c2;have fz:=HBs.frozen;have HG2:=I (HG1.trans G2);have HII:=I hi;clear hi G2))) | fail
  go_wp2;refine pex ?_;refine ks HBs fun W5 B5 F5=>?_
  have d_:=B5.c2;refine bret Tryz.results219 ?_;exact⟨i,rfl,⟨by rw[HII.neg,hs.out,ht.out],HII.mag.fr F5 HBs (noLimb_int _ _ _ _)⟩,HG2.fr_at F5 (by rw[hPE.out];exact hle.out)⟩
theorem iadd_any (w:World) (a b:Iv) (s t:Bool) (m n:Nat) (ha:a.Is w s m) (hb:b.Is w t n) (hm:(limbs m).length≤900000) (hn:(limbs n).length≤900000):
    Calls Tryz.prog 283 #[a.v,b.v] w fun e w'=>∃r:Iv,e=.returned r.v∧r.Is w' (sadd s m t n).1 (sadd s m t n).2∧Gr w w':=by
  obtain⟨B1,B2,B3,G⟩:=made3 w 118 118 118 #[.bool a.neg,a.mag.v] #[.bool b.neg,b.mag.v] #[.bool false,Nl];have hs:=I ha.neg;have ht:=I hb.neg;have HA:=I (ha.mag.gr G);have HB:=I (hb.mag.gr G);have HG:=I G;have HLM:=I hm;have HLN:=I hn;have hB1:=I B1;have hB2:=I B2;have hB3:=I B3;have a0_:=B1.c2;have b0_:=B2.c2;clear ha hb hm hn G B1 B2 B3;simp only[Iv.v];have HLA:Hid ((limbs m).length≤1000000):=nt HLM dx;have HLB:Hid ((limbs n).length≤1000000):=nt HLN dx;have HLP:Hid ((limbs (m+n)).length≤1000000):=nt (limbs_add_len m n _ HLM HLN) dx;by_cases hst:s=t
  · have HE:Hid (sadd s m t n=(s&&decide (0 < m+n),m+n)):=by unfold sadd;exact if_pos hst
    have hsd:(a.neg == b.neg)=true:=by rw[hs.out,ht.out,hst];simp
    go_enter Tryz.func283,Tryz.ntmps283;go_wp2_with fail;generalize hW:((w.alloc (.cells #[.bool a.neg,a.mag.v] 118)).alloc (.cells #[.bool b.neg,b.mag.v] 118)).alloc (.cells #[.bool false,Nl] 118)=W at*;clear hW;have hpr:¬w.heap.size=w.heap.size+1+1:=by omega
    have hqr:¬w.heap.size+1=w.heap.size+1+1:=by omega
    have hle:Hid (w.heap.size≤w.heap.size+1+1):=nt (Nat.le_succ _) (Nat.le_succ _);generalize w.heap.size+1+1=r at*;generalize w.heap.size+1=q at*;generalize hp:w.heap.size=p at*;have hPE:=I hp;clear hp;have hpr2:¬r=p:=fun e=>hpr e.symm
    have hqr2:¬r=q:=fun e=>hqr e.symm
    clear a0_ b0_;have a0_:=hB1.c2;have b0_:=hB2.c2;have HM:=I (add_any W.drew a.mag b.mag _ _ (HA.gr (Gr.refl W).drew) (HB.gr (Gr.refl W).drew) HLA HLB);rw[vl,vl] at HM
    first | (go_region_held3 (fun W=>W.cell? ⟨p,0,none⟩=some (.bool a.neg)∧W.cell? ⟨p,1,none⟩=some a.mag.v∧W.cell? ⟨q,0,none⟩=some (.bool b.neg)∧W.cell? ⟨q,1,none⟩=some b.mag.v) (first | go_keep | exact⟨hk1.1,hk1.2,hk2.1,hk2.2⟩ | exact⟨hj1.1,hj1.2,hj2.1,hj2.2⟩)
      (first | (go_at_call 338;refine HM.out.mono ?_;rintro e w1 ⟨z,rfl,hz,G1⟩;have hk1:=(G1.bk hB1.out).c2;have hk2:=(G1.bk hB2.out).c2;have HI:=I (imake_any w1 a.neg z _ hz HLP.out);have HBr:=I (G1.bk hB3.out);have HG1:=I (HG.out.drew.trans G1);have hB1':=I (G1.bk hB1.out);have hB2':=I (G1.bk hB2.out);clear hz G1)
             | (go_at_call 221;refine HI.mono ?_;rintro e w2 ⟨i,rfl,hi,G2⟩;have hj1:=(G2.bk hB1').c2;have hj2:=(G2.bk hB2').c2;have HBs:=I (G2.bk HBr);obtain⟨r0,r1⟩:=HBs.c2;have fz:=HBs.frozen;have HG2:=I (HG1.trans G2);have HII:=I hi;clear hi G2))) | fail
    go_wp2;refine pex ?_;refine ks HBs fun W5 B5 F5=>?_
    have d_:=B5.c2;refine bret Tryz.results283 ?_;exact⟨i,rfl,by rw[HE.out];exact⟨by rw[HII.neg,hs.out],HII.mag.fr F5 HBs (noLimb_int _ _ _ _)⟩,HG2.fr_at F5 (by rw[hPE.out];exact hle.out)⟩
  · have hsd:(a.neg == b.neg)=false:=by rw[hs.out,ht.out];simpa using hst
    have HC:=I (cmp_any _ a.mag b.mag _ _ HA HB);rw[vl,vl] at HC;go_enter Tryz.func283,Tryz.ntmps283;go_wp2_with fail;refine cm0 HC fun w1 G1=>?_
    have HG1:=I (HG.trans G1);have HA1:=I (HA.gr G1);have HB1':=I (HB.gr G1);have C1:=I (G1.bk hB1);have C2:=I (G1.bk hB2);have C3:=I (G1.bk hB3);clear HC hB1 hB2 hB3 HG HA HB a0_ b0_;have hpq:¬w.heap.size=w.heap.size+1:=by omega
    have hpr:¬w.heap.size=w.heap.size+1+1:=by omega
    have hqr:¬w.heap.size+1=w.heap.size+1+1:=by omega
    have hle:Hid (w.heap.size≤w.heap.size+1+1):=nt (Nat.le_succ _) (Nat.le_succ _);have hlq:Hid (w.heap.size≤w.heap.size+1):=Nat.le_succ _;generalize w.heap.size+1+1=r at*;generalize w.heap.size+1=q at*;generalize hp:w.heap.size=p at*;have hPE:=I hp;clear hp;have a0_:=C1.c2;have b0_:=C2.c2;by_cases hmn:m < n
    · have hc:Hid (cmpN m n=-1):=cmpN_lt hmn
      have HE:Hid (sadd s m t n=(t&&decide (0 < n - m),n - m)):=by
        unfold sadd;rw[if_neg hst,if_pos hmn,dt om,Bool.and_true];exact rfl
      rw[hc.out];have f1:=C1.frozen;have f2:=C2.frozen;obtain⟨D1,F1⟩:=C1.put2 (.bool b.neg) b.mag.v;have D2:=F1.bk C2 fun e=>hpq e.symm
      obtain⟨E2,F2⟩:=D2.put2 (.bool a.neg) a.mag.v;have E1:=F2.bk D1 hpq;have E3:=F2.bk (F1.bk C3 fun e=>hpr e.symm) fun e=>hqr e.symm
      have HA2:=I ((HA1.fr F1 C1 (noLimb_int _ _ _ _)).fr F2 D2 (noLimb_int _ _ _ _));have HB2:=I ((HB1'.fr F1 C1 (noLimb_int _ _ _ _)).fr F2 D2 (noLimb_int _ _ _ _));have HG2:=I ((HG1.fr_at F1 (Nat.le_of_eq hPE)).fr_at F2 (by rw[hPE.out];exact hlq.out));have HE1:=I E1;have HE3:=I E3;clear D1 D2 E1 E2 E3 F1 F2;go_wp2_with fail;generalize (((w1.setCell ⟨p,0,none⟩ (.bool b.neg)).setCell ⟨p,1,none⟩ b.mag.v).setCell ⟨q,0,none⟩ (.bool a.neg)).setCell ⟨q,1,none⟩ a.mag.v=W2 at*;have HMN:val (limbs m)≤val (limbs n):=by rw[vl,vl];omega
      have HLS:Hid ((limbs (n - m)).length≤1000000):=nt (limbs_len_mono (Nat.sub_le n m)) HLB;clear hc;have H7:=I (sub_any W2 b.mag a.mag _ _ HB2 HA2 HLB HLA HMN);rw[vl,vl] at H7;refine cm2 H7 fun z w3 hz G3=>?_
      have HG3:=I (HG2.trans G3);obtain⟨p0,p1⟩:=(G3.bk HE1).c2;have HR3:=I (G3.bk HE3);have HI:=I (imake_any w3 b.neg z _ hz HLS);clear hz H7;go_wp2_with fail;refine cm1 HI fun i w4 HII G4=>?_
      have HG4:=I (HG3.trans G4);have HBs:=I (G4.bk HR3);obtain⟨r0,r1⟩:=HBs.c2;have fz:=HBs.frozen;clear HI;go_wp2;refine pex ?_;refine ks HBs fun W5 B5 F5=>?_
      have d_:=B5.c2;refine bret Tryz.results283 ?_;exact⟨i,rfl,by rw[HE.out];exact⟨by rw[HII.neg,ht.out],HII.mag.fr F5 HBs (noLimb_int _ _ _ _)⟩,HG4.fr_at F5 (by rw[hPE.out];exact hle.out)⟩
    · have hc0:0≤cmpN m n:=by unfold cmpN;rw[if_neg hmn];split<;>omega
      have HE:Hid (sadd s m t n=(s&&decide (0 < m - n),m - n)):=by
        unfold sadd;rw[if_neg hst,if_neg hmn];exact rfl
      have hcd:decide (cmpN m n < 0)=false:=by simp;omega
      generalize cmpN m n=cm at*;have HMN:val (limbs n)≤val (limbs m):=by rw[vl,vl];omega
      have HLS:Hid ((limbs (m - n)).length≤1000000):=nt (limbs_len_mono (Nat.sub_le m n)) HLA;go_wp2_with fail;have H7:=I (sub_any w1 a.mag b.mag _ _ HA1 HB1' HLA HLB HMN);rw[vl,vl] at H7;refine cm2 H7 fun z w3 hz G3=>?_
      have HG3:=I (HG1.trans G3);obtain⟨p0,p1⟩:=(G3.bk C1).c2;have HR3:=I (G3.bk C3);have HI:=I (imake_any w3 a.neg z _ hz HLS);clear hz H7;go_wp2_with fail;refine cm1 HI fun i w4 HII G4=>?_
      have HG4:=I (HG3.trans G4);have HBs:=I (G4.bk HR3);obtain⟨r0,r1⟩:=HBs.c2;have fz:=HBs.frozen;clear HI;go_wp2;refine pex ?_;refine ks HBs fun W5 B5 F5=>?_
      have d_:=B5.c2;refine bret Tryz.results283 ?_;exact⟨i,rfl,by rw[HE.out];exact⟨by rw[HII.neg,hs.out],HII.mag.fr F5 HBs (noLimb_int _ _ _ _)⟩,HG4.fr_at F5 (by rw[hPE.out];exact hle.out)⟩
theorem made2 (w:World) (t u:TypeId) (a b:Array Value):
    Bk ((w.alloc (.cells a t)).alloc (.cells b u)) w.heap.size t a∧Bk ((w.alloc (.cells a t)).alloc (.cells b u)) (w.heap.size+1) u b∧Gr w ((w.alloc (.cells a t)).alloc (.cells b u)):=by
  have s1:(w.alloc (.cells a t)).heap.size=w.heap.size+1:=World.size_alloc ..;refine⟨(Bk.made w t a).alloc _,?_,((Gr.refl w).alloc _).alloc _⟩;have:=Bk.made (w.alloc (.cells a t)) u b;rwa [s1] at this
def cmpI (s:Bool) (m:Nat) (t:Bool) (n:Nat):Int:=if isg s m < isg t n then -1 else if isg t n < isg s m then 1 else if isg s m < 0 then cmpN n m else cmpN m n
theorem icmp_any (w:World) (a b:Iv) (s t:Bool) (m n:Nat) (ha:a.Is w s m) (hb:b.Is w t n) (hm:(limbs m).length≤1000000) (hn:(limbs n).length≤1000000):
    Calls Tryz.prog 180 #[a.v,b.v] w fun e w'=>e=.returned (.int .i64 (cmpI s m t n))∧Gr w w':=by
  have HLM:=I hm;have HLN:=I hn;clear hm hn;simp only[Iv.v];go_enter Tryz.func180,Tryz.ntmps180;go_wp2_with fail;refine nw2h fun W HG hB1 hB2=>?_
  have HA:=I (ha.gr HG);have HB:=I (hb.gr HG);clear ha hb;generalize w.heap.size+1=q at*;generalize w.heap.size=p at*;have a0_:=hB1.c2;have b0_:=hB2.c2;have HS1:=I (isign_any W.drew a s m (HA.gr (Gr.refl W).drew) HLM);simp only[Iv.v] at HS1;have hE:Hid (cmpI s m t n=if isg s m < isg t n then -1 else if isg t n < isg s m then 1 else if isg s m < 0 then cmpN n m else cmpN m n):=rfl;generalize isg s m=sm at*;have HS2:Hid (∀W2,Gr W W2→Calls Tryz.prog 182 #[b.v] W2 fun e w'=>e=.returned (.int .i64 (isg t n))∧Gr W2 w'):=fun W2 G=>isign_any W2 b t n (HB.gr G) HLN
  generalize isg t n=tn at*;simp only[Iv.v] at HS2
  first | (go_region_held3 (fun W=>W.cell? ⟨p,0,none⟩=some (.bool a.neg)∧W.cell? ⟨p,1,none⟩=some a.mag.v∧W.cell? ⟨q,0,none⟩=some (.bool b.neg)∧W.cell? ⟨q,1,none⟩=some b.mag.v) (first | go_keep | exact⟨hk1.1,hk1.2,hk2.1,hk2.2⟩ | exact⟨hj1.1,hj1.2,hj2.1,hj2.2⟩)
    (first | (go_at_call 182;refine (HS2.out w1 HG1.out).mono ?_;rintro e w2 ⟨rfl,G2⟩;have hj1:=(HG1.out.trans G2 |>.bk hB1.out).c2;have hj2:=(HG1.out.trans G2 |>.bk hB2.out).c2;have HG2:=I (HG1.out.trans G2);clear G2)
           | (go_at_call 182;refine HS1.mono ?_;rintro e w1 ⟨rfl,G1⟩;have hk1:=(G1.bk hB1).c2;have hk2:=(G1.bk hB2).c2;have HG1:=I ((Gr.refl W).drew.trans G1);clear G1))) | fail
  obtain⟨k0,k1⟩:=hj1;obtain⟨l0,l1⟩:=hj2;have HF:=I (HG.trans HG2);have HC1:=I (cmp_any w2 a.mag b.mag _ _ (HA.mag.gr HG2) (HB.mag.gr HG2));have HC2:=I (cmp_any w2 b.mag a.mag _ _ (HB.mag.gr HG2) (HA.mag.gr HG2));rw[vl,vl] at HC1 HC2;clear HS1 HS2;by_cases h1:sm < tn
  · rw[if_pos h1] at hE
    have hd:decide (sm < tn)=true:=by simp[h1]
    go_wp2;go_ret;exact⟨by rw[hE.out];rfl,HF.out⟩
  · have hd:decide (sm < tn)=false:=by simp;omega
    rw[if_neg h1] at hE;by_cases h2:tn < sm
    · rw[if_pos h2] at hE
      have hd2:decide (tn < sm)=true:=by simp[h2]
      go_wp2;go_ret;exact⟨by rw[hE.out];rfl,HF.out⟩
    · rw[if_neg h2] at hE
      have hd2:decide (tn < sm)=false:=by simp;omega
      by_cases h3:sm < 0
      · rw[if_pos h3] at hE
        have hd3:decide (sm < 0)=true:=by simp[h3]
        generalize cmpN n m=c at*;go_wp2_with fail;refine cm0 HC2 fun w3 G3=>?_
        have HG3:=I (HF.trans G3)

        go_wp2;go_ret;exact⟨by rw[hE.out];rfl,HG3.out⟩
      · rw[if_neg h3] at hE
        have hd3:decide (sm < 0)=false:=by simp;omega
        generalize cmpN m n=c at*;go_wp2_with fail;refine cm0 HC1 fun w3 G3=>?_
        have HG3:=I (HF.trans G3)

        go_wp2;go_ret;exact⟨by rw[hE.out];rfl,HG3.out⟩
theorem iof_any (w:World) (x:Int) (h1:-1000000000≤x) (h2:x≤1000000000):
    Calls Tryz.prog 225 #[.int .i64 x] w fun e w'=>∃r:Iv,e=.returned r.v∧r.Is w' (decide (x < 0)) x.natAbs∧Gr w w':=by
  have b1:=Bk.made w 118 #[.bool false,Nl];have HG1:=I ((Gr.refl w).alloc (.cells #[.bool false,Nl] 118));have HB:=I b1;clear b1;have HO:=I (fun W=>of_any W x.natAbs om);by_cases h0:x < 0
  · have hd:decide (x < 0)=true:=by simp[h0]
    rw[hd];obtain⟨n,rfl⟩:∃n:Nat,x=-(n:Int):=⟨x.natAbs,by omega⟩;rw[show (-(n:Int)).natAbs=n by omega] at*;go_enter Tryz.func225,Tryz.ntmps225;have hw:IntKind.u64.wrap (-IntKind.u64.wrap (-(n:Int)))=(n:Int):=by rw[IntKind.wrap_u64,IntKind.wrap_u64];omega
    go_wp2_with fail;refine cm1 (HO.out _) fun z w1 HZ G1=>?_
    have HG2:=I (HG1.trans G1);have HBs:=I (G1.bk HB);have r0_:=HBs.c2;have fz:=HBs.frozen;clear hw HB;generalize hp:w.heap.size=r at*;have hPE:=I hp;clear hp;go_wp2;refine pex ?_;refine ks HBs fun W5 B5 F5=>?_
    have d_:=B5.c2;refine bret Tryz.results225 ?_;exact⟨⟨true,z⟩,rfl,⟨rfl,HZ.fr F5 HBs (noLimb_int _ _ _ _)⟩,HG2.fr_at F5 (Nat.le_of_eq hPE)⟩
  · have hd:decide (x < 0)=false:=by simp;omega
    rw[hd];obtain⟨n,rfl⟩:∃n:Nat,x=(n:Int):=⟨x.natAbs,by omega⟩;rw[show ((n:Int)).natAbs=n by omega] at*;go_enter Tryz.func225,Tryz.ntmps225;have hw:IntKind.u64.wrap (n:Int)=(n:Int):=by rw[IntKind.wrap_u64];omega
    go_wp2_with fail;refine cm1 (HO.out _) fun z w1 HZ G1=>?_
    have HG2:=I (HG1.trans G1);have HBs:=I (G1.bk HB);have r0_:=HBs.c2;have fz:=HBs.frozen;clear hw HB;generalize hp:w.heap.size=r at*;have hPE:=I hp;clear hp;go_wp2;refine pex ?_;refine ks HBs fun W5 B5 F5=>?_
    have d_:=B5.c2;refine bret Tryz.results225 ?_;exact⟨⟨false,z⟩,rfl,⟨rfl,HZ.fr F5 HBs (noLimb_int _ _ _ _)⟩,HG2.fr_at F5 (Nat.le_of_eq hPE)⟩
theorem Q.sign_isg (q:Q):isg q.sg q.num=q.sign:=by
 unfold isg Q.sign Q.sg;by_cases h:q.num=0
 ·rw[if_pos h,if_pos h]
 ·rw[if_neg h,if_neg h,dt om,Bool.and_true]
theorem signed_any (w:World) (a:Rv) (q:Q) (ha:a.Is w q) (hl:(limbs q.num).length≤1000000):
  Calls Tryz.prog 183 #[a.v] w fun e w'=>∃r:Iv,e=.returned r.v∧r.Is w' q.sg q.num∧Gr w w':=by
 obtain⟨B1,B2,G⟩:=made2 w 35 118 a.ar #[.bool false,Nl];have HG:=I G;have hB2:=I B2;have a0_:=B1.c3;have HI:=I (imake_any _ a.neg a.num _ (ha.num.gr G) hl);have hE:Hid ((a.neg&&decide (0 < q.num))=q.sg):=by rw[ha.neg];exact rfl
 clear ha hl B1 B2 G;simp only[Rv.v];go_enter Tryz.func183,Tryz.ntmps183;go_wp2_with fail;refine cm2 HI fun i w1 hi G1=>?_
 rw[hE.out] at hi;have HII:=I hi;have HG1:=I (HG.trans G1);have HBs:=I (G1.bk hB2);have r0_:=HBs.c2;have fz:=HBs.frozen;clear hi HI a0_ hB2;have hle:Hid (w.heap.size≤w.heap.size+1):=Nat.le_succ _;generalize w.heap.size+1=r at*;go_wp2;refine pex ?_;refine ks HBs fun W5 B5 F5=>?_
 have d_:=B5.c2;refine bret Tryz.results183 ?_;exact⟨i,rfl,⟨HII.neg,HII.mag.fr F5 HBs (noLimb_int _ _ _ _)⟩,HG1.fr_at F5 hle⟩
theorem sign_any (w:World) (a:Rv) (q:Q) (ha:a.Is w q) (hl:(limbs q.num).length≤1000000):
  Calls Tryz.prog 130 #[a.v] w fun e w'=>e=.returned (.int .i64 q.sign)∧Gr w w':=by
 have B1:=Bk.made w 35 a.ar;have HG:=I ((Gr.refl w).alloc (.cells a.ar 35));have a0_:=B1.c3;have HS:=I (signed_any _ a q (ha.gr HG) hl);have hE:=I (Q.sign_isg q);have HL:=I hl;clear ha B1 hl;simp only[Rv.v] at*;go_enter Tryz.func130,Tryz.ntmps130;go_wp2_with fail;refine cm2 HS fun i w1 hi G1=>?_
 have HG1:=I (HG.trans G1);have HI:=I (isign_any w1 i _ _ hi HL);rw[hE.out] at HI;clear hi HS a0_;go_wp2_with fail;refine cm0 HI fun w2 G2=>?_
 have HG2:=I (HG1.trans G2)

 go_wp2;go_ret;exact⟨rfl,HG2.out⟩
theorem canon_any (w:World) (a:Rv) (q:Q) (ha:a.Is w q) (hl:(limbs q.num).length≤1000000) (hd:Sl q.un):
  Calls Tryz.prog 177 #[a.v] w fun e w'=>∃r:Rv,e=.returned r.v∧r.Is w' (quot q.neg q.num q.un)∧Gr w w':=by
 obtain⟨B1,B2,G⟩:=made2 w 35 35 a.ar Rl;have HA:=I (ha.gr G);have HG:=I G;have hB1:=I B1;have hB2:=I B2;have hld:(limbs q.den).length≤1000000:=by
  refine nt (limbs_len_mono ?_) hd.big;unfold Q.un;split<;>omega
 have HL:=I hl;have HD:=I hd.big;have HLD:=I hld;clear ha hl hd hld B1 B2 G;simp only[Rv.v];go_enter Tryz.func177,Tryz.ntmps177;go_wp2_with fail;generalize hW:(w.alloc (.cells a.ar 35)).alloc (.cells Rl 35)=W at*;clear hW;have hpr:¬w.heap.size=w.heap.size+1:=by omega
 have hle:Hid (w.heap.size≤w.heap.size+1):=Nat.le_succ _;generalize w.heap.size+1=r at*;generalize hp:w.heap.size=p at*;have hPE:=I hp;clear hp;have hpr2:¬r=p:=fun e=>hpr e.symm
 have a0_:=hB1.c3;have HU:=I (under_any W.drew a q (HA.gr (Gr.refl W).drew) HLD);simp only[Rv.v] at HU;have HNN:=I HA.neg
 first | (go_region_held3 (fun W=>W.cell? ⟨p,0,none⟩=some (.bool a.neg)∧W.cell? ⟨p,1,none⟩=some a.num.v∧W.cell? ⟨p,2,none⟩=some a.den.v)
   (first | go_keep | exact⟨hk.1,hk.2.1,hk.2.2⟩ | exact⟨hj.1,hj.2.1,hj.2.2⟩)
   (first | (go_at_call 216;refine (HQ.out).mono ?_;rintro e w2 ⟨i,rfl,hi,G2⟩;have hE1:=I (G2.bk hC1.out);have HBs:=I (G2.bk hC2.out);have HG2:=I (HG1.out.trans G2);have hj:=hE1.out.c3;obtain⟨r0,r1,r2⟩:=HBs.out.c3;have fz:=HBs.out.frozen;have HII:=I hi;clear hi G2) | (go_at_call 217;refine (HU.out).mono ?_;rintro e w1 ⟨y,rfl,hy,G1⟩;have hC1:=I (G1.bk hB1.out);have hC2:=I (G1.bk hB2.out);have HG1:=I (HG.out.drew.trans G1);have hk:=hC1.out.c3;have HQ:=I (quot_any w1 a.neg a.num y _ _ ((HA.out.num.gr (Gr.refl W).drew).gr G1) hy HL.out q.un_pos HD.out);clear hy G1))) | fail
 go_wp2;refine pex ?_;refine ks HBs fun W5 B5 F5=>?_
 have d_:=B5.c3;refine bret Tryz.results177 ?_;exact⟨i,rfl,by rw[← HNN.out];exact⟨HII.neg,HII.num.fr F5 HBs (noLimb_rat _ _ _ _ _ _ _),HII.den.fr F5 HBs (noLimb_rat _ _ _ _ _ _ _)⟩,HG2.fr_at F5 (by rw[hPE.out];exact hle.out)⟩
theorem made4 (w:World) (t u v x:TypeId) (a b c d:Array Value):
  Bk ((((w.alloc (.cells a t)).alloc (.cells b u)).alloc (.cells c v)).alloc (.cells d x)) w.heap.size t a∧Bk ((((w.alloc (.cells a t)).alloc (.cells b u)).alloc (.cells c v)).alloc (.cells d x)) (w.heap.size+1) u b∧Bk ((((w.alloc (.cells a t)).alloc (.cells b u)).alloc (.cells c v)).alloc (.cells d x)) (w.heap.size+1+1) v c∧Bk ((((w.alloc (.cells a t)).alloc (.cells b u)).alloc (.cells c v)).alloc (.cells d x)) (w.heap.size+1+1+1) x d∧Gr w ((((w.alloc (.cells a t)).alloc (.cells b u)).alloc (.cells c v)).alloc (.cells d x)):=by
 obtain⟨h1,h2,h3,h4⟩:=made3 w t u v a b c;refine⟨h1.alloc _,h2.alloc _,h3.alloc _,?_,h4.alloc _⟩;have s1:(w.alloc (.cells a t)).heap.size=w.heap.size+1:=World.size_alloc ..;have s2:((w.alloc (.cells a t)).alloc (.cells b u)).heap.size=w.heap.size+1+1:=by rw[World.size_alloc,s1]
 have s3:(((w.alloc (.cells a t)).alloc (.cells b u)).alloc (.cells c v)).heap.size=w.heap.size+1+1+1:=by rw[World.size_alloc,s2]
 have:=Bk.made (((w.alloc (.cells a t)).alloc (.cells b u)).alloc (.cells c v)) x d;rwa [s3] at this
theorem sg_false (s:Bool) (m:Nat):((s != false)&&decide (0 < m))=(s&&decide (0 < m)):=by cases s<;>rfl
theorem cross_any (w:World) (a b:Rv) (x y:Q) (ha:a.Is w x) (hb:b.Is w y) (h1:(limbs x.num).length≤400000) (h2:(limbs y.num).length≤400000) (h3:(limbs x.den).length≤400000) (h4:(limbs y.den).length≤400000):
  Calls Tryz.prog 179 #[a.v,b.v] w fun e w'=>∃r1 r2:Iv,e=.returned (.tuple #[r1.v,r2.v])∧r1.Is w' (x.sg&&decide (0 < x.num*y.un)) (x.num*y.un)∧r2.Is w' (y.sg&&decide (0 < y.num*x.un)) (y.num*x.un)∧Gr w w':=by
 obtain⟨B1,B2,B3,B4,G⟩:=made4 w 35 35 118 118 a.ar b.ar #[.bool false,Nl] #[.bool false,Nl];have HA:=I (ha.gr G);have HB:=I (hb.gr G);have HG:=I G;have hB1:=I B1;have hB2:=I B2;have hB3:=I B3;have hB4:=I B4;have un_len:∀q:Q,(limbs q.den).length≤400000→(limbs q.un).length≤400000:=fun q h=>by
  unfold Q.un;split
  ·rw[limbs_one dx dx];decide
  ·exact h
 have L1:=I h1;have L2:=I h2;have L3:=I (un_len x h3);have L4:=I (un_len y h4);have L5:=I (nt h3 (by decide:400000≤1000000));have L6:=I (nt h4 (by decide:400000≤1000000));have L7:=I (nt h1 (by decide:400000≤1000000));have L8:=I (nt h2 (by decide:400000≤1000000));clear ha hb h1 h2 h3 h4 un_len B1 B2 B3 B4 G;simp only[Rv.v];go_enter Tryz.func179,Tryz.ntmps179;go_wp2_with fail;generalize hW:(((w.alloc (.cells a.ar 35)).alloc (.cells b.ar 35)).alloc (.cells #[.bool false,Nl] 118)).alloc (.cells #[.bool false,Nl] 118)=W at*;clear hW;have hpr:¬w.heap.size=w.heap.size+1+1:=by omega
 have hqr:¬w.heap.size+1=w.heap.size+1+1:=by omega
 have hps:¬w.heap.size=w.heap.size+1+1+1:=by omega
 have hqs:¬w.heap.size+1=w.heap.size+1+1+1:=by omega
 have hrs:¬w.heap.size+1+1=w.heap.size+1+1+1:=by omega
 have hle:Hid (w.heap.size≤w.heap.size+1+1):=nt (Nat.le_succ _) (Nat.le_succ _);have hls:Hid (w.heap.size≤w.heap.size+1+1+1):=nt (nt (Nat.le_succ _) (Nat.le_succ _)) (Nat.le_succ _);generalize w.heap.size+1+1+1=s at*;generalize w.heap.size+1+1=r at*;generalize w.heap.size+1=q at*;generalize hp:w.heap.size=p at*;have hPE:=I hp;clear hp;have hpr2:¬r=p:=fun e=>hpr e.symm
 have hqr2:¬r=q:=fun e=>hqr e.symm
 have hps2:¬s=p:=fun e=>hps e.symm
 have hqs2:¬s=q:=fun e=>hqs e.symm
 have hrs2:¬s=r:=fun e=>hrs e.symm
 have hk:_∧_:=⟨hB1.c3,hB2.c3⟩;obtain⟨⟨a0,a1,a2⟩,b0,b1,b2⟩:=hk;have HU1:=I (under_any W.drew a x (HA.gr (Gr.refl W).drew) L5);have HU2:Hid (∀W2,Gr W W2→Calls Tryz.prog 217 #[b.v] W2 fun e w'=>∃y':Sv,e=.returned y'.v∧y'.Num w' (limbs y.un)∧Gr W2 w'):=fun W2 G=>under_any W2 b y (HB.gr G) L6
 simp only[Rv.v] at HU1 HU2;have HG0:Hid (Gr W W.drew):=(Gr.refl W).drew
 first | (go_region_held3 (fun W=>W.cell? ⟨p,0,none⟩=some (.bool a.neg)∧W.cell? ⟨p,1,none⟩=some a.num.v∧W.cell? ⟨p,2,none⟩=some a.den.v∧W.cell? ⟨q,0,none⟩=some (.bool b.neg)∧W.cell? ⟨q,1,none⟩=some b.num.v∧W.cell? ⟨q,2,none⟩=some b.den.v)
   (first | go_keep | exact⟨hk.1.1,hk.1.2.1,hk.1.2.2,hk.2.1,hk.2.2.1,hk.2.2.2⟩ | exact⟨hj.1.1,hj.1.2.1,hj.1.2.2,hj.2.1,hj.2.2.1,hj.2.2.2⟩)
   (first | (go_at_call 217;refine ((HU2.out w1 HG1.out)).mono ?_;rintro e w2 ⟨v,rfl,hv,G2⟩;have HG2:=I (HG1.out.trans G2);have hj:=ai (HG2.out.bk hB1.out).c3 (HG2.out.bk hB2.out).c3;have HNV:=I hv;have HNU2:=I (HNU.out.gr G2);clear hv G2) | (go_at_call 217;refine (HU1.out).mono ?_;rintro e w1 ⟨u,rfl,hu,G1⟩;have HG1:=I (HG0.out.trans G1);have hk:=ai (HG1.out.bk hB1.out).c3 (HG1.out.bk hB2.out).c3;have HNU:=I hu;clear hu G1))) | fail
 clear HU1 HU2 HG0 a0 a1 a2 b0 b1 b2 hk HG1 HNU;obtain⟨⟨a0,a1,a2⟩,b0,b1,b2⟩:=hj;have hF:=I (HG.trans HG2);have C1:=I (HG2.bk hB1);have C2:=I (HG2.bk hB2);have C3:=I (HG2.bk hB3);have C4:=I (HG2.bk hB4);have HA2:=I (HA.gr HG2);have HB2:=I (HB.gr HG2);clear HG HG2 hB1 hB2 hB3 hB4 HA HB;go_wp2_with fail;have HG0:Hid (Gr w2 w2.drew):=(Gr.refl w2).drew;have HS1:=I (signed_any w2.drew a x (HA2.gr HG0) L7);have HS2:Hid (∀W2,Gr w2 W2→Calls Tryz.prog 183 #[b.v] W2 fun e w'=>∃r:Iv,e=.returned r.v∧r.Is w' y.sg y.num∧Gr W2 w'):=fun W2 G=>signed_any W2 b y (HB2.gr G) L8
 simp only[Rv.v] at HS1 HS2
 first | (go_region_held3 (fun W=>W.cell? ⟨p,0,none⟩=some (.bool a.neg)∧W.cell? ⟨p,1,none⟩=some a.num.v∧W.cell? ⟨p,2,none⟩=some a.den.v∧W.cell? ⟨q,0,none⟩=some (.bool b.neg)∧W.cell? ⟨q,1,none⟩=some b.num.v∧W.cell? ⟨q,2,none⟩=some b.den.v)
   (first | go_keep | exact⟨hk1.1.1,hk1.1.2.1,hk1.1.2.2,hk1.2.1,hk1.2.2.1,hk1.2.2.2⟩ | exact⟨hk2.1.1,hk2.1.2.1,hk2.1.2.2,hk2.2.1,hk2.2.2.1,hk2.2.2.2⟩ | exact⟨hk3.1.1,hk3.1.2.1,hk3.1.2.2,hk3.2.1,hk3.2.2.1,hk3.2.2.2⟩ | exact⟨hk4.1.1,hk4.1.2.1,hk4.1.2.2,hk4.2.1,hk4.2.2.1,hk4.2.2.2⟩)
   (first | (go_at_call 219;refine (HM2.out).mono ?_;rintro e w6 ⟨m2,rfl,hm2,G6⟩;have HR3:=I (HR2.out.gr G6);have HG6:=I (HG5.out.trans G6);have hk4:=ai (HG6.out.bk C1.out).c3 (HG6.out.bk C2.out).c3;have HR4:=I hm2;have D3:=I (HG6.out.bk C3.out);have D4:=I (HG6.out.bk C4.out);obtain⟨r0,r1⟩:=D3.out.c2;obtain⟨s0,s1⟩:=D4.out.c2;have fr:=D3.out.frozen;have fs:=D4.out.frozen;clear hm2 G6) | (go_at_call 183;refine (HS3.out).mono ?_;rintro e w5 ⟨i2,rfl,hi2,G5⟩;have HR2:=I (HR1.out.gr G5);have HG5:=I (HG4.out.trans G5);have hk3:=ai (HG5.out.bk C1.out).c3 (HG5.out.bk C2.out).c3;have HM2:=I (imul_any w5 i2 ⟨false,u⟩ y.sg false y.num x.un hi2 ⟨rfl,HNU2.out.gr HG5.out⟩ L2.out L3.out);rw[sg_false] at HM2;simp only[Iv.v] at HM2;clear hi2 G5) | (go_at_call 219;refine (HM1.out).mono ?_;rintro e w4 ⟨m1,rfl,hm1,G4⟩;have HG4:=I (HG3.out.trans G4);have hk2:=ai (HG4.out.bk C1.out).c3 (HG4.out.bk C2.out).c3;have HR1:=I hm1;have HS3:=I (HS2.out w4 HG4.out);clear hm1 G4) | (go_at_call 183;refine (HS1.out).mono ?_;rintro e w3 ⟨i1,rfl,hi1,G3⟩;have HG3:=I (HG0.out.trans G3);have hk1:=ai (HG3.out.bk C1.out).c3 (HG3.out.bk C2.out).c3;have HM1:=I (imul_any w3 i1 ⟨false,v⟩ x.sg false x.num y.un hi1 ⟨rfl,HNV.out.gr HG3.out⟩ L1.out L4.out);rw[sg_false] at HM1;simp only[Iv.v] at HM1;clear hi1 G3))) | fail
 obtain⟨E3,F3⟩:=D3.put2 (.bool m1.neg) m1.mag.v;have E4:=F3.bk D4 hrs2;obtain⟨E5,F5⟩:=E4.put2 (.bool m2.neg) m2.mag.v;have E6:=F5.bk E3 hrs;have R1:=I ((HR3.fr F3 D3 (noLimb_int _ _ _ _)).fr F5 E4 (noLimb_int _ _ _ _));have R2:=I ((HR4.fr F3 D3 (noLimb_int _ _ _ _)).fr F5 E4 (noLimb_int _ _ _ _));have HGF:=I (((hF.trans HG6).fr_at F3 (by rw[hPE.out];exact hle.out)).fr_at F5 (by rw[hPE.out];exact hls.out));obtain⟨d0,d1⟩:=E6.c2;obtain⟨e0,e1⟩:=E5.c2;clear E3 E4 E5 E6 F3 F5;go_wp2;generalize (((w6.setCell ⟨r,0,none⟩ (.bool m1.neg)).setCell ⟨r,1,none⟩ m1.mag.v).setCell ⟨s,0,none⟩ (.bool m2.neg)).setCell ⟨s,1,none⟩ m2.mag.v=W5 at*;refine pex ?_;refine bodyPost_ret (by simp[results,Tryz.results179,go_sem,d0,d1,e0,e1];try rfl) rfl ?_;exact⟨m1,m2,rfl,R1.out,R2.out,HGF.out⟩
theorem Two.len {x y:Q} (h:Two x y):(limbs (x.un*y.un)).length≤1000000:=nt (limbs_mul_len _ _) (nt (Nat.add_le_add h.1 h.2) dx)
theorem un_left {x y:Q} (h:Two x y):Sl x.un:=h.1
theorem un_right {x y:Q} (h:Two x y):Sl y.un:=h.2
theorem den_len {x:Q} (h:Sl x.un):(limbs x.den).length≤100000:=by
 refine nt (limbs_len_mono ?_) h;unfold Q.un;split<;>omega
theorem un_len1 {n:Nat} (h:Sl n):(limbs n).length≤100000:=h
theorem num_un_len {m n:Nat} (hm:(limbs m).length≤100000) (hn:Sl n):(limbs (m*n)).length≤200000:=nt (limbs_mul_len m n) (Nat.add_le_add hm hn)
theorem sadd_len (s t:Bool) (m n:Nat) (hm:(limbs m).length≤200000) (hn:(limbs n).length≤200000):(limbs (sadd s m t n).2).length≤200001:=by
 unfold sadd;split
 ·exact limbs_add_len m n _ hm hn
 ·split
  ·exact nt (limbs_len_mono (Nat.sub_le n m)) (nt hn dx)
  ·exact nt (limbs_len_mono (Nat.sub_le m n)) (nt hm dx)
theorem radd_any (w:World) (a b:Rv) (x y:Q) (ha:a.Is w x) (hb:b.Is w y) (h1:(limbs x.num).length≤100000) (h2:(limbs y.num).length≤100000) (h3:Two x y):
  Calls Tryz.prog 229 #[a.v,b.v] w fun e w'=>∃r:Rv,e=.returned r.v∧r.Is w' (Q.add x y)∧Gr w w':=by
 obtain⟨B1,B2,B3,G⟩:=made3 w 35 35 35 a.ar b.ar Rl;have HA:=I (ha.gr G);have HB:=I (hb.gr G);have HG:=I G;have hB1:=I B1;have hB2:=I B2;have hB3:=I B3;have U1:=I (un_left h3);have U2:=I (un_right h3);have U3:=I h3.len;have L1:=I (num_un_len h1 U2);have L2:=I (num_un_len h2 U1);have HX:=I (cross_any _ a b x y HA HB (nt h1 dx) (nt h2 dx) (nt (den_len U1) dx) (nt (den_len U2) dx));have hE:Hid (Q.add x y=quot (sadd (x.sg&&decide (0 < x.num*y.un)) (x.num*y.un) (y.sg&&decide (0 < y.num*x.un)) (y.num*x.un)).1 (sadd (x.sg&&decide (0 < x.num*y.un)) (x.num*y.un) (y.sg&&decide (0 < y.num*x.un)) (y.num*x.un)).2 (x.un*y.un)):=rfl;have a0_:=B1.c3;have b0_:=B2.c3;clear ha hb h1 h2 h3 B1 B2 B3 G;simp only[Rv.v] at*;generalize (x.sg&&decide (0 < x.num*y.un))=s1 at*;generalize (y.sg&&decide (0 < y.num*x.un))=s2 at*;generalize x.num*y.un=m1 at*;generalize y.num*x.un=m2 at*;go_enter Tryz.func229,Tryz.ntmps229;go_wp2_with fail;refine HX.mono ?_;rintro e w1 ⟨x1,x2,rfl,hx1,hx2,G1⟩;obtain⟨D1,D2,G2⟩:=made2 w1 118 118 #[.bool x1.neg,x1.mag.v] #[.bool x2.neg,x2.mag.v];have HI:=I (iadd_any _ x1 x2 _ _ _ _ (hx1.gr G2) (hx2.gr G2) (nt L1 dx) (nt L2 dx));have HG2:=I ((HG.trans G1).trans G2);have HGa:=I (G1.trans G2);have x10_:=D1.c2;have x20_:=D2.c2;have HL:=I (sadd_len s1 s2 m1 m2 L1 L2);clear hx1 hx2 G1 G2 D1 D2 HX a0_ b0_;simp only[Iv.v] at*;go_wp2_with fail;refine cm2 HI fun sm w3 hsm G3=>?_
 have D3:=Bk.made w3 118 #[.bool sm.neg,sm.mag.v];have G4:=(Gr.refl w3).alloc (.cells #[.bool sm.neg,sm.mag.v] 118);have HSM:=I (hsm.gr G4);have HG4:=I ((HG2.trans G3).trans G4);have HGb:=I ((HGa.trans G3).trans G4);have C1:=I (HGb.bk hB1);have C2:=I (HGb.bk hB2);have C3:=I (HGb.bk hB3);have HA4:=I (HA.gr HGb);have HB4:=I (HB.gr HGb);have C4:=I D3;have hpo:Hid (w.heap.size≤w.heap.size+1+1):=nt (Nat.le_succ _) (Nat.le_succ _);have hlt:=C3.lt;rw[World.size_alloc] at hlt;clear hsm G4 HI D3 HG2 HGa HGb HA HB hB1 hB2 hB3 HG x10_ x20_;go_wp2_with fail;have h9:¬w.heap.size=w.heap.size+1+1:=by omega
 have h8:¬w.heap.size+1=w.heap.size+1+1:=by omega
 have h7:¬w3.heap.size=w.heap.size+1+1:=fun e=>Bk.ne C4 C3 dx e
 generalize hW:w3.alloc (.cells #[.bool sm.neg,sm.mag.v] 118)=W at*;clear hW hlt;generalize w.heap.size+1+1=r at*;generalize w.heap.size+1=q at*;generalize hp:w.heap.size=p at*;have hPE:=I hp;clear hp;generalize w3.heap.size=g at*;have h6:¬r=p:=fun e=>h9 e.symm
 have h5:¬r=q:=fun e=>h8 e.symm
 have h4:¬r=g:=fun e=>h7 e.symm
 have a0_:=C1.c3;have b0_:=C2.c3;have z0_:=C4.c2;have HG0:Hid (Gr W W.drew):=(Gr.refl W).drew;have HU1:=I (under_any W.drew a x (HA4.gr HG0) (nt (den_len U1) dx));have HU2:Hid (∀W2,Gr W W2→Calls Tryz.prog 217 #[b.v] W2 fun e w'=>∃y':Sv,e=.returned y'.v∧y'.Num w' (limbs y.un)∧Gr W2 w'):=fun W2 G=>under_any W2 b y (HB4.gr G) (nt (den_len U2) dx)
 simp only[Rv.v] at HU1 HU2
 first | (go_region_held3 (fun W=>W.cell? ⟨p,0,none⟩=some (.bool a.neg)∧W.cell? ⟨p,1,none⟩=some a.num.v∧W.cell? ⟨p,2,none⟩=some a.den.v∧W.cell? ⟨q,0,none⟩=some (.bool b.neg)∧W.cell? ⟨q,1,none⟩=some b.num.v∧W.cell? ⟨q,2,none⟩=some b.den.v∧W.cell? ⟨g,0,none⟩=some (.bool sm.neg)∧W.cell? ⟨g,1,none⟩=some sm.mag.v)
   (first | go_keep | exact⟨hk1.1.1,hk1.1.2.1,hk1.1.2.2,hk1.2.1.1,hk1.2.1.2.1,hk1.2.1.2.2,hk1.2.2.1,hk1.2.2.2⟩ | exact⟨hk2.1.1,hk2.1.2.1,hk2.1.2.2,hk2.2.1.1,hk2.2.1.2.1,hk2.2.1.2.2,hk2.2.2.1,hk2.2.2.2⟩ | exact⟨hk3.1.1,hk3.1.2.1,hk3.1.2.2,hk3.2.1.1,hk3.2.1.2.1,hk3.2.1.2.2,hk3.2.2.1,hk3.2.2.2⟩ | exact⟨hk4.1.1,hk4.1.2.1,hk4.1.2.2,hk4.2.1.1,hk4.2.1.2.1,hk4.2.1.2.2,hk4.2.2.1,hk4.2.2.2⟩)
   (first | (go_at_call 216;refine (HQ.out).mono ?_;rintro e w7 ⟨i,rfl,hi,G8⟩;have HG8:=I (HG7.out.trans G8);have hk4:=ai (HG8.out.bk C1.out).c3 (ai (HG8.out.bk C2.out).c3 (HG8.out.bk C4.out).c2);have HBs:=I (HG8.out.bk C3.out);obtain⟨r0,r1,r2⟩:=HBs.out.c3;have fz:=HBs.out.frozen;have HII:=I hi;clear hi G8) | (go_at_call 270;refine (HM.out).mono ?_;rintro e w6 ⟨z,rfl,hz,G7⟩;have HG7:=I (HG6.out.trans G7);have hk3:=ai (HG7.out.bk C1.out).c3 (ai (HG7.out.bk C2.out).c3 (HG7.out.bk C4.out).c2);have HQ:=I (quot_any w6 sm.neg sm.mag z _ _ (HSM.out.mag.gr HG7.out) hz (nt HL.out dx) (Nat.mul_pos x.un_pos y.un_pos) U3.out);clear hz G7) | (go_at_call 217;refine ((HU2.out w4 HG5.out)).mono ?_;rintro e w5 ⟨v,rfl,hv,G6⟩;have HG6:=I (HG5.out.trans G6);have hk2:=ai (HG6.out.bk C1.out).c3 (ai (HG6.out.bk C2.out).c3 (HG6.out.bk C4.out).c2);have HM:=I (mul_any w5 u v _ _ (HNU.out.gr G6) hv (nt (un_len1 U1.out) dx) (nt (un_len1 U2.out) dx));rw[vl,vl] at HM;clear hv G6) | (go_at_call 217;refine (HU1.out).mono ?_;rintro e w4 ⟨u,rfl,hu,G5⟩;have HG5:=I (HG0.out.trans G5);have hk1:=ai (HG5.out.bk C1.out).c3 (ai (HG5.out.bk C2.out).c3 (HG5.out.bk C4.out).c2);have HNU:=I hu;clear hu G5))) | fail
 go_wp2;refine pex ?_;refine ks HBs fun W5 B5 F5=>?_
 have d_:=B5.c3;refine bret Tryz.results229 ?_;exact⟨i,rfl,by rw[hE.out,← HSM.neg];exact HII.fr F5 HBs (noLimb_rat _ _ _ _ _ _ _),(HG4.trans HG8).fr_at F5 (by rw[hPE.out];exact hpo.out)⟩
theorem rmul_any (w:World) (a b:Rv) (x y:Q) (ha:a.Is w x) (hb:b.Is w y) (h1:(limbs x.num).length≤100000) (h2:(limbs y.num).length≤100000) (h3:Two x y):
  Calls Tryz.prog 230 #[a.v,b.v] w fun e w'=>∃r:Rv,e=.returned r.v∧r.Is w' (Q.mul x y)∧Gr w w':=by
 have U1:=I (un_left h3);have U2:=I (un_right h3);have U3:=I h3.len;have L1:=I h1;have L2:=I h2;have hE:Hid (Q.mul x y=quot (x.neg != y.neg) (x.num*y.num) (x.un*y.un)):=rfl;have N1:=I ha.neg;have N2:=I hb.neg;have HL:Hid ((limbs (x.num*y.num)).length≤1000000):=nt (limbs_mul_len _ _) (nt (Nat.add_le_add h1 h2) dx);clear h1 h2 h3;simp only[Rv.v] at*;go_enter Tryz.func230,Tryz.ntmps230;go_wp2_with fail;have h9:¬w.heap.size=w.heap.size+1+1:=by omega
 have h8:¬w.heap.size+1=w.heap.size+1+1:=by omega
 have hpo:Hid (w.heap.size≤w.heap.size+1+1):=nt (Nat.le_succ _) (Nat.le_succ _);refine nw3h fun W HG4 C1 C2 C3=>?_
 have HA4:=I (ha.gr HG4);have HB4:=I (hb.gr HG4);clear ha hb;generalize w.heap.size+1+1=r at*;generalize w.heap.size+1=q at*;generalize hp:w.heap.size=p at*;have hPE:=I hp;clear hp;have h6:¬r=p:=fun e=>h9 e.symm
 have h5:¬r=q:=fun e=>h8 e.symm
 have a0_:=C1.c3;have b0_:=C2.c3;have HG0:Hid (Gr W W.drew):=(Gr.refl W).drew;have HM0:=I (mul_any W.drew a.num b.num _ _ (HA4.num.gr HG0) (HB4.num.gr HG0) (nt L1 dx) (nt L2 dx));rw[vl,vl] at HM0;have HU1:Hid (∀W2,Gr W W2→Calls Tryz.prog 217 #[a.v] W2 fun e w'=>∃y':Sv,e=.returned y'.v∧y'.Num w' (limbs x.un)∧Gr W2 w'):=fun W2 G=>under_any W2 a x (HA4.gr G) (nt (den_len U1) dx)
 have HU2:Hid (∀W2,Gr W W2→Calls Tryz.prog 217 #[b.v] W2 fun e w'=>∃y':Sv,e=.returned y'.v∧y'.Num w' (limbs y.un)∧Gr W2 w'):=fun W2 G=>under_any W2 b y (HB4.gr G) (nt (den_len U2) dx)
 simp only[Rv.v] at HU1 HU2
 first | (go_region_held3 (fun W=>W.cell? ⟨p,0,none⟩=some (.bool a.neg)∧W.cell? ⟨p,1,none⟩=some a.num.v∧W.cell? ⟨p,2,none⟩=some a.den.v∧W.cell? ⟨q,0,none⟩=some (.bool b.neg)∧W.cell? ⟨q,1,none⟩=some b.num.v∧W.cell? ⟨q,2,none⟩=some b.den.v)
   (first | go_keep | exact⟨hk0.1.1,hk0.1.2.1,hk0.1.2.2,hk0.2.1,hk0.2.2.1,hk0.2.2.2⟩ | exact⟨hk1.1.1,hk1.1.2.1,hk1.1.2.2,hk1.2.1,hk1.2.2.1,hk1.2.2.2⟩ | exact⟨hk2.1.1,hk2.1.2.1,hk2.1.2.2,hk2.2.1,hk2.2.2.1,hk2.2.2.2⟩ | exact⟨hk3.1.1,hk3.1.2.1,hk3.1.2.2,hk3.2.1,hk3.2.2.1,hk3.2.2.2⟩ | exact⟨hk4.1.1,hk4.1.2.1,hk4.1.2.2,hk4.2.1,hk4.2.2.1,hk4.2.2.2⟩)
   (first | (go_at_call 216;refine (HQ.out).mono ?_;rintro e w7 ⟨i,rfl,hi,G8⟩;have HG8:=I (HG7.out.trans G8);have hk4:=ai (HG8.out.bk C1.out).c3 (HG8.out.bk C2.out).c3;have HBs:=I (HG8.out.bk C3.out);obtain⟨r0,r1,r2⟩:=HBs.out.c3;have fz:=HBs.out.frozen;have HII:=I hi;clear hi G8) | (go_at_call 270;refine (HM.out).mono ?_;rintro e w6 ⟨z,rfl,hz,G7⟩;have HG7:=I (HG6.out.trans G7);have hk3:=ai (HG7.out.bk C1.out).c3 (HG7.out.bk C2.out).c3;have HQ:=I (quot_any w6 (a.neg != b.neg) m z _ _ (HNM2.out.gr G7) hz HL.out (Nat.mul_pos x.un_pos y.un_pos) U3.out);clear hz G7) | (go_at_call 217;refine ((HU2.out w4 HG5.out)).mono ?_;rintro e w5 ⟨v,rfl,hv,G6⟩;have HNM2:=I (HNM1.out.gr G6);have HG6:=I (HG5.out.trans G6);have hk2:=ai (HG6.out.bk C1.out).c3 (HG6.out.bk C2.out).c3;have HM:=I (mul_any w5 u v _ _ (HNU.out.gr G6) hv (nt (un_len1 U1.out) dx) (nt (un_len1 U2.out) dx));rw[vl,vl] at HM;clear hv G6) | (go_at_call 217;refine ((HU1.out w3 HG3.out)).mono ?_;rintro e w4 ⟨u,rfl,hu,G5⟩;have HNM1:=I (HNM.out.gr G5);have HG5:=I (HG3.out.trans G5);have hk1:=ai (HG5.out.bk C1.out).c3 (HG5.out.bk C2.out).c3;have HNU:=I hu;clear hu G5) | (go_at_call 270;refine (HM0.out).mono ?_;rintro e w3 ⟨m,rfl,hm,G4⟩;have HG3:=I (HG0.out.trans G4);have hk0:=ai (HG3.out.bk C1.out).c3 (HG3.out.bk C2.out).c3;have HNM:=I hm;clear hm G4))) | fail
 go_wp2;refine pex ?_;refine ks HBs fun W5 B5 F5=>?_
 have d_:=B5.c3;refine bret Tryz.results230 ?_;exact⟨i,rfl,by rw[hE.out,← N1.out,← N2.out];exact HII.fr F5 HBs (noLimb_rat _ _ _ _ _ _ _),(HG4.trans HG8).fr_at F5 (by rw[hPE.out];exact hpo.out)⟩
theorem whole_any (w:World) (a:Iv) (s:Bool) (m:Nat) (ha:a.Is w s m) (hl:(limbs m).length≤1000000):
  Calls Tryz.prog 224 #[a.v] w fun e w'=>∃r:Rv,e=.returned r.v∧r.Is w' (quot s m 1)∧Gr w w':=by
 have HL:=I hl;clear hl;simp only[Iv.v];go_enter Tryz.func224,Tryz.ntmps224;go_wp2_with fail;refine nw2h fun W HG C1 C2=>?_
 have HA:=I (ha.gr HG);clear ha;have hpr:¬w.heap.size=w.heap.size+1:=by omega
 have hle:Hid (w.heap.size≤w.heap.size+1):=Nat.le_succ _;generalize w.heap.size+1=r at*;generalize hp:w.heap.size=p at*;have hPE:=I hp;clear hp;have hpr2:¬r=p:=fun e=>hpr e.symm
 have a0_:=C1.c2;have HG0:Hid (Gr W W.drew):=(Gr.refl W).drew;have HO:=I (one_any W.drew)
 first | (go_region_held3 (fun W=>W.cell? ⟨p,0,none⟩=some (.bool a.neg)∧W.cell? ⟨p,1,none⟩=some a.mag.v)
   (first | go_keep | exact⟨hk1.1,hk1.2⟩ | exact⟨hk2.1,hk2.2⟩)
   (first | (go_at_call 216;refine (HQ.out).mono ?_;rintro e w2 ⟨i,rfl,hi,G2⟩;have HG2:=I (HG1.out.trans G2);have hk2:=(HG2.out.bk C1.out).c2;have HBs:=I (HG2.out.bk C2.out);obtain⟨r0,r1,r2⟩:=HBs.out.c3;have fz:=HBs.out.frozen;have HII:=I hi;clear hi G2) | (go_at_call 269;refine (HO.out).mono ?_;rintro e w1 ⟨u,rfl,hu,G1⟩;have HG1:=I (HG0.out.trans G1);have hk1:=(HG1.out.bk C1.out).c2;have HQ:=I (quot_any w1 a.neg a.mag u _ 1 (HA.out.mag.gr HG1.out) hu HL.out dx (by rw[limbs_one dx dx];decide));clear hu G1))) | fail
 go_wp2;refine pex ?_;refine ks HBs fun W5 B5 F5=>?_
 have d_:=B5.c3;refine bret Tryz.results224 ?_;exact⟨i,rfl,by rw[← HA.neg];exact HII.fr F5 HBs (noLimb_rat _ _ _ _ _ _ _),(HG.trans HG2).fr_at F5 (by rw[hPE.out];exact hle.out)⟩
def ofQ (x:Int):Q:=⟨decide (x < 0),x.natAbs,0⟩
theorem quot_one (x:Int):quot (decide (x < 0)) x.natAbs 1=ofQ x:=by
 unfold quot ofQ;by_cases h:x.natAbs=0
 ·have:x=0:=by omega
  subst this;rfl
 ·rw[if_neg h,Nat.gcd_one_right,Nat.div_one];rfl
theorem rof_any (w:World) (x:Int) (h1:-1000000000≤x) (h2:x≤1000000000):
  Calls Tryz.prog 188 #[.int .i64 x] w fun e w'=>∃r:Rv,e=.returned r.v∧r.Is w' (ofQ x)∧Gr w w':=by
 have B1:=Bk.made w 35 Rl;have HG:=I ((Gr.refl w).alloc (.cells Rl 35));have C1:=I B1;have HI:=I (fun W=>iof_any W x h1 h2);have HL:Hid ((limbs x.natAbs).length≤1000000):=nt (limbs_len_le (k:=1) (by rw[Nat.pow_one,B32_eq];omega)) dx;have hE:=I (quot_one x);clear B1;go_enter Tryz.func188,Tryz.ntmps188;go_wp2_with fail;refine cm2 (HI.out _) fun i w1 hi G1=>?_
 have HG1:=I (HG.trans G1);have C2:=I (G1.bk C1);have HW:=I (whole_any w1 i _ _ hi HL);rw[hE.out] at HW;clear hi HI C1;go_wp2_with fail;refine cm1 HW fun j w2 HII G2=>?_
 have HG2:=I (HG1.trans G2);have HBs:=I (G2.bk C2);have r0_:=HBs.c3;have fz:=HBs.frozen;clear HW C2;generalize hp:w.heap.size=r at*;have hPE:=I hp;clear hp;go_wp2;refine pex ?_;refine ks HBs fun W5 B5 F5=>?_
 have d_:=B5.c3;refine bret Tryz.results188 ?_;exact⟨j,rfl,HII.fr F5 HBs (noLimb_rat _ _ _ _ _ _ _),HG2.fr_at F5 (Nat.le_of_eq hPE)⟩
theorem nvalid_any (w:World) (x:Sv) (m:Nat) (hx:x.Num w (limbs m)):
  Calls Tryz.prog 176 #[x.v] w fun e w'=>e=.returned (.bool true)∧Gr w w':=by
 obtain⟨A,n,c⟩:=x;have hn:=hx.len;simp only at hn;have hc9:=hx.is.max;have hcn:=hx.is.cap;simp only at hc9 hcn;cases n with
 | zero=>
  go_enter Tryz.func176,Tryz.ntmps176;go_wp2;go_ret;exact⟨rfl,Gr.refl w⟩
 | succ j=>
  obtain⟨p,ad,hp,hp9,hAe,hbl,d1⟩:=hx.at (i:=j) (Nat.lt_succ_self j);simp only at hAe;subst hAe;have hp0:p≠0:=by
   have:=limbs_cano m p;rw[List.getLast?_eq_getElem?,hn] at this;exact this hp
  have hpd:((p:Int) != 0)=true:=by simp;omega
  have hnd:(((j+1:Nat):Int) == 0)=false:=by simp;omega
  have hw1:IntKind.i64.wrap (((j+1:Nat):Int) - 1)=(j:Int):=by rw[wi _ om];omega
  clear hp hbl hn hx;go_enter Tryz.func176,Tryz.ntmps176;go_wp2;go_ret;exact⟨rfl,Gr.refl w⟩
theorem eq_len {a b:Nat} (h:a=b):((a:Int) == (b:Int))=true:=by simp[h]
theorem rvalid_any (w:World) (a:Rv) (q:Q) (ha:a.Is w q) (hq:q.Ok) (hl:(limbs q.num).length≤1000000) (hd:Sl q.un):
  Calls Tryz.prog 126 #[a.v] w fun e w'=>e=.returned (.bool true)∧Gr w w':=by
 have B1:=Bk.made w 35 a.ar;have HG:=I ((Gr.refl w).alloc (.cells a.ar 35));have C1:=I B1;have HA:=I (ha.gr HG);have a0_:=B1.c3;have HNV:=I (nvalid_any _ a.num _ HA.num);have HC:=I (canon_any _ a q HA hl hd);rw[quot_self hq] at HC;have hln:Hid (a.num.n=(limbs q.num).length):=ha.num.len.symm;have hld:Hid (a.den.n=(limbs q.den).length):=ha.den.len.symm;have HNN:=I ha.neg;clear ha hl hd B1;simp only[Rv.v] at*;by_cases h0:q.den=0
 ·have hdd:((a.den.n:Int) == 0)=true:=by
   have hd0:a.den.n=0:=by rw[hld.out,h0,limbs_zero];rfl
   simp[hd0]
  clear h0;go_enter Tryz.func126,Tryz.ntmps126;go_wp2_with fail;go_at_call 176
  refine cm0 HNV fun w1 G1=>?_
  have HG1:=I (HG.trans G1);obtain⟨b0,b1,b2⟩:=(G1.bk C1).c3;clear HNV HC C1 HG a0_;cases hs:a.neg
  ·rw[hs] at b0;go_wp2;go_ret;exact⟨rfl,HG1.out⟩
  ·rw[hs] at b0;have hn0:0 < a.num.n:=by
    rw[hln.out];refine Nat.pos_of_ne_zero fun e=>?_
    have h:=(hq.pos (limbs_len0.1 e)).1;rw[← HNN.out,hs] at h;cases h
   have hn1:decide ((0:Int) < a.num.n)=true:=by simp;omega
   go_wp2;go_ret;exact⟨rfl,HG1.out⟩
 ·have hdd:((a.den.n:Int) == 0)=false:=by
   have hd0:a.den.n≠0:=by rw[hld.out];exact fun e=>h0 (limbs_len0.1 e)
   simp;omega
  clear h0;go_enter Tryz.func126,Tryz.ntmps126;go_wp2_with fail;go_at_call 177
  refine cm2 HC fun c w1 hc G1=>?_
  have D1:=Bk.made w1 35 c.ar;have G2:=(Gr.refl w1).alloc (.cells c.ar 35);have HG1:=I ((HG.trans G1).trans G2);have C2:=I ((G1.trans G2).bk C1);have C3:=I D1;have HA2:=I ((HA.gr G1).gr G2);have HC2:=I (hc.gr G2);have e1:((a.num.n:Int) == (c.num.n:Int))=true:=eq_len (hln.trans hc.num.len);have e2:((a.den.n:Int) == (c.den.n:Int))=true:=eq_len (hld.trans hc.den.len);have e3:(a.neg == c.neg)=true:=by rw[HNN.out,hc.neg];simp
  have HK1:=I (cmp_any _ a.num c.num _ _ HA2.num HC2.num);rw[vl,cmpN_eq] at HK1;obtain⟨b0,b1,b2⟩:=C2.c3;have c0_:=C3.c3;clear hc G2 D1 HC HNV C1 HG a0_ HA;go_wp2_with fail;go_at_call 178
  refine cm0 HK1 fun w2 G2=>?_
  have HG2:=I (HG1.trans G2);have HK2:=I (cmp_any w2 a.den c.den _ _ (HA2.den.gr G2) (HC2.den.gr G2));rw[vl,cmpN_eq] at HK2;obtain⟨f0,f1,f2⟩:=(G2.bk C2).c3;obtain⟨g0,g1,g2⟩:=(G2.bk C3).c3;clear HK1 b0 b1 b2 c0_;go_wp2_with fail;go_at_call 178
  refine cm0 HK2 fun w3 G3=>?_
  have HG3:=I (HG2.trans G3);clear HK2;go_wp2;go_ret;exact⟨rfl,HG3.out⟩
end
abbrev Tm:=Int×Q
structure Fm where
 terms:List Tm
 const:Q
 deriving DecidableEq,Inhabited
def Tm.Ok (vars:Nat) (t:Tm):Prop:=0≤t.1∧t.1 < vars∧t.2.num≠0∧t.2.Ok
instance (vars:Nat) (t:Tm):Decidable (Tm.Ok vars t):=by unfold Tm.Ok;infer_instance
structure Fm.Ok (f:Fm) (vars:Nat):Prop where
 asc:∀(i:Nat) (s t:Tm),f.terms[i]?=some s→f.terms[i+1]?=some t→s.1 < t.1
 each:∀t∈f.terms,Tm.Ok vars t
 const:f.const.Ok
def snoc (l:List Tm) (v:Int) (c:Q):List Tm:=if c.num=0 then l else l++[(v,c)]
theorem Fm.Ok.mono {f:Fm} {a b:Nat} (h:f.Ok a) (hab:a≤b):f.Ok b:=⟨h.asc,fun t ht=>by
 obtain⟨h1,h2,h3⟩:=h.each t ht;exact⟨h1,by omega,h3⟩,h.const⟩
theorem Fm.Ok.snoc {l:List Tm} {k c:Q} {v:Nat} (h:Fm.Ok ⟨l,k⟩ v) (hc:c.Ok):Fm.Ok ⟨snoc l v c,k⟩ (v+1):=by
 unfold Go.Proofs.YtbhbainhmfjpdaaGreatDoor.snoc;split
 ·exact h.mono (by omega)
 ·rename_i h0
  refine⟨fun i s t hs ht=>?_,fun t ht=>?_,h.const⟩
  ·simp only at hs ht;have hi:=(List.getElem?_eq_some_iff.1 ht).1;rw[List.length_append,List.length_singleton] at hi;rw[List.getElem?_append_left (by omega)] at hs;rcases Nat.lt_or_ge (i+1) l.length with h1 | h1
   ·rw[List.getElem?_append_left h1] at ht;exact h.asc i s t hs ht
   ·rw[List.getElem?_append_right h1,show i+1 - l.length=0 by omega] at ht;obtain rfl:(((v:Int),c):Tm)=t:=by simpa using ht
    have:=(h.each s (List.mem_of_getElem? hs)).2.1;simpa using this
  ·rcases List.mem_append.1 ht with h1 | h1
   ·exact (h.mono (by omega)).each t h1
   ·rw[List.mem_singleton.1 h1];exact⟨by simp only;omega,by simp only;omega,h0,hc⟩
structure Tv where
 var:Int
 coef:Rv
abbrev Tv.v (t:Tv):Value:=.agg #[.int .i64 t.var,.bool t.coef.neg,.slice t.coef.num.A t.coef.num.n t.coef.num.c,.slice t.coef.den.A t.coef.den.n t.coef.den.c]
abbrev Tv.ar (t:Tv):Array Value:=#[.int .i64 t.var,.bool t.coef.neg,.slice t.coef.num.A t.coef.num.n t.coef.num.c,.slice t.coef.den.A t.coef.den.n t.coef.den.c]
def Tv.cs (t:Tv):List Value:=[.int .i64 t.var,.bool t.coef.neg,.slice t.coef.num.A t.coef.num.n t.coef.num.c,.slice t.coef.den.A t.coef.den.n t.coef.den.c]
structure Tv.Is (w:World) (t:Tv) (x:Tm):Prop where
 var:t.var=x.1
 coef:t.coef.Is w x.2
theorem Tv.Is.gr {w w':World} {t:Tv} {x:Tm} (h:t.Is w x) (G:Gr w w'):t.Is w' x:=⟨h.var,h.coef.gr G⟩
instance kpTv {x:Tv} {q} {w w'}:Kp (x.Is w q) w w' (x.Is w' q):=⟨fun G h=>h.gr G⟩
theorem Tv.len (t:Tv):t.cs.length=4:=rfl
abbrev Terms (w:World) (x:Sv) (l:List Tm):Prop:=Rows Tv.cs Tv.Is 138 4 w x l
theorem Terms.gr {w w':World} {x:Sv} {l:List Tm} (h:Terms w x l) (G:Gr w w'):Terms w' x l:=Rows.gr (fun h G=>h.gr G) h G
theorem Terms.len {w:World} {x:Sv} {l:List Tm} (h:Terms w x l):l.length=x.n:=Rows.len Tv.len dx h
theorem Terms.at {w:World} {x:Sv} {l:List Tm} (h:Terms w x l) {i:Nat} {a:Tm} (ha:l[i]?=some a):
  ∃(t:Tv) (ad:Addr),t.Is w a∧x.A=some ad∧w.cell? (ad.add (i*4))=some (.int .i64 t.var)∧w.cell? ⟨(ad.add (i*4)).block,(ad.add (i*4)).off+1,none⟩=some (.bool t.coef.neg)∧w.cell? ⟨(ad.add (i*4)).block,(ad.add (i*4)).off+2,none⟩=some (.slice t.coef.num.A t.coef.num.n t.coef.num.c)∧w.cell? ⟨(ad.add (i*4)).block,(ad.add (i*4)).off+3,none⟩=some (.slice t.coef.den.A t.coef.den.n t.coef.den.c):=by
 obtain⟨t,ht,hc⟩:=Rows.at Tv.len h ha;obtain⟨ad,hA,_,c0⟩:=hc 0 _ rfl;obtain⟨ad1,h1,_,c1⟩:=hc 1 _ rfl;obtain⟨ad2,h2,_,c2⟩:=hc 2 _ rfl;obtain⟨ad3,h3,_,c3⟩:=hc 3 _ rfl;rw[hA] at h1 h2 h3;cases h1;cases h2;cases h3
 rw[add_in _ _ dx] at c1 c2 c3;exact⟨t,ad,ht,hA,c0,c1,c2,c3⟩
structure Fv where
 terms:Sv
 const:Rv
abbrev Fv.v (f:Fv):Value:=.agg #[.slice f.terms.A f.terms.n f.terms.c,.bool f.const.neg,.slice f.const.num.A f.const.num.n f.const.num.c,.slice f.const.den.A f.const.den.n f.const.den.c]
abbrev Fv.ar (f:Fv):Array Value:=#[.slice f.terms.A f.terms.n f.terms.c,.bool f.const.neg,.slice f.const.num.A f.const.num.n f.const.num.c,.slice f.const.den.A f.const.den.n f.const.den.c]
attribute [go_sem] Tv.v Fv.v Tv.ar Fv.ar
def Fv.cs (f:Fv):List Value:=[.slice f.terms.A f.terms.n f.terms.c,.bool f.const.neg,.slice f.const.num.A f.const.num.n f.const.num.c,.slice f.const.den.A f.const.den.n f.const.den.c]
structure Fv.Is (w:World) (f:Fv) (x:Fm):Prop where
 terms:Terms w f.terms x.terms
 const:f.const.Is w x.const
theorem Fv.Is.gr {w w':World} {f:Fv} {x:Fm} (h:f.Is w x) (G:Gr w w'):f.Is w' x:=⟨h.terms.gr G,h.const.gr G⟩
instance kpFv {x:Fv} {q} {w w'}:Kp (x.Is w q) w w' (x.Is w' q):=⟨fun G h=>h.gr G⟩
instance kpTs {x l} {w w'}:Kp (Terms w x l) w w' (Terms w' x l):=⟨fun G h=>Terms.gr h G⟩
theorem Fv.len (f:Fv):f.cs.length=4:=rfl
abbrev Forms (w:World) (x:Sv) (l:List Fm):Prop:=Rows Fv.cs Fv.Is 37 4 w x l
theorem Forms.gr {w w':World} {x:Sv} {l:List Fm} (h:Forms w x l) (G:Gr w w'):Forms w' x l:=Rows.gr (fun h G=>h.gr G) h G
instance kpFs {x l} {w w'}:Kp (Forms w x l) w w' (Forms w' x l):=⟨fun G h=>Forms.gr h G⟩
theorem Forms.len {w:World} {x:Sv} {l:List Fm} (h:Forms w x l):l.length=x.n:=Rows.len Fv.len dx h
theorem Forms.at {w:World} {x:Sv} {l:List Fm} (h:Forms w x l) {i:Nat} {a:Fm} (ha:l[i]?=some a):
  ∃(t:Fv) (ad:Addr),t.Is w a∧x.A=some ad∧w.cell? (ad.add (i*4))=some (.slice t.terms.A t.terms.n t.terms.c)∧w.cell? ⟨(ad.add (i*4)).block,(ad.add (i*4)).off+1,none⟩=some (.bool t.const.neg)∧w.cell? ⟨(ad.add (i*4)).block,(ad.add (i*4)).off+2,none⟩=some (.slice t.const.num.A t.const.num.n t.const.num.c)∧w.cell? ⟨(ad.add (i*4)).block,(ad.add (i*4)).off+3,none⟩=some (.slice t.const.den.A t.const.den.n t.const.den.c):=by
 obtain⟨t,ht,hc⟩:=Rows.at Fv.len h ha;obtain⟨ad,hA,_,c0⟩:=hc 0 _ rfl;obtain⟨ad1,h1,_,c1⟩:=hc 1 _ rfl;obtain⟨ad2,h2,_,c2⟩:=hc 2 _ rfl;obtain⟨ad3,h3,_,c3⟩:=hc 3 _ rfl;rw[hA] at h1 h2 h3;cases h1;cases h2;cases h3
 rw[add_in _ _ dx] at c1 c2 c3;exact⟨t,ad,ht,hA,c0,c1,c2,c3⟩
theorem Tv.Is.tf {w w':World} {t:Tv} {x:Tm} {X:Nat→Prop} (h:t.Is w x) (F:Fr X w w') (hX:∀b cs fr,X b→w.heap[b]?≠some (.cells cs 200 fr)):t.Is w' x:=⟨h.var,h.coef.tf F hX⟩
theorem Terms.tf {w w':World} {x:Sv} {l:List Tm} {X:Nat→Prop} (h:Terms w x l) (F:Fr X w w') (hX:∀b cs fr,X b→w.heap[b]?≠some (.cells cs 138 fr)) (hU:∀b cs fr,X b→w.heap[b]?≠some (.cells cs 200 fr)):Terms w' x l:=
 Rows.tf h F hX fun _ _ h=>h.tf F hU
theorem Fv.Is.tf {w w':World} {f:Fv} {x:Fm} {X:Nat→Prop} (h:f.Is w x) (F:Fr X w w') (hX:∀b cs fr,X b→w.heap[b]?≠some (.cells cs 138 fr)) (hU:∀b cs fr,X b→w.heap[b]?≠some (.cells cs 200 fr)):f.Is w' x:=⟨h.terms.tf F hX hU,h.const.tf F hU⟩
theorem Fv.Is.tf' {w w':World} {f:Fv} {x:Fm} {p t:Nat} {us:Array Value} (h:f.Is w x) (F:Fr (fun b=>b=p) w w') (hb:Bk w p t us) (h1:t≠138:=by decide) (h2:t≠200:=by decide):f.Is w' x:=
 h.tf F (fun b cs fr e hh=>Bk.not_ty hb h1 cs fr (e▸hh)) (fun b cs fr e hh=>Bk.not_ty hb h2 cs fr (e▸hh))
theorem Rv.Is.tf' {w w':World} {f:Rv} {x:Q} {p t:Nat} {us:Array Value} (h:f.Is w x) (F:Fr (fun b=>b=p) w w') (hb:Bk w p t us) (h2:t≠200:=by decide):f.Is w' x:=
 h.tf F (fun b cs fr e hh=>Bk.not_ty hb h2 cs fr (e▸hh))
structure Q.Bd (q:Q) (n d:Nat):Prop where
 num:(limbs q.num).length≤n
 den:(limbs q.un).length≤d
theorem den0_un (s:Bool) (a d:Nat) (hd:0 < d):(Q.mk s a (den0 d)).un=d:=by
 unfold Q.un den0;by_cases h:d=1
 ·rw[if_pos h];exact (if_pos rfl).trans h.symm
 ·rw[if_neg h];exact if_neg (Nat.ne_of_gt hd)
theorem limbs1:(limbs 1).length=1:=by rw[limbs_one dx dx];rfl
theorem len_pos {b:Nat} (h:0 < b):1≤(limbs b).length:=by
 rcases Nat.eq_zero_or_pos (limbs b).length with e | e
 ·have:=limbs_len0.1 e;omega
 ·exact e
theorem quot_bd (s:Bool) {a b n d:Nat} (ha:(limbs a).length≤n) (hb0:0 < b) (hb:(limbs b).length≤d):(quot s a b).Bd n d:=by
 unfold quot;split
 ·exact⟨by rw[show (Q.zero).num=0 from rfl,limbs_zero];exact nq _,nt (by rw[show (Q.zero).un=1 from rfl,limbs1];exact len_pos hb0) hb⟩
 ·rename_i h0
  have hg:=Nat.gcd_pos_of_pos_left b (Nat.pos_of_ne_zero h0);have hd2:0 < b / Nat.gcd a b:=Nat.div_pos (Nat.le_of_dvd hb0 (Nat.gcd_dvd_right ..)) hg;refine⟨nt (limbs_len_mono (Nat.div_le_self _ _)) ha,?_⟩;rw[den0_un _ _ _ hd2];exact nt (limbs_len_mono (Nat.div_le_self _ _)) hb
theorem Q.Bd.mul {x y:Q} {n d m e:Nat} (h:x.Bd n d) (k:y.Bd m e):(Q.mul x y).Bd (n+m) (d+e):=
 quot_bd _ (nt (limbs_mul_len _ _) (Nat.add_le_add h.num k.num)) (Nat.mul_pos x.un_pos y.un_pos) (nt (limbs_mul_len _ _) (Nat.add_le_add h.den k.den))
theorem Q.Bd.add {x y:Q} {n d m e:Nat} (h:x.Bd n d) (k:y.Bd m e):(Q.add x y).Bd (n+m+d+e+1) (d+e):=by
 have h1:(limbs (x.num*y.un)).length≤n+m+d+e:=nt (limbs_mul_len _ _) (by have:=h.num;have:=k.den;omega);have h2:(limbs (y.num*x.un)).length≤n+m+d+e:=nt (limbs_mul_len _ _) (by have:=k.num;have:=h.den;omega);unfold Q.add;refine quot_bd _ ?_ (Nat.mul_pos x.un_pos y.un_pos) (nt (limbs_mul_len _ _) (Nat.add_le_add h.den k.den));unfold sadd;split
 ·exact limbs_add_len _ _ _ h1 h2
 ·split
  ·exact nt (limbs_len_mono (Nat.sub_le _ _)) om
  ·exact nt (limbs_len_mono (Nat.sub_le _ _)) om
structure Q.Lo (q:Q):Prop where
 num:(limbs q.num).length≤10000
 den:(limbs q.un).length≤10000
theorem Q.Lo.bd {q:Q} (h:q.Lo):q.Bd 10000 10000:=⟨h.num,h.den⟩
def canonQ (q:Q):Q:=quot q.neg q.num q.un
theorem Q.Bd.canon {x:Q} {n d:Nat} (h:x.Bd n d):(canonQ x).Bd n d:=quot_bd _ h.num x.un_pos h.den
theorem canonQ_ok {q:Q} (h:q.Ok):canonQ q=q:=quot_self h
theorem sign_zero (q:Q):(q.sign != 0)=!decide (q.num=0):=by
 unfold Q.sign;by_cases h:q.num=0
 ·simp[h]
 ·rw[if_neg h];cases q.neg<;>simp[h]
theorem fr_own0 {w w':World} {v:Value} (hg:w.grownBy w' v.ownBlock):Fr (fun b=>v.ownBlock=some b) w w':=
 ⟨(Below.refl 0 w).grown hg (nq _) (fun _ _=>nq _),fun b hb hne=>hg.block b hb (fun e=>hne e.symm)⟩
def Own {α β:Type} (cs:β→List Value) (Is:World→β→α→Prop) (e k:Nat) (w:World) (B:Nat) (x:Sv) (xs:List α):Prop:=
 ∃ts:List (β×α),w.ownsRow B e k (.slice x.A x.n x.c) x.n (ts.flatMap fun p=>cs p.1)∧xs=ts.map (·.2)∧∀p∈ts,Is w p.1 p.2
section
variable {α β:Type} {cs:β→List Value} {Is:World→β→α→Prop} {e k:Nat} {w w':World} {B:Nat} {x:Sv} {xs:List α}
theorem Own.nil (w:World) (B:Nat):Own cs Is e k w B Sv.none []:=⟨[],World.ownsRow_nil w B e k,rfl,fun p h=>by cases h⟩
theorem Own.len (h:Own cs Is e k w B x xs) (hk:∀b,(cs b).length=k) (h0:0 < k):xs.length=x.n:=by
 obtain⟨ts,⟨h1,_⟩,rfl,_⟩:=h;rw[flat_len (F:=fun p:β×α=>cs p.1) (k:=k) (fun p=>hk p.1)] at h1;rw[List.length_map];exact Nat.eq_of_mul_eq_mul_right h0 h1
theorem Own.rows (h:Own cs Is e k w B x xs) (h0:0 < k):Rows cs Is e k w x xs:=by
 obtain⟨ts,h1,h2,h3⟩:=h;obtain⟨y,hy,_,hi,ht⟩:=Sv.of_row h1 h0;obtain⟨yA,yn,yc⟩:=y;obtain⟨xA,xn,xc⟩:=x;simp only[Value.slice.injEq] at hy;obtain⟨rfl,rfl,rfl⟩:=hy;exact⟨ts,hi,h2,h3,ht⟩
theorem Own.go (h:Own cs Is e k w B x xs) (hI:∀p,∀a,Is w p a→Is w' p a) (hk:∀b,(Value.slice x.A x.n x.c).ownBlock=some b→w'.heap[b]?=w.heap[b]?):Own cs Is e k w' B x xs:=by
 obtain⟨ts,h1,h2,h3⟩:=h;exact⟨ts,rw_keep h1 hk,h2,fun p hp=>hI _ _ (h3 p hp)⟩
theorem Own.lt (h:Own cs Is e k w B x xs):∀b,(Value.slice x.A x.n x.c).ownBlock=some b→B≤b∧b < w.heap.size:=by
 obtain⟨ts,h1,_⟩:=h;exact World.ownsRow.lt h1
theorem Own.gr (h:Own cs Is e k w B x xs) (hI:∀p,∀a,Is w p a→Is w' p a) (G:Gr w w'):Own cs Is e k w' B x xs:=h.go hI fun b hb=>G.below.block b (h.lt b hb).2
theorem Own.ne (h:Own cs Is e k w B x xs) {g t:Nat} {us:Array Value} (hb:Bk w g t us) (ht:t≠e):(Value.slice x.A x.n x.c).ownBlock≠some g:=by
 obtain⟨ts,h1,_⟩:=h;exact rw_ne h1 hb ht
end
theorem Rv.Is.own {w w':World} {r:Rv} {q:Q} {v:Value} {B e k n:Nat} {xs:List Value} (h:r.Is w q) (ho:w.ownsRow B e k v n xs) (he:e≠200) (F:Fr (fun b=>v.ownBlock=some b) w w'):r.Is w' q:=
 h.tf F fun b cs fr hb hh=>by
  obtain⟨cur,hc⟩:=rw_bk ho b hb;exact Bk.not_ty hc he _ _ hh
theorem Bk.put4 {w:World} {p t:Nat} {a b c d:Value} (h:Bk w p t #[a,b,c,d]) (x y z u:Value):
  Bk ((((w.setCell ⟨p,0,none⟩ x).setCell ⟨p,1,none⟩ y).setCell ⟨p,2,none⟩ z).setCell ⟨p,3,none⟩ u) p t #[x,y,z,u]∧Fr (fun b=>b=p) w ((((w.setCell ⟨p,0,none⟩ x).setCell ⟨p,1,none⟩ y).setCell ⟨p,2,none⟩ z).setCell ⟨p,3,none⟩ u):=by
 refine⟨?_,Fr.trans (Fr.trans (Fr.trans (Fr.set w ⟨p,0,none⟩ x rfl) (Fr.set _ ⟨p,1,none⟩ y rfl)) (Fr.set _ ⟨p,2,none⟩ z rfl)) (Fr.set _ ⟨p,3,none⟩ u rfl)⟩;have:=(((Bk.put h 0 x).put 1 y).put 2 z).put 3 u;simpa using this
theorem Rv.inj {a b:Rv} (h:a.v=b.v):a=b:=by
 obtain⟨n,⟨A,k,c⟩,⟨B,l,d⟩⟩:=a;obtain⟨n',⟨A',k',c'⟩,⟨B',l',d'⟩⟩:=b;simp only[Rv.v,Value.agg.injEq,Array.mk.injEq,List.cons.injEq,Value.bool.injEq,Value.slice.injEq,and_true] at h;obtain⟨rfl,⟨rfl,rfl,rfl⟩,rfl,rfl,rfl⟩:=h;rfl
def Rv.At (q:Q) (v:Value) (W:World):Prop:=∃r:Rv,v=r.v∧r.Is W q
theorem Rv.At.gr {W W':World} {v:Value} {q:Q} (h:Rv.At q v W) (G:Gr W W'):Rv.At q v W':=by
 obtain⟨r,e,hr⟩:=h;exact⟨r,e,hr.gr G⟩
theorem Rv.At.is {W:World} {r:Rv} {q:Q} (h:Rv.At q r.v W):r.Is W q:=by
 obtain⟨s,e,hs⟩:=h;rw[Rv.inj e];exact hs
theorem Fv.inj {a b:Fv} (h:a.v=b.v):a=b:=by
 obtain⟨⟨A,k,c⟩,n,⟨B,l,d⟩,⟨C,m,e⟩⟩:=a;obtain⟨⟨A',k',c'⟩,n',⟨B',l',d'⟩,⟨C',m',e'⟩⟩:=b;simp only[Fv.v,Value.agg.injEq,Array.mk.injEq,List.cons.injEq,Value.bool.injEq,Value.slice.injEq,and_true] at h;obtain⟨⟨rfl,rfl,rfl⟩,rfl,⟨rfl,rfl,rfl⟩,rfl,rfl,rfl⟩:=h;rfl
def Fv.At (x:Fm) (v:Value) (W:World):Prop:=∃f:Fv,v=f.v∧f.Is W x
theorem Fv.At.gr {W W':World} {v:Value} {x:Fm} (h:Fv.At x v W) (G:Gr W W'):Fv.At x v W':=by
 obtain⟨r,e,hr⟩:=h;exact⟨r,e,hr.gr G⟩
theorem Fv.At.is {W:World} {f:Fv} {x:Fm} (h:Fv.At x f.v W):f.Is W x:=by
 obtain⟨s,e,hs⟩:=h;rw[Fv.inj e];exact hs
theorem made1 (w:World) (t0:TypeId) (a0:Array Value):Bk (w.alloc (.cells a0 t0)) w.heap.size t0 a0∧Gr w (w.alloc (.cells a0 t0)):=⟨Bk.made w t0 a0,(Gr.refl w).alloc _⟩
def lenOf:Value→Nat
 | .slice _ n _=>n
 | _=>0
def NewAt (t:TypeId) (cs:Array Value) (N:Nat) (v:Value) (W:World):Prop:=∃b,v=.pointer (some ⟨b,0,Option.none⟩)∧Bk W b t cs∧N≤b
theorem NewAt.gr {W W':World} {v:Value} {t N:Nat} {cs:Array Value} (h:NewAt t cs N v W) (G:Gr W W'):NewAt t cs N v W':=by
 obtain⟨b,e,h1,h2⟩:=h;exact⟨b,e,G.bk h1,h2⟩
theorem NewAt.made (W:World) (t:TypeId) (cs:Array Value) (N:Nat) (h:N≤W.heap.size):NewAt t cs N (.pointer (some ⟨W.heap.size,0,Option.none⟩)) (W.alloc (.cells cs t)):=⟨_,rfl,Bk.made _ _ _,h⟩
theorem NewAt.is {W:World} {b t N:Nat} {cs:Array Value} (h:NewAt t cs N (.pointer (some ⟨b,0,Option.none⟩)) W):Bk W b t cs∧N≤b:=by
 obtain⟨b',e,h1,h2⟩:=h;injection e with e;injection e with e;injection e with e;subst e;exact⟨h1,h2⟩
theorem Gr.od {W W':World} (G:Gr W.drew W'):Gr W W':=(Gr.refl W).drew.trans G
theorem Fr.none {X:Nat→Prop} {w w':World} (h:Fr (fun _=>False) w w'):Fr X w w':=h.wide fun _ _ h=>h.elim
theorem Fr.fr0 {X:Nat→Prop} {w w':World} (h:Fr X w w'):Fr (fun _=>True) w w':=⟨h.bel,fun b hb hx=>(hx trivial).elim⟩
theorem op_appS {P:Program} {t e size bytes:Nat} (h:ElemS P t e size bytes) {w:World} {o:Oper} {a:Act} {K:Act→World→Prop} {Q:Exit→Act→World→Prop} (hgd:o.guard=none) (s x:Operand) (ho:o.op=.call { callee:=.builtin .append,args:=#[s,x],argTypes:=#[t,t] })
  (base:Nat) (v:Value) (n:Nat) (xs:List Value) (hs:a.eval s=v) (hown:w.ownsRow base e size v n xs) (ad:Addr) (m c:Nat) (news:List Value) (hx:a.eval x=.slice (some ad) m c) (hl:news.length=m*size) (hnews:∀j u,news[j]?=some u→w.cell? (ad.add j)=some u) (h1:∀u∈news,u.oneCell'=true)
  (h63:n+m≤maxLen) (hbytes:(n+m)*bytes≤140737488355328) (hbase:base≤w.heap.size)
  (hK:∀v' w',w'.ownsRow base e size v' (n+m) (xs++news)→w.grownBy w' v.ownBlock→(v'.ownBlock=v.ownBlock∨v'.ownBlock=some w.heap.size)→K (a.put o.dst v') w'):Oper.wp P o a w K Q:=by
 have:=step_appS (ops:=#[]) (E:=True) (Q:=Q) h hgd s x ho base v n xs hs hown ad m c news hx hl hnews h1 h63 hbytes hbase hK;rwa [if_pos (by simp[Region.wanted,hgd])] at this
theorem bk_cells {W:World} {b t:Nat} {us:Array Value} (h:Bk W b t us) (j:Nat) (u:Value) (hu:us.toList[j]?=some u):W.cell? ((⟨b,0,none⟩:Addr).add j)=some u:=by
 rw[add_mk,Nat.zero_add];refine (h.cell j).trans ?_;rw[← Array.getElem?_toList];exact hu
section
attribute [local go_sem] Oper.semAt_some
theorem elemT:ElemS Tryz.prog 31 138 4 64:=elem_of (z:=.agg #[.int .i64 0,.bool false,.slice none 0 0,.slice none 0 0]) (by kernel_rfl) (by kernel_rfl) rfl dx
abbrev OwnT (w:World) (B:Nat) (x:Sv) (l:List Tm):Prop:=Own Tv.cs Tv.Is 138 4 w B x l
theorem OwnT.fr {w w':World} {B:Nat} {x:Sv} {l:List Tm} {X:Nat→Prop} (h:OwnT w B x l) (F:Fr X w w') (hX:∀b cs fr,X b→w.heap[b]?≠some (.cells cs 200 fr)) (hx:∀b,(Value.slice x.A x.n x.c).ownBlock=some b→¬X b):OwnT w' B x l:=
 h.go (fun p a ha=>⟨ha.var,ha.coef.tf F hX⟩) fun b hb=>F.keep b (h.lt b hb).2 (hx b hb)
theorem OwnT.up {w w':World} {B:Nat} {x:Sv} {l:List Tm} (h:OwnT w B x l) (G:Gr w w'):OwnT w' B x l:=Own.gr h (fun _ _ ha=>ha.gr G) G
theorem OwnT.terms {w:World} {B:Nat} {x:Sv} {l:List Tm} (h:OwnT w B x l):Terms w x l:=h.rows dx
def TermsOne (x:Int) (q:Q) (v:Value) (W:World):Prop:=∃(b:Nat) (t:Tv),v=.slice (some ⟨b,0,none⟩) 1 1∧Bk W b 138 #[.int .i64 t.var,.bool t.coef.neg,.slice t.coef.num.A t.coef.num.n t.coef.num.c,.slice t.coef.den.A t.coef.den.n t.coef.den.c]∧t.Is W (x,q)
theorem TermsOne.gr {W W':World} {x:Int} {q:Q} {v:Value} (h:TermsOne x q v W) (G:Gr W W'):TermsOne x q v W':=by
 obtain⟨b,t,e,h1,h2⟩:=h;exact⟨b,t,e,G.bk h1,h2.gr G⟩
def putT (l:List Tm) (v:Int) (q:Q):List Tm:=if q.num=0 then l else l++[(v,canonQ q)]
theorem putT_snoc (l:List Tm) (v:Int) {q:Q} (h:q.Ok):putT l v q=snoc l v q:=by unfold putT snoc;rw[canonQ_ok h]
theorem OwnT.push {w w':World} {B:Nat} {x:Sv} {l:List Tm} {t:Tv} {v:Int} {q:Q} {v':Value} (ts:List (Tv×Tm)) (h1:w.ownsRow B 138 4 (.slice x.A x.n x.c) x.n (ts.flatMap fun p=>p.1.cs)) (hl:l=ts.map (·.2)) (hts:∀p∈ts,p.1.Is w p.2) (ht:t.Is w (v,q))
  (h:w'.ownsRow B 138 4 v' (x.n+1) ((ts.flatMap fun p=>p.1.cs)++t.cs)) (F:Fr (fun b=>(Value.slice x.A x.n x.c).ownBlock=some b) w w'):∃y:Sv,v'=y.v∧y.n=x.n+1∧OwnT w' B y (l++[(v,q)]):=by
 obtain⟨A,c,rfl⟩:=rw_form h;refine⟨⟨A,x.n+1,c⟩,rfl,rfl,ts++[(t,(v,q))],?_,?_,?_⟩
 ·rw[List.flatMap_append];simpa using h
 ·rw[hl,List.map_append];rfl
 ·intro p hp;rcases List.mem_append.1 hp with hp | hp
  ·exact⟨(hts p hp).var,(hts p hp).coef.own h1 dx F⟩
  ·rw[mj hp];exact⟨ht.var,ht.coef.own h1 dx F⟩
theorem put_any (w:World) (B:Nat) (f:Fv) (l:List Tm) (k:Q) (v:Int) (c:Rv) (q:Q) (hf:OwnT w B f.terms l) (hk:f.const.Is w k) (hc:c.Is w q) (hB:B≤w.heap.size) (hn:l.length≤1000000) (h1:(limbs q.num).length≤1000000) (h2:Sl q.un):
  Calls Tryz.prog 231 #[f.v,.int .i64 v,c.v] w fun e w'=>∃y:Sv,e=.returned (Fv.v ⟨y,f.const⟩)∧OwnT w' B y (putT l v q)∧Fr (fun b=>(Value.slice f.terms.A f.terms.n f.terms.c).ownBlock=some b) w w':=by
 obtain⟨B1,B2,B3,G⟩:=made3 w 37 35 37 f.ar c.ar Fl;have HA:=I (hf.up G);have HC:=I (hc.gr G);have HG:=I G;have C1:=I B1;have C2:=I B2;have C3:=I B3;have L1:=I h1;have L2:=I h2;have LN:=I hn;have LB:=I hB;have HS:=I (sign_any _ c q HC h1);have hz:=I (sign_zero q);obtain⟨a0,a1,a2,a3⟩:=B1.c4;obtain⟨b0,b1,b2⟩:=B2.c3;clear hf hk hc B1 B2 B3 G h1 h2 hn hB;simp only[Rv.v,Fv.v] at*;go_enter Tryz.func231,Tryz.ntmps231;go_wp2_with fail;refine cm0 HS fun w1 G1=>?_
 have D1:=I (G1.bk C1);have D2:=I (G1.bk C2);have D3:=I (G1.bk C3);have HA1:=I (HA.up G1);have HC1:=I (HC.gr G1);have HG1:=I (HG.trans G1);clear a0 a1 a2 a3 b0 b1 b2 C1 C2 C3 HA HC HG HS;obtain⟨a0,a1,a2,a3⟩:=D1.c4;obtain⟨b0,b1,b2⟩:=D2.c3;have r0_:=D3.c4;have fz:=D3.frozen;have h9:¬w.heap.size=w.heap.size+1+1:=by omega
 have h8:¬w.heap.size=w.heap.size+1:=by omega
 have hpo:Hid (w.heap.size≤w.heap.size+1+1):=nt (Nat.le_succ _) (Nat.le_succ _);have hqo:Hid (w.heap.size≤w.heap.size):=nr _;generalize w.heap.size+1+1=r at*;generalize w.heap.size+1=g at*;generalize hp:w.heap.size=p at*;have hPE:=I hp;clear hp;have h7:¬r=p:=fun e=>h9 e.symm
 generalize q.sign=sg at*;by_cases h0:q.num=0
 ·have hd:(sg != 0)=false:=by rw[hz.out,dt h0];rfl
  go_wp2;refine pex ?_;refine ks D3 fun W5 B5 F5=>?_
  have d_:=B5.c4;refine bret Tryz.results231 ?_;refine⟨f.terms,rfl,?_,?_⟩
  ·unfold putT;rw[if_pos h0];exact HA1.fr F5 (fun b cs fr e hh=>Bk.not_ty D3 dx cs fr (e▸hh)) fun b hb e=>HA1.ne D3 dx (e▸hb)
  ·exact ((HG1.fr_at F5 (by rw[hPE.out];exact hpo.out)).fr).wide fun _ _ h=>h.elim
 ·have hd:(sg != 0)=true:=by rw[hz.out,df h0];rfl
  have h8':¬g=p:=fun e=>h8 e.symm
  obtain⟨ts,t1,t2,t3⟩:=HA1.out;have T1:=I t1;have T2:=I t2;have T3:=I t3;have LX:Hid (f.terms.n≤1000000):=by
   have e:=HA1.len Tv.len dx;show f.terms.n≤1000000;rw[← e];exact LN.out
  clear t1 t2 t3 HA1;go_upto_region 2 with fail;refine wpr ?_;have kc:=I fun W' (G:Gr w1.drew W')=>G.kk a0 <| G.kk a1 <| G.kk a2 <| G.kk a3 <| G.kk b0 <| ai (G.keep b1) (G.keep b2)
  refine wg 3 (tf 7 3) [0,1,2,3,4,5,6] [(4,Rv.At (canonQ q)),(6,TermsOne v (canonQ q))] ?_;iterate 4 refine .tk ?_
  refine .dk (fun W1 G1 F1=>canon_any W1 c q (HC1.gr ((Gr.refl w1).drew.trans G1)) L1 L2) ?_;rintro _ ⟨_,-,-,⟨i,rfl,-⟩⟩;refine .tk ?_;refine .dc (fun W1 G1 F1=>?_) ?_
  ·obtain⟨a0,a1,a2,a3,b0,b1,b2⟩:=kc.out W1 G1;have hi:=lk F1 0;have hi:=Rv.At.is hi;refine dov ?_;exact⟨(Gr.refl W1).alloc _,W1.heap.size,⟨v,i⟩,rfl,Bk.made _ _ _,rfl,hi.gr ((Gr.refl W1).alloc _)⟩
  rintro _ ⟨_,-,-,⟨b,-,rfl,-⟩⟩;refine .done fun W1 G1 F1=>?_
  have hi:=lh F1 0;have hb:=lh F1 1;replace kc:=kc.out W1 G1;clear F1 a0 a1 a2 a3 b0 b1 b2;have GW:=I ((Gr.refl w1).drew.trans G1);obtain⟨b',t,he,hb,ht⟩:=hb;obtain rfl:b=b':=by injection he with he;injection he with he;injection he
  have T4:=I (rw_keep T1 (fun b hb=>GW.below.block b (rw_lt T1 b hb).2));have BT:=I hb;have HT:=I ht;have E1:=I (GW.bk D1);have E2:=I (GW.bk D3);clear he hb ht hi G1;refine wpAny_k 7 fun K hK=>?_
  refine op_appS elemT rfl _ _ rfl B f.terms.v f.terms.n (ts.flatMap fun p=>p.1.cs) (by rfl) T4.out ⟨b,0,none⟩ 1 1 [.int .i64 t.var,.bool t.coef.neg,t.coef.num.v,t.coef.den.v] (by rfl) (by rfl) (bk_cells BT) (by simp[Value.oneCell']) (by unfold maxLen;have:=LX.out;omega) (by have:=LX.out;omega) (by have:=LB.out;have:=HG1.size;have:=GW.size;have:=hPE.out;omega) (fun v' w5 e1 e2 e3=>?_);have F:=fr_own0 e2;obtain⟨y,rfl,hyn,hy⟩:=OwnT.push (t:=t) ts T4 T2 (fun a ha=>(T3.out a ha).gr GW) HT e1 F;have HY:=I hy;have KP2:=I (F.bk E1 (fun e=>rw_ne T4 E1 dx e));have KR2:=I (F.bk E2 (fun e=>rw_ne T4 E2 dx e));have FF:=I F;clear e1 e2 e3 F hy hyn;refine hK.out _ _ ?_;clear hK K;refine ptt ?_;have m0_:=KP2.c4;have fz1:=KP2.frozen;have qz1:=KR2.frozen;have q0_:=KR2.c4;clear r0_ fz kc;refine wo 8 ?_;refine wo 9 ?_;refine wpe ?_;have KP3:Hid (Bk (w5.setCell ⟨p,0,none⟩ y.v) p 37 #[y.v,.bool f.const.neg,f.const.num.v,f.const.den.v]):=I (by have:=KP2.put 0 y.v;simpa using this);have F3:=I (Fr.set w5 ⟨p,0,none⟩ y.v rfl:Fr (fun b=>b=p) w5 (w5.setCell ⟨p,0,none⟩ y.v));have KR3:=I (F3.bk KR2 h7);have HY3:=I (HY.fr F3 (fun b cs fr e hh=>Bk.not_ty KP2 dx cs fr (e▸hh)) fun b hb e=>HY.ne KP2 dx (e▸hb));generalize w5.setCell ⟨p,0,none⟩ y.v=w6 at*;clear m0_ q0_ fz1 qz1;have m0_:=KP3.c4;have q0_:=KR3.c4;have qz1:=KR3.frozen;go_wp2;refine pex ?_;refine ks KR3 fun W5 B5 F5=>?_
  have d_:=B5.c4;refine bret Tryz.results231 ?_;refine⟨y,rfl,?_,?_⟩
  ·unfold putT;rw[if_neg h0];exact HY3.fr F5 (fun b cs fr e hh=>Bk.not_ty KR3 dx cs fr (e▸hh)) fun b hb e=>HY3.ne KR3 dx (e▸hb)
  ·refine⟨(((HG1.trans GW).fr.fr0.trans FF.fr0).trans (F3.fr0.trans F5.fr0)).bel,fun b hb hx=>?_⟩;have hbp:b≠p:=fun e=>by have:=hPE.out;omega
   have hbr:b≠r:=fun e=>by have:=hPE.out;have:=hpo.out;omega
   rw[F5.keep b (by have:=HG1.size;have:=GW.size;have:=FF.size;have:=F3.size;omega) hbr,F3.keep b (by have:=HG1.size;have:=GW.size;have:=FF.size;omega) hbp,FF.keep b (by have:=HG1.size;have:=GW.size;omega) hx];exact (HG1.trans GW).below.block b hb
theorem elemU:ElemS Tryz.prog 32 200 1 4:=elem_of (z:=.int .u32 0) (by kernel_rfl) (by kernel_rfl) rfl dx
structure RAddSt (a b o:List Nat) (i c:Nat):Prop where
 len:o.length=i
 lim:Lim o
 car:c≤1
 sum:val o+B32 ^ i*c=val (a.take i)+val (b.take i)
theorem RAddSt.start (a b:List Nat):RAddSt a b [] 0 0:=⟨rfl,Lim.nil,by omega,by simp[val]⟩
theorem RAddSt.step {a b o:List Nat} {i c:Nat} (h:RAddSt a b o i c) (ha:Lim a) (hb:Lim b) {s:Nat} (hs:s=c+(lim0 a i+lim0 b i)):RAddSt a b (o++[s % B32]) (i+1) (s / B32):=by
 have h1:=lim0_lt ha i;have h2:=lim0_lt hb i;have h3:=h.car;have hB:=B32_eq;refine⟨by rw[List.length_append,h.len];rfl,h.lim.append (Lim.one (Nat.mod_lt _ dx)),?_,?_⟩
 ·have:=Nat.div_lt_of_lt_mul (show s < B32*2 by omega);omega
 ·have e2:=h.sum;have e3:=val_take_lim0 a i;have e4:=val_take_lim0 b i;have e5:B32 ^ i*(s % B32)+B32 ^ (i+1)*(s / B32)=B32 ^ i*s:=by
   rw[Nat.pow_succ,Nat.mul_assoc,← Nat.mul_add,Nat.mod_add_div]
  have e6:B32 ^ i*s=B32 ^ i*c+B32 ^ i*lim0 a i+B32 ^ i*lim0 b i:=by rw[hs,← Nat.add_assoc,Nat.mul_add,Nat.mul_add]
  rw[val_snoc,h.len];omega
theorem RAddSt.done {a b o:List Nat} {n c:Nat} (h:RAddSt a b o n c) (ha:a.length≤n) (hb:b.length≤n):val (o++[c])=val a+val b∧Lim (o++[c]):=by
 have e2:=h.sum;rw[val_take_all ha,val_take_all hb] at e2;exact⟨by rw[val_snoc,h.len];exact e2,h.lim.append (Lim.one (by have:=h.car;have:=B32_eq;omega))⟩
theorem one_cell_arr (v:Int):∀u∈(#[Value.int .u32 v]:Array Value).toList,u.oneCell'=true:=by
 intro u hu;simp at hu;subst hu;rfl
theorem rnadd_any (w:World) (x y:Sv) (a b:List Nat) (hx:x.Num w a) (hy:y.Num w b) (ha:a.length≤400000) (hb:b.length≤400000):
  Calls Tryz.prog 110 #[.slice x.A x.n x.c,.slice y.A y.n y.c] w fun e w'=>∃z:Sv,e=.returned z.v∧z.Num w' (limbs (val a+val b))∧Gr w w':=by
 have HX:=I hx;have HY:=I hy;have HNx:=I hx.len;have HNy:=I hy.len;have hn9:x.n≤400000:=by rw[← HNx.out];exact ha
 have hm9:y.n≤400000:=by rw[← HNy.out];exact hb
 have HS0:=I (RAddSt.start a b);have R0:Hid (w.ownsRow w.heap.size 200 1 Nl 0 (([]:List Nat).map lv)):=⟨rfl,.inl ⟨rfl,rfl⟩⟩;have HLx:Hid (∀W (i:Nat),Gr w W→i≤1000000000→Calls Tryz.prog 108 #[x.v,.int .i64 i] W fun e w'=>e=.returned (.int .u32 (lim0 a i))∧w'=W):=fun W i G hi=>limb_any W x a i (hx.gr G) hi
 have HLy:Hid (∀W (i:Nat),Gr w W→i≤1000000000→Calls Tryz.prog 108 #[y.v,.int .i64 i] W fun e w'=>e=.returned (.int .u32 (lim0 b i))∧w'=W):=fun W i G hi=>limb_any W y b i (hy.gr G) hi
 clear hx hy ha hb;obtain⟨A,n,c⟩:=x;obtain⟨B,m,d⟩:=y;simp only at*;go_enter Tryz.func110,Tryz.ntmps110;go_wp2;go_loopw [5,6,7] (fun s5 s6 i wr=>∃(t cr:Nat) (o:List Nat),i=.int .i64 t∧s6=.int .u64 cr∧(t≤n∨t≤m)∧cr≤1∧Hid (RAddSt a b o t cr)∧Hid (wr.ownsRow w.heap.size 200 1 s5 t (o.map lv))∧Hid (Gr w wr)) (fun _ _ i _=>n+m - (intOf i).toNat)
 case atStart=>exact⟨0,0,[],rfl,rfl,.inl (nq _),by omega,HS0,R0,Gr.refl w⟩
 case round=>
  obtain⟨t,cr,o,rfl,rfl,ht,hcr,hS,hR,hG⟩:=hrel;by_cases hlt:t < n∨t < m
  ·have HA1:=I (HLx.out wr t hG om);have HA2:=I (HLy.out wr t hG om);obtain⟨s,hs⟩:∃s,s=cr+(lim0 a t+lim0 b t):=⟨_,rfl⟩;have HST:=I (hS.step HX.lim HY.lim hs);have hp9:=lim0_lt HX.lim t;have hq9:=lim0_lt HY.lim t;rw[B32_eq] at hp9 hq9;obtain⟨lo,hlo⟩:∃lo,lo=s % B32:=⟨_,rfl⟩;obtain⟨hi,hhi⟩:∃hi,hi=s / B32:=⟨_,rfl⟩;rw[← hlo,← hhi] at HST;have hhi1:hi≤1:=HST.car;generalize lim0 a t=p at*;generalize lim0 b t=q at*;have E1:Hid (((cr:Int)+(p+q)) % 4294967296=lo):=by rw[B32_eq] at hlo;exact (by omega:((cr:Int)+(p+q)) % 4294967296=lo)
   have E2:Hid (((cr:Int)+(p+q)) / 4294967296=hi):=by rw[B32_eq] at hhi;exact (by omega:((cr:Int)+(p+q)) / 4294967296=hi)
   have hsz:=hG.size;clear hlo hhi hs;by_cases htn:t < n
   ·go_wp2_with fail;go_at_call 108
    refine HA1.mono ?_;rintro e w2 ⟨rfl,rfl⟩;go_wp2_with fail;go_at_call 108
    refine HA2.mono ?_;rintro e w2 ⟨rfl,rfl⟩;go_wp2_with (at_builtin;refine wpList_appS1 (w:=w2) elemU rfl (.tmp 31) (.tmp 34) rfl w.heap.size u5 t (o.map lv) #[.int .u32 (((cr:Int)+(p+q)) % 4294967296)] rfl rfl rfl hR.out (one_cell_arr _) (by unfold maxLen;omega) om hsz ?_;intro v5 w5 h5 F5 _);rw[E1.out] at h5;have HR5:Hid (w5.ownsRow w.heap.size 200 1 v5 (t+1) ((o++[lo]).map lv)):=by rw[List.map_append];exact h5
    have HG5:Hid (Gr w w5):=hG.step F5 fun b _ e=>(rw_lt hR b e).1
    clear h5 F5;go_roundw
    case rel=>
     rw[E2.out];exact⟨t+1,hi,_,by go_num,rfl,by omega,hhi1,HST,HR5,HG5⟩
    case measure=>simp[intOf];omega
   ·have htm:t < m:=by omega
    have hd1:decide ((t:Int) < n)=false:=by simp;omega
    have hd2:decide ((t:Int) < m)=true:=by simp;omega
    go_wp2_with fail;go_at_call 108
    refine HA1.mono ?_;rintro e w2 ⟨rfl,rfl⟩;go_wp2_with fail;go_at_call 108
    refine HA2.mono ?_;rintro e w2 ⟨rfl,rfl⟩;go_wp2_with (at_builtin;refine wpList_appS1 (w:=w2) elemU rfl (.tmp 31) (.tmp 34) rfl w.heap.size u5 t (o.map lv) #[.int .u32 (((cr:Int)+(p+q)) % 4294967296)] rfl rfl rfl hR.out (one_cell_arr _) (by unfold maxLen;omega) om hsz ?_;intro v5 w5 h5 F5 _);rw[E1.out] at h5;have HR5:Hid (w5.ownsRow w.heap.size 200 1 v5 (t+1) ((o++[lo]).map lv)):=by rw[List.map_append];exact h5
    have HG5:Hid (Gr w w5):=hG.step F5 fun b _ e=>(rw_lt hR b e).1
    clear h5 F5;go_roundw
    case rel=>
     rw[E2.out];exact⟨t+1,hi,_,by go_num,rfl,by omega,hhi1,HST,HR5,HG5⟩
    case measure=>simp[intOf];omega
  ·have hd1:decide ((t:Int) < n)=false:=by simp;omega
   have hd2:decide ((t:Int) < m)=false:=by simp;omega
   have hnn:¬t < n:=by omega
   have hmm:¬t < m:=by omega
   obtain⟨e1,e2⟩:=hS.done (by rw[HNx.out];omega) (by rw[HNy.out];omega);have HE1:=I e1;have HE2:=I e2;have hsz:=hG.size;have ht9:t≤400000:=by omega
   clear e1 e2 hlt ht;have hc:Hid ((cr:Int) % 4294967296=cr):=(by omega:(cr:Int) % 4294967296=cr);go_wp2_with (at_builtin;refine wpList_appS1 (w:=wr) elemU rfl (.tmp 38) (.tmp 41) rfl w.heap.size u5 t (o.map lv) #[.int .u32 (cr:Int)] rfl rfl rfl hR.out (one_cell_arr _) (by unfold maxLen;omega) om hsz ?_;intro v5 w5 h5 F5 _);obtain⟨z,hzv,hzn,hz,hty⟩:=Sv.of_row h5 dx;have HZZ:Hid (z.Num w5 (o++[cr])):=⟨by rw[List.map_append];exact hz,HE2.out,hty⟩;have HLN:Hid ((o++[cr]).length≤1000000):=by
    rw[List.length_append,hS.len];exact (show t+1≤1000000 by omega)
   have HT:=I (rmake_any w5 z _ HZZ HLN);rw[HE1.out] at HT;have HG5:Hid (Gr w w5):=hG.step F5 fun b _ e=>(rw_lt hR b e).1
   subst hzv;clear h5 F5 hz hty hzn;simp only[Sv.v];go_wp2_with fail;go_at_call 109
   refine cm1 HT fun k w6 HK G6=>?_
   have HG6:=I (HG5.trans G6);clear HT;go_wp2;go_ret;exact⟨k,rfl,HK.out,HG6.out⟩
theorem high_eq {a b:List Nat} {k:Nat} (h:∀j,k≤j→lim0 a j=lim0 b j):∀d,val (a.take (k+d))+val (b.take k)=val (b.take (k+d))+val (a.take k)
 | 0=>by rw[Nat.add_zero,Nat.add_comm]
 | d+1=>by
  have ih:=high_eq h d;rw[← Nat.add_assoc,val_take_lim0,val_take_lim0,h (k+d) om];omega
theorem high_all {a b:List Nat} {k:Nat} (h:∀j,k≤j→lim0 a j=lim0 b j):val a+val (b.take k)=val b+val (a.take k):=by
 have:=high_eq h (a.length+b.length);rw[List.take_of_length_le (show a.length≤k+(a.length+b.length) by omega),List.take_of_length_le (show b.length≤k+(a.length+b.length) by omega)] at this;exact this
theorem high_lt {a b:List Nat} {j:Nat} (ha:Lim a) (h:∀i,j+1≤i→lim0 a i=lim0 b i) (hlt:lim0 a j < lim0 b j):val a < val b:=by
 have h1:=high_all h;rw[val_take_lim0,val_take_lim0] at h1;have h2:=val_lt (ha.take j);have h3:B32 ^ (a.take j).length≤B32 ^ j:=Nat.pow_le_pow_right dx (by rw[List.length_take];omega);have h4:B32 ^ j*(lim0 a j+1)≤B32 ^ j*lim0 b j:=Nat.mul_le_mul_left _ hlt;rw[Nat.mul_add] at h4;omega
theorem rcmp_any (w:World) (x y:Sv) (a b:List Nat) (hx:x.Num w a) (hy:y.Num w b) (ha:a.length≤400000) (hb:b.length≤400000):
  Calls Tryz.prog 166 #[.slice x.A x.n x.c,.slice y.A y.n y.c] w fun e w'=>e=.returned (.int .i64 (cmpN (val a) (val b)))∧w'=w:=by
 have HNx:=I hx.len;have HNy:=I hy.len;have hn9:x.n≤400000:=by rw[← HNx.out];exact ha
 have hm9:y.n≤400000:=by rw[← HNy.out];exact hb
 have HLA:=I hx.lim;have HLB:=I hy.lim;have HLx:Hid (∀(i:Nat),i≤1000000000→Calls Tryz.prog 108 #[x.v,.int .i64 i] w fun e w'=>e=.returned (.int .u32 (lim0 a i))∧w'=w):=fun i hi=>limb_any w x a i hx hi
 have HLy:Hid (∀(i:Nat),i≤1000000000→Calls Tryz.prog 108 #[y.v,.int .i64 i] w fun e w'=>e=.returned (.int .u32 (lim0 b i))∧w'=w):=fun i hi=>limb_any w y b i hy hi
 obtain⟨N,hN,hN1,hN2,hmx⟩:∃N:Nat,N≤400000∧x.n≤N∧y.n≤N∧max (x.n:Int) (y.n:Int)=(N:Int):=⟨max x.n y.n,by omega,by omega,by omega,by omega⟩;have H0:Hid (∀j,N≤j→lim0 a j=lim0 b j):=fun j hj=>by
  rw[lim0_past (by rw[HNx.out];omega),lim0_past (by rw[HNy.out];omega)]
 clear hx hy ha hb;go_enter Tryz.func166,Tryz.ntmps166;go_wp2;clear hmx;go_loopw [5] (fun s wr=>∃k:Nat,s=.int .i64 ((k:Int) - 1)∧k≤N∧Hid (∀j,k≤j→lim0 a j=lim0 b j)∧wr=w) (fun s _=>(intOf s+1).toNat)
 case atStart=>exact⟨N,rfl,nr _,H0,rfl⟩
 case round=>
  obtain⟨k,rfl,hk,hD,rfl⟩:=hrel;cases k with
  | zero=>
   have hE:Hid (cmpN (val a) (val b)=0):=by
    have h:=high_all hD;simp only[List.take_zero,val] at h;rw[show val a=val b by omega];exact cmpN_eq _
   have h0:((0:Nat):Int) - 1=-1:=rfl;rw[h0];go_wp2;go_ret;exact⟨by rw[hE.out];rfl,rfl⟩
  | succ j=>
   have hj:(((j+1:Nat):Int) - 1)=(j:Int):=by omega
   rw[hj];have HA1:=I (HLx.out j om);have HA2:=I (HLy.out j om);have HC1:Hid (lim0 a j < lim0 b j→cmpN (val a) (val b)=-1):=fun h=>cmpN_lt (high_lt HLA hD h)
   have HC2:Hid (lim0 b j < lim0 a j→cmpN (val a) (val b)=1):=fun h=>cmpN_gt (high_lt HLB (fun i hi=>(hD.out i hi).symm) h)
   have HD2:Hid (lim0 a j=lim0 b j→∀i,j≤i→lim0 a i=lim0 b i):=fun h i hi=>by
    rcases Nat.eq_or_lt_of_le hi with rfl | h1
    ·exact h
    ·exact hD.out i h1
   generalize hp:lim0 a j=p at*;generalize hq:lim0 b j=q at*;clear hp hq hD;by_cases h1:p < q
   ·have hE:=I (HC1.out h1);have hd:decide ((p:Int) < q)=true:=by simp;omega
    go_wp2_with fail;go_at_call 108
    refine HA1.mono ?_;rintro e w2 ⟨rfl,rfl⟩;go_wp2_with fail;go_at_call 108
    refine HA2.mono ?_;rintro e w2 ⟨rfl,rfl⟩;go_wp2;go_ret;exact⟨by rw[hE.out];rfl,rfl⟩
   ·have hd:decide ((p:Int) < q)=false:=by simp;omega
    have hd3:¬p < q:=h1;go_wp2_with fail;go_at_call 108
    refine HA1.mono ?_;rintro e w2 ⟨rfl,rfl⟩;go_wp2_with fail;go_at_call 108
    refine HA2.mono ?_;rintro e w2 ⟨rfl,rfl⟩;go_wp2_with fail;go_at_call 108
    refine HA1.mono ?_;rintro e w2 ⟨rfl,rfl⟩;go_wp2_with fail;go_at_call 108
    refine HA2.mono ?_;rintro e w2 ⟨rfl,rfl⟩;by_cases h2:q < p
    ·have hE:=I (HC2.out h2);have hd2:decide ((q:Int) < p)=true:=by simp;omega
     go_wp2;go_ret;exact⟨by rw[hE.out];rfl,rfl⟩
    ·have hd2:decide ((q:Int) < p)=false:=by simp;omega
     have hDD:=I (HD2.out om);go_wp2;go_roundw
     case rel=>exact⟨j,rfl,by omega,hDD,trivial⟩
     case measure=>first | (simp[intOf];done) | (simp[intOf];omega)
structure RSubSt (a b o:List Nat) (i c:Nat):Prop where
 len:o.length=i
 lim:Lim o
 car:c≤1
 sum:val o+val (b.take i)=val (a.take i)+B32 ^ i*c
theorem RSubSt.start (a b:List Nat):RSubSt a b [] 0 0:=⟨rfl,Lim.nil,by omega,by simp[val]⟩
theorem RSubSt.step {a b o:List Nat} {i c x c':Nat} (h:RSubSt a b o i c) (hx:x < B32) (hc:c'≤1) (hs:x+(lim0 b i+c)=lim0 a i+B32*c'):RSubSt a b (o++[x]) (i+1) c':=by
 refine⟨by rw[List.length_append,h.len];rfl,h.lim.append (Lim.one hx),hc,?_⟩;have e2:=h.sum;have e3:=val_take_lim0 a i;have e4:=val_take_lim0 b i;have e5:B32 ^ i*(x+(lim0 b i+c))=B32 ^ i*(lim0 a i+B32*c'):=by rw[hs]
 rw[Nat.mul_add,Nat.mul_add,Nat.mul_add] at e5;have e6:B32 ^ (i+1)*c'=B32 ^ i*(B32*c'):=by rw[Nat.pow_succ,Nat.mul_assoc]
 rw[val_snoc,h.len];omega
theorem RSubSt.done {a b o:List Nat} {c:Nat} (h:RSubSt a b o a.length c) (hv:val b≤val a) (hb:Lim b) (hl:∀i,a.length≤i→lim0 b i=0):val o=val a - val b:=by
 have e2:=h.sum;rw[List.take_length] at e2;have h1:=val_lt h.lim;rw[h.len] at h1;have h2:val (b.take a.length)=val b:=val_take fun i x hi hx=>by
  rw[← lim0_at hx];exact hl i hi
 rw[h2] at e2;rcases Nat.eq_zero_or_pos c with rfl | hc
 ·omega
 ·have:c=1:=by have:=h.car;omega
  subst this;omega
theorem no_high {a b:List Nat} (hv:val b≤val a) (ha:Lim a):∀i,a.length≤i→lim0 b i=0:=fun i hi=>by
 rcases Nat.eq_zero_or_pos (lim0 b i) with h | h
 ·exact h
 ·have h1:=val_lt ha;have h2:=val_take_lim0 b i;have h3:=val_take_le b (i+1);have h4:B32 ^ a.length≤B32 ^ i:=Nat.pow_le_pow_right dx hi;have h5:B32 ^ i*1≤B32 ^ i*lim0 b i:=Nat.mul_le_mul_left _ h;omega
theorem rnsubf_any (w:World) (x y:Sv) (a b:List Nat) (hx:x.Num w a) (hy:y.Num w b) (ha:a.length≤400000) (hb:b.length≤400000):
  Calls Tryz.prog 111 #[x.v,y.v] w fun e w'=>Gr w w'∧((val b≤val a∧∃z:Sv,e=.returned (.tuple #[z.v,.int .i64 0])∧z.Num w' (limbs (val a - val b))∧z.New w)∨(val a < val b∧e=.returned (.tuple #[.slice none 0 0,.int .i64 2]))):=by
 have HC:=I (rcmp_any w x y a b hx hy ha hb);have HX:=I hx;have HY:=I hy;have HNx:=I hx.len;have hn9:x.n≤400000:=by rw[← HNx.out];exact ha
 have R0:Hid (w.ownsRow w.heap.size 200 1 Nl 0 (([]:List Nat).map lv)):=⟨rfl,.inl ⟨rfl,rfl⟩⟩;have HS0:=I (RSubSt.start a b);have HLx:Hid (∀W (i:Nat),Gr w W→i≤1000000000→Calls Tryz.prog 108 #[x.v,.int .i64 i] W fun e w'=>e=.returned (.int .u32 (lim0 a i))∧w'=W):=fun W i G hi=>limb_any W x a i (hx.gr G) hi
 have HLy:Hid (∀W (i:Nat),Gr w W→i≤1000000000→Calls Tryz.prog 108 #[y.v,.int .i64 i] W fun e w'=>e=.returned (.int .u32 (lim0 b i))∧w'=W):=fun W i G hi=>limb_any W y b i (hy.gr G) hi
 clear hx hy ha hb;by_cases hab:val a < val b
 ·have hE:Hid (cmpN (val a) (val b)=-1):=cmpN_lt hab;rw[hE.out] at HC;have HAB:=I hab;go_enter Tryz.func111,Tryz.ntmps111;go_wp2_with fail;go_at_call 166
  refine HC.mono ?_;rintro e w2 ⟨rfl,rfl⟩;go_wp2;go_returns;exact⟨Gr.refl _,.inr ⟨HAB.out,rfl⟩⟩
 ·have hc0:decide (cmpN (val a) (val b) < 0)=false:=by
   unfold cmpN;rw[if_neg hab];split<;>simp
  have HLE:Hid (val b≤val a):=Nat.le_of_not_lt hab;generalize cmpN (val a) (val b)=cm at*;have hc1:¬cm < 0:=by simpa using hc0
  clear hab;go_enter Tryz.func111,Tryz.ntmps111;go_wp2_with fail;go_at_call 166
  refine HC.mono ?_;rintro e w2 ⟨rfl,rfl⟩;obtain⟨A,n,c⟩:=x;simp only at*;go_wp2;go_loopw [6,7,8] (fun s6 s7 i wr=>∃(t cr:Nat) (o:List Nat),i=.int .i64 t∧s7=.int .u64 cr∧t≤n∧cr≤1∧Hid (RSubSt a b o t cr)∧Hid (wr.ownsRow w2.heap.size 200 1 s6 t (o.map lv))∧Hid (Gr w2 wr)) (fun _ _ i _=>n - (intOf i).toNat)
  case atStart=>exact⟨0,0,[],rfl,rfl,nq _,by omega,HS0,R0,Gr.refl _⟩
  case round=>
   obtain⟨t,cr,o,rfl,rfl,ht,hcr,hS,hR,hG⟩:=hrel;by_cases htn:t < n
   ·have HA1:=I (HLx.out wr t hG om);have HA2:=I (HLy.out wr t hG om);have hp9:=lim0_lt HX.lim t;have hq9:=lim0_lt HY.lim t;rw[B32_eq] at hp9 hq9;have HST:Hid (∀x c',x < 4294967296→c'≤1→x+(lim0 b t+cr)=lim0 a t+4294967296*c'→RSubSt a b (o++[x]) (t+1) c'):=fun x c' h1 h2 h3=>hS.step h1 h2 h3
    generalize lim0 a t=p at*;generalize lim0 b t=q at*;have hsz:=hG.size;by_cases hpq:p < q+cr
    ·have hd:decide ((p:Int) < (q:Int)+cr)=true:=by simp;omega
     obtain⟨x,hx⟩:∃x,x=p+4294967296 - (q+cr):=⟨_,rfl⟩;have E1:Hid ((p:Int)+4294967296 - ((q:Int)+cr)=(x:Int)):=(by omega:(p:Int)+4294967296 - ((q:Int)+cr)=(x:Int));have HSS:=I (HST.out x 1 om om om);clear hx;go_wp2_with fail;go_at_call 108
     refine HA1.mono ?_;rintro e w3 ⟨rfl,rfl⟩;go_wp2_with fail;go_at_call 108
     refine HA2.mono ?_;rintro e w3 ⟨rfl,rfl⟩;go_wp2_with (at_builtin;refine wpList_appS1 (w:=w3) elemU rfl (.tmp 36) (.tmp 41) rfl w2.heap.size u6 t (o.map lv) #[.int .u32 ((p:Int)+4294967296 - ((q:Int)+cr))] rfl rfl rfl hR.out (one_cell_arr _) (by unfold maxLen;omega) om hsz ?_;intro v5 w5 h5 F5 _);rw[E1.out] at h5;have HR5:Hid (w5.ownsRow w2.heap.size 200 1 v5 (t+1) ((o++[x]).map lv)):=by rw[List.map_append];exact h5
     have HG5:Hid (Gr w2 w5):=hG.step F5 fun b _ e=>(rw_lt hR b e).1
     clear h5 F5;go_roundw
     case rel=>exact⟨t+1,1,_,by go_num,rfl,by omega,by omega,HSS,HR5,HG5⟩
     case measure=>simp[intOf];omega
    ·have hd:decide ((p:Int) < (q:Int)+cr)=false:=by simp;omega
     obtain⟨x,hx⟩:∃x,x=p - (q+cr):=⟨_,rfl⟩;have E1:Hid ((p:Int) - ((q:Int)+cr)=(x:Int)):=(by omega:(p:Int) - ((q:Int)+cr)=(x:Int));have HSS:=I (HST.out x 0 om om om);clear hx;go_wp2_with fail;go_at_call 108
     refine HA1.mono ?_;rintro e w3 ⟨rfl,rfl⟩;go_wp2_with fail;go_at_call 108
     refine HA2.mono ?_;rintro e w3 ⟨rfl,rfl⟩;go_wp2_with (at_builtin;refine wpList_appS1 (w:=w3) elemU rfl (.tmp 36) (.tmp 41) rfl w2.heap.size u6 t (o.map lv) #[.int .u32 ((p:Int) - ((q:Int)+cr))] rfl rfl rfl hR.out (one_cell_arr _) (by unfold maxLen;omega) om hsz ?_;intro v5 w5 h5 F5 _);rw[E1.out] at h5;have HR5:Hid (w5.ownsRow w2.heap.size 200 1 v5 (t+1) ((o++[x]).map lv)):=by rw[List.map_append];exact h5
     have HG5:Hid (Gr w2 w5):=hG.step F5 fun b _ e=>(rw_lt hR b e).1
     clear h5 F5;go_roundw
     case rel=>exact⟨t+1,0,_,by go_num,rfl,by omega,by omega,HSS,HR5,HG5⟩
     case measure=>simp[intOf];omega
   ·obtain rfl:t=n:=by omega
    have e1:val o=val a - val b:=by
     have h:=hS.out;rw[← HNx.out] at h;exact h.done HLE HY.lim (no_high HLE HX.lim)
    obtain⟨z,hzv,hzn,hz,hty⟩:=Sv.of_row hR dx;have HZZ:Hid (z.Num wr o):=⟨hz,hS.lim,hty⟩;have HT:=I (rmakef_any wr z _ HZZ (by rw[hS.len];omega));rw[e1] at HT;subst hzv;clear hz hty hzn e1;simp only[Sv.v];go_wp2_with fail;go_at_call 109
    refine HT.mono ?_;rintro e w6 ⟨k,rfl,hk,G6,hN⟩;have HNW:Hid (k.New w2):=fun ad h=>nt hG.size (hN ad h)
    have HK:=I hk;have HG6:=I (hG.trans G6);clear hk G6 HT hN;go_wp2;go_returns;exact⟨HG6.out,.inl ⟨HLE.out,k,rfl,HK.out,HNW.out⟩⟩
theorem rnsub_any (w:World) (x y:Sv) (a b:List Nat) (hx:x.Num w a) (hy:y.Num w b) (ha:a.length≤400000) (hb:b.length≤400000):
  Calls Tryz.prog 111 #[x.v,y.v] w fun e w'=>Gr w w'∧((val b≤val a∧∃z:Sv,e=.returned (.tuple #[z.v,.int .i64 0])∧z.Num w' (limbs (val a - val b)))∨(val a < val b∧e=.returned (.tuple #[.slice none 0 0,.int .i64 2]))):=
 (rnsubf_any w x y a b hx hy ha hb).mono fun _ _ ⟨G,h⟩=>⟨G,h.imp (fun ⟨h1,z,h2,h3,_⟩=>⟨h1,z,h2,h3⟩) id⟩
end
end Go.Proofs.YtbhbainhmfjpdaaGreatDoor
