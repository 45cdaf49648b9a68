/- Walks of the search and of what it calls, part 4. -/
import Derived.Test.YtmhphnljfcncpaaGreatDoorMc
import Derived.Deep.Cut
import Derived.Lib.MinMax
set_option linter.unusedVariables false
set_option linter.unusedSimpArgs false
set_option maxRecDepth 100000
set_option maxHeartbeats 8000000
namespace Go.Proofs.YtmhphnljfcncpaaGreatDoor
open Go.RowKit
section
attribute [local go_sem] Oper.semAt_some
theorem un_left {x y:Q} (h:x.un*y.un < B32):x.un < B32:=nj (Nat.le_mul_of_pos_right _ y.un_pos) h
theorem un_right {x y:Q} (h:x.un*y.un < B32):y.un < B32:=nj (Nat.le_mul_of_pos_left _ x.un_pos) h
theorem den_len {x:Q} (h:x.un < B32):(limbs x.den).length≤1:=by
 refine limbs_len_le ?_;rw[Nat.pow_one];unfold Q.un at h;split at h
 ·rename_i h0;rw[h0];decide
 ·exact h
theorem un_len1 {n:Nat} (h:n < B32):(limbs n).length≤1:=limbs_len_le (by rw[Nat.pow_one];exact h)
theorem num_un_len {m n:Nat} (hm:(limbs m).length≤100000) (hn:n < B32):(limbs (m*n)).length≤100001:=nt (limbs_mul_len m n) (Nat.add_le_add hm (un_len1 hn))
theorem sadd_len (s t:Bool) (m n:Nat) (hm:(limbs m).length≤100001) (hn:(limbs n).length≤100001):(limbs (sadd s m t n).2).length≤100002:=by
 unfold sadd;split
 ·exact limbs_add_len m n _ hm hn
 ·split
  ·exact nt (limbs_len_mono (Nat.sub_le n m)) (nt hn (by decide))
  ·exact nt (limbs_len_mono (Nat.sub_le m n)) (nt hm (by decide))
theorem radd_any (w:World) (a b:Rv) (x y:Q) (ha:a.Is w x) (hb:b.Is w y) (h1:(limbs x.num).length≤100000) (h2:(limbs y.num).length≤100000) (h3:x.un*y.un < B32):
  Calls Tryz.prog 239 #[a.v,b.v] w fun e w'=>∃r:Rv,e=.returned r.v∧r.Is w' (Q.add x y)∧Gr w w':=by
 obtain⟨B1,B2,B3,G⟩:=made3 w 38 38 38 a.ar b.ar Rl;have HA:=I (ha.gr G);have HB:=I (hb.gr G);have HG:=I G;have hB1:=I B1;have hB2:=I B2;have hB3:=I B3;have U1:=I (un_left h3);have U2:=I (un_right h3);have U3:=I h3;have L1:=I (num_un_len h1 U2);have L2:=I (num_un_len h2 U1);have HX:=I (cross_any _ a b x y HA HB (nt h1 (by decide)) (nt h2 (by decide)) (nt (den_len U1) (by decide)) (nt (den_len U2) (by decide)));have hE:Hid (Q.add x y=quot (sadd (x.sg&&decide (0 < x.num*y.un)) (x.num*y.un) (y.sg&&decide (0 < y.num*x.un)) (y.num*x.un)).1 (sadd (x.sg&&decide (0 < x.num*y.un)) (x.num*y.un) (y.sg&&decide (0 < y.num*x.un)) (y.num*x.un)).2 (x.un*y.un)):=rfl;have a0_:=B1.c3;have b0_:=B2.c3;clear ha hb h1 h2 h3 B1 B2 B3 G;simp only[Rv.v] at*;generalize (x.sg&&decide (0 < x.num*y.un))=s1 at*;generalize (y.sg&&decide (0 < y.num*x.un))=s2 at*;generalize x.num*y.un=m1 at*;generalize y.num*x.un=m2 at*;go_enter Tryz.func239,Tryz.ntmps239;go_wp2_with fail;refine HX.mono ?_;rintro e w1 ⟨x1,x2,rfl,hx1,hx2,G1⟩;obtain⟨D1,D2,G2⟩:=made2 w1 169 169 #[.bool x1.neg,x1.mag.v] #[.bool x2.neg,x2.mag.v];have HI:=I (iadd_any _ x1 x2 _ _ _ _ (hx1.gr G2) (hx2.gr G2) (nt L1 (by decide)) (nt L2 (by decide)));have HG2:=I ((HG.trans G1).trans G2);have HGa:=I (G1.trans G2);have x10_:=D1.c2;have x20_:=D2.c2;have HL:=I (sadd_len s1 s2 m1 m2 L1 L2);clear hx1 hx2 G1 G2 D1 D2 HX a0_ b0_;simp only[Iv.v] at*;go_wp2_with fail;refine cm2 HI fun sm w3 hsm G3=>?_
 have D3:=Bk.made w3 169 #[.bool sm.neg,sm.mag.v];have G4:=(Gr.refl w3).alloc (.cells #[.bool sm.neg,sm.mag.v] 169);have HSM:=I (hsm.gr G4);have HG4:=I ((HG2.trans G3).trans G4);have HGb:=I ((HGa.trans G3).trans G4);have C1:=I (HGb.bk hB1);have C2:=I (HGb.bk hB2);have C3:=I (HGb.bk hB3);have HA4:=I (HA.gr HGb);have HB4:=I (HB.gr HGb);have C4:=I D3;have hpo:Hid (w.heap.size≤w.heap.size+1+1):=nt (Nat.le_succ _) (Nat.le_succ _);have hlt:=C3.lt;rw[World.size_alloc] at hlt;clear hsm G4 HI D3 HG2 HGa HGb HA HB hB1 hB2 hB3 HG x10_ x20_;go_wp2_with fail;have h9:¬w.heap.size=w.heap.size+1+1:=by omega
 have h8:¬w.heap.size+1=w.heap.size+1+1:=by omega
 have h7:¬w3.heap.size=w.heap.size+1+1:=fun e=>Bk.ne C4 C3 (by decide) e
 generalize hW:w3.alloc (.cells #[.bool sm.neg,sm.mag.v] 169)=W at*;clear hW hlt;generalize w.heap.size+1+1=r at*;generalize w.heap.size+1=q at*;generalize hp:w.heap.size=p at*;have hPE:=I hp;clear hp;generalize w3.heap.size=g at*;have h6:¬r=p:=fun e=>h9 e.symm
 have h5:¬r=q:=fun e=>h8 e.symm
 have h4:¬r=g:=fun e=>h7 e.symm
 have a0_:=C1.c3;have b0_:=C2.c3;have z0_:=C4.c2;have HG0:Hid (Gr W W.drew):=(Gr.refl W).drew;have HU1:=I (under_any W.drew a x (HA4.gr HG0) (nt (den_len U1) (by decide)));have HU2:Hid (∀W2,Gr W W2→Calls Tryz.prog 260 #[b.v] W2 fun e w'=>∃y':Sv,e=.returned y'.v∧y'.Num w' (limbs y.un)∧Gr W2 w'):=fun W2 G=>under_any W2 b y (HB4.gr G) (nt (den_len U2) (by decide))
 simp only[Rv.v] at HU1 HU2
 first | (go_region_held3 (fun W=>W.cell? ⟨p,0,none⟩=some (.bool a.neg)∧W.cell? ⟨p,1,none⟩=some a.num.v∧W.cell? ⟨p,2,none⟩=some a.den.v∧W.cell? ⟨q,0,none⟩=some (.bool b.neg)∧W.cell? ⟨q,1,none⟩=some b.num.v∧W.cell? ⟨q,2,none⟩=some b.den.v∧W.cell? ⟨g,0,none⟩=some (.bool sm.neg)∧W.cell? ⟨g,1,none⟩=some sm.mag.v)
   (first | go_keep | exact⟨hk1.1.1,hk1.1.2.1,hk1.1.2.2,hk1.2.1.1,hk1.2.1.2.1,hk1.2.1.2.2,hk1.2.2.1,hk1.2.2.2⟩ | exact⟨hk2.1.1,hk2.1.2.1,hk2.1.2.2,hk2.2.1.1,hk2.2.1.2.1,hk2.2.1.2.2,hk2.2.2.1,hk2.2.2.2⟩ | exact⟨hk3.1.1,hk3.1.2.1,hk3.1.2.2,hk3.2.1.1,hk3.2.1.2.1,hk3.2.1.2.2,hk3.2.2.1,hk3.2.2.2⟩ | exact⟨hk4.1.1,hk4.1.2.1,hk4.1.2.2,hk4.2.1.1,hk4.2.1.2.1,hk4.2.1.2.2,hk4.2.2.1,hk4.2.2.2⟩)
   (first | (go_at_call 259;refine (HQ.out).mono ?_;rintro e w7 ⟨i,rfl,hi,G8⟩;have HG8:=I (HG7.out.trans G8);have hk4:=ai (HG8.out.bk C1.out).c3 (ai (HG8.out.bk C2.out).c3 (HG8.out.bk C4.out).c2);have HBs:=I (HG8.out.bk C3.out);obtain⟨r0,r1,r2⟩:=HBs.out.c3;have fz:=HBs.out.frozen;have HII:=I hi;clear hi G8) | (go_at_call 314;refine (HM.out).mono ?_;rintro e w6 ⟨z,rfl,hz,G7⟩;have HG7:=I (HG6.out.trans G7);have hk3:=ai (HG7.out.bk C1.out).c3 (ai (HG7.out.bk C2.out).c3 (HG7.out.bk C4.out).c2);have HQ:=I (quot_any w6 sm.neg sm.mag z _ _ (HSM.out.mag.gr HG7.out) hz (nt HL.out (by decide)) (Nat.mul_pos x.un_pos y.un_pos) U3.out);clear hz G7) | (go_at_call 260;refine ((HU2.out w4 HG5.out)).mono ?_;rintro e w5 ⟨v,rfl,hv,G6⟩;have HG6:=I (HG5.out.trans G6);have hk2:=ai (HG6.out.bk C1.out).c3 (ai (HG6.out.bk C2.out).c3 (HG6.out.bk C4.out).c2);have HM:=I (mul_any w5 u v _ _ (HNU.out.gr G6) hv (nt (un_len1 U1.out) (by decide)) (nt (un_len1 U2.out) (by decide)));rw[vl,vl] at HM;clear hv G6) | (go_at_call 260;refine (HU1.out).mono ?_;rintro e w4 ⟨u,rfl,hu,G5⟩;have HG5:=I (HG0.out.trans G5);have hk1:=ai (HG5.out.bk C1.out).c3 (ai (HG5.out.bk C2.out).c3 (HG5.out.bk C4.out).c2);have HNU:=I hu;clear hu G5))) | fail
 go_wp2;refine pex ?_;refine ks HBs fun W5 B5 F5=>?_
 have d_:=B5.c3;refine bret Tryz.results239 ?_;exact⟨i,rfl,by rw[hE.out,← HSM.neg];exact HII.fr F5 HBs (noLimb_rat _ _ _ _ _ _ _),(HG4.trans HG8).fr_at F5 (by rw[hPE.out];exact hpo.out)⟩
theorem rmul_any (w:World) (a b:Rv) (x y:Q) (ha:a.Is w x) (hb:b.Is w y) (h1:(limbs x.num).length≤100000) (h2:(limbs y.num).length≤100000) (h3:x.un*y.un < B32):
  Calls Tryz.prog 240 #[a.v,b.v] w fun e w'=>∃r:Rv,e=.returned r.v∧r.Is w' (Q.mul x y)∧Gr w w':=by
 have U1:=I (un_left h3);have U2:=I (un_right h3);have U3:=I h3;have L1:=I h1;have L2:=I h2;have hE:Hid (Q.mul x y=quot (x.neg != y.neg) (x.num*y.num) (x.un*y.un)):=rfl;have N1:=I ha.neg;have N2:=I hb.neg;have HL:Hid ((limbs (x.num*y.num)).length≤1000000):=nt (limbs_mul_len _ _) (nt (Nat.add_le_add h1 h2) (by decide));clear h1 h2 h3;simp only[Rv.v] at*;go_enter Tryz.func240,Tryz.ntmps240;go_wp2_with fail;have h9:¬w.heap.size=w.heap.size+1+1:=by omega
 have h8:¬w.heap.size+1=w.heap.size+1+1:=by omega
 have hpo:Hid (w.heap.size≤w.heap.size+1+1):=nt (Nat.le_succ _) (Nat.le_succ _);refine nw3h fun W HG4 C1 C2 C3=>?_
 have HA4:=I (ha.gr HG4);have HB4:=I (hb.gr HG4);clear ha hb;generalize w.heap.size+1+1=r at*;generalize w.heap.size+1=q at*;generalize hp:w.heap.size=p at*;have hPE:=I hp;clear hp;have h6:¬r=p:=fun e=>h9 e.symm
 have h5:¬r=q:=fun e=>h8 e.symm
 have a0_:=C1.c3;have b0_:=C2.c3;have HG0:Hid (Gr W W.drew):=(Gr.refl W).drew;have HM0:=I (mul_any W.drew a.num b.num _ _ (HA4.num.gr HG0) (HB4.num.gr HG0) (nt L1 (by decide)) (nt L2 (by decide)));rw[vl,vl] at HM0;have HU1:Hid (∀W2,Gr W W2→Calls Tryz.prog 260 #[a.v] W2 fun e w'=>∃y':Sv,e=.returned y'.v∧y'.Num w' (limbs x.un)∧Gr W2 w'):=fun W2 G=>under_any W2 a x (HA4.gr G) (nt (den_len U1) (by decide))
 have HU2:Hid (∀W2,Gr W W2→Calls Tryz.prog 260 #[b.v] W2 fun e w'=>∃y':Sv,e=.returned y'.v∧y'.Num w' (limbs y.un)∧Gr W2 w'):=fun W2 G=>under_any W2 b y (HB4.gr G) (nt (den_len U2) (by decide))
 simp only[Rv.v] at HU1 HU2
 first | (go_region_held3 (fun W=>W.cell? ⟨p,0,none⟩=some (.bool a.neg)∧W.cell? ⟨p,1,none⟩=some a.num.v∧W.cell? ⟨p,2,none⟩=some a.den.v∧W.cell? ⟨q,0,none⟩=some (.bool b.neg)∧W.cell? ⟨q,1,none⟩=some b.num.v∧W.cell? ⟨q,2,none⟩=some b.den.v)
   (first | go_keep | exact⟨hk0.1.1,hk0.1.2.1,hk0.1.2.2,hk0.2.1,hk0.2.2.1,hk0.2.2.2⟩ | exact⟨hk1.1.1,hk1.1.2.1,hk1.1.2.2,hk1.2.1,hk1.2.2.1,hk1.2.2.2⟩ | exact⟨hk2.1.1,hk2.1.2.1,hk2.1.2.2,hk2.2.1,hk2.2.2.1,hk2.2.2.2⟩ | exact⟨hk3.1.1,hk3.1.2.1,hk3.1.2.2,hk3.2.1,hk3.2.2.1,hk3.2.2.2⟩ | exact⟨hk4.1.1,hk4.1.2.1,hk4.1.2.2,hk4.2.1,hk4.2.2.1,hk4.2.2.2⟩)
   (first | (go_at_call 259;refine (HQ.out).mono ?_;rintro e w7 ⟨i,rfl,hi,G8⟩;have HG8:=I (HG7.out.trans G8);have hk4:=ai (HG8.out.bk C1.out).c3 (HG8.out.bk C2.out).c3;have HBs:=I (HG8.out.bk C3.out);obtain⟨r0,r1,r2⟩:=HBs.out.c3;have fz:=HBs.out.frozen;have HII:=I hi;clear hi G8) | (go_at_call 314;refine (HM.out).mono ?_;rintro e w6 ⟨z,rfl,hz,G7⟩;have HG7:=I (HG6.out.trans G7);have hk3:=ai (HG7.out.bk C1.out).c3 (HG7.out.bk C2.out).c3;have HQ:=I (quot_any w6 (a.neg != b.neg) m z _ _ (HNM2.out.gr G7) hz HL.out (Nat.mul_pos x.un_pos y.un_pos) U3.out);clear hz G7) | (go_at_call 260;refine ((HU2.out w4 HG5.out)).mono ?_;rintro e w5 ⟨v,rfl,hv,G6⟩;have HNM2:=I (HNM1.out.gr G6);have HG6:=I (HG5.out.trans G6);have hk2:=ai (HG6.out.bk C1.out).c3 (HG6.out.bk C2.out).c3;have HM:=I (mul_any w5 u v _ _ (HNU.out.gr G6) hv (nt (un_len1 U1.out) (by decide)) (nt (un_len1 U2.out) (by decide)));rw[vl,vl] at HM;clear hv G6) | (go_at_call 260;refine ((HU1.out w3 HG3.out)).mono ?_;rintro e w4 ⟨u,rfl,hu,G5⟩;have HNM1:=I (HNM.out.gr G5);have HG5:=I (HG3.out.trans G5);have hk1:=ai (HG5.out.bk C1.out).c3 (HG5.out.bk C2.out).c3;have HNU:=I hu;clear hu G5) | (go_at_call 314;refine (HM0.out).mono ?_;rintro e w3 ⟨m,rfl,hm,G4⟩;have HG3:=I (HG0.out.trans G4);have hk0:=ai (HG3.out.bk C1.out).c3 (HG3.out.bk C2.out).c3;have HNM:=I hm;clear hm G4))) | fail
 go_wp2;refine pex ?_;refine ks HBs fun W5 B5 F5=>?_
 have d_:=B5.c3;refine bret Tryz.results240 ?_;exact⟨i,rfl,by rw[hE.out,← N1.out,← N2.out];exact HII.fr F5 HBs (noLimb_rat _ _ _ _ _ _ _),(HG4.trans HG8).fr_at F5 (by rw[hPE.out];exact hpo.out)⟩
structure RMulSt (a b o:List Nat) (i m:Nat):Prop where
 len:o.length=m
 lim:Lim o
 sum:val o=val (a.take i)*val b
 zer:∀j,i+b.length≤j→j < m→o[j]?=some 0
theorem RMulSt.start (a b:List Nat) (m:Nat):RMulSt a b (List.replicate m 0) 0 m:=
 ⟨by simp,Lim.zeros _,by rw[val_zeros];simp[val],fun j _ hj=>get_zeros hj⟩
structure RMulIn (a b o:List Nat) (i x k c m:Nat):Prop where
 len:o.length=m
 lim:Lim o
 car:c < B32
 sum:val o+B32 ^ (i+k)*c=val (a.take i)*val b+B32 ^ i*(x*val (b.take k))
 zer:∀j,i+b.length≤j→j < m→o[j]?=some 0
theorem RMulSt.into {a b o:List Nat} {i m:Nat} (h:RMulSt a b o i m) (x:Nat):RMulIn a b o i x 0 0 m:=
 ⟨h.len,h.lim,by decide,by rw[h.sum];simp[val],h.zer⟩
theorem RMulIn.step {a b o:List Nat} {i x k c y z s m:Nat} (h:RMulIn a b o i x k c m) (hx:x < B32) (hb:Lim b) (hy:b[k]?=some y) (hz:o[i+k]?=some z) (hs:s=c+(x*y+z)):
  RMulIn a b (o.set (i+k) (s % B32)) i x (k+1) (s / B32) m:=by
 have hk:=(gs hy).1;have h1:y < B32:=hb.at hy;have h2:z < B32:=h.lim.at hz;have h3:=h.car;have h4:x*y≤(B32 - 1)*(B32 - 1):=Nat.mul_le_mul (by omega) (by omega);have h5:s < B32*B32:=by
  have:(B32 - 1)*(B32 - 1)=18446744065119617025:=by decide
  have:B32*B32=18446744073709551616:=by decide
  have:=B32_eq;omega
 refine⟨by rw[List.length_set];exact h.len,h.lim.set _ (Nat.mod_lt _ (by decide)),Nat.div_lt_of_lt_mul h5,?_,fun j hj hm=>by rw[get_set_ne (by omega)];exact h.zer j hj hm⟩;have e1:=val_set (s % B32) hz;have e2:=h.sum;have e3:=val_take_succ hy;have e5:B32 ^ (i+k)*(s % B32)+B32 ^ (i+(k+1))*(s / B32)=B32 ^ (i+k)*s:=by
  rw[show i+(k+1)=(i+k)+1 by omega,Nat.pow_succ,Nat.mul_assoc,← Nat.mul_add,Nat.mod_add_div]
 have e6:B32 ^ (i+k)*s=B32 ^ (i+k)*c+B32 ^ (i+k)*(x*y)+B32 ^ (i+k)*z:=by rw[hs,Nat.mul_add,Nat.mul_add,Nat.add_assoc]
 have e7:B32 ^ i*(x*val (b.take (k+1)))=B32 ^ i*(x*val (b.take k))+B32 ^ (i+k)*(x*y):=by
  rw[e3,Nat.mul_add,Nat.mul_add,Nat.pow_add]
  congr 1
  simp only[Nat.mul_assoc,Nat.mul_left_comm,Nat.mul_comm]
 omega
theorem RMulIn.done {a b o:List Nat} {i x c m:Nat} (h:RMulIn a b o i x b.length c m) (ha:a[i]?=some x) (him:i+b.length < m):RMulSt a b (o.set (i+b.length) c) (i+1) m:=by
 have e1:=val_set c (h.zer (i+b.length) (nr _) him);have e2:=h.sum;rw[List.take_length] at e2;refine⟨by rw[List.length_set];exact h.len,h.lim.set _ h.car,?_,fun j hj hm=>by rw[get_set_ne (by omega)];exact h.zer j (by omega) hm⟩;rw[val_take_succ ha,Nat.add_mul,Nat.mul_assoc];rw[Nat.mul_zero] at e1;omega
theorem RMulSt.done {a b o:List Nat} {m:Nat} (h:RMulSt a b o a.length m):val o=val a*val b:=by
 rw[h.sum,List.take_length]
theorem rnmul_any (w:World) (x y:Sv) (la lb:List Nat) (hx:x.Num w la) (hy:y.Num w lb) (ha:la.length≤400000) (hb:lb.length≤400000):
  Calls Tryz.prog 127 #[.slice x.A x.n x.c,.slice y.A y.n y.c] w fun e w'=>∃z:Sv,e=.returned z.v∧z.Num w' (limbs (val la*val lb))∧Gr w w':=by
 obtain⟨A,n,c⟩:=x;obtain⟨B,m,d⟩:=y;have HU2:=I hx;have HV:=I hy;have HN:=I hx.len;have HM:=I hy.len;(try simp only at HN HM ⊢)
 have hn9:n≤400000:=by rw[← HN.out];exact ha
 have hm9:m≤400000:=by rw[← HM.out];exact hb
 have hw0:IntKind.i64.wrap ((n:Int)+m+1)=(n:Int)+m+1:=wi _ (by omega);have hmk:=makeU (n+m+1) (by omega) w;rw[show (((n+m+1:Nat)):Int)=(n:Int)+m+1 by omega] at hmk;have HR0:=I (Lb.made w (n+m+1));have HG4:Hid (Gr w (w.alloc (.cells (Array.replicate (n+m+1) (.int .u32 0)) 300))):=(Gr.refl w).alloc _;have HS0:=I (RMulSt.start la lb (n+m+1));clear hx hy ha hb;go_enter Tryz.func127,Tryz.ntmps127;go_wp2;clear hmk hw0;generalize hge:w.heap.size=g at*;have HGE:=I hge;clear hge;go_loopw [6] (fun i wr=>∃(t:Nat) (o:List Nat),i=.int .i64 t∧t≤n∧Hid (RMulSt la lb o t (n+m+1))∧Hid (Lb wr g o)∧Hid (Gr w wr)) (fun i _=>n - (intOf i).toNat)
 case atStart=>exact⟨0,_,rfl,nq _,HS0,HR0,HG4⟩
 case round=>
  obtain⟨t,o,rfl,ht,hS,hR,hG⟩:=hrel;by_cases htn:t < n
  ·obtain⟨p,ad,hp,hp9,hAe,hbl,d1⟩:=(HU2.gr hG).at (i:=t) htn;(try simp only at hAe)
   subst hAe;have HP:=I hp;have HI0:=I (hS.into p);have HP9:=I hp9;clear hp hp9 hbl hS d1;go_wp2;go_loopw [7,8] (fun s8 i wx=>(∃(k cr:Nat) (o:List Nat),i=.int .i64 k∧s8=.int .u64 cr∧k≤m∧Hid (RMulIn la lb o t p k cr (n+m+1))∧Hid (Lb wx g o)∧Hid (Gr w wx))∨(∃o:List Nat,i=.int .i64 ((m:Int)+1)∧Hid (RMulSt la lb o (t+1) (n+m+1))∧Hid (Lb wx g o)∧Hid (Gr w wx))) (fun _ i _=>m+1 - (intOf i).toNat)
   case atStart=>exact Or.inl ⟨0,0,_,rfl,rfl,nq _,HI0,hR,hG⟩
   case round=>
    rcases hrel with ⟨k,cr,o2,rfl,rfl,hk,hS2,hR2,hG2⟩ | ⟨o2,rfl,hS2,hR2,hG2⟩
    ·have fz:=hR2.fz;have hcr:cr < 4294967296:=hS2.car;have hlen2:o2.length=n+m+1:=hS2.len;obtain⟨z,hz⟩:∃z,o2[t+k]?=some z:=⟨_,ge (by omega)⟩;have q0:=hR2.cell hz;obtain⟨p',ad',hp',hp9',hA',_,d1⟩:=(HU2.gr hG2).at (i:=t) htn;(try simp only at hA')
     injection hA' with hA';subst hA';obtain rfl:p=p':=by have h:=HP.out;rw[hp'] at h;injection h with h;exact h.symm
     have HL:=I (limb_any wr.drew ⟨B,m,d⟩ lb k (HV.gr hG2.drew) (by omega));(try simp only at HL)
     have hyb:=lim0_lt HV.lim k;obtain⟨s,hs⟩:∃s,s=cr+(p*lim0 lb k+z):=⟨_,rfl⟩;have HX:=I (mul_step HP9 hyb (hS2.lim.at hz) hcr hs);obtain⟨lo,hlo⟩:∃lo,lo=s % B32:=⟨_,rfl⟩;obtain⟨hi,hhi⟩:∃hi,hi=s / B32:=⟨_,rfl⟩;have E1:Hid ((s:Int) % 4294967296=lo):=by rw[B32_eq] at hlo;exact (by omega:(s:Int) % 4294967296=lo)
     have E2:Hid ((s:Int) / 4294967296=hi):=by rw[B32_eq] at hhi;exact (by omega:(s:Int) / 4294967296=hi)
     have HL2:Hid (Lb (wr.drew.setCell ⟨g,t+k,none⟩ (lv lo)) g (o2.set (t+k) lo)):=Lb.put (w:=wr.drew) hR2 (t+k) lo;have HG5:=I (hG2.drew.set (p:=⟨g,t+k,none⟩) (Nat.le_of_eq HGE) (lv lo));have HFIN:Hid ((k < m→RMulIn la lb (o2.set (t+k) lo) t p (k+1) hi (n+m+1))∧(k=m→RMulSt la lb (o2.set (t+k) lo) (t+1) (n+m+1))):=by
      refine⟨fun hkm=>?_,fun hkm=>?_⟩
      ·obtain⟨q,hq⟩:∃q,lb[k]?=some q:=⟨_,ge (by rw[HM.out];exact hkm)⟩;rw[hlo,hhi];exact hS2.step HP9 HV.lim hq hz (by rw[hs,lim0_at hq])
      ·subst hkm;have h0:=hS2.zer (t+lb.length) (nr _) (by rw[HM.out];omega);rw[HM.out,hz] at h0;injection h0 with h0;have hy0:lim0 lb k=0:=lim0_past (by rw[HM.out];exact nr _);have hsc:lo=cr:=by
        rw[hlo,show s=cr by rw[hs,hy0,h0,Nat.mul_zero];rfl];exact Nat.mod_eq_of_lt hcr
       rw[hsc];have h1:=hS2.out;rw[← HM.out] at h1 ⊢;have h2:=h1.done HP (by rw[HM.out];omega);rw[HM.out] at h2 ⊢;exact h2
     have HHI:Hid (k=m→True):=fun _=>trivial
     clear hz hlen2 hp' hp9' hs hlo hhi hyb hR2 hS2;have hwk:decide ((k:Int)≤m)=true:=by simp;omega
     have hwk2:IntKind.i64.wrap ((t:Int)+(k:Int))=(t:Int)+(k:Int):=wi _ (by omega);have hbi1:(0:Int)≤(t:Int)+(k:Int):=by omega
     have hbi2:(t:Int)+(k:Int) < (n:Int)+(m:Int)+1:=by omega
     have hbi3:((t:Int)+(k:Int)).toNat=t+k:=by omega
     generalize lim0 lb k=yk at*;go_wp2_with fail
     first | (go_region_held3 (fun W=>W.cell? (ad.add t)=some (.int .u32 (p:Int))∧W.cell? ⟨g,t+k,none⟩=some (.int .u32 (z:Int))∧W=wr.drew) (first | go_keep | exact⟨d1,q0,rfl⟩) (first | (go_at_call 186;refine HL.out.mono ?_;rintro e w5 ⟨rfl,rfl⟩))) | fail
     go_wp2;go_roundw
     case rel=>
      rw[HX.out,E1.out,E2.out];rcases Nat.lt_or_ge k m with hkm | hkm
      ·exact Or.inl ⟨k+1,hi,_,by go_num,rfl,by omega,HFIN.1 hkm,HL2,HG5⟩
      ·have hkm2:k=m:=by omega
       exact Or.inr ⟨_,by rw[hkm2],HFIN.2 hkm2,HL2,HG5⟩
     case measure=>simp[intOf];omega
    ·have hwk:decide ((m:Int)+1≤m)=false:=by simp;omega
     go_wp2;go_roundw
     case rel=>exact⟨t+1,o2,by go_num,by omega,hS2,hR2,hG2⟩
     case measure=>simp[intOf];omega
  ·obtain rfl:t=n:=by omega
   have e1:val o=val la*val lb:=by
    have h:=hS.out;rw[← HN.out] at h;exact h.done
   have hlen:o.length=t+m+1:=hS.len;have HT:=I (rmake_any wr ⟨some ⟨g,0,none⟩,t+m+1,t+m+1⟩ o (num_of_row hR hS.lim hlen (by omega)) (by omega));rw[e1] at HT;clear e1 hlen;go_wp2_with fail;go_at_call 180
   refine cm1 HT fun z w5 HZ G5=>?_
   have HG6:=I (hG.trans G5);clear HT;go_wp2;go_ret;exact⟨z,rfl,HZ.out,HG6.out⟩
theorem risign_any (w:World) (s:Bool) (x:Sv) (m:Nat) (hx:x.Num w (limbs m)) (hm:(limbs m).length≤1000000):
  Calls Tryz.prog 77 #[.agg #[.bool s,x.v]] w fun e w'=>e=.returned (.int .i64 (isg s m))∧Gr w w':=by
 have B1:=Bk.made w 169 #[.bool s,x.v];have HG:=I ((Gr.refl w).alloc (.cells #[.bool s,x.v] 169));have C1:=I B1;have a0_:=B1.c2;have HM:=I (rimake_any _ s x m (hx.gr HG) hm);clear hx hm B1;go_enter Tryz.func77,Tryz.ntmps77;go_wp2_with fail;go_at_call 113
 refine cm2 HM fun i w1 hi G1=>?_
 have C2:=I (G1.bk C1);have r0_:=C2.c2;have fz:=C2.frozen;have HG1:=I (HG.trans G1);obtain⟨D1,F1⟩:=C2.put2 (.bool i.neg) i.mag.v;obtain⟨d0,d1⟩:=D1.c2;have HG2:=I (HG1.fr_at F1 (nr _));have HL:=I hi.mag.len;have HN:=I hi.neg;clear hi HM C1 D1 F1 a0_;by_cases h0:m=0
 ·have hl:((i.mag.n:Int) == 0)=true:=by
   have:i.mag.n=0:=by rw[← HL.out,h0,limbs_zero];rfl
   simp[this]
  have HE:Hid (isg s m=0):=by unfold isg;exact if_pos h0
  clear h0;go_wp2;go_ret;exact⟨by rw[HE.out];rfl,HG2.out⟩
 ·have hl:((i.mag.n:Int) == 0)=false:=by
   have:i.mag.n≠0:=by rw[← HL.out];exact fun e=>h0 (limbs_len0.1 e)
   simp;omega
  have HE:Hid (isg s m=if i.neg then -1 else 1):=by
   unfold isg;rw[HN.out,if_neg h0,dt (by omega),Bool.and_true];exact rfl
  clear h0;cases hs:i.neg
  ·rw[hs] at d0 HE;go_wp2;go_ret;exact⟨by rw[HE.out];rfl,by rw[hs] at HG2;exact HG2.out⟩
  ·rw[hs] at d0 HE;go_wp2;go_ret;exact⟨by rw[HE.out];rfl,by rw[hs] at HG2;exact HG2.out⟩
theorem rsign_any (w:World) (a:Rv) (q:Q) (ha:a.Is w q) (hl:(limbs q.num).length≤1000000):
  Calls Tryz.prog 33 #[a.v] w fun e w'=>e=.returned (.int .i64 (isg q.neg q.num))∧Gr w w':=by
 have B1:=Bk.made w 38 #[.bool a.neg,.slice a.num.A a.num.n a.num.c,.slice a.den.A a.den.n a.den.c];have HG:=I ((Gr.refl w).alloc (.cells #[.bool a.neg,.slice a.num.A a.num.n a.num.c,.slice a.den.A a.den.n a.den.c] 38));have a0_:=B1.c3;have HS:=I (risign_any _ a.neg a.num _ (ha.num.gr HG) hl);rw[ha.neg] at HS;have HN:=I ha.neg;clear ha B1 hl;simp only[Rv.v] at*;go_enter Tryz.func33,Tryz.ntmps33;go_wp2_with fail;go_at_call 77
 rw[HN.out];refine cm0 HS fun w1 G1=>?_
 have HG1:=I (HG.trans (HN.out▸G1))

 go_wp2;go_ret;exact⟨rfl,HG1.out⟩
theorem rcanon_any (w:World) (a:Rv) (q:Q) (ha:a.Is w q) (hl:q.num < 18446744073709551616) (hd:q.den < 18446744073709551616):
  Calls Tryz.prog 71 #[a.v] w fun e w'=>∃r:Rv,e=.returned r.v∧r.Is w' (quot q.neg q.num q.un)∧Gr w w':=by
 obtain⟨B1,B2,G⟩:=made2 w 38 38 a.ar Rl;have HA:=I (ha.gr G);have HG:=I G;have hB1:=I B1;have hB2:=I B2;have HL:=I hl;have HD:Hid (q.un < 18446744073709551616):=by
  have:q.un < 18446744073709551616:=by unfold Q.un;split<;>omega
  exact this
 have HLD:Hid ((limbs q.den).length≤1000000):=nt (limbs_len_le (k:=2) (by rw[B32_eq];exact hd)) (by decide);clear ha hl hd B1 B2 G;simp only[Rv.v];go_enter Tryz.func71,Tryz.ntmps71;go_wp2_with fail;generalize hW:(w.alloc (.cells a.ar 38)).alloc (.cells Rl 38)=W at*;clear hW;have hpr:¬w.heap.size=w.heap.size+1:=by omega
 have hle:Hid (w.heap.size≤w.heap.size+1):=Nat.le_succ _;generalize w.heap.size+1=r at*;generalize hp:w.heap.size=p at*;have hPE:=I hp;clear hp;have hpr2:¬r=p:=fun e=>hpr e.symm
 have a0_:=hB1.c3;have HU:=I (rone_any W.drew a.den _ (HA.den.gr (Gr.refl W).drew) HLD);rw[← un_or] at HU;have HNN:=I HA.neg
 first | (go_region_held3 (fun W=>W.cell? ⟨p,0,none⟩=some (.bool a.neg)∧W.cell? ⟨p,1,none⟩=some a.num.v∧W.cell? ⟨p,2,none⟩=some a.den.v)
   (first | go_keep | exact⟨hk.1,hk.2.1,hk.2.2⟩ | exact⟨hj.1,hj.2.1,hj.2.2⟩)
   (first | (go_at_call 112;refine (HQ.out).mono ?_;rintro e w2 ⟨i,rfl,hi,G2⟩;have hE1:=I (G2.bk hC1.out);have HBs:=I (G2.bk hC2.out);have HG2:=I (HG1.out.trans G2);have hj:=hE1.out.c3;obtain⟨r0,r1,r2⟩:=HBs.out.c3;have fz:=HBs.out.frozen;have HII:=I hi;clear hi G2) | (go_at_call 125;refine (HU.out).mono ?_;rintro e w1 ⟨y,rfl,hy,G1⟩;have hC1:=I (G1.bk hB1.out);have hC2:=I (G1.bk hB2.out);have HG1:=I (HG.out.drew.trans G1);have hk:=hC1.out.c3;have HQ:=I (rquot_any w1 a.neg a.num y _ _ ((HA.out.num.gr (Gr.refl W).drew).gr G1) hy HL.out q.un_pos HD.out);clear hy G1))) | fail
 go_wp2;refine pex ?_;refine ks HBs fun W5 B5 F5=>?_
 have d_:=B5.c3;refine bret Tryz.results71 ?_;exact⟨i,rfl,by rw[← HNN.out];exact HII.fr F5 HBs (noLimb_rat _ _ _ _ _ _ _),HG2.fr_at F5 (by rw[hPE.out];exact hle.out)⟩
theorem whole_any (w:World) (a:Iv) (s:Bool) (m:Nat) (ha:a.Is w s m) (hl:(limbs m).length≤1000000):
  Calls Tryz.prog 208 #[a.v] w fun e w'=>∃r:Rv,e=.returned r.v∧r.Is w' (quot s m 1)∧Gr w w':=by
 have HL:=I hl;clear hl;simp only[Iv.v];go_enter Tryz.func208,Tryz.ntmps208;go_wp2_with fail;refine nw2h fun W HG C1 C2=>?_
 have HA:=I (ha.gr HG);clear ha;have hpr:¬w.heap.size=w.heap.size+1:=by omega
 have hle:Hid (w.heap.size≤w.heap.size+1):=Nat.le_succ _;generalize w.heap.size+1=r at*;generalize hp:w.heap.size=p at*;have hPE:=I hp;clear hp;have hpr2:¬r=p:=fun e=>hpr e.symm
 have a0_:=C1.c2;have HG0:Hid (Gr W W.drew):=(Gr.refl W).drew;have HO:=I (one_any W.drew)
 first | (go_region_held3 (fun W=>W.cell? ⟨p,0,none⟩=some (.bool a.neg)∧W.cell? ⟨p,1,none⟩=some a.mag.v)
   (first | go_keep | exact⟨hk1.1,hk1.2⟩ | exact⟨hk2.1,hk2.2⟩)
   (first | (go_at_call 259;refine (HQ.out).mono ?_;rintro e w2 ⟨i,rfl,hi,G2⟩;have HG2:=I (HG1.out.trans G2);have hk2:=(HG2.out.bk C1.out).c2;have HBs:=I (HG2.out.bk C2.out);obtain⟨r0,r1,r2⟩:=HBs.out.c3;have fz:=HBs.out.frozen;have HII:=I hi;clear hi G2) | (go_at_call 269;refine (HO.out).mono ?_;rintro e w1 ⟨u,rfl,hu,G1⟩;have HG1:=I (HG0.out.trans G1);have hk1:=(HG1.out.bk C1.out).c2;have HQ:=I (quot_any w1 a.neg a.mag u _ 1 (HA.out.mag.gr HG1.out) hu HL.out (by decide) (by decide));clear hu G1))) | fail
 go_wp2;refine pex ?_;refine ks HBs fun W5 B5 F5=>?_
 have d_:=B5.c3;refine bret Tryz.results208 ?_;exact⟨i,rfl,by rw[← HA.neg];exact HII.fr F5 HBs (noLimb_rat _ _ _ _ _ _ _),(HG.trans HG2).fr_at F5 (by rw[hPE.out];exact hle.out)⟩
def ofQ (x:Int):Q:=⟨decide (x < 0),x.natAbs,0⟩
theorem quot_one (x:Int):quot (decide (x < 0)) x.natAbs 1=ofQ x:=by
 unfold quot ofQ;by_cases h:x.natAbs=0
 ·have:x=0:=by omega
  subst this;rfl
 ·rw[if_neg h,Nat.gcd_one_right,Nat.div_one];rfl
theorem rof_any (w:World) (x:Int) (h1:-1000000000≤x) (h2:x≤1000000000):
  Calls Tryz.prog 144 #[.int .i64 x] w fun e w'=>∃r:Rv,e=.returned r.v∧r.Is w' (ofQ x)∧Gr w w':=by
 have B1:=Bk.made w 38 Rl;have HG:=I ((Gr.refl w).alloc (.cells Rl 38));have C1:=I B1;have HI:=I (fun W=>iof_any W x h1 h2);have HL:Hid ((limbs x.natAbs).length≤1000000):=nt (limbs_len_le (k:=1) (by rw[Nat.pow_one,B32_eq];omega)) (by decide);have hE:=I (quot_one x);clear B1;go_enter Tryz.func144,Tryz.ntmps144;go_wp2_with fail;refine cm2 (HI.out _) fun i w1 hi G1=>?_
 have HG1:=I (HG.trans G1);have C2:=I (G1.bk C1);have HW:=I (whole_any w1 i _ _ hi HL);rw[hE.out] at HW;clear hi HI C1;go_wp2_with fail;refine cm1 HW fun j w2 HII G2=>?_
 have HG2:=I (HG1.trans G2);have HBs:=I (G2.bk C2);have r0_:=HBs.c3;have fz:=HBs.frozen;clear HW C2;generalize hp:w.heap.size=r at*;have hPE:=I hp;clear hp;go_wp2;refine pex ?_;refine ks HBs fun W5 B5 F5=>?_
 have d_:=B5.c3;refine bret Tryz.results144 ?_;exact⟨j,rfl,HII.fr F5 HBs (noLimb_rat _ _ _ _ _ _ _),HG2.fr_at F5 (Nat.le_of_eq hPE)⟩
theorem nvalid_any (w:World) (x:Sv) (m:Nat) (hx:x.Num w (limbs m)):
  Calls Tryz.prog 190 #[x.v] w fun e w'=>e=.returned (.bool true)∧Gr w w':=by
 obtain⟨A,n,c⟩:=x;have hn:=hx.len;simp only at hn;have hc9:=hx.is.max;have hcn:=hx.is.cap;simp only at hc9 hcn;cases n with
 | zero=>
  go_enter Tryz.func190,Tryz.ntmps190;go_wp2;go_ret;exact⟨rfl,Gr.refl w⟩
 | succ j=>
  obtain⟨p,ad,hp,hp9,hAe,hbl,d1⟩:=hx.at (i:=j) (Nat.lt_succ_self j);simp only at hAe;subst hAe;have hp0:p≠0:=by
   have:=limbs_cano m p;rw[List.getLast?_eq_getElem?,hn] at this;exact this hp
  have hpd:((p:Int) != 0)=true:=by simp;omega
  have hnd:(((j+1:Nat):Int) == 0)=false:=by simp;omega
  have hw1:IntKind.i64.wrap (((j+1:Nat):Int) - 1)=(j:Int):=by rw[wi _ (by omega)];omega
  clear hp hbl hn hx;go_enter Tryz.func190,Tryz.ntmps190;go_wp2;go_ret;exact⟨rfl,Gr.refl w⟩
theorem eq_len {a b:Nat} (h:a=b):((a:Int) == (b:Int))=true:=by simp[h]
theorem rvalid_any (w:World) (a:Rv) (q:Q) (ha:a.Is w q) (hq:q.Ok) (hl:(limbs q.num).length≤1000000) (hd:q.un < B32):
  Calls Tryz.prog 132 #[a.v] w fun e w'=>e=.returned (.bool true)∧Gr w w':=by
 have B1:=Bk.made w 38 a.ar;have HG:=I ((Gr.refl w).alloc (.cells a.ar 38));have C1:=I B1;have HA:=I (ha.gr HG);have a0_:=B1.c3;have HNV:=I (nvalid_any _ a.num _ HA.num);have HC:=I (canon_any _ a q HA hl hd);rw[quot_self hq] at HC;have hln:Hid (a.num.n=(limbs q.num).length):=ha.num.len.symm;have hld:Hid (a.den.n=(limbs q.den).length):=ha.den.len.symm;have HNN:=I ha.neg;clear ha hl hd B1;simp only[Rv.v] at*;by_cases h0:q.den=0
 ·have hdd:((a.den.n:Int) == 0)=true:=by
   have hd0:a.den.n=0:=by rw[hld.out,h0,limbs_zero];rfl
   simp[hd0]
  clear h0;go_enter Tryz.func132,Tryz.ntmps132;go_wp2_with fail;go_at_call 190
  refine cm0 HNV fun w1 G1=>?_
  have HG1:=I (HG.trans G1);obtain⟨b0,b1,b2⟩:=(G1.bk C1).c3;clear HNV HC C1 HG a0_;cases hs:a.neg
  ·rw[hs] at b0;go_wp2;go_ret;exact⟨rfl,HG1.out⟩
  ·rw[hs] at b0;have hn0:0 < a.num.n:=by
    rw[hln.out];refine Nat.pos_of_ne_zero fun e=>?_
    have h:=(hq.pos (limbs_len0.1 e)).1;rw[← HNN.out,hs] at h;cases h
   have hn1:decide ((0:Int) < a.num.n)=true:=by simp;omega
   go_wp2;go_ret;exact⟨rfl,HG1.out⟩
 ·have hdd:((a.den.n:Int) == 0)=false:=by
   have hd0:a.den.n≠0:=by rw[hld.out];exact fun e=>h0 (limbs_len0.1 e)
   simp;omega
  clear h0;go_enter Tryz.func132,Tryz.ntmps132;go_wp2_with fail;go_at_call 191
  refine cm2 HC fun c w1 hc G1=>?_
  have D1:=Bk.made w1 38 c.ar;have G2:=(Gr.refl w1).alloc (.cells c.ar 38);have HG1:=I ((HG.trans G1).trans G2);have C2:=I ((G1.trans G2).bk C1);have C3:=I D1;have HA2:=I ((HA.gr G1).gr G2);have HC2:=I (hc.gr G2);have e1:((a.num.n:Int) == (c.num.n:Int))=true:=eq_len (hln.trans hc.num.len);have e2:((a.den.n:Int) == (c.den.n:Int))=true:=eq_len (hld.trans hc.den.len);have e3:(a.neg == c.neg)=true:=by rw[HNN.out,hc.neg];simp
  have HK1:=I (cmp_any _ a.num c.num _ _ HA2.num HC2.num);rw[vl,cmpN_eq] at HK1;obtain⟨b0,b1,b2⟩:=C2.c3;have c0_:=C3.c3;clear hc G2 D1 HC HNV C1 HG a0_ HA;go_wp2_with fail;go_at_call 192
  refine cm0 HK1 fun w2 G2=>?_
  have HG2:=I (HG1.trans G2);have HK2:=I (cmp_any w2 a.den c.den _ _ (HA2.den.gr G2) (HC2.den.gr G2));rw[vl,cmpN_eq] at HK2;obtain⟨f0,f1,f2⟩:=(G2.bk C2).c3;obtain⟨g0,g1,g2⟩:=(G2.bk C3).c3;clear HK1 b0 b1 b2 c0_;go_wp2_with fail;go_at_call 192
  refine cm0 HK2 fun w3 G3=>?_
  have HG3:=I (HG2.trans G3);clear HK2;go_wp2;go_ret;exact⟨rfl,HG3.out⟩
theorem quot_ref (w:World) (a b:Iv) (s t:Bool) (m n:Nat) (ha:a.Is w s m) (hb:b.Is w t n) (hm:m < 18446744073709551616) (hn0:0 < n) (hn:n < 18446744073709551616):
  Calls Tryz.prog 112 #[.bool (a.neg != b.neg),a.mag.v,b.mag.v] w fun e w'=>∃r:Rv,e=.returned r.v∧r.Is w' (quot (s != t) m n)∧Gr w w':=by
 rw[← ha.neg,← hb.neg];exact rquot_any w _ a.mag b.mag m n ha.mag hb.mag hm hn0 hn
theorem riof_any (w:World) (x:Int) (h1:-1000000000≤x) (h2:x≤1000000000):
  Calls Tryz.prog 59 #[.int .i64 x] w fun e w'=>∃r:Iv,e=.returned r.v∧r.Is w' (decide (x < 0)) x.natAbs∧Gr w w':=by
 have b1:=Bk.made w 169 #[.bool false,Nl];have HG1:=I ((Gr.refl w).alloc (.cells #[.bool false,Nl] 169));have HB:=I b1;clear b1;have HO:=I (fun W=>rnof_any W x.natAbs (by omega));by_cases h0:x < 0
 ·have hd:decide (x < 0)=true:=by simp[h0]
  rw[hd];obtain⟨n,rfl⟩:∃n:Nat,x=-(n:Int):=⟨x.natAbs,by omega⟩;rw[show (-(n:Int)).natAbs=n by omega] at*;have HLN:Hid ((limbs n).length≤1000000):=nt (limbs_len_le (k:=1) (by rw[Nat.pow_one,B32_eq];omega)) (by decide);go_enter Tryz.func59,Tryz.ntmps59;have hw:IntKind.u64.wrap (-IntKind.u64.wrap (-(n:Int)))=(n:Int):=by rw[IntKind.wrap_u64,IntKind.wrap_u64];omega
  go_wp2_with fail;go_at_call 114
  refine cm2 (HO.out _) fun z w1 hz G1=>?_
  have HG2:=I (HG1.trans G1);have C2:=I (G1.bk HB);have HM:=I (rimake_any w1 true z n hz HLN);clear hz hw HB;go_wp2_with fail;go_at_call 113
  refine cm1 HM fun i w2 HII G2=>?_
  have HG3:=I (HG2.trans G2);have HBs:=I (G2.bk C2);have r0_:=HBs.c2;have fz:=HBs.frozen;clear HM C2;generalize hp:w.heap.size=r at*;have hPE:=I hp;clear hp;go_wp2;refine pex ?_;refine ks HBs fun W5 B5 F5=>?_
  have d_:=B5.c2;refine bret Tryz.results59 ?_;exact⟨i,rfl,⟨by rw[HII.neg];rw[dt (by omega)];rfl,HII.mag.fr F5 HBs (noLimb_int _ _ _ _)⟩,HG3.fr_at F5 (Nat.le_of_eq hPE)⟩
 ·have hd:decide (x < 0)=false:=by simp;omega
  rw[hd];obtain⟨n,rfl⟩:∃n:Nat,x=(n:Int):=⟨x.natAbs,by omega⟩;rw[show ((n:Int)).natAbs=n by omega] at*;have HLN:Hid ((limbs n).length≤1000000):=nt (limbs_len_le (k:=1) (by rw[Nat.pow_one,B32_eq];omega)) (by decide);go_enter Tryz.func59,Tryz.ntmps59;have hw:IntKind.u64.wrap (n:Int)=(n:Int):=by rw[IntKind.wrap_u64];omega
  go_wp2_with fail;go_at_call 114
  refine cm2 (HO.out _) fun z w1 hz G1=>?_
  have HG2:=I (HG1.trans G1);have C2:=I (G1.bk HB);have HM:=I (rimake_any w1 false z n hz HLN);clear hz hw HB;go_wp2_with fail;go_at_call 113
  refine cm1 HM fun i w2 HII G2=>?_
  have HG3:=I (HG2.trans G2);have HBs:=I (G2.bk C2);have r0_:=HBs.c2;have fz:=HBs.frozen;clear HM C2;generalize hp:w.heap.size=r at*;have hPE:=I hp;clear hp;go_wp2;refine pex ?_;refine ks HBs fun W5 B5 F5=>?_
  have d_:=B5.c2;refine bret Tryz.results59 ?_;exact⟨i,rfl,⟨HII.neg,HII.mag.fr F5 HBs (noLimb_int _ _ _ _)⟩,HG3.fr_at F5 (Nat.le_of_eq hPE)⟩
theorem r3of_any (w:World) (x:Int) (h1:-1000000000≤x) (h2:x≤1000000000):
  Calls Tryz.prog 27 #[.int .i64 x] w fun e w'=>∃r:Rv,e=.returned r.v∧r.Is w' (ofQ x)∧Gr w w':=by
 have B1:=Bk.made w 38 Rl;have HG:=I ((Gr.refl w).alloc (.cells Rl 38));have C1:=I B1;have HI:=I (fun W=>riof_any W x h1 h2);clear B1;go_enter Tryz.func27,Tryz.ntmps27;go_wp2_with fail;go_at_call 59
 refine cm2 (HI.out _) fun i w1 hi G1=>?_
 have D1:=Bk.made w1 169 #[.bool i.neg,i.mag.v];have G2:=(Gr.refl w1).alloc (.cells #[.bool i.neg,i.mag.v] 169);have HG1:=I ((HG.trans G1).trans G2);have HBs:=I ((G1.trans G2).bk C1);have HII:=I (hi.gr G2);have x0_:=D1.c2;have r0_:=HBs.c3;have fz:=HBs.frozen;clear hi G2 HI C1 D1;have hne:¬w1.heap.size=w.heap.size:=fun e=>Bk.ne (Bk.made w1 169 #[.bool i.neg,i.mag.v]) HBs (by decide) e
 have hne2:¬w.heap.size=w1.heap.size:=fun e=>hne e.symm
 go_upto_region 2 with fail;generalize hW:w1.alloc (.cells #[.bool i.neg,i.mag.v] 169)=W at*;have hWE:=I hW;clear hW;generalize hp:w.heap.size=r at*;have hPE:=I hp;clear hp;go_wp2;refine pex ?_;refine ks HBs fun W5 B5 F5=>?_
 have d_:=B5.c3;refine bret Tryz.results27 ?_;exact⟨⟨i.neg,i.mag,Sv.none⟩,rfl,⟨HII.neg,HII.mag.fr F5 HBs (noLimb_rat _ _ _ _ _ _ _),by rw[show (ofQ x).den=0 from rfl,limbs_zero];exact Sv.Num.none _⟩,HG1.fr_at F5 (Nat.le_of_eq hPE)⟩
theorem r3make_any (w:World) (a b:Iv) (s t:Bool) (m n:Nat) (ha:a.Is w s m) (hb:b.Is w t n) (hm:m < 18446744073709551616) (hn0:0 < n) (hn:n < 18446744073709551616):
  Calls Tryz.prog 58 #[a.v,b.v] w fun e w'=>∃r:Rv,e=.returned (.tuple #[r.v,.int .i64 0])∧r.Is w' (quot (s != t) m n)∧Gr w w':=by
 obtain⟨B1,B2,B3,G⟩:=made3 w 169 169 38 #[.bool a.neg,a.mag.v] #[.bool b.neg,b.mag.v] Rl;have HA:=I (ha.gr G);have HB:=I (hb.gr G);have HG:=I G;have C1:=I B1;have C2:=I B2;have C3:=I B3;have b0_:=B2.c2;have HS:=I (risign_any _ b.neg b.mag n HB.mag (nt (limbs_len_le (k:=2) (by rw[B32_eq];exact hn)) (by decide)));have hsd:((isg b.neg n == 0)=false):=by
  unfold isg;rw[if_neg (by omega)];cases b.neg<;>rfl
 have hsd2:¬isg b.neg n=0:=by simpa using hsd
 generalize isg b.neg n=sv at*;clear ha hb B1 B2 B3 G;simp only[Iv.v];go_enter Tryz.func58,Tryz.ntmps58;go_wp2_with fail;go_at_call 77
 refine cm0 HS fun w1 G1=>?_
 have HG1:=I (HG.trans G1);have D3:=I (G1.bk C3);have HQ:=I (quot_ref w1 a b s t m n (HA.gr G1) (HB.gr G1) hm hn0 hn);obtain⟨x0,x1⟩:=(G1.bk C1).c2;obtain⟨y0,y1⟩:=(G1.bk C2).c2;clear HS b0_ C1 C2 C3 HA HB HG;go_wp2_with fail;go_at_call 112
 refine cm1 HQ fun i w2 HII G2=>?_
 have HG2:=I (HG1.trans G2);have HBs:=I (G2.bk D3);have r0_:=HBs.c3;have fz:=HBs.frozen;have hle:Hid (w.heap.size≤w.heap.size+1+1):=nt (Nat.le_succ _) (Nat.le_succ _);clear HQ D3 x0 x1 y0 y1;generalize w.heap.size+1+1=r at*;go_wp2;refine pex ?_;refine ks HBs fun W5 B5 F5=>?_
 have d_:=B5.c3;refine bret Tryz.results58 ?_;exact⟨i,rfl,HII.fr F5 HBs (noLimb_rat _ _ _ _ _ _ _),HG2.fr_at F5 hle⟩
theorem frac_any (w:World) (a:Int) (b:Nat) (h1:-1000000000≤a) (h2:a≤1000000000) (h3:0 < b) (h4:b≤1000000000):
  Calls Tryz.prog 26 #[.int .i64 a,.int .i64 b] w fun e w'=>∃r:Rv,e=.returned (.tuple #[r.v,.int .i64 0])∧r.Is w' (quot (decide (a < 0)) a.natAbs b)∧Gr w w':=by
 have B1:=Bk.made w 38 Rl;have HG:=I ((Gr.refl w).alloc (.cells Rl 38));have C1:=I B1;have HI:=I (fun W=>riof_any W a h1 h2);have HJ:=I (fun W=>riof_any W (b:Int) (by omega) (by omega));clear B1;go_enter Tryz.func26,Tryz.ntmps26;go_wp2_with fail;go_at_call 59
 refine cm1 (HI.out _) fun i w1 HII G1=>?_
 have HG1:=I (HG.trans G1);have C2:=I (G1.bk C1);clear HI C1;go_wp2_with fail;go_at_call 59
 refine cm2 (HJ.out _) fun j w2 hj G2=>?_
 have HG2:=I (HG1.trans G2);have C3:=I (G2.bk C2);rw[show decide ((b:Int) < 0)=false by simp,show ((b:Int)).natAbs=b by omega] at hj;have HM:=I (r3make_any w2 i j _ _ _ _ (HII.gr G2) hj (by omega) h3 (by omega));rw[Bool.bne_false] at HM;clear hj HJ C2;go_wp2_with fail;go_at_call 58
 refine cm1 HM fun k w3 HKK G3=>?_
 have HG3:=I (HG2.trans G3);have HBs:=I (G3.bk C3);have r0_:=HBs.c3;have fz:=HBs.frozen;clear HM C3;generalize hp:w.heap.size=r at*;have hPE:=I hp;clear hp;go_wp2;refine pex ?_;refine ks HBs fun W5 B5 F5=>?_
 have d_:=B5.c3;refine bret Tryz.results26 ?_;exact⟨k,rfl,HKK.fr F5 HBs (noLimb_rat _ _ _ _ _ _ _),HG3.fr_at F5 (Nat.le_of_eq hPE)⟩
theorem r3valid_any (w:World) (a:Rv) (q:Q) (ha:a.Is w q) (hq:q.Ok) (hl:q.num < 18446744073709551616) (hd:q.den < 18446744073709551616):
  Calls Tryz.prog 115 #[a.v] w fun e w'=>e=.returned (.bool true)∧Gr w w':=by
 have B1:=Bk.made w 38 a.ar;have G:=(Gr.refl w).alloc (.cells a.ar 38);have HA:=I (ha.gr G);have HG:=I G;have C1:=I B1;have HC:=I (rcanon_any (w.alloc (.cells a.ar 38)).drew a q (HA.gr (Gr.refl _).drew) hl hd);rw[quot_self hq] at HC;clear ha B1 G;simp only[Rv.v] at*;go_enter Tryz.func115,Tryz.ntmps115;go_wp2_with fail;generalize hW:w.alloc (.cells a.ar 38)=W at*;clear hW;generalize w.heap.size=p at*;have a0_:=C1.c3
 first | (go_region_held3 (fun W=>W.cell? ⟨p,0,none⟩=some (.bool a.neg)∧W.cell? ⟨p,1,none⟩=some a.num.v∧W.cell? ⟨p,2,none⟩=some a.den.v)
   (first | go_keep | exact⟨hk.1,hk.2.1,hk.2.2⟩ | exact⟨hj.1,hj.2.1,hj.2.2⟩)
   (first | (go_at_call 118;refine (HQ.out).mono ?_;rintro e w2 ⟨rfl,G2⟩;have C3:=I (G2.bk C2.out);have HG2:=I (HG1.out.trans G2);have hj:=C3.out.c3;clear G2) | (go_at_call 71;refine (HC.out).mono ?_;rintro e w1 ⟨y,rfl,hy,G1⟩;have C2:=I (G1.bk C1.out);have HG1:=I (HG.out.drew.trans G1);have hk:=C2.out.c3;have HQ:=I (rsame_any w1 a y q q ((HA.out.gr (Gr.refl W).drew).gr G1) hy);rw[dt (rfl:q=q)] at HQ;simp only[Rv.v] at HQ;clear hy G1))) | fail
 go_wp2;go_ret;exact⟨rfl,HG2.out⟩
theorem len2 {n:Nat} (h:n < 18446744073709551616):(limbs n).length≤2:=limbs_len_le (by rw[B32_eq];exact h)
theorem orOne_lt {n k:Nat} (h:n < k) (hk:1 < k):orOne n < k:=by unfold orOne;split<;>omega
theorem r3mul_any (w:World) (a b:Rv) (x y:Q) (ha:a.Is w x) (hb:b.Is w y) (h1:x.num < 4294967296) (h2:y.num < 4294967296) (h3:x.den < 4294967296) (h4:y.den < 4294967296):
  Calls Tryz.prog 76 #[a.v,b.v] w fun e w'=>∃r:Rv,e=.returned r.v∧r.Is w' (Q.mul x y)∧Gr w w':=by
 obtain⟨B1,B2,B3,G⟩:=made3 w 38 38 38 a.ar b.ar Rl;have HA4:=I (ha.gr G);have HB4:=I (hb.gr G);have HG4:=I G;have C1:=I B1;have C2:=I B2;have C3:=I B3;have U1:Hid (x.un < 4294967296):=orOne_lt h3 (by decide);have U2:Hid (y.un < 4294967296):=orOne_lt h4 (by decide);have bd:∀m n,m < 4294967296→n < 4294967296→m*n < 18446744073709551616:=fun m n hm hn=>by
  have:m*n≤4294967295*4294967295:=Nat.mul_le_mul (by omega) (by omega);omega
 have HL:=I (bd _ _ h1 h2);have U3:=I (bd _ _ U1 U2);have L1:=I (len2 (nm h1 (by decide:4294967296 < 18446744073709551616)));have L2:=I (len2 (nm h2 (by decide:4294967296 < 18446744073709551616)));have L3:=I (len2 (nm h3 (by decide:4294967296 < 18446744073709551616)));have L4:=I (len2 (nm h4 (by decide:4294967296 < 18446744073709551616)));have L5:=I (len2 (nm U1 (by decide:4294967296 < 18446744073709551616)));have L6:=I (len2 (nm U2 (by decide:4294967296 < 18446744073709551616)));have hE:Hid (Q.mul x y=quot (x.neg != y.neg) (x.num*y.num) (x.un*y.un)):=rfl;have N1:=I ha.neg;have N2:=I hb.neg;clear ha hb h1 h2 h3 h4 bd B1 B2 B3 G;simp only[Rv.v] at*;go_enter Tryz.func76,Tryz.ntmps76;go_wp2_with fail;have h9:¬w.heap.size=w.heap.size+1+1:=by omega
 have h8:¬w.heap.size+1=w.heap.size+1+1:=by omega
 have hpo:Hid (w.heap.size≤w.heap.size+1+1):=nt (Nat.le_succ _) (Nat.le_succ _);generalize hW:((w.alloc (.cells a.ar 38)).alloc (.cells b.ar 38)).alloc (.cells Rl 38)=W at*;clear hW;generalize w.heap.size+1+1=r at*;generalize w.heap.size+1=q at*;generalize hp:w.heap.size=p at*;have hPE:=I hp;clear hp;have h6:¬r=p:=fun e=>h9 e.symm
 have h5:¬r=q:=fun e=>h8 e.symm
 have a0_:=C1.c3;have b0_:=C2.c3;have HG0:Hid (Gr W W.drew):=(Gr.refl W).drew;have HM0:=I (rnmul_any W.drew a.num b.num _ _ (HA4.num.gr HG0) (HB4.num.gr HG0) (nt L1 (by decide)) (nt L2 (by decide)));rw[vl,vl] at HM0;have HU1:Hid (∀W2,Gr W W2→Calls Tryz.prog 125 #[a.den.v] W2 fun e w'=>∃y':Sv,e=.returned y'.v∧y'.Num w' (limbs x.un)∧Gr W2 w'):=fun W2 G=>rone_any W2 a.den _ (HA4.den.gr G) (nt L3 (by decide))
 have HU2:Hid (∀W2,Gr W W2→Calls Tryz.prog 125 #[b.den.v] W2 fun e w'=>∃y':Sv,e=.returned y'.v∧y'.Num w' (limbs y.un)∧Gr W2 w'):=fun W2 G=>rone_any W2 b.den _ (HB4.den.gr G) (nt L4 (by decide))
 first | (go_region_held3 (fun W=>W.cell? ⟨p,0,none⟩=some (.bool a.neg)∧W.cell? ⟨p,1,none⟩=some a.num.v∧W.cell? ⟨p,2,none⟩=some a.den.v∧W.cell? ⟨q,0,none⟩=some (.bool b.neg)∧W.cell? ⟨q,1,none⟩=some b.num.v∧W.cell? ⟨q,2,none⟩=some b.den.v)
   (first | go_keep | exact⟨hk0.1.1,hk0.1.2.1,hk0.1.2.2,hk0.2.1,hk0.2.2.1,hk0.2.2.2⟩ | exact⟨hk1.1.1,hk1.1.2.1,hk1.1.2.2,hk1.2.1,hk1.2.2.1,hk1.2.2.2⟩ | exact⟨hk2.1.1,hk2.1.2.1,hk2.1.2.2,hk2.2.1,hk2.2.2.1,hk2.2.2.2⟩ | exact⟨hk3.1.1,hk3.1.2.1,hk3.1.2.2,hk3.2.1,hk3.2.2.1,hk3.2.2.2⟩ | exact⟨hk4.1.1,hk4.1.2.1,hk4.1.2.2,hk4.2.1,hk4.2.2.1,hk4.2.2.2⟩)
   (first | (go_at_call 112;refine (HQ.out).mono ?_;rintro e w7 ⟨i,rfl,hi,G8⟩;have HG8:=I (HG7.out.trans G8);have hk4:=ai (HG8.out.bk C1.out).c3 (HG8.out.bk C2.out).c3;have HBs:=I (HG8.out.bk C3.out);obtain⟨r0,r1,r2⟩:=HBs.out.c3;have fz:=HBs.out.frozen;have HII:=I hi;clear hi G8) | (go_at_call 127;refine (HM.out).mono ?_;rintro e w6 ⟨z,rfl,hz,G7⟩;have HG7:=I (HG6.out.trans G7);have hk3:=ai (HG7.out.bk C1.out).c3 (HG7.out.bk C2.out).c3;have HQ:=I (rquot_any w6 (a.neg != b.neg) m z _ _ (HNM2.out.gr G7) hz HL.out (Nat.mul_pos x.un_pos y.un_pos) U3.out);clear hz G7) | (go_at_call 125;refine ((HU2.out w4 HG5.out)).mono ?_;rintro e w5 ⟨v,rfl,hv,G6⟩;have HNM2:=I (HNM1.out.gr G6);have HG6:=I (HG5.out.trans G6);have hk2:=ai (HG6.out.bk C1.out).c3 (HG6.out.bk C2.out).c3;have HM:=I (rnmul_any w5 u v _ _ (HNU.out.gr G6) hv (nt L5.out (by decide)) (nt L6.out (by decide)));rw[vl,vl] at HM;clear hv G6) | (go_at_call 125;refine ((HU1.out w3 HG3.out)).mono ?_;rintro e w4 ⟨u,rfl,hu,G5⟩;have HNM1:=I (HNM.out.gr G5);have HG5:=I (HG3.out.trans G5);have hk1:=ai (HG5.out.bk C1.out).c3 (HG5.out.bk C2.out).c3;have HNU:=I hu;clear hu G5) | (go_at_call 127;refine (HM0.out).mono ?_;rintro e w3 ⟨m,rfl,hm,G4⟩;have HG3:=I (HG0.out.trans G4);have hk0:=ai (HG3.out.bk C1.out).c3 (HG3.out.bk C2.out).c3;have HNM:=I hm;clear hm G4))) | fail
 go_wp2;refine pex ?_;refine ks HBs fun W5 B5 F5=>?_
 have d_:=B5.c3;refine bret Tryz.results76 ?_;exact⟨i,rfl,by rw[hE.out,← N1.out,← N2.out];exact HII.fr F5 HBs (noLimb_rat _ _ _ _ _ _ _),(HG4.trans HG8).fr_at F5 (by rw[hPE.out];exact hpo.out)⟩
theorem elemU:ElemS Tryz.prog 35 300 1 4:=elem_of (z:=.int .u32 0) (by kernel_rfl) (by kernel_rfl) rfl (by decide)
structure RAddSt (a b o:List Nat) (i c:Nat):Prop where
 len:o.length=i
 lim:Lim o
 car:c≤1
 sum:val o+B32 ^ i*c=val (a.take i)+val (b.take i)
theorem RAddSt.start (a b:List Nat):RAddSt a b [] 0 0:=⟨rfl,Lim.nil,by omega,by simp[val]⟩
theorem RAddSt.step {a b o:List Nat} {i c:Nat} (h:RAddSt a b o i c) (ha:Lim a) (hb:Lim b) {s:Nat} (hs:s=c+(lim0 a i+lim0 b i)):RAddSt a b (o++[s % B32]) (i+1) (s / B32):=by
 have h1:=lim0_lt ha i;have h2:=lim0_lt hb i;have h3:=h.car;have hB:=B32_eq;refine⟨by rw[List.length_append,h.len];rfl,h.lim.append (Lim.one (Nat.mod_lt _ (by decide))),?_,?_⟩
 ·have:=Nat.div_lt_of_lt_mul (show s < B32*2 by omega);omega
 ·have e2:=h.sum;have e3:=val_take_lim0 a i;have e4:=val_take_lim0 b i;have e5:B32 ^ i*(s % B32)+B32 ^ (i+1)*(s / B32)=B32 ^ i*s:=by
   rw[Nat.pow_succ,Nat.mul_assoc,← Nat.mul_add,Nat.mod_add_div]
  have e6:B32 ^ i*s=B32 ^ i*c+B32 ^ i*lim0 a i+B32 ^ i*lim0 b i:=by rw[hs,← Nat.add_assoc,Nat.mul_add,Nat.mul_add]
  rw[val_snoc,h.len];omega
theorem RAddSt.done {a b o:List Nat} {n c:Nat} (h:RAddSt a b o n c) (ha:a.length≤n) (hb:b.length≤n):val (o++[c])=val a+val b∧Lim (o++[c]):=by
 have e2:=h.sum;rw[val_take_all ha,val_take_all hb] at e2;exact⟨by rw[val_snoc,h.len];exact e2,h.lim.append (Lim.one (by have:=h.car;have:=B32_eq;omega))⟩
theorem one_cell_arr (v:Int):∀u∈(#[Value.int .u32 v]:Array Value).toList,u.oneCell'=true:=by
 intro u hu;simp at hu;subst hu;rfl
theorem rnadd_any (w:World) (x y:Sv) (a b:List Nat) (hx:x.Num w a) (hy:y.Num w b) (ha:a.length≤400000) (hb:b.length≤400000):
  Calls Tryz.prog 187 #[.slice x.A x.n x.c,.slice y.A y.n y.c] w fun e w'=>∃z:Sv,e=.returned z.v∧z.Num w' (limbs (val a+val b))∧Gr w w':=by
 have HX:=I hx;have HY:=I hy;have HNx:=I hx.len;have HNy:=I hy.len;have hn9:x.n≤400000:=by rw[← HNx.out];exact ha
 have hm9:y.n≤400000:=by rw[← HNy.out];exact hb
 have HS0:=I (RAddSt.start a b);have R0:Hid (w.ownsRow w.heap.size 300 1 Nl 0 (([]:List Nat).map lv)):=⟨rfl,.inl ⟨rfl,rfl⟩⟩;have HLx:Hid (∀W (i:Nat),Gr w W→i≤1000000000→Calls Tryz.prog 186 #[x.v,.int .i64 i] W fun e w'=>e=.returned (.int .u32 (lim0 a i))∧w'=W):=fun W i G hi=>limb_any W x a i (hx.gr G) hi
 have HLy:Hid (∀W (i:Nat),Gr w W→i≤1000000000→Calls Tryz.prog 186 #[y.v,.int .i64 i] W fun e w'=>e=.returned (.int .u32 (lim0 b i))∧w'=W):=fun W i G hi=>limb_any W y b i (hy.gr G) hi
 clear hx hy ha hb;obtain⟨A,n,c⟩:=x;obtain⟨B,m,d⟩:=y;simp only at*;go_enter Tryz.func187,Tryz.ntmps187;go_wp2;go_loopw [5,6,7] (fun s5 s6 i wr=>∃(t cr:Nat) (o:List Nat),i=.int .i64 t∧s6=.int .u64 cr∧(t≤n∨t≤m)∧cr≤1∧Hid (RAddSt a b o t cr)∧Hid (wr.ownsRow w.heap.size 300 1 s5 t (o.map lv))∧Hid (Gr w wr)) (fun _ _ i _=>n+m - (intOf i).toNat)
 case atStart=>exact⟨0,0,[],rfl,rfl,.inl (nq _),by omega,HS0,R0,Gr.refl w⟩
 case round=>
  obtain⟨t,cr,o,rfl,rfl,ht,hcr,hS,hR,hG⟩:=hrel;by_cases hlt:t < n∨t < m
  ·have HA1:=I (HLx.out wr t hG (by omega));have HA2:=I (HLy.out wr t hG (by omega));obtain⟨s,hs⟩:∃s,s=cr+(lim0 a t+lim0 b t):=⟨_,rfl⟩;have HST:=I (hS.step HX.lim HY.lim hs);have hp9:=lim0_lt HX.lim t;have hq9:=lim0_lt HY.lim t;rw[B32_eq] at hp9 hq9;obtain⟨lo,hlo⟩:∃lo,lo=s % B32:=⟨_,rfl⟩;obtain⟨hi,hhi⟩:∃hi,hi=s / B32:=⟨_,rfl⟩;rw[← hlo,← hhi] at HST;have hhi1:hi≤1:=HST.car;generalize lim0 a t=p at*;generalize lim0 b t=q at*;have E1:Hid (((cr:Int)+(p+q)) % 4294967296=lo):=by rw[B32_eq] at hlo;exact (by omega:((cr:Int)+(p+q)) % 4294967296=lo)
   have E2:Hid (((cr:Int)+(p+q)) / 4294967296=hi):=by rw[B32_eq] at hhi;exact (by omega:((cr:Int)+(p+q)) / 4294967296=hi)
   have hsz:=hG.size;clear hlo hhi hs;by_cases htn:t < n
   ·go_wp2_with fail;go_at_call 186
    refine HA1.mono ?_;rintro e w2 ⟨rfl,rfl⟩;go_wp2_with fail;go_at_call 186
    refine HA2.mono ?_;rintro e w2 ⟨rfl,rfl⟩;go_wp2_with (at_builtin;refine wpList_appS1 (w:=w2) elemU rfl (.tmp 31) (.tmp 34) rfl w.heap.size u5 t (o.map lv) #[.int .u32 (((cr:Int)+(p+q)) % 4294967296)] rfl rfl rfl hR.out (one_cell_arr _) (by unfold maxLen;omega) (by omega) hsz ?_;intro v5 w5 h5 F5 _);rw[E1.out] at h5;have HR5:Hid (w5.ownsRow w.heap.size 300 1 v5 (t+1) ((o++[lo]).map lv)):=by rw[List.map_append];exact h5
    have HG5:Hid (Gr w w5):=hG.step F5 fun b _ e=>(rw_lt hR b e).1
    clear h5 F5;go_roundw
    case rel=>
     rw[E2.out];exact⟨t+1,hi,_,by go_num,rfl,by omega,hhi1,HST,HR5,HG5⟩
    case measure=>simp[intOf];omega
   ·have htm:t < m:=by omega
    have hd1:decide ((t:Int) < n)=false:=by simp;omega
    have hd2:decide ((t:Int) < m)=true:=by simp;omega
    go_wp2_with fail;go_at_call 186
    refine HA1.mono ?_;rintro e w2 ⟨rfl,rfl⟩;go_wp2_with fail;go_at_call 186
    refine HA2.mono ?_;rintro e w2 ⟨rfl,rfl⟩;go_wp2_with (at_builtin;refine wpList_appS1 (w:=w2) elemU rfl (.tmp 31) (.tmp 34) rfl w.heap.size u5 t (o.map lv) #[.int .u32 (((cr:Int)+(p+q)) % 4294967296)] rfl rfl rfl hR.out (one_cell_arr _) (by unfold maxLen;omega) (by omega) hsz ?_;intro v5 w5 h5 F5 _);rw[E1.out] at h5;have HR5:Hid (w5.ownsRow w.heap.size 300 1 v5 (t+1) ((o++[lo]).map lv)):=by rw[List.map_append];exact h5
    have HG5:Hid (Gr w w5):=hG.step F5 fun b _ e=>(rw_lt hR b e).1
    clear h5 F5;go_roundw
    case rel=>
     rw[E2.out];exact⟨t+1,hi,_,by go_num,rfl,by omega,hhi1,HST,HR5,HG5⟩
    case measure=>simp[intOf];omega
  ·have hd1:decide ((t:Int) < n)=false:=by simp;omega
   have hd2:decide ((t:Int) < m)=false:=by simp;omega
   have hnn:¬t < n:=by omega
   have hmm:¬t < m:=by omega
   obtain⟨e1,e2⟩:=hS.done (by rw[HNx.out];omega) (by rw[HNy.out];omega);have HE1:=I e1;have HE2:=I e2;have hsz:=hG.size;have ht9:t≤400000:=by omega
   clear e1 e2 hlt ht;have hc:Hid ((cr:Int) % 4294967296=cr):=(by omega:(cr:Int) % 4294967296=cr);go_wp2_with (at_builtin;refine wpList_appS1 (w:=wr) elemU rfl (.tmp 38) (.tmp 41) rfl w.heap.size u5 t (o.map lv) #[.int .u32 (cr:Int)] rfl rfl rfl hR.out (one_cell_arr _) (by unfold maxLen;omega) (by omega) hsz ?_;intro v5 w5 h5 F5 _);obtain⟨z,hzv,hzn,hz,hty⟩:=Sv.of_row h5 (by decide);have HZZ:Hid (z.Num w5 (o++[cr])):=⟨by rw[List.map_append];exact hz,HE2.out,hty⟩;have HLN:Hid ((o++[cr]).length≤1000000):=by
    rw[List.length_append,hS.len];exact (show t+1≤1000000 by omega)
   have HT:=I (rmake_any w5 z _ HZZ HLN);rw[HE1.out] at HT;have HG5:Hid (Gr w w5):=hG.step F5 fun b _ e=>(rw_lt hR b e).1
   subst hzv;clear h5 F5 hz hty hzn;simp only[Sv.v];go_wp2_with fail;go_at_call 180
   refine cm1 HT fun k w6 HK G6=>?_
   have HG6:=I (HG5.trans G6);clear HT;go_wp2;go_ret;exact⟨k,rfl,HK.out,HG6.out⟩
theorem high_eq {a b:List Nat} {k:Nat} (h:∀j,k≤j→lim0 a j=lim0 b j):∀d,val (a.take (k+d))+val (b.take k)=val (b.take (k+d))+val (a.take k)
 | 0=>by rw[Nat.add_zero,Nat.add_comm]
 | d+1=>by
  have ih:=high_eq h d;rw[← Nat.add_assoc,val_take_lim0,val_take_lim0,h (k+d) (by omega)];omega
theorem high_all {a b:List Nat} {k:Nat} (h:∀j,k≤j→lim0 a j=lim0 b j):val a+val (b.take k)=val b+val (a.take k):=by
 have:=high_eq h (a.length+b.length);rw[List.take_of_length_le (show a.length≤k+(a.length+b.length) by omega),List.take_of_length_le (show b.length≤k+(a.length+b.length) by omega)] at this;exact this
theorem high_lt {a b:List Nat} {j:Nat} (ha:Lim a) (h:∀i,j+1≤i→lim0 a i=lim0 b i) (hlt:lim0 a j < lim0 b j):val a < val b:=by
 have h1:=high_all h;rw[val_take_lim0,val_take_lim0] at h1;have h2:=val_lt (ha.take j);have h3:B32 ^ (a.take j).length≤B32 ^ j:=Nat.pow_le_pow_right (by decide) (by rw[List.length_take];omega);have h4:B32 ^ j*(lim0 a j+1)≤B32 ^ j*lim0 b j:=Nat.mul_le_mul_left _ hlt;rw[Nat.mul_add] at h4;omega
theorem rcmp_any (w:World) (x y:Sv) (a b:List Nat) (hx:x.Num w a) (hy:y.Num w b) (ha:a.length≤400000) (hb:b.length≤400000):
  Calls Tryz.prog 256 #[.slice x.A x.n x.c,.slice y.A y.n y.c] w fun e w'=>e=.returned (.int .i64 (cmpN (val a) (val b)))∧w'=w:=by
 have HNx:=I hx.len;have HNy:=I hy.len;have hn9:x.n≤400000:=by rw[← HNx.out];exact ha
 have hm9:y.n≤400000:=by rw[← HNy.out];exact hb
 have HLA:=I hx.lim;have HLB:=I hy.lim;have HLx:Hid (∀(i:Nat),i≤1000000000→Calls Tryz.prog 186 #[x.v,.int .i64 i] w fun e w'=>e=.returned (.int .u32 (lim0 a i))∧w'=w):=fun i hi=>limb_any w x a i hx hi
 have HLy:Hid (∀(i:Nat),i≤1000000000→Calls Tryz.prog 186 #[y.v,.int .i64 i] w fun e w'=>e=.returned (.int .u32 (lim0 b i))∧w'=w):=fun i hi=>limb_any w y b i hy hi
 obtain⟨N,hN,hN1,hN2,hmx⟩:∃N:Nat,N≤400000∧x.n≤N∧y.n≤N∧max (x.n:Int) (y.n:Int)=(N:Int):=⟨max x.n y.n,by omega,by omega,by omega,by omega⟩;have H0:Hid (∀j,N≤j→lim0 a j=lim0 b j):=fun j hj=>by
  rw[lim0_past (by rw[HNx.out];omega),lim0_past (by rw[HNy.out];omega)]
 clear hx hy ha hb;go_enter Tryz.func256,Tryz.ntmps256;go_wp2;clear hmx;go_loopw [5] (fun s wr=>∃k:Nat,s=.int .i64 ((k:Int) - 1)∧k≤N∧Hid (∀j,k≤j→lim0 a j=lim0 b j)∧wr=w) (fun s _=>(intOf s+1).toNat)
 case atStart=>exact⟨N,rfl,nr _,H0,rfl⟩
 case round=>
  obtain⟨k,rfl,hk,hD,rfl⟩:=hrel;cases k with
  | zero=>
   have hE:Hid (cmpN (val a) (val b)=0):=by
    have h:=high_all hD;simp only[List.take_zero,val] at h;rw[show val a=val b by omega];exact cmpN_eq _
   have h0:((0:Nat):Int) - 1=-1:=rfl;rw[h0];go_wp2;go_ret;exact⟨by rw[hE.out];rfl,rfl⟩
  | succ j=>
   have hj:(((j+1:Nat):Int) - 1)=(j:Int):=by omega
   rw[hj];have HA1:=I (HLx.out j (by omega));have HA2:=I (HLy.out j (by omega));have HC1:Hid (lim0 a j < lim0 b j→cmpN (val a) (val b)=-1):=fun h=>cmpN_lt (high_lt HLA hD h)
   have HC2:Hid (lim0 b j < lim0 a j→cmpN (val a) (val b)=1):=fun h=>cmpN_gt (high_lt HLB (fun i hi=>(hD.out i hi).symm) h)
   have HD2:Hid (lim0 a j=lim0 b j→∀i,j≤i→lim0 a i=lim0 b i):=fun h i hi=>by
    rcases Nat.eq_or_lt_of_le hi with rfl | h1
    ·exact h
    ·exact hD.out i h1
   generalize hp:lim0 a j=p at*;generalize hq:lim0 b j=q at*;clear hp hq hD;by_cases h1:p < q
   ·have hE:=I (HC1.out h1);have hd:decide ((p:Int) < q)=true:=by simp;omega
    go_wp2_with fail;go_at_call 186
    refine HA1.mono ?_;rintro e w2 ⟨rfl,rfl⟩;go_wp2_with fail;go_at_call 186
    refine HA2.mono ?_;rintro e w2 ⟨rfl,rfl⟩;go_wp2;go_ret;exact⟨by rw[hE.out];rfl,rfl⟩
   ·have hd:decide ((p:Int) < q)=false:=by simp;omega
    have hd3:¬p < q:=h1;go_wp2_with fail;go_at_call 186
    refine HA1.mono ?_;rintro e w2 ⟨rfl,rfl⟩;go_wp2_with fail;go_at_call 186
    refine HA2.mono ?_;rintro e w2 ⟨rfl,rfl⟩;go_wp2_with fail;go_at_call 186
    refine HA1.mono ?_;rintro e w2 ⟨rfl,rfl⟩;go_wp2_with fail;go_at_call 186
    refine HA2.mono ?_;rintro e w2 ⟨rfl,rfl⟩;by_cases h2:q < p
    ·have hE:=I (HC2.out h2);have hd2:decide ((q:Int) < p)=true:=by simp;omega
     go_wp2;go_ret;exact⟨by rw[hE.out];rfl,rfl⟩
    ·have hd2:decide ((q:Int) < p)=false:=by simp;omega
     have hDD:=I (HD2.out (by omega));go_wp2;go_roundw
     case rel=>exact⟨j,rfl,by omega,hDD,trivial⟩
     case measure=>first | (simp[intOf];done) | (simp[intOf];omega)
structure RSubSt (a b o:List Nat) (i c:Nat):Prop where
 len:o.length=i
 lim:Lim o
 car:c≤1
 sum:val o+val (b.take i)=val (a.take i)+B32 ^ i*c
theorem RSubSt.start (a b:List Nat):RSubSt a b [] 0 0:=⟨rfl,Lim.nil,by omega,by simp[val]⟩
theorem RSubSt.step {a b o:List Nat} {i c x c':Nat} (h:RSubSt a b o i c) (hx:x < B32) (hc:c'≤1) (hs:x+(lim0 b i+c)=lim0 a i+B32*c'):RSubSt a b (o++[x]) (i+1) c':=by
 refine⟨by rw[List.length_append,h.len];rfl,h.lim.append (Lim.one hx),hc,?_⟩;have e2:=h.sum;have e3:=val_take_lim0 a i;have e4:=val_take_lim0 b i;have e5:B32 ^ i*(x+(lim0 b i+c))=B32 ^ i*(lim0 a i+B32*c'):=by rw[hs]
 rw[Nat.mul_add,Nat.mul_add,Nat.mul_add] at e5;have e6:B32 ^ (i+1)*c'=B32 ^ i*(B32*c'):=by rw[Nat.pow_succ,Nat.mul_assoc]
 rw[val_snoc,h.len];omega
theorem RSubSt.done {a b o:List Nat} {c:Nat} (h:RSubSt a b o a.length c) (hv:val b≤val a) (hb:Lim b) (hl:∀i,a.length≤i→lim0 b i=0):val o=val a - val b:=by
 have e2:=h.sum;rw[List.take_length] at e2;have h1:=val_lt h.lim;rw[h.len] at h1;have h2:val (b.take a.length)=val b:=val_take fun i x hi hx=>by
  rw[← lim0_at hx];exact hl i hi
 rw[h2] at e2;rcases Nat.eq_zero_or_pos c with rfl | hc
 ·omega
 ·have:c=1:=by have:=h.car;omega
  subst this;omega
theorem no_high {a b:List Nat} (hv:val b≤val a) (ha:Lim a):∀i,a.length≤i→lim0 b i=0:=fun i hi=>by
 rcases Nat.eq_zero_or_pos (lim0 b i) with h | h
 ·exact h
 ·have h1:=val_lt ha;have h2:=val_take_lim0 b i;have h3:=val_take_le b (i+1);have h4:B32 ^ a.length≤B32 ^ i:=Nat.pow_le_pow_right (by decide) hi;have h5:B32 ^ i*1≤B32 ^ i*lim0 b i:=Nat.mul_le_mul_left _ h;omega
theorem rnsub_any (w:World) (x y:Sv) (a b:List Nat) (hx:x.Num w a) (hy:y.Num w b) (ha:a.length≤400000) (hb:b.length≤400000):
  Calls Tryz.prog 188 #[x.v,y.v] w fun e w'=>Gr w w'∧((val b≤val a∧∃z:Sv,e=.returned (.tuple #[z.v,.int .i64 0])∧z.Num w' (limbs (val a - val b)))∨(val a < val b∧e=.returned (.tuple #[.slice none 0 0,.int .i64 2]))):=by
 have HC:=I (rcmp_any w x y a b hx hy ha hb);have HX:=I hx;have HY:=I hy;have HNx:=I hx.len;have hn9:x.n≤400000:=by rw[← HNx.out];exact ha
 have R0:Hid (w.ownsRow w.heap.size 300 1 Nl 0 (([]:List Nat).map lv)):=⟨rfl,.inl ⟨rfl,rfl⟩⟩;have HS0:=I (RSubSt.start a b);have HLx:Hid (∀W (i:Nat),Gr w W→i≤1000000000→Calls Tryz.prog 186 #[x.v,.int .i64 i] W fun e w'=>e=.returned (.int .u32 (lim0 a i))∧w'=W):=fun W i G hi=>limb_any W x a i (hx.gr G) hi
 have HLy:Hid (∀W (i:Nat),Gr w W→i≤1000000000→Calls Tryz.prog 186 #[y.v,.int .i64 i] W fun e w'=>e=.returned (.int .u32 (lim0 b i))∧w'=W):=fun W i G hi=>limb_any W y b i (hy.gr G) hi
 clear hx hy ha hb;by_cases hab:val a < val b
 ·have hE:Hid (cmpN (val a) (val b)=-1):=cmpN_lt hab;rw[hE.out] at HC;have HAB:=I hab;go_enter Tryz.func188,Tryz.ntmps188;go_wp2_with fail;go_at_call 256
  refine HC.mono ?_;rintro e w2 ⟨rfl,rfl⟩;go_wp2;go_returns;exact⟨Gr.refl _,.inr ⟨HAB.out,rfl⟩⟩
 ·have hc0:decide (cmpN (val a) (val b) < 0)=false:=by
   unfold cmpN;rw[if_neg hab];split<;>simp
  have HLE:Hid (val b≤val a):=Nat.le_of_not_lt hab;generalize cmpN (val a) (val b)=cm at*;have hc1:¬cm < 0:=by simpa using hc0
  clear hab;go_enter Tryz.func188,Tryz.ntmps188;go_wp2_with fail;go_at_call 256
  refine HC.mono ?_;rintro e w2 ⟨rfl,rfl⟩;obtain⟨A,n,c⟩:=x;simp only at*;go_wp2;go_loopw [6,7,8] (fun s6 s7 i wr=>∃(t cr:Nat) (o:List Nat),i=.int .i64 t∧s7=.int .u64 cr∧t≤n∧cr≤1∧Hid (RSubSt a b o t cr)∧Hid (wr.ownsRow w2.heap.size 300 1 s6 t (o.map lv))∧Hid (Gr w2 wr)) (fun _ _ i _=>n - (intOf i).toNat)
  case atStart=>exact⟨0,0,[],rfl,rfl,nq _,by omega,HS0,R0,Gr.refl _⟩
  case round=>
   obtain⟨t,cr,o,rfl,rfl,ht,hcr,hS,hR,hG⟩:=hrel;by_cases htn:t < n
   ·have HA1:=I (HLx.out wr t hG (by omega));have HA2:=I (HLy.out wr t hG (by omega));have hp9:=lim0_lt HX.lim t;have hq9:=lim0_lt HY.lim t;rw[B32_eq] at hp9 hq9;have HST:Hid (∀x c',x < 4294967296→c'≤1→x+(lim0 b t+cr)=lim0 a t+4294967296*c'→RSubSt a b (o++[x]) (t+1) c'):=fun x c' h1 h2 h3=>hS.step h1 h2 h3
    generalize lim0 a t=p at*;generalize lim0 b t=q at*;have hsz:=hG.size;by_cases hpq:p < q+cr
    ·have hd:decide ((p:Int) < (q:Int)+cr)=true:=by simp;omega
     obtain⟨x,hx⟩:∃x,x=p+4294967296 - (q+cr):=⟨_,rfl⟩;have E1:Hid ((p:Int)+4294967296 - ((q:Int)+cr)=(x:Int)):=(by omega:(p:Int)+4294967296 - ((q:Int)+cr)=(x:Int));have HSS:=I (HST.out x 1 (by omega) (by omega) (by omega));clear hx;go_wp2_with fail;go_at_call 186
     refine HA1.mono ?_;rintro e w3 ⟨rfl,rfl⟩;go_wp2_with fail;go_at_call 186
     refine HA2.mono ?_;rintro e w3 ⟨rfl,rfl⟩;go_wp2_with (at_builtin;refine wpList_appS1 (w:=w3) elemU rfl (.tmp 36) (.tmp 41) rfl w2.heap.size u6 t (o.map lv) #[.int .u32 ((p:Int)+4294967296 - ((q:Int)+cr))] rfl rfl rfl hR.out (one_cell_arr _) (by unfold maxLen;omega) (by omega) hsz ?_;intro v5 w5 h5 F5 _);rw[E1.out] at h5;have HR5:Hid (w5.ownsRow w2.heap.size 300 1 v5 (t+1) ((o++[x]).map lv)):=by rw[List.map_append];exact h5
     have HG5:Hid (Gr w2 w5):=hG.step F5 fun b _ e=>(rw_lt hR b e).1
     clear h5 F5;go_roundw
     case rel=>exact⟨t+1,1,_,by go_num,rfl,by omega,by omega,HSS,HR5,HG5⟩
     case measure=>simp[intOf];omega
    ·have hd:decide ((p:Int) < (q:Int)+cr)=false:=by simp;omega
     obtain⟨x,hx⟩:∃x,x=p - (q+cr):=⟨_,rfl⟩;have E1:Hid ((p:Int) - ((q:Int)+cr)=(x:Int)):=(by omega:(p:Int) - ((q:Int)+cr)=(x:Int));have HSS:=I (HST.out x 0 (by omega) (by omega) (by omega));clear hx;go_wp2_with fail;go_at_call 186
     refine HA1.mono ?_;rintro e w3 ⟨rfl,rfl⟩;go_wp2_with fail;go_at_call 186
     refine HA2.mono ?_;rintro e w3 ⟨rfl,rfl⟩;go_wp2_with (at_builtin;refine wpList_appS1 (w:=w3) elemU rfl (.tmp 36) (.tmp 41) rfl w2.heap.size u6 t (o.map lv) #[.int .u32 ((p:Int) - ((q:Int)+cr))] rfl rfl rfl hR.out (one_cell_arr _) (by unfold maxLen;omega) (by omega) hsz ?_;intro v5 w5 h5 F5 _);rw[E1.out] at h5;have HR5:Hid (w5.ownsRow w2.heap.size 300 1 v5 (t+1) ((o++[x]).map lv)):=by rw[List.map_append];exact h5
     have HG5:Hid (Gr w2 w5):=hG.step F5 fun b _ e=>(rw_lt hR b e).1
     clear h5 F5;go_roundw
     case rel=>exact⟨t+1,0,_,by go_num,rfl,by omega,by omega,HSS,HR5,HG5⟩
     case measure=>simp[intOf];omega
   ·obtain rfl:t=n:=by omega
    have e1:val o=val a - val b:=by
     have h:=hS.out;rw[← HNx.out] at h;exact h.done HLE HY.lim (no_high HLE HX.lim)
    obtain⟨z,hzv,hzn,hz,hty⟩:=Sv.of_row hR (by decide);have HZZ:Hid (z.Num wr o):=⟨hz,hS.lim,hty⟩;have HT:=I (rmake_any wr z _ HZZ (by rw[hS.len];omega));rw[e1] at HT;subst hzv;clear hz hty hzn e1;simp only[Sv.v];go_wp2_with fail;go_at_call 180
    refine cm1 HT fun k w6 HK G6=>?_
    have HG6:=I (hG.trans G6);clear HT;go_wp2;go_returns;exact⟨HG6.out,.inl ⟨HLE.out,k,rfl,HK.out⟩⟩
theorem riadd_any (w:World) (a b:Iv) (s t:Bool) (m n:Nat) (ha:a.Is w s m) (hb:b.Is w t n) (hm:(limbs m).length≤300000) (hn:(limbs n).length≤300000):
    Calls Tryz.prog 128 #[a.v,b.v] w fun e w'=>∃r:Iv,e=.returned r.v∧r.Is w' (sadd s m t n).1 (sadd s m t n).2∧Gr w w':=by
  obtain⟨B1,B2,B3,G⟩:=made3 w 169 169 169 #[.bool a.neg,a.mag.v] #[.bool b.neg,b.mag.v] #[.bool false,Nl];have hs:=I ha.neg;have ht:=I hb.neg;have HA:=I (ha.mag.gr G);have HB:=I (hb.mag.gr G);have HG:=I G;have HLM:=I hm;have HLN:=I hn;have hB1:=I B1;have hB2:=I B2;have hB3:=I B3;have a0_:=B1.c2;have b0_:=B2.c2;clear ha hb hm hn G B1 B2 B3;simp only[Iv.v];have HLA:Hid ((limbs m).length≤400000):=nt HLM (by decide);have HLB:Hid ((limbs n).length≤400000):=nt HLN (by decide);have HLP:Hid ((limbs (m+n)).length≤1000000):=nt (limbs_add_len m n _ HLM HLN) (by decide);by_cases hst:s=t
  · have HE:Hid (sadd s m t n=(s&&decide (0 < m+n),m+n)):=by unfold sadd;exact if_pos hst
    have hsd:(a.neg == b.neg)=true:=by rw[hs.out,ht.out,hst];simp
    go_enter Tryz.func128,Tryz.ntmps128;go_wp2_with fail;generalize hW:((w.alloc (.cells #[.bool a.neg,a.mag.v] 169)).alloc (.cells #[.bool b.neg,b.mag.v] 169)).alloc (.cells #[.bool false,Nl] 169)=W at*;clear hW;have hpr:¬w.heap.size=w.heap.size+1+1:=by omega
    have hqr:¬w.heap.size+1=w.heap.size+1+1:=by omega
    have hle:Hid (w.heap.size≤w.heap.size+1+1):=nt (Nat.le_succ _) (Nat.le_succ _);generalize w.heap.size+1+1=r at*;generalize w.heap.size+1=q at*;generalize hp:w.heap.size=p at*;have hPE:=I hp;clear hp;have hpr2:¬r=p:=fun e=>hpr e.symm
    have hqr2:¬r=q:=fun e=>hqr e.symm
    clear a0_ b0_;have a0_:=hB1.c2;have b0_:=hB2.c2;have HM:=I (rnadd_any W.drew a.mag b.mag _ _ (HA.gr (Gr.refl W).drew) (HB.gr (Gr.refl W).drew) HLA HLB);rw[vl,vl] at HM
    first | (go_region_held3 (fun W=>W.cell? ⟨p,0,none⟩=some (.bool a.neg)∧W.cell? ⟨p,1,none⟩=some a.mag.v∧W.cell? ⟨q,0,none⟩=some (.bool b.neg)∧W.cell? ⟨q,1,none⟩=some b.mag.v) (first | go_keep | exact⟨hk1.1,hk1.2,hk2.1,hk2.2⟩ | exact⟨hj1.1,hj1.2,hj2.1,hj2.2⟩)
      (first | (go_at_call 187;refine HM.out.mono ?_;rintro e w1 ⟨z,rfl,hz,G1⟩;have hk1:=(G1.bk hB1.out).c2;have hk2:=(G1.bk hB2.out).c2;have HI:=I (rimake_any w1 a.neg z _ hz HLP.out);have HBr:=I (G1.bk hB3.out);have HG1:=I (HG.out.drew.trans G1);have hB1':=I (G1.bk hB1.out);have hB2':=I (G1.bk hB2.out);clear hz G1)
             | (go_at_call 113;refine HI.mono ?_;rintro e w2 ⟨i,rfl,hi,G2⟩;have hj1:=(G2.bk hB1').c2;have hj2:=(G2.bk hB2').c2;have HBs:=I (G2.bk HBr);obtain⟨r0,r1⟩:=HBs.c2;have fz:=HBs.frozen;have HG2:=I (HG1.trans G2);have HII:=I hi;clear hi G2))) | fail
    go_wp2;refine pex ?_;refine ks HBs fun W5 B5 F5=>?_
    have d_:=B5.c2;refine bret Tryz.results128 ?_;exact⟨i,rfl,by rw[HE.out];exact⟨by rw[HII.neg,hs.out],HII.mag.fr F5 HBs (noLimb_int _ _ _ _)⟩,HG2.fr_at F5 (by rw[hPE.out];exact hle.out)⟩
  · have hsd:(a.neg == b.neg)=false:=by rw[hs.out,ht.out];simpa using hst
    have HC:=I (rnsub_any _ a.mag b.mag _ _ HA HB HLA HLB);rw[vl,vl] at HC;have hle:Hid (w.heap.size≤w.heap.size+1+1):=nt (Nat.le_succ _) (Nat.le_succ _);go_enter Tryz.func128,Tryz.ntmps128;go_wp2_with fail;go_at_call 188
    refine HC.mono ?_;rintro e w1 ⟨G1,⟨hnm,z,rfl,hz⟩ | ⟨hmn,rfl⟩⟩
    · have HG3:=I (HG.trans G1)
      have HR3:=I (G1.bk hB3);obtain⟨x0,x1⟩:=(G1.bk hB1).c2;have HE:Hid (sadd s m t n=(s&&decide (0 < m - n),m - n)):=by
        unfold sadd;rw[if_neg hst,if_neg (by omega)];exact rfl
      have HI:=I (rimake_any w1 a.neg z _ hz (nt (limbs_len_mono (Nat.sub_le m n)) (nt HLA (by decide))));clear hz G1 HC hB1 hB2 hB3 HG HA HB a0_ b0_ hnm;go_wp2_with fail;go_at_call 113
      refine cm1 HI fun i w4 HII G4=>?_
      have HG4:=I (HG3.trans G4);have HBs:=I (G4.bk HR3);obtain⟨r0,r1⟩:=HBs.c2;have fz:=HBs.frozen;clear HI;generalize w.heap.size+1+1=r at*;go_wp2;refine pex ?_;refine ks HBs fun W5 B5 F5=>?_
      have d_:=B5.c2;refine bret Tryz.results128 ?_;exact⟨i,rfl,by rw[HE.out];exact⟨by rw[HII.neg,hs.out],HII.mag.fr F5 HBs (noLimb_int _ _ _ _)⟩,HG4.fr_at F5 hle⟩
    · have HG2:=I (HG.trans G1)
      have hC1:=I (G1.bk hB1);have hC2:=I (G1.bk hB2);have hC3:=I (G1.bk hB3);obtain⟨x0,x1⟩:=hC1.c2;have y0_:=hC2.c2;have HE:Hid (sadd s m t n=(t&&decide (0 < n - m),n - m)):=by
        unfold sadd;rw[if_neg hst,if_pos hmn,dt (by omega),Bool.and_true];exact rfl
      have HD:=I (rnsub_any w1 b.mag a.mag _ _ (HB.gr G1) (HA.gr G1) HLB HLA);rw[vl,vl] at HD;clear G1 HC hB1 hB2 hB3 HG HA HB a0_ b0_;go_wp2_with fail;go_at_call 188
      refine HD.mono ?_;rintro e w3 ⟨G3,⟨_,z,rfl,hz⟩ | ⟨hx,rfl⟩⟩
      · have HG3:=I (HG2.trans G3)
        have HR3:=I (G3.bk hC3);obtain⟨u0,u1⟩:=(G3.bk hC2).c2;have HI:=I (rimake_any w3 b.neg z _ hz (nt (limbs_len_mono (Nat.sub_le n m)) (nt HLB (by decide))));clear hz G3 HD hC1 hC2 hC3 x0 x1 y0_ hmn;go_wp2_with fail;go_at_call 113
        refine cm1 HI fun i w4 HII G4=>?_
        have HG4:=I (HG3.trans G4);have HBs:=I (G4.bk HR3);obtain⟨r0,r1⟩:=HBs.c2;have fz:=HBs.frozen;clear HI;generalize w.heap.size+1+1=r at*;go_wp2;refine pex ?_;refine ks HBs fun W5 B5 F5=>?_
        have d_:=B5.c2;refine bret Tryz.results128 ?_;exact⟨i,rfl,by rw[HE.out];exact⟨by rw[HII.neg,ht.out],HII.mag.fr F5 HBs (noLimb_int _ _ _ _)⟩,HG4.fr_at F5 hle⟩
      · exact absurd hx (by omega)
theorem r3add_any (w:World) (a b:Rv) (x y:Q) (ha:a.Is w x) (hb:b.Is w y) (hx:x.Ok) (hy:y.Ok) (h1:x.num < 2147483648) (h2:y.num < 2147483648) (h3:x.den < 2147483648) (h4:y.den < 2147483648):
  Calls Tryz.prog 75 #[a.v,b.v] w fun e w'=>∃r:Rv,e=.returned r.v∧r.Is w' (Q.add x y)∧Gr w w':=by
 obtain⟨B1,B2,B3,G⟩:=made3 w 38 38 38 a.ar b.ar Rl;have HA:=I (ha.gr G);have HB:=I (hb.gr G);have HG:=I G;have C1:=I B1;have C2:=I B2;have C3:=I B3;have U1:Hid (x.un < 2147483648):=orOne_lt h3 (by decide);have U2:Hid (y.un < 2147483648):=orOne_lt h4 (by decide);have L:∀n,n < 2147483648→(limbs n).length≤400000:=fun n h=>nt (len2 (nm h (by decide))) (by decide)
 have L1:=I (L _ h1);have L2:=I (L _ h2);have L3:=I (nt (L _ h3) (by decide:400000≤1000000));have L4:=I (nt (L _ h4) (by decide:400000≤1000000));have L5:=I (L _ U1);have L6:=I (L _ U2);have bd:∀m n,m < 2147483648→n < 2147483648→m*n < 4611686018427387904:=fun m n hm hn=>by
  have:m*n≤2147483647*2147483647:=Nat.mul_le_mul (by omega) (by omega);omega
 have b1:=bd _ _ h1 U2;have b2:=bd _ _ h2 U1;have b3:=bd _ _ U1 U2;have BL1:=I (nt (len2 (nm b1 (by decide))) (by decide:2≤300000));have BL2:=I (nt (len2 (nm b2 (by decide))) (by decide:2≤300000));have BD:=I (nm b3 (by decide:4611686018427387904 < 18446744073709551616));have BQ:Hid ((sadd x.neg (x.num*y.un) y.neg (y.num*x.un)).2 < 18446744073709551616):=by
  show (sadd x.neg (x.num*y.un) y.neg (y.num*x.un)).2 < 18446744073709551616;unfold sadd;split
  ·simp only;omega
  ·split<;>simp only<;>omega
 have hE:Hid (Q.add x y=quot (sadd x.neg (x.num*y.un) y.neg (y.num*x.un)).1 (sadd x.neg (x.num*y.un) y.neg (y.num*x.un)).2 (x.un*y.un)):=by
  show Q.add x y=_;have e:∀u v:Q,u.Ok→(u.sg&&decide (0 < u.num*v.un))=u.neg:=fun u v hu=>by
   unfold Q.sg;by_cases h0:u.num=0
   ·rw[h0,(hu.pos h0).1];rfl
   ·rw[dt (by omega:0 < u.num),dt (Nat.mul_pos (by omega) v.un_pos),Bool.and_true,Bool.and_true]
  unfold Q.add;rw[e _ _ hx,e _ _ hy]
 clear ha hb B1 B2 B3 G L bd b1 b2 b3 hx hy h1 h2 h3 h4;simp only[Rv.v] at*;go_enter Tryz.func75,Tryz.ntmps75;go_wp2_with fail;have h9:¬w.heap.size=w.heap.size+1+1:=by omega
 have h8:¬w.heap.size+1=w.heap.size+1+1:=by omega
 have hpo:Hid (w.heap.size≤w.heap.size+1+1):=nt (Nat.le_succ _) (Nat.le_succ _);generalize hW:((w.alloc (.cells a.ar 38)).alloc (.cells b.ar 38)).alloc (.cells Rl 38)=W at*;clear hW;generalize w.heap.size+1+1=r at*;generalize w.heap.size+1=q at*;generalize hp:w.heap.size=p at*;have hPE:=I hp;clear hp;obtain⟨a0,a1,a2⟩:=C1.c3;obtain⟨b0,b1,b2⟩:=C2.c3;have HG0:Hid (Gr W W.drew):=(Gr.refl W).drew;have kp:Hid (∀X,Gr W X→(fun W=>W.cell? ⟨p,0,none⟩=some (.bool a.neg)∧W.cell? ⟨p,1,none⟩=some a.num.v∧W.cell? ⟨p,2,none⟩=some a.den.v∧W.cell? ⟨q,0,none⟩=some (.bool b.neg)∧W.cell? ⟨q,1,none⟩=some b.num.v∧W.cell? ⟨q,2,none⟩=some b.den.v) X):=fun X G=>⟨G.keep a0,G.keep a1,G.keep a2,G.keep b0,G.keep b1,G.keep b2⟩
 have HU:Hid (∀W2,Gr W W2→Calls Tryz.prog 125 #[b.den.v] W2 fun e w'=>∃u:Sv,e=.returned u.v∧u.Num w' (limbs y.un)∧Gr W2 w'):=fun W2 G=>rone_any W2 b.den _ (HB.den.gr G) L4
 have HM:Hid (∀W2 {u:Sv},Gr W W2→u.Num W2 (limbs y.un)→Calls Tryz.prog 127 #[a.num.v,u.v] W2 fun e w'=>∃z:Sv,e=.returned z.v∧z.Num w' (limbs (x.num*y.un))∧Gr W2 w'):=fun W2 u G hu=>by
  have h:=rnmul_any W2 a.num u _ _ (HA.num.gr G) hu L1 L6;rw[vl,vl] at h;exact h
 go_cut [5] from 8 (fun s wx=>∃(g:Nat) (z:Sv),s=.pointer (some ⟨g,0,none⟩)∧Hid (Bk wx g 169 #[.bool a.neg,z.v])∧Hid (z.Num wx (limbs (x.num*y.un)))∧Hid (Gr W wx)∧Hid (W.heap.size≤g))
 case first=>
  first | (go_region_held3 (fun W=>W.cell? ⟨p,0,none⟩=some (.bool a.neg)∧W.cell? ⟨p,1,none⟩=some a.num.v∧W.cell? ⟨p,2,none⟩=some a.den.v∧W.cell? ⟨q,0,none⟩=some (.bool b.neg)∧W.cell? ⟨q,1,none⟩=some b.num.v∧W.cell? ⟨q,2,none⟩=some b.den.v)
    (first | exact kp.out _ (by first | exact HH2.out | exact HH2.out.alloc _ | exact HH1.out | exact HH1.out.alloc _ | exact HG0.out | exact HG0.out.alloc _ | exact ((Gr.refl _).alloc _).drew | exact (((HH2.out).set (nr _) _).set (nr _) _) | exact (((HH2.out).set HH1.out.size _).set HH1.out.size _) | exact (((HH2.out.alloc _).set HH2.out.size _).set HH2.out.size _) | exact (((HH2.out.alloc _).set (nr _) _).set (nr _) _)) | go_keep)
    (first | (go_at_call 127;refine (HM.out _ HH1.out hU1.out).mono ?_;rintro e v2 ⟨z,rfl,hz,G⟩;have HH2:=I (HH1.out.trans G);have hU2:=I (hU1.out.gr G);have hZ2:=I hz;clear hz;(first | (have hN2:=I (G.bk hN1.out);obtain⟨n20,n21⟩:=hN2.out.c2;have fz:=hN2.out.frozen;clear G) | clear G)) | (go_at_call 127;with_reducible show Calls _ _ _ (World.alloc _ _) _;refine (HM.out _ (HH1.out.alloc (.cells #[.bool false,.slice none 0 0] 169)) (hU1.out.gr ((Gr.refl _).alloc (.cells #[.bool false,.slice none 0 0] 169)))).mono ?_;rintro e v2 ⟨z,rfl,hz,G⟩;have HH2:=I ((HH1.out.alloc (.cells #[.bool false,.slice none 0 0] 169)).trans G);have hU2:=I (hU1.out.gr (((Gr.refl _).alloc (.cells #[.bool false,.slice none 0 0] 169)).trans G));have hZ2:=I hz;clear hz;have hN2:=I (G.bk (Bk.made _ 169 #[.bool false,.slice none 0 0]));obtain⟨n20,n21⟩:=hN2.out.c2;have fz:=hN2.out.frozen;clear G) | (go_at_call 125;refine (HU.out _ HG0.out).mono ?_;rintro e v1 ⟨u,rfl,hu,G⟩;have HH1:=I (HG0.out.trans G);have hU1:=I hu;clear hu;clear G) | (go_at_call 125;with_reducible show Calls _ _ _ (World.drew (World.alloc _ _)) _;refine (HU.out _ (((Gr.refl W).alloc (.cells #[.bool false,.slice none 0 0] 169)).drew)).mono ?_;rintro e v1 ⟨u,rfl,hu,G⟩;have HH1:=I ((((Gr.refl W).alloc (.cells #[.bool false,.slice none 0 0] 169)).drew).trans G);have hU1:=I hu;clear hu;have hN1:=I (G.bk ((((Gr.refl _).drew).bk (Bk.made W 169 #[.bool false,.slice none 0 0]))));obtain⟨n10,n11⟩:=hN1.out.c2;have fz:=hN1.out.frozen;clear G))) | fail
  all_goals (go_wp2_with fail;go_meet)
  ·exact⟨_,z,rfl,I (Bk.made v2 169 #[.bool a.neg,z.v]),I (hZ2.gr ((Gr.refl _).alloc _)),I (HH2.alloc _),I HH2.size⟩
  ·exact⟨_,z,rfl,I (hN2.put2 _ _).1,I (hZ2.fr (hN2.put2 _ _).2 hN2 (noLimb_int _ _ _ _)),I ((HH2.set HH1.size _).set HH1.size _),I HH1.size⟩
  ·exact⟨_,z,rfl,I (hN2.put2 _ _).1,I (hZ2.fr (hN2.put2 _ _).2 hN2 (noLimb_int _ _ _ _)),I ((HH2.set (nr _) _).set (nr _) _),I (nr _)⟩
 case rest=>
  generalize wc=wa at*;obtain⟨g,z,rfl,E1,Z1,K1,le1⟩:=hcut;have D1:=I (K1.bk C1);have D2:=I (K1.bk C2);have D3:=I (K1.bk C3);have HA1:=I (HA.gr K1);have HB1:=I (HB.gr K1);clear a0 a1 a2 b0 b1 b2 HG0 kp HU HM;obtain⟨a0,a1,a2⟩:=D1.c3;obtain⟨b0,b1,b2⟩:=D2.c3;go_wp2_with fail;have HG0:Hid (Gr wa wa.drew):=(Gr.refl wa).drew;have kp:Hid (∀X,Gr wa X→(fun W=>W.cell? ⟨p,0,none⟩=some (.bool a.neg)∧W.cell? ⟨p,1,none⟩=some a.num.v∧W.cell? ⟨p,2,none⟩=some a.den.v∧W.cell? ⟨q,0,none⟩=some (.bool b.neg)∧W.cell? ⟨q,1,none⟩=some b.num.v∧W.cell? ⟨q,2,none⟩=some b.den.v) X):=fun X G=>⟨G.keep a0,G.keep a1,G.keep a2,G.keep b0,G.keep b1,G.keep b2⟩
  have HU:Hid (∀W2,Gr wa W2→Calls Tryz.prog 125 #[a.den.v] W2 fun e w'=>∃u:Sv,e=.returned u.v∧u.Num w' (limbs x.un)∧Gr W2 w'):=fun W2 G=>rone_any W2 a.den _ (HA1.den.gr G) L3
  have HM:Hid (∀W2 {u:Sv},Gr wa W2→u.Num W2 (limbs x.un)→Calls Tryz.prog 127 #[b.num.v,u.v] W2 fun e w'=>∃z:Sv,e=.returned z.v∧z.Num w' (limbs (y.num*x.un))∧Gr W2 w'):=fun W2 u G hu=>by
   have h:=rnmul_any W2 b.num u _ _ (HB1.num.gr G) hu L2 L5;rw[vl,vl] at h;exact h
  go_cut [6] from 17 (fun s wx=>∃(g:Nat) (z:Sv),s=.pointer (some ⟨g,0,none⟩)∧Hid (Bk wx g 169 #[.bool b.neg,z.v])∧Hid (z.Num wx (limbs (y.num*x.un)))∧Hid (Gr wa wx)∧Hid (wa.heap.size≤g))
  case first=>
   first | (go_region_held3 (fun W=>W.cell? ⟨p,0,none⟩=some (.bool a.neg)∧W.cell? ⟨p,1,none⟩=some a.num.v∧W.cell? ⟨p,2,none⟩=some a.den.v∧W.cell? ⟨q,0,none⟩=some (.bool b.neg)∧W.cell? ⟨q,1,none⟩=some b.num.v∧W.cell? ⟨q,2,none⟩=some b.den.v)
     (first | exact kp.out _ (by first | exact HH2.out | exact HH2.out.alloc _ | exact HH1.out | exact HH1.out.alloc _ | exact HG0.out | exact HG0.out.alloc _ | exact ((Gr.refl _).alloc _).drew | exact (((HH2.out).set (nr _) _).set (nr _) _) | exact (((HH2.out).set HH1.out.size _).set HH1.out.size _) | exact (((HH2.out.alloc _).set HH2.out.size _).set HH2.out.size _) | exact (((HH2.out.alloc _).set (nr _) _).set (nr _) _)) | go_keep)
     (first | (go_at_call 127;refine (HM.out _ HH1.out hU1.out).mono ?_;rintro e v2 ⟨z,rfl,hz,G⟩;have HH2:=I (HH1.out.trans G);have hU2:=I (hU1.out.gr G);have hZ2:=I hz;clear hz;(first | (have hN2:=I (G.bk hN1.out);obtain⟨n20,n21⟩:=hN2.out.c2;have fz:=hN2.out.frozen;clear G) | clear G)) | (go_at_call 127;with_reducible show Calls _ _ _ (World.alloc _ _) _;refine (HM.out _ (HH1.out.alloc (.cells #[.bool false,.slice none 0 0] 169)) (hU1.out.gr ((Gr.refl _).alloc (.cells #[.bool false,.slice none 0 0] 169)))).mono ?_;rintro e v2 ⟨z,rfl,hz,G⟩;have HH2:=I ((HH1.out.alloc (.cells #[.bool false,.slice none 0 0] 169)).trans G);have hU2:=I (hU1.out.gr (((Gr.refl _).alloc (.cells #[.bool false,.slice none 0 0] 169)).trans G));have hZ2:=I hz;clear hz;have hN2:=I (G.bk (Bk.made _ 169 #[.bool false,.slice none 0 0]));obtain⟨n20,n21⟩:=hN2.out.c2;have fz:=hN2.out.frozen;clear G) | (go_at_call 125;refine (HU.out _ HG0.out).mono ?_;rintro e v1 ⟨u,rfl,hu,G⟩;have HH1:=I (HG0.out.trans G);have hU1:=I hu;clear hu;clear G) | (go_at_call 125;with_reducible show Calls _ _ _ (World.drew (World.alloc _ _)) _;refine (HU.out _ (((Gr.refl wa).alloc (.cells #[.bool false,.slice none 0 0] 169)).drew)).mono ?_;rintro e v1 ⟨u,rfl,hu,G⟩;have HH1:=I ((((Gr.refl wa).alloc (.cells #[.bool false,.slice none 0 0] 169)).drew).trans G);have hU1:=I hu;clear hu;have hN1:=I (G.bk ((((Gr.refl _).drew).bk (Bk.made wa 169 #[.bool false,.slice none 0 0]))));obtain⟨n10,n11⟩:=hN1.out.c2;have fz:=hN1.out.frozen;clear G))) | fail
   all_goals (go_wp2_with fail;go_meet)
   ·exact⟨_,z,rfl,I (Bk.made v2 169 #[.bool b.neg,z.v]),I (hZ2.gr ((Gr.refl _).alloc _)),I (HH2.alloc _),I HH2.size⟩
   ·exact⟨_,z,rfl,I (hN2.put2 _ _).1,I (hZ2.fr (hN2.put2 _ _).2 hN2 (noLimb_int _ _ _ _)),I ((HH2.set HH1.size _).set HH1.size _),I HH1.size⟩
   ·exact⟨_,z,rfl,I (hN2.put2 _ _).1,I (hZ2.fr (hN2.put2 _ _).2 hN2 (noLimb_int _ _ _ _)),I ((HH2.set (nr _) _).set (nr _) _),I (nr _)⟩
  case rest=>
   obtain⟨g2,z2,rfl,E2,Z2,K2,le2⟩:=hcut;have J:=I (riadd_any wc ⟨a.neg,z⟩ ⟨b.neg,z2⟩ x.neg y.neg (x.num*y.un) (y.num*x.un) ⟨HA1.neg,Z1.gr K2⟩ ⟨HB1.neg,Z2.out⟩ BL1 BL2);have F1:=I (K2.bk E1);have HK:=I (K1.trans K2);have HA2:=I (HA.gr HK);have HB2:=I (HB.gr HK);have HS:=I (HG.trans HK);have c1:=I (HK.bk C1);have c2:=I (HK.bk C2);have c3:=I (HK.bk C3);have e0_:=F1.c2;have f0_:=E2.c2;clear a0 a1 a2 b0 b1 b2 HG0 kp HU HM D1 D2 D3 C1 C2 C3 E1 E2 HA1 HB1 Z1 Z2;simp only[Iv.v] at J;go_wp2_with fail;refine cm2 J fun sm w3 hsm G3=>?_
   have D3:=Bk.made w3 169 #[.bool sm.neg,sm.mag.v];have G4:=G3.alloc (.cells #[.bool sm.neg,sm.mag.v] 169);have HSM:=I (hsm.gr ((Gr.refl w3).alloc (.cells #[.bool sm.neg,sm.mag.v] 169)));have HG4:=I (HS.trans G4);have C1:=I (G4.bk c1);have C2:=I (G4.bk c2);have C3:=I (G4.bk c3);have HA4:=I (HA2.gr G4);have HB4:=I (HB2.gr G4);have C4:=I D3;clear hsm G4 J D3 HS c1 c2 c3 HA2 HB2 e0_ f0_ F1 HK K1 K2 HA HB HG;go_wp2_with fail;have h7:¬w3.heap.size=r:=fun e=>Bk.ne C4 C3 (by decide) e
   generalize hW:w3.alloc (.cells #[.bool sm.neg,sm.mag.v] 169)=W at*;clear hW;generalize w3.heap.size=g at*;have h6:¬r=p:=fun e=>h9 e.symm
   have h5:¬r=q:=fun e=>h8 e.symm
   have h4:¬r=g:=fun e=>h7 e.symm
   obtain⟨a0,a1,a2⟩:=C1.c3;obtain⟨b0,b1,b2⟩:=C2.c3;have y0_:=C4.c2;have HG0:Hid (Gr W W.drew):=(Gr.refl W).drew;have HU1:=I (rone_any W.drew a.den _ (HA4.den.gr HG0) L3);have HU2:Hid (∀W2,Gr W W2→Calls Tryz.prog 125 #[b.den.v] W2 fun e w'=>∃y':Sv,e=.returned y'.v∧y'.Num w' (limbs y.un)∧Gr W2 w'):=fun W2 G=>rone_any W2 b.den _ (HB4.den.gr G) L4
   first | (go_region_held3 (fun W=>W.cell? ⟨p,0,none⟩=some (.bool a.neg)∧W.cell? ⟨p,1,none⟩=some a.num.v∧W.cell? ⟨p,2,none⟩=some a.den.v∧W.cell? ⟨q,0,none⟩=some (.bool b.neg)∧W.cell? ⟨q,1,none⟩=some b.num.v∧W.cell? ⟨q,2,none⟩=some b.den.v∧W.cell? ⟨g,0,none⟩=some (.bool sm.neg)∧W.cell? ⟨g,1,none⟩=some sm.mag.v)
     (first | go_keep | exact⟨hk1.1.1,hk1.1.2.1,hk1.1.2.2,hk1.2.1.1,hk1.2.1.2.1,hk1.2.1.2.2,hk1.2.2.1,hk1.2.2.2⟩ | exact⟨hk2.1.1,hk2.1.2.1,hk2.1.2.2,hk2.2.1.1,hk2.2.1.2.1,hk2.2.1.2.2,hk2.2.2.1,hk2.2.2.2⟩ | exact⟨hk3.1.1,hk3.1.2.1,hk3.1.2.2,hk3.2.1.1,hk3.2.1.2.1,hk3.2.1.2.2,hk3.2.2.1,hk3.2.2.2⟩ | exact⟨hk4.1.1,hk4.1.2.1,hk4.1.2.2,hk4.2.1.1,hk4.2.1.2.1,hk4.2.1.2.2,hk4.2.2.1,hk4.2.2.2⟩)
     (first | (go_at_call 112;refine (HQ.out).mono ?_;rintro e w7 ⟨i,rfl,hi,G8⟩;have HG8:=I (HG7.out.trans G8);have hk4:=ai (HG8.out.bk C1.out).c3 (ai (HG8.out.bk C2.out).c3 (HG8.out.bk C4.out).c2);have HBs:=I (HG8.out.bk C3.out);obtain⟨r0,r1,r2⟩:=HBs.out.c3;have fz:=HBs.out.frozen;have HII:=I hi;rw[HSM.out.neg] at HII;clear hi G8) | (go_at_call 127;refine (HM.out).mono ?_;rintro e w6 ⟨z,rfl,hz,G7⟩;have HG7:=I (HG6.out.trans G7);have hk3:=ai (HG7.out.bk C1.out).c3 (ai (HG7.out.bk C2.out).c3 (HG7.out.bk C4.out).c2);have HQ:=I (rquot_any w6 sm.neg sm.mag z _ _ (HSM.out.mag.gr HG7.out) hz BQ.out (Nat.mul_pos x.un_pos y.un_pos) BD.out);clear hz G7) | (go_at_call 125;refine ((HU2.out w4 HG5.out)).mono ?_;rintro e w5 ⟨v,rfl,hv,G6⟩;have HG6:=I (HG5.out.trans G6);have hk2:=ai (HG6.out.bk C1.out).c3 (ai (HG6.out.bk C2.out).c3 (HG6.out.bk C4.out).c2);have HM:=I (rnmul_any w5 u v _ _ (HNU.out.gr G6) hv L5.out L6.out);rw[vl,vl] at HM;clear hv G6) | (go_at_call 125;refine (HU1.out).mono ?_;rintro e w4 ⟨u,rfl,hu,G5⟩;have HG5:=I (HG0.out.trans G5);have hk1:=ai (HG5.out.bk C1.out).c3 (ai (HG5.out.bk C2.out).c3 (HG5.out.bk C4.out).c2);have HNU:=I hu;clear hu G5))) | fail
   go_wp2;refine pex ?_;refine ks HBs fun W5 B5 F5=>?_
   have d_:=B5.c3;refine bret Tryz.results75 ?_;exact⟨i,rfl,by rw[hE.out];exact HII.fr F5 HBs (noLimb_rat _ _ _ _ _ _ _),(HG4.trans HG8).fr_at F5 (by rw[hPE.out];exact hpo.out)⟩
end
abbrev Tm:=Int×Q
structure Fm where
 terms:List Tm
 const:Q
 deriving DecidableEq,Inhabited
def Tm.Ok (vars:Nat) (t:Tm):Prop:=0≤t.1∧t.1 < vars∧t.2.num≠0∧t.2.Ok
instance (vars:Nat) (t:Tm):Decidable (Tm.Ok vars t):=by unfold Tm.Ok;infer_instance
structure Fm.Ok (f:Fm) (vars:Nat):Prop where
 asc:∀(i:Nat) (s t:Tm),f.terms[i]?=some s→f.terms[i+1]?=some t→s.1 < t.1
 each:∀t∈f.terms,Tm.Ok vars t
 const:f.const.Ok
def snoc (l:List Tm) (v:Int) (c:Q):List Tm:=if c.num=0 then l else l++[(v,c)]
theorem Fm.Ok.mono {f:Fm} {a b:Nat} (h:f.Ok a) (hab:a≤b):f.Ok b:=⟨h.asc,fun t ht=>by
 obtain⟨h1,h2,h3⟩:=h.each t ht;exact⟨h1,by omega,h3⟩,h.const⟩
theorem Fm.Ok.snoc {l:List Tm} {k c:Q} {v:Nat} (h:Fm.Ok ⟨l,k⟩ v) (hc:c.Ok):Fm.Ok ⟨snoc l v c,k⟩ (v+1):=by
 unfold Go.Proofs.YtmhphnljfcncpaaGreatDoor.snoc;split
 ·exact h.mono (by omega)
 ·rename_i h0
  refine⟨fun i s t hs ht=>?_,fun t ht=>?_,h.const⟩
  ·simp only at hs ht;have hi:=(List.getElem?_eq_some_iff.1 ht).1;rw[List.length_append,List.length_singleton] at hi;rw[List.getElem?_append_left (by omega)] at hs;rcases Nat.lt_or_ge (i+1) l.length with h1 | h1
   ·rw[List.getElem?_append_left h1] at ht;exact h.asc i s t hs ht
   ·rw[List.getElem?_append_right h1,show i+1 - l.length=0 by omega] at ht;obtain rfl:(((v:Int),c):Tm)=t:=by simpa using ht
    have:=(h.each s (List.mem_of_getElem? hs)).2.1;simpa using this
  ·rcases List.mem_append.1 ht with h1 | h1
   ·exact (h.mono (by omega)).each t h1
   ·rw[List.mem_singleton.1 h1];exact⟨by simp only;omega,by simp only;omega,h0,hc⟩
structure Tv where
 var:Int
 coef:Rv
abbrev Tv.v (t:Tv):Value:=.agg #[.int .i64 t.var,.bool t.coef.neg,.slice t.coef.num.A t.coef.num.n t.coef.num.c,.slice t.coef.den.A t.coef.den.n t.coef.den.c]
abbrev Tv.ar (t:Tv):Array Value:=#[.int .i64 t.var,.bool t.coef.neg,.slice t.coef.num.A t.coef.num.n t.coef.num.c,.slice t.coef.den.A t.coef.den.n t.coef.den.c]
def Tv.cs (t:Tv):List Value:=[.int .i64 t.var,.bool t.coef.neg,.slice t.coef.num.A t.coef.num.n t.coef.num.c,.slice t.coef.den.A t.coef.den.n t.coef.den.c]
structure Tv.Is (w:World) (t:Tv) (x:Tm):Prop where
 var:t.var=x.1
 coef:t.coef.Is w x.2
theorem Tv.Is.gr {w w':World} {t:Tv} {x:Tm} (h:t.Is w x) (G:Gr w w'):t.Is w' x:=⟨h.var,h.coef.gr G⟩
instance kpTv {x:Tv} {q} {w w'}:Kp (x.Is w q) w w' (x.Is w' q):=⟨fun G h=>h.gr G⟩
theorem Tv.len (t:Tv):t.cs.length=4:=rfl
abbrev Terms (w:World) (x:Sv) (l:List Tm):Prop:=Rows Tv.cs Tv.Is 108 4 w x l
theorem Terms.gr {w w':World} {x:Sv} {l:List Tm} (h:Terms w x l) (G:Gr w w'):Terms w' x l:=Rows.gr (fun h G=>h.gr G) h G
theorem Terms.len {w:World} {x:Sv} {l:List Tm} (h:Terms w x l):l.length=x.n:=Rows.len Tv.len (by decide) h
theorem Terms.at {w:World} {x:Sv} {l:List Tm} (h:Terms w x l) {i:Nat} {a:Tm} (ha:l[i]?=some a):
  ∃(t:Tv) (ad:Addr),t.Is w a∧x.A=some ad∧w.cell? (ad.add (i*4))=some (.int .i64 t.var)∧w.cell? ⟨(ad.add (i*4)).block,(ad.add (i*4)).off+1,none⟩=some (.bool t.coef.neg)∧w.cell? ⟨(ad.add (i*4)).block,(ad.add (i*4)).off+2,none⟩=some (.slice t.coef.num.A t.coef.num.n t.coef.num.c)∧w.cell? ⟨(ad.add (i*4)).block,(ad.add (i*4)).off+3,none⟩=some (.slice t.coef.den.A t.coef.den.n t.coef.den.c):=by
 obtain⟨t,ht,hc⟩:=Rows.at Tv.len h ha;obtain⟨ad,hA,_,c0⟩:=hc 0 _ rfl;obtain⟨ad1,h1,_,c1⟩:=hc 1 _ rfl;obtain⟨ad2,h2,_,c2⟩:=hc 2 _ rfl;obtain⟨ad3,h3,_,c3⟩:=hc 3 _ rfl;rw[hA] at h1 h2 h3;cases h1;cases h2;cases h3
 rw[add_in _ _ (by decide)] at c1 c2 c3;exact⟨t,ad,ht,hA,c0,c1,c2,c3⟩
structure Fv where
 terms:Sv
 const:Rv
abbrev Fv.v (f:Fv):Value:=.agg #[.slice f.terms.A f.terms.n f.terms.c,.bool f.const.neg,.slice f.const.num.A f.const.num.n f.const.num.c,.slice f.const.den.A f.const.den.n f.const.den.c]
abbrev Fv.ar (f:Fv):Array Value:=#[.slice f.terms.A f.terms.n f.terms.c,.bool f.const.neg,.slice f.const.num.A f.const.num.n f.const.num.c,.slice f.const.den.A f.const.den.n f.const.den.c]
attribute [go_sem] Tv.v Fv.v Tv.ar Fv.ar
def Fv.cs (f:Fv):List Value:=[.slice f.terms.A f.terms.n f.terms.c,.bool f.const.neg,.slice f.const.num.A f.const.num.n f.const.num.c,.slice f.const.den.A f.const.den.n f.const.den.c]
structure Fv.Is (w:World) (f:Fv) (x:Fm):Prop where
 terms:Terms w f.terms x.terms
 const:f.const.Is w x.const
theorem Fv.Is.gr {w w':World} {f:Fv} {x:Fm} (h:f.Is w x) (G:Gr w w'):f.Is w' x:=⟨h.terms.gr G,h.const.gr G⟩
instance kpFv {x:Fv} {q} {w w'}:Kp (x.Is w q) w w' (x.Is w' q):=⟨fun G h=>h.gr G⟩
instance kpTs {x l} {w w'}:Kp (Terms w x l) w w' (Terms w' x l):=⟨fun G h=>Terms.gr h G⟩
theorem Fv.len (f:Fv):f.cs.length=4:=rfl
abbrev Forms (w:World) (x:Sv) (l:List Fm):Prop:=Rows Fv.cs Fv.Is 40 4 w x l
theorem Forms.gr {w w':World} {x:Sv} {l:List Fm} (h:Forms w x l) (G:Gr w w'):Forms w' x l:=Rows.gr (fun h G=>h.gr G) h G
instance kpFs {x l} {w w'}:Kp (Forms w x l) w w' (Forms w' x l):=⟨fun G h=>Forms.gr h G⟩
theorem Forms.len {w:World} {x:Sv} {l:List Fm} (h:Forms w x l):l.length=x.n:=Rows.len Fv.len (by decide) h
theorem Forms.at {w:World} {x:Sv} {l:List Fm} (h:Forms w x l) {i:Nat} {a:Fm} (ha:l[i]?=some a):
  ∃(t:Fv) (ad:Addr),t.Is w a∧x.A=some ad∧w.cell? (ad.add (i*4))=some (.slice t.terms.A t.terms.n t.terms.c)∧w.cell? ⟨(ad.add (i*4)).block,(ad.add (i*4)).off+1,none⟩=some (.bool t.const.neg)∧w.cell? ⟨(ad.add (i*4)).block,(ad.add (i*4)).off+2,none⟩=some (.slice t.const.num.A t.const.num.n t.const.num.c)∧w.cell? ⟨(ad.add (i*4)).block,(ad.add (i*4)).off+3,none⟩=some (.slice t.const.den.A t.const.den.n t.const.den.c):=by
 obtain⟨t,ht,hc⟩:=Rows.at Fv.len h ha;obtain⟨ad,hA,_,c0⟩:=hc 0 _ rfl;obtain⟨ad1,h1,_,c1⟩:=hc 1 _ rfl;obtain⟨ad2,h2,_,c2⟩:=hc 2 _ rfl;obtain⟨ad3,h3,_,c3⟩:=hc 3 _ rfl;rw[hA] at h1 h2 h3;cases h1;cases h2;cases h3
 rw[add_in _ _ (by decide)] at c1 c2 c3;exact⟨t,ad,ht,hA,c0,c1,c2,c3⟩
theorem Tv.Is.tf {w w':World} {t:Tv} {x:Tm} {X:Nat→Prop} (h:t.Is w x) (F:Fr X w w') (hX:∀b cs fr,X b→w.heap[b]?≠some (.cells cs 300 fr)):t.Is w' x:=⟨h.var,h.coef.tf F hX⟩
theorem Terms.tf {w w':World} {x:Sv} {l:List Tm} {X:Nat→Prop} (h:Terms w x l) (F:Fr X w w') (hX:∀b cs fr,X b→w.heap[b]?≠some (.cells cs 108 fr)) (hU:∀b cs fr,X b→w.heap[b]?≠some (.cells cs 300 fr)):Terms w' x l:=
 Rows.tf h F hX fun _ _ h=>h.tf F hU
theorem Fv.Is.tf {w w':World} {f:Fv} {x:Fm} {X:Nat→Prop} (h:f.Is w x) (F:Fr X w w') (hX:∀b cs fr,X b→w.heap[b]?≠some (.cells cs 108 fr)) (hU:∀b cs fr,X b→w.heap[b]?≠some (.cells cs 300 fr)):f.Is w' x:=⟨h.terms.tf F hX hU,h.const.tf F hU⟩
theorem Fv.Is.tf' {w w':World} {f:Fv} {x:Fm} {p t:Nat} {us:Array Value} (h:f.Is w x) (F:Fr (fun b=>b=p) w w') (hb:Bk w p t us) (h1:t≠108:=by decide) (h2:t≠300:=by decide):f.Is w' x:=
 h.tf F (fun b cs fr e hh=>Bk.not_ty hb h1 cs fr (e▸hh)) (fun b cs fr e hh=>Bk.not_ty hb h2 cs fr (e▸hh))
theorem Rv.Is.tf' {w w':World} {f:Rv} {x:Q} {p t:Nat} {us:Array Value} (h:f.Is w x) (F:Fr (fun b=>b=p) w w') (hb:Bk w p t us) (h2:t≠300:=by decide):f.Is w' x:=
 h.tf F (fun b cs fr e hh=>Bk.not_ty hb h2 cs fr (e▸hh))
end Go.Proofs.YtmhphnljfcncpaaGreatDoor
