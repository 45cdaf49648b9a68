/- Walks of the search and of what it calls, part 7. -/
import Derived.Test.YtbhbainhmfjpdaaGreatDoorMf
import Derived.ArgAppend
import Derived.Laws.EntriesVeiled
set_option linter.unusedVariables false
set_option linter.unusedSimpArgs false
set_option maxRecDepth 100000
set_option maxHeartbeats 8000000
namespace Go.Proofs.YtbhbainhmfjpdaaGreatDoor
open Go.RowKit
section
attribute [local go_sem] Oper.semAt_some
theorem r3add_any (w:World) (a b:Rv) (x y:Q) (ha:a.Is w x) (hb:b.Is w y) (hx:x.Ok) (hy:y.Ok) (h1:Sl x.num) (h2:Sl y.num) (h3:Sl x.den) (h4:Sl y.den):
  Calls Tryz.prog 20 #[a.v,b.v] w fun e w'=>∃r:Rv,e=.returned r.v∧r.Is w' (Q.add x y)∧Gr w w':=by
 obtain⟨B1,B2,B3,G⟩:=made3 w 35 35 35 a.ar b.ar Rl;have HA:=I (ha.gr G);have HB:=I (hb.gr G);have HG:=I G;have C1:=I B1;have C2:=I B2;have C3:=I B3;have U1:Hid (Sl x.un):=orOne_sl h3;have U2:Hid (Sl y.un):=orOne_sl h4;have L:∀n,Sl n→(limbs n).length≤400000:=fun n h=>nt h dx
 have L1:=I (L _ h1);have L2:=I (L _ h2);have L3:=I (nt (L _ h3) (by decide:400000≤1000000));have L4:=I (nt (L _ h4) (by decide:400000≤1000000));have L5:=I (L _ U1);have L6:=I (L _ U2);have bd:∀m n,Sl m→Sl n→(limbs (m*n)).length≤200000:=fun m n hm hn=>nt (limbs_mul_len m n) (Nat.add_le_add hm hn)
 have b1:=bd _ _ h1 U2;have b2:=bd _ _ h2 U1;have b3:=bd _ _ U1 U2;have BL1:=I (nt b1 (by decide:200000≤300000));have BL2:=I (nt b2 (by decide:200000≤300000));have BD:=I (nt b3 (by decide:200000≤300000));have BQ:Hid ((limbs (sadd x.neg (x.num*y.un) y.neg (y.num*x.un)).2).length≤300000):=by
  show (limbs (sadd x.neg (x.num*y.un) y.neg (y.num*x.un)).2).length≤300000;unfold sadd;split
  ·exact nt (limbs_add_len _ _ 200000 b1 b2) dx
  ·split
   ·exact nt (limbs_len_mono (Nat.sub_le _ _)) (nt b2 dx)
   ·exact nt (limbs_len_mono (Nat.sub_le _ _)) (nt b1 dx)
 have hE:Hid (Q.add x y=quot (sadd x.neg (x.num*y.un) y.neg (y.num*x.un)).1 (sadd x.neg (x.num*y.un) y.neg (y.num*x.un)).2 (x.un*y.un)):=by
  show Q.add x y=_;have e:∀u v:Q,u.Ok→(u.sg&&decide (0 < u.num*v.un))=u.neg:=fun u v hu=>by
   unfold Q.sg;by_cases h0:u.num=0
   ·rw[h0,(hu.pos h0).1];rfl
   ·rw[dt (by omega:0 < u.num),dt (Nat.mul_pos om v.un_pos),Bool.and_true,Bool.and_true]
  unfold Q.add;rw[e _ _ hx,e _ _ hy]
 clear ha hb B1 B2 B3 G L bd b1 b2 b3 hx hy h1 h2 h3 h4;simp only[Rv.v] at*;go_enter Tryz.func20,Tryz.ntmps20;go_wp2_with fail;have h9:¬w.heap.size=w.heap.size+1+1:=by omega
 have h8:¬w.heap.size+1=w.heap.size+1+1:=by omega
 have hpo:Hid (w.heap.size≤w.heap.size+1+1):=nt (Nat.le_succ _) (Nat.le_succ _);generalize hW:((w.alloc (.cells a.ar 35)).alloc (.cells b.ar 35)).alloc (.cells Rl 35)=W at*;clear hW;generalize w.heap.size+1+1=r at*;generalize w.heap.size+1=q at*;generalize hp:w.heap.size=p at*;have hPE:=I hp;clear hp;obtain⟨a0,a1,a2⟩:=C1.c3;obtain⟨b0,b1,b2⟩:=C2.c3;have HG0:Hid (Gr W W.drew):=(Gr.refl W).drew;have kp:Hid (∀X,Gr W X→(fun W=>W.cell? ⟨p,0,none⟩=some (.bool a.neg)∧W.cell? ⟨p,1,none⟩=some a.num.v∧W.cell? ⟨p,2,none⟩=some a.den.v∧W.cell? ⟨q,0,none⟩=some (.bool b.neg)∧W.cell? ⟨q,1,none⟩=some b.num.v∧W.cell? ⟨q,2,none⟩=some b.den.v) X):=fun X G=>⟨G.keep a0,G.keep a1,G.keep a2,G.keep b0,G.keep b1,G.keep b2⟩
 have HU:Hid (∀W2,Gr W W2→Calls Tryz.prog 54 #[b.den.v] W2 fun e w'=>∃u:Sv,e=.returned u.v∧u.Num w' (limbs y.un)∧Gr W2 w'):=fun W2 G=>rone_any W2 b.den _ (HB.den.gr G) L4
 have HM:Hid (∀W2 {u:Sv},Gr W W2→u.Num W2 (limbs y.un)→Calls Tryz.prog 53 #[a.num.v,u.v] W2 fun e w'=>∃z:Sv,e=.returned z.v∧z.Num w' (limbs (x.num*y.un))∧Gr W2 w'):=fun W2 u G hu=>by
  have h:=rnmul_any W2 a.num u _ _ (HA.num.gr G) hu L1 L6;rw[vl,vl] at h;exact h
 go_cut [5] from 8 (fun s wx=>∃(g:Nat) (z:Sv),s=.pointer (some ⟨g,0,none⟩)∧Hid (Bk wx g 118 #[.bool a.neg,z.v])∧Hid (z.Num wx (limbs (x.num*y.un)))∧Hid (Gr W wx)∧Hid (W.heap.size≤g))
 case first=>
  first | (go_region_held3 (fun W=>W.cell? ⟨p,0,none⟩=some (.bool a.neg)∧W.cell? ⟨p,1,none⟩=some a.num.v∧W.cell? ⟨p,2,none⟩=some a.den.v∧W.cell? ⟨q,0,none⟩=some (.bool b.neg)∧W.cell? ⟨q,1,none⟩=some b.num.v∧W.cell? ⟨q,2,none⟩=some b.den.v)
    (first | exact kp.out _ (by first | exact HH2.out | exact HH2.out.alloc _ | exact HH1.out | exact HH1.out.alloc _ | exact HG0.out | exact HG0.out.alloc _ | exact ((Gr.refl _).alloc _).drew | exact (((HH2.out).set (nr _) _).set (nr _) _) | exact (((HH2.out).set HH1.out.size _).set HH1.out.size _) | exact (((HH2.out.alloc _).set HH2.out.size _).set HH2.out.size _) | exact (((HH2.out.alloc _).set (nr _) _).set (nr _) _)) | go_keep)
    (first | (go_at_call 53;refine (HM.out _ HH1.out hU1.out).mono ?_;rintro e v2 ⟨z,rfl,hz,G⟩;have HH2:=I (HH1.out.trans G);have hU2:=I (hU1.out.gr G);have hZ2:=I hz;clear hz;(first | (have hN2:=I (G.bk hN1.out);obtain⟨n20,n21⟩:=hN2.out.c2;have fz:=hN2.out.frozen;clear G) | clear G)) | (go_at_call 53;with_reducible show Calls _ _ _ (World.alloc _ _) _;refine (HM.out _ (HH1.out.alloc (.cells #[.bool false,.slice none 0 0] 118)) (hU1.out.gr ((Gr.refl _).alloc (.cells #[.bool false,.slice none 0 0] 118)))).mono ?_;rintro e v2 ⟨z,rfl,hz,G⟩;have HH2:=I ((HH1.out.alloc (.cells #[.bool false,.slice none 0 0] 118)).trans G);have hU2:=I (hU1.out.gr (((Gr.refl _).alloc (.cells #[.bool false,.slice none 0 0] 118)).trans G));have hZ2:=I hz;clear hz;have hN2:=I (G.bk (Bk.made _ 118 #[.bool false,.slice none 0 0]));obtain⟨n20,n21⟩:=hN2.out.c2;have fz:=hN2.out.frozen;clear G) | (go_at_call 54;refine (HU.out _ HG0.out).mono ?_;rintro e v1 ⟨u,rfl,hu,G⟩;have HH1:=I (HG0.out.trans G);have hU1:=I hu;clear hu;clear G) | (go_at_call 54;with_reducible show Calls _ _ _ (World.drew (World.alloc _ _)) _;refine (HU.out _ (((Gr.refl W).alloc (.cells #[.bool false,.slice none 0 0] 118)).drew)).mono ?_;rintro e v1 ⟨u,rfl,hu,G⟩;have HH1:=I ((((Gr.refl W).alloc (.cells #[.bool false,.slice none 0 0] 118)).drew).trans G);have hU1:=I hu;clear hu;have hN1:=I (G.bk ((((Gr.refl _).drew).bk (Bk.made W 118 #[.bool false,.slice none 0 0]))));obtain⟨n10,n11⟩:=hN1.out.c2;have fz:=hN1.out.frozen;clear G))) | fail
  all_goals (go_wp2_with fail;go_meet)
  ·exact⟨_,z,rfl,I (Bk.made v2 118 #[.bool a.neg,z.v]),I (hZ2.gr ((Gr.refl _).alloc _)),I (HH2.alloc _),I HH2.size⟩
  ·exact⟨_,z,rfl,I (hN2.put2 _ _).1,I (hZ2.fr (hN2.put2 _ _).2 hN2 (noLimb_int _ _ _ _)),I ((HH2.set HH1.size _).set HH1.size _),I HH1.size⟩
  ·exact⟨_,z,rfl,I (hN2.put2 _ _).1,I (hZ2.fr (hN2.put2 _ _).2 hN2 (noLimb_int _ _ _ _)),I ((HH2.set (nr _) _).set (nr _) _),I (nr _)⟩
 case rest=>
  generalize wc=wa at*;obtain⟨g,z,rfl,E1,Z1,K1,le1⟩:=hcut;have D1:=I (K1.bk C1);have D2:=I (K1.bk C2);have D3:=I (K1.bk C3);have HA1:=I (HA.gr K1);have HB1:=I (HB.gr K1);clear a0 a1 a2 b0 b1 b2 HG0 kp HU HM;obtain⟨a0,a1,a2⟩:=D1.c3;obtain⟨b0,b1,b2⟩:=D2.c3;go_wp2_with fail;have HG0:Hid (Gr wa wa.drew):=(Gr.refl wa).drew;have kp:Hid (∀X,Gr wa X→(fun W=>W.cell? ⟨p,0,none⟩=some (.bool a.neg)∧W.cell? ⟨p,1,none⟩=some a.num.v∧W.cell? ⟨p,2,none⟩=some a.den.v∧W.cell? ⟨q,0,none⟩=some (.bool b.neg)∧W.cell? ⟨q,1,none⟩=some b.num.v∧W.cell? ⟨q,2,none⟩=some b.den.v) X):=fun X G=>⟨G.keep a0,G.keep a1,G.keep a2,G.keep b0,G.keep b1,G.keep b2⟩
  have HU:Hid (∀W2,Gr wa W2→Calls Tryz.prog 54 #[a.den.v] W2 fun e w'=>∃u:Sv,e=.returned u.v∧u.Num w' (limbs x.un)∧Gr W2 w'):=fun W2 G=>rone_any W2 a.den _ (HA1.den.gr G) L3
  have HM:Hid (∀W2 {u:Sv},Gr wa W2→u.Num W2 (limbs x.un)→Calls Tryz.prog 53 #[b.num.v,u.v] W2 fun e w'=>∃z:Sv,e=.returned z.v∧z.Num w' (limbs (y.num*x.un))∧Gr W2 w'):=fun W2 u G hu=>by
   have h:=rnmul_any W2 b.num u _ _ (HB1.num.gr G) hu L2 L5;rw[vl,vl] at h;exact h
  go_cut [6] from 17 (fun s wx=>∃(g:Nat) (z:Sv),s=.pointer (some ⟨g,0,none⟩)∧Hid (Bk wx g 118 #[.bool b.neg,z.v])∧Hid (z.Num wx (limbs (y.num*x.un)))∧Hid (Gr wa wx)∧Hid (wa.heap.size≤g))
  case first=>
   first | (go_region_held3 (fun W=>W.cell? ⟨p,0,none⟩=some (.bool a.neg)∧W.cell? ⟨p,1,none⟩=some a.num.v∧W.cell? ⟨p,2,none⟩=some a.den.v∧W.cell? ⟨q,0,none⟩=some (.bool b.neg)∧W.cell? ⟨q,1,none⟩=some b.num.v∧W.cell? ⟨q,2,none⟩=some b.den.v)
     (first | exact kp.out _ (by first | exact HH2.out | exact HH2.out.alloc _ | exact HH1.out | exact HH1.out.alloc _ | exact HG0.out | exact HG0.out.alloc _ | exact ((Gr.refl _).alloc _).drew | exact (((HH2.out).set (nr _) _).set (nr _) _) | exact (((HH2.out).set HH1.out.size _).set HH1.out.size _) | exact (((HH2.out.alloc _).set HH2.out.size _).set HH2.out.size _) | exact (((HH2.out.alloc _).set (nr _) _).set (nr _) _)) | go_keep)
     (first | (go_at_call 53;refine (HM.out _ HH1.out hU1.out).mono ?_;rintro e v2 ⟨z,rfl,hz,G⟩;have HH2:=I (HH1.out.trans G);have hU2:=I (hU1.out.gr G);have hZ2:=I hz;clear hz;(first | (have hN2:=I (G.bk hN1.out);obtain⟨n20,n21⟩:=hN2.out.c2;have fz:=hN2.out.frozen;clear G) | clear G)) | (go_at_call 53;with_reducible show Calls _ _ _ (World.alloc _ _) _;refine (HM.out _ (HH1.out.alloc (.cells #[.bool false,.slice none 0 0] 118)) (hU1.out.gr ((Gr.refl _).alloc (.cells #[.bool false,.slice none 0 0] 118)))).mono ?_;rintro e v2 ⟨z,rfl,hz,G⟩;have HH2:=I ((HH1.out.alloc (.cells #[.bool false,.slice none 0 0] 118)).trans G);have hU2:=I (hU1.out.gr (((Gr.refl _).alloc (.cells #[.bool false,.slice none 0 0] 118)).trans G));have hZ2:=I hz;clear hz;have hN2:=I (G.bk (Bk.made _ 118 #[.bool false,.slice none 0 0]));obtain⟨n20,n21⟩:=hN2.out.c2;have fz:=hN2.out.frozen;clear G) | (go_at_call 54;refine (HU.out _ HG0.out).mono ?_;rintro e v1 ⟨u,rfl,hu,G⟩;have HH1:=I (HG0.out.trans G);have hU1:=I hu;clear hu;clear G) | (go_at_call 54;with_reducible show Calls _ _ _ (World.drew (World.alloc _ _)) _;refine (HU.out _ (((Gr.refl wa).alloc (.cells #[.bool false,.slice none 0 0] 118)).drew)).mono ?_;rintro e v1 ⟨u,rfl,hu,G⟩;have HH1:=I ((((Gr.refl wa).alloc (.cells #[.bool false,.slice none 0 0] 118)).drew).trans G);have hU1:=I hu;clear hu;have hN1:=I (G.bk ((((Gr.refl _).drew).bk (Bk.made wa 118 #[.bool false,.slice none 0 0]))));obtain⟨n10,n11⟩:=hN1.out.c2;have fz:=hN1.out.frozen;clear G))) | fail
   all_goals (go_wp2_with fail;go_meet)
   ·exact⟨_,z,rfl,I (Bk.made v2 118 #[.bool b.neg,z.v]),I (hZ2.gr ((Gr.refl _).alloc _)),I (HH2.alloc _),I HH2.size⟩
   ·exact⟨_,z,rfl,I (hN2.put2 _ _).1,I (hZ2.fr (hN2.put2 _ _).2 hN2 (noLimb_int _ _ _ _)),I ((HH2.set HH1.size _).set HH1.size _),I HH1.size⟩
   ·exact⟨_,z,rfl,I (hN2.put2 _ _).1,I (hZ2.fr (hN2.put2 _ _).2 hN2 (noLimb_int _ _ _ _)),I ((HH2.set (nr _) _).set (nr _) _),I (nr _)⟩
  case rest=>
   obtain⟨g2,z2,rfl,E2,Z2,K2,le2⟩:=hcut;have J:=I (riadd_any wc ⟨a.neg,z⟩ ⟨b.neg,z2⟩ x.neg y.neg (x.num*y.un) (y.num*x.un) ⟨HA1.neg,Z1.gr K2⟩ ⟨HB1.neg,Z2.out⟩ BL1 BL2);have F1:=I (K2.bk E1);have HK:=I (K1.trans K2);have HA2:=I (HA.gr HK);have HB2:=I (HB.gr HK);have HS:=I (HG.trans HK);have c1:=I (HK.bk C1);have c2:=I (HK.bk C2);have c3:=I (HK.bk C3);have e0_:=F1.c2;have f0_:=E2.c2;clear a0 a1 a2 b0 b1 b2 HG0 kp HU HM D1 D2 D3 C1 C2 C3 E1 E2 HA1 HB1 Z1 Z2;simp only[Iv.v] at J;go_wp2_with fail;refine cm2 J fun sm w3 hsm G3=>?_
   have D3:=Bk.made w3 118 #[.bool sm.neg,sm.mag.v];have G4:=G3.alloc (.cells #[.bool sm.neg,sm.mag.v] 118);have HSM:=I (hsm.gr ((Gr.refl w3).alloc (.cells #[.bool sm.neg,sm.mag.v] 118)));have HG4:=I (HS.trans G4);have C1:=I (G4.bk c1);have C2:=I (G4.bk c2);have C3:=I (G4.bk c3);have HA4:=I (HA2.gr G4);have HB4:=I (HB2.gr G4);have C4:=I D3;clear hsm G4 J D3 HS c1 c2 c3 HA2 HB2 e0_ f0_ F1 HK K1 K2 HA HB HG;go_wp2_with fail;have h7:¬w3.heap.size=r:=fun e=>Bk.ne C4 C3 dx e
   generalize hW:w3.alloc (.cells #[.bool sm.neg,sm.mag.v] 118)=W at*;clear hW;generalize w3.heap.size=g at*;have h6:¬r=p:=fun e=>h9 e.symm
   have h5:¬r=q:=fun e=>h8 e.symm
   have h4:¬r=g:=fun e=>h7 e.symm
   obtain⟨a0,a1,a2⟩:=C1.c3;obtain⟨b0,b1,b2⟩:=C2.c3;have y0_:=C4.c2;have HG0:Hid (Gr W W.drew):=(Gr.refl W).drew;have HU1:=I (rone_any W.drew a.den _ (HA4.den.gr HG0) L3);have HU2:Hid (∀W2,Gr W W2→Calls Tryz.prog 54 #[b.den.v] W2 fun e w'=>∃y':Sv,e=.returned y'.v∧y'.Num w' (limbs y.un)∧Gr W2 w'):=fun W2 G=>rone_any W2 b.den _ (HB4.den.gr G) L4
   first | (go_region_held3 (fun W=>W.cell? ⟨p,0,none⟩=some (.bool a.neg)∧W.cell? ⟨p,1,none⟩=some a.num.v∧W.cell? ⟨p,2,none⟩=some a.den.v∧W.cell? ⟨q,0,none⟩=some (.bool b.neg)∧W.cell? ⟨q,1,none⟩=some b.num.v∧W.cell? ⟨q,2,none⟩=some b.den.v∧W.cell? ⟨g,0,none⟩=some (.bool sm.neg)∧W.cell? ⟨g,1,none⟩=some sm.mag.v)
     (first | go_keep | exact⟨hk1.1.1,hk1.1.2.1,hk1.1.2.2,hk1.2.1.1,hk1.2.1.2.1,hk1.2.1.2.2,hk1.2.2.1,hk1.2.2.2⟩ | exact⟨hk2.1.1,hk2.1.2.1,hk2.1.2.2,hk2.2.1.1,hk2.2.1.2.1,hk2.2.1.2.2,hk2.2.2.1,hk2.2.2.2⟩ | exact⟨hk3.1.1,hk3.1.2.1,hk3.1.2.2,hk3.2.1.1,hk3.2.1.2.1,hk3.2.1.2.2,hk3.2.2.1,hk3.2.2.2⟩ | exact⟨hk4.1.1,hk4.1.2.1,hk4.1.2.2,hk4.2.1.1,hk4.2.1.2.1,hk4.2.1.2.2,hk4.2.2.1,hk4.2.2.2⟩)
     (first | (go_at_call 56;refine (HQ.out).mono ?_;rintro e w7 ⟨i,rfl,hi,G8⟩;have HG8:=I (HG7.out.trans G8);have hk4:=ai (HG8.out.bk C1.out).c3 (ai (HG8.out.bk C2.out).c3 (HG8.out.bk C4.out).c2);have HBs:=I (HG8.out.bk C3.out);obtain⟨r0,r1,r2⟩:=HBs.out.c3;have fz:=HBs.out.frozen;have HII:=I hi;rw[HSM.out.neg] at HII;clear hi G8) | (go_at_call 53;refine (HM.out).mono ?_;rintro e w6 ⟨z,rfl,hz,G7⟩;have HG7:=I (HG6.out.trans G7);have hk3:=ai (HG7.out.bk C1.out).c3 (ai (HG7.out.bk C2.out).c3 (HG7.out.bk C4.out).c2);have HQ:=I (rquot_any w6 sm.neg sm.mag z _ _ (HSM.out.mag.gr HG7.out) hz BQ.out (Nat.mul_pos x.un_pos y.un_pos) BD.out);clear hz G7) | (go_at_call 54;refine ((HU2.out w4 HG5.out)).mono ?_;rintro e w5 ⟨v,rfl,hv,G6⟩;have HG6:=I (HG5.out.trans G6);have hk2:=ai (HG6.out.bk C1.out).c3 (ai (HG6.out.bk C2.out).c3 (HG6.out.bk C4.out).c2);have HM:=I (rnmul_any w5 u v _ _ (HNU.out.gr G6) hv L5.out L6.out);rw[vl,vl] at HM;clear hv G6) | (go_at_call 54;refine (HU1.out).mono ?_;rintro e w4 ⟨u,rfl,hu,G5⟩;have HG5:=I (HG0.out.trans G5);have hk1:=ai (HG5.out.bk C1.out).c3 (ai (HG5.out.bk C2.out).c3 (HG5.out.bk C4.out).c2);have HNU:=I hu;clear hu G5))) | fail
   go_wp2;refine pex ?_;refine ks HBs fun W5 B5 F5=>?_
   have d_:=B5.c3;refine bret Tryz.results20 ?_;exact⟨i,rfl,by rw[hE.out];exact HII.fr F5 HBs (noLimb_rat _ _ _ _ _ _ _),(HG4.trans HG8).fr_at F5 (by rw[hPE.out];exact hpo.out)⟩
theorem ofQ_one:ofQ 1=Q.one:=by decide
theorem isg_zero (q:Q):(isg q.neg q.num == 0)=decide (q.num=0):=by
 unfold isg;by_cases h:q.num=0
 ·simp[h]
 ·rw[if_neg h,df h];cases q.neg<;>rfl
theorem r7var_any (w:World) (v:Int):
  Calls Tryz.prog 60 #[.int .i64 v] w fun e w'=>∃r:Fv,e=.returned r.v∧r.Is w' ⟨[(v,Q.one)],Q.zero⟩∧Gr w w':=by
 go_enter Tryz.func60,Tryz.ntmps60;go_wp2_with fail;refine nw1hc fun W HG D_r=>?_
 have N_r:=dnl (w.heap.size) (w.heap.size);refine cm2 (r3of_any W 1 dx dx) fun c w1 hc G1=>?_
 rw[ofQ_one] at hc;have HC:=I hc;replace HG:=HG.tr G1;replace D_r:=G1.hb D_r;clear hc;obtain⟨B1,GB⟩:=made1 w1 138 #[.int .i64 v,.bool c.neg,c.num.v,c.den.v];have R2:=I (GB.bk D_r);have HT:Hid (Terms (w1.alloc (.cells #[.int .i64 v,.bool c.neg,c.num.v,c.den.v] 138)) ⟨some ⟨w1.heap.size,0,none⟩,1,1⟩ [(v,Q.one)]):=⟨[(⟨v,c⟩,(v,Q.one))],⟨rfl,nr _,by show (1:Nat)≤_;decide,(fun e=>by cases e),B1.sees ⟨[],by simp[Tv.cs]⟩⟩,rfl,(fun p hp=>by rw[mj hp];exact⟨rfl,HC.gr GB⟩),(fun ad ha _=>by injection ha with ha;rw[← ha];exact⟨_,(0,0),B1⟩)⟩;have HG2:=I (HG.trans GB);have z0_:=R2.c4;have fz:=R2.frozen;obtain⟨B5,F5⟩:=R2.put4 (.slice (some ⟨w1.heap.size,0,none⟩) 1 1) (.bool false) Nl Nl;have H5:=I F5;obtain⟨d0,d1,d2,d3⟩:=B5.c4;clear F5 B5 GB B1;have hne:¬w1.heap.size=w.heap.size:=fun e=>ni _ (e▸D_r.lt)
 go_wp2;generalize hW5:((((w1.alloc (.cells #[.int .i64 v,.bool c.neg,c.num.v,c.den.v] 138)).setCell ⟨w.heap.size,0,none⟩ (.slice (some ⟨w1.heap.size,0,none⟩) 1 1)).setCell ⟨w.heap.size,1,none⟩ (.bool false)).setCell ⟨w.heap.size,2,none⟩ Nl).setCell ⟨w.heap.size,3,none⟩ Nl=W5 at*;refine pex ?_;refine bodyPost_ret (by simp[results,Tryz.results60,go_sem,d0,d1,d2,d3];try rfl) rfl ?_;exact⟨⟨⟨some ⟨w1.heap.size,0,none⟩,1,1⟩,Rv.nil⟩,rfl,⟨HT.tf H5 (fun b cs fr e hh=>Bk.not_ty R2 dx cs fr (e▸hh)) (fun b cs fr e hh=>Bk.not_ty R2 dx cs fr (e▸hh)),Rv.Is.zero _⟩,HG2.fr_at H5 N_r⟩
theorem nonzero_any (w:World) (B:Nat) (x:Sv) (l:List Tm) (t:Tv) (v:Int) (q:Q) (hx:OwnT w B x l) (ht:t.Is w (v,q)) (hB:B≤w.heap.size) (hn:l.length≤1000000) (hq:(limbs q.num).length≤1000000):
  Calls Tryz.prog 70 #[x.v,t.v] w fun e w'=>∃y:Sv,e=.returned y.v∧OwnT w' B y (snoc l v q)∧Fr (fun b=>(Value.slice x.A x.n x.c).ownBlock=some b) w w':=by
 have LN:=I hn;have LQ:=I hq;clear hn hq;go_enter Tryz.func70,Tryz.ntmps70;go_wp2_with fail;refine nw1hc fun W HG D_p=>?_
 have HX:=I (hx.up HG);have HT:=I (ht.gr HG);have LB:=I (nt hB HG.size);clear hx ht hB;have a0_:=D_p.c4;refine cm0 (rsign_any W t.coef q HT.coef LQ) fun w1 G1=>?_
 have hz:=I (isg_zero q);replace HG:=HG.tr G1;replace D_p:=G1.hb D_p;replace HX:=I (HX.up G1);replace HT:=I (HT.gr G1);replace LB:=I (nt LB G1.size);clear a0_;have a0_:=D_p.c4;generalize isg q.neg q.num=sg at*;by_cases h0:q.num=0
 ·have hs:(sg == 0)=true:=by rw[hz.out,dt h0]
  have hE:Hid (snoc l v q=l):=by unfold snoc;exact if_pos h0
  go_wp2;go_ret;exact⟨x,rfl,by rw[hE.out];exact HX.out,HG.fr.none⟩
 ·have hs:(sg == 0)=false:=by rw[hz.out,df h0]
  have hE:Hid (snoc l v q=l++[(v,q)]):=by unfold snoc;exact if_neg h0
  obtain⟨B1,GB⟩:=made1 w1 138 t.ar;have HX2:=HX.up GB;obtain⟨ts,t1,t2,t3⟩:=HX2;have T1:=I t1;have T2:=I t2;have T3:=I t3;have HT2:=I (HT.gr GB);have HG2:=I (HG.trans GB);have BC:=I (bk_cells B1);have LX:Hid (x.n≤1000000):=by rw[← HX.len Tv.len dx];exact LN.out
  have LB2:=I (nt LB GB.size);clear t1 t2 t3 GB B1;go_wp2_with (at_builtin;refine wpList_appS elemT rfl _ _ rfl B x.v x.n (ts.flatMap fun p=>p.1.cs) rfl T1.out ⟨w1.heap.size,0,none⟩ 1 1 [.int .i64 t.var,.bool t.coef.neg,t.coef.num.v,t.coef.den.v] rfl rfl BC.out (by simp[Value.oneCell']) (by unfold maxLen;have:=LX.out;omega) (by have:=LX.out;omega) LB2.out ?_;intro v' w5 e1 e2 e3;have F:=fr_own0 e2;obtain⟨y,rfl,hyn,hy⟩:=OwnT.push (t:=t) ts T1 T2 T3 HT2 e1 F;have HY:=I hy;have FF:=I F;clear e1 e2 e3 F hy hyn);go_wp2;go_ret;exact⟨y,rfl,by rw[hE.out];exact HY.out,HG2.fr.none.trans FF⟩
def plusGo (v:Int) (c:Q):Bool→List Tm→List Tm→List Tm
 | done,[],acc=>if done then acc else snoc acc v (canonQ c)
 | done,t::r,acc=>
  if t.1=v then plusGo v c true r (snoc acc t.1 (Q.add t.2 c))
  else if done=false∧v < t.1 then plusGo v c true r (snoc (snoc acc v (canonQ c)) t.1 t.2)
  else plusGo v c done r (snoc acc t.1 t.2)
def plusT (l:List Tm) (v:Int) (c:Q):List Tm:=plusGo v c false l []
theorem snoc_len (l:List Tm) (v:Int) (q:Q):(snoc l v q).length≤l.length+1:=by
 unfold snoc;split
 ·omega
 ·simp
theorem plusGo_len (v:Int) (c:Q):∀(l:List Tm) (d:Bool) (acc:List Tm),(plusGo v c d l acc).length≤acc.length+l.length+(if d then 0 else 1)
 | [],d,acc=>by
  unfold plusGo;cases d
  ·have:=snoc_len acc v (canonQ c);simp;omega
  ·simp
 | t::r,d,acc=>by
  unfold plusGo;split
  ·have h1:=plusGo_len v c r true (snoc acc t.1 (Q.add t.2 c));have h2:=snoc_len acc t.1 (Q.add t.2 c);simp at h1 ⊢;omega
  ·split
   ·rename_i h;have h1:=plusGo_len v c r true (snoc (snoc acc v (canonQ c)) t.1 t.2);have h2:=snoc_len acc v (canonQ c);have h3:=snoc_len (snoc acc v (canonQ c)) t.1 t.2;rw[h.1];simp at h1 ⊢;omega
   ·have h1:=plusGo_len v c r d (snoc acc t.1 t.2);have h2:=snoc_len acc t.1 t.2;cases d<;>simp at h1 ⊢<;>omega
theorem Q.Sm.b31 {q:Q} (h:q.Sm):Sl q.num∧Sl q.den:=⟨nt h.num dx,den_len (nt h.den dx)⟩
theorem Q.Sm.b64 {q:Q} (h:q.Sm):Sl q.num∧Sl q.den:=h.b31
theorem Bk.putc {w:World} {p t:Nat} {a b c d:Value} (h:Bk w p t #[a,b,c,d]) (y z u:Value):
  Bk (((w.setCell ⟨p,1,none⟩ y).setCell ⟨p,2,none⟩ z).setCell ⟨p,3,none⟩ u) p t #[a,y,z,u]∧Fr (fun b=>b=p) w (((w.setCell ⟨p,1,none⟩ y).setCell ⟨p,2,none⟩ z).setCell ⟨p,3,none⟩ u):=by
 refine⟨?_,Fr.trans (Fr.trans (Fr.set w ⟨p,1,none⟩ y rfl) (Fr.set _ ⟨p,2,none⟩ z rfl)) (Fr.set _ ⟨p,3,none⟩ u rfl)⟩;have:=((Bk.put h 1 y).put 2 z).put 3 u;simpa using this
theorem plus_any (w:World) (f:Fv) (c:Rv) (x:Fm) (v:Int) (q:Q) (hf:f.Is w x) (hc:c.Is w q) (hx:∀t∈x.terms,t.2.Sm∧t.2.Ok) (hq:q.Sm) (hqo:q.Ok) (hn:x.terms.length≤1000):
  Calls Tryz.prog 68 #[f.v,.int .i64 v,c.v] w fun e w'=>∃r:Fv,e=.returned r.v∧r.Is w' ⟨plusT x.terms v q,x.const⟩∧Gr w w':=by
 obtain⟨⟨xA,xn,xc⟩,fc⟩:=f;have hxn:x.terms.length=xn:=hf.terms.len;change Hid _ at hf hc hx hq;have HQO:=I hqo;have HXN:=I hxn;have hxn9:xn≤1000:=by omega
 clear hqo hxn hn;simp only[Rv.v,Fv.v] at*;go_enter Tryz.func68,Tryz.ntmps68;go_wp2_with fail;refine nw3h fun W HG D_p D_c0 D_r=>?_
 have N_r:=dnl (w.heap.size) (w.heap.size+1+1);generalize w.heap.size+1+1=r at*;generalize w.heap.size+1=c0 at*;go_loopw [7,8,9] (fun s7 s8 i wr=>∃(k:Nat) (z:Sv) (acc:List Tm) (d:Bool),s7=.slice z.A z.n z.c∧s8=.bool d∧i=.int .i64 k∧k≤xn∧Hid (OwnT wr w.heap.size z acc)∧Hid (plusGo v q d (x.terms.drop k) acc=plusT x.terms v q)∧Hid (acc.length≤2*k)∧Hid (Gr w wr)∧Hid (Bk wr w.heap.size 37 #[.slice xA xn xc,.bool fc.neg,fc.num.v,fc.den.v])∧Hid (Bk wr c0 35 c.ar)∧Hid (Bk wr r 37 Fl)) (fun _ _ i _=>xn - (intOf i).toNat)
 case atStart=>exact⟨0,Sv.none,[],false,rfl,rfl,rfl,nq _,Own.nil _ _,rfl,nr _,HG,D_p,D_c0,D_r⟩
 case round=>
  obtain⟨k,z,acc,d,rfl,rfl,rfl,hk,HZ,HK,HLN,HG0,DP,DC,DR⟩:=hrel;clear HG D_p D_c0 D_r;have HG:=HG0;have a0_:=DP.c4;have c1_:=DC.c3;by_cases hkn:k < xn
  ·have hkl:k < x.terms.length:=by rw[HXN.out];exact hkn
   obtain⟨s,hs⟩:∃s,x.terms[k]?=some s:=⟨_,ge hkl⟩;obtain⟨t,ad,ht,hA,d0,d1,d2,d3⟩:=(hf.terms.gr HG).at hs;simp only at hA;subst hA;have HT:=I ht;have HSS:=I (hx.out s (mg hs)).1;have HSO:=I (hx.out s (mg hs)).2;have HDR:Hid (x.terms.drop k=s::x.terms.drop (k+1)):=by rw[List.drop_eq_getElem?_toList_append,hs];exact rfl
   have hm9:k < 9223372036854775807:=by omega
   rw[HDR.out] at HK;have hvs:=HT.var;clear hs ht hkl;by_cases hv:s.1=v
   ·have HE:Hid (plusGo v q d (s::x.terms.drop (k+1)) acc=plusGo v q true (x.terms.drop (k+1)) (snoc acc s.1 (Q.add s.2 q))):=if_pos hv;have hv1:(t.var == v)=true:=by rw[hvs,hv];simp
    clear hv hvs;have htb:∀b,z.v.ownBlock=some b→b≠wr.heap.size:=fun b e=>Nat.ne_of_lt (HZ.lt b e).2
    have HTB:=I htb;have NT:=I HG0.size;clear htb;go_upto_region 7 with fail;clear d0 d1 d2 d3 a0_ c1_;refine nw1 fun W1 GB DT=>?_
    replace HZ:=I (HZ.up GB);replace HT:=I (HT.gr GB);replace HG:=HG.tr GB;replace DP:=GB.hb DP;replace DC:=GB.hb DC;replace DR:=GB.hb DR;have HSZ:=I HG.size;clear GB;generalize wr.heap.size=tb at*;have a0_:=DP.c4;have c1_:=DC.c3;obtain⟨t0,t1,t2,t3⟩:=DT.c4;have tz:=DT.frozen;go_wp2_with fail;refine cm1 (r3add_any W1 t.coef c s.2 q HT.coef (hc.gr HG) HSO HQO HSS.b31.1 hq.b31.1 HSS.b31.2 hq.b31.2) fun m w1 HM G1=>?_
    replace HZ:=I (HZ.up G1);replace HG:=HG.tr G1;replace DP:=G1.hb DP;replace DC:=G1.hb DC;replace DR:=G1.hb DR;replace DT:=G1.hb DT;replace HSZ:=I (nt HSZ G1.size);have hv9:=HT.var;clear HT t0 t1 t2 t3 tz a0_ c1_;obtain⟨t0,t1,t2,t3⟩:=DT.c4;have tz:=DT.frozen;go_upto_region 9 with fail;obtain⟨B5,F5⟩:=DT.putc (.bool m.neg) m.num.v m.den.v;have HT2:=I (show Tv.Is _ ⟨t.var,m⟩ (s.1,Q.add s.2 q) from ⟨hv9,HM.tf' F5 DT⟩);have HZ2:=I (HZ.fr F5 (fun b cs fr e hh=>Bk.not_ty DT dx cs fr (e▸hh)) (fun b hb e=>HTB.out b hb e));have DP2:=I (F5.bk DP (fun e=>Bk.ne DP DT dx e));have DC2:=I (F5.bk DC (fun e=>Bk.ne DC DT dx e));have DR2:=I (F5.bk DR (fun e=>Bk.ne DR DT dx e));have DT2:=I B5;have HG2:=I (HG.fr_at F5 NT);have HSZ2:=I (nt HSZ F5.size);clear B5 F5 HZ DP DC DR DT HG HSZ HM t0 t1 t2 t3 tz hv9;have HZ:=HZ2;have DP:=DP2;have DC:=DC2;have DR:=DR2;have DT:=DT2;have HG:=HG2;have HSZ:=HSZ2;clear HZ2 DP2 DC2 DR2 DT2 HG2 HSZ2;generalize ((w1.setCell ⟨tb,1,none⟩ (.bool m.neg)).setCell ⟨tb,2,none⟩ m.num.v).setCell ⟨tb,3,none⟩ m.den.v=W2 at*;have a0_:=DP.c4;have c1_:=DC.c3;obtain⟨t0,t1,t2,t3⟩:=DT.c4;go_wp2_with fail;refine (nonzero_any W2 w.heap.size z acc ⟨t.var,m⟩ (s.1) (Q.add s.2 q) HZ HT2 HSZ (by have:=HLN.out;omega) (nt (HSS.lo.bd.add hq.lo.bd).num dx)).mono ?_;rintro e w5 ⟨y,rfl,hy,hF⟩;have HY:=I hy;replace DP:=I (hF.bk DP (fun e=>HZ.ne DP dx e));replace DC:=I (hF.bk DC (fun e=>HZ.ne DC dx e));replace DR:=I (hF.bk DR (fun e=>HZ.ne DR dx e));replace HG:=I (HG.step hF (fun b _ e=>(HZ.lt b e).1));replace HSZ:=I (nt HSZ hF.size);clear hy hF t0 t1 t2 t3 a0_ c1_;go_wp2;go_roundw
    ·exact⟨k+1,y,snoc acc s.1 (Q.add s.2 q),true,rfl,rfl,by go_num,by omega,HY,HE.symm.trans HK,I (by have:=snoc_len acc s.1 (Q.add s.2 q);have:=HLN.out;omega),HG,DP,DC,DR⟩
    ·simp[intOf];omega
   ·have hv1:(t.var == v)=false:=by rw[hvs];simp[hv]
    cases d
    ·by_cases hg:v < s.1
     ·have HE:Hid (plusGo v q false (s::x.terms.drop (k+1)) acc=plusGo v q true (x.terms.drop (k+1)) (snoc (snoc acc v (canonQ q)) s.1 s.2)):=(if_neg hv).trans (if_pos ⟨rfl,hg⟩);have hg1:decide (v < t.var)=true:=by rw[hvs];simp[hg]
      clear hv hvs hg;have htb:∀b,z.v.ownBlock=some b→b≠wr.heap.size:=fun b e=>Nat.ne_of_lt (HZ.lt b e).2
      have HTB:=I htb;have NT:=I HG0.size;clear htb;go_upto_region 7 with fail;clear d0 d1 d2 d3 a0_ c1_;refine nw1 fun W1 GB DT=>?_
      replace HZ:=I (HZ.up GB);replace HT:=I (HT.gr GB);replace HG:=HG.tr GB;replace DP:=GB.hb DP;replace DC:=GB.hb DC;replace DR:=GB.hb DR;have HSZ:=I HG.size;clear GB;generalize wr.heap.size=tb at*;have a0_:=DP.c4;have c1_:=DC.c3;obtain⟨t0,t1,t2,t3⟩:=DT.c4;have tz:=DT.frozen;go_wp2_with fail;refine cm2 (rcanon_any W1 c q (hc.gr HG) hq.b64.1 hq.b64.2) fun m w1 hm G1=>?_
      have HM:=I (show Tv.Is w1 ⟨v,m⟩ (v,canonQ q) from ⟨rfl,hm⟩);replace HZ:=I (HZ.up G1);replace HT:=I (HT.gr G1);replace HG:=HG.tr G1;replace DP:=G1.hb DP;replace DC:=G1.hb DC;replace DR:=G1.hb DR;replace DT:=G1.hb DT;replace HSZ:=I (nt HSZ G1.size);clear hm t0 t1 t2 t3 tz a0_ c1_;go_wp2_with fail;refine (nonzero_any w1 w.heap.size z acc ⟨v,m⟩ (v) (canonQ q) HZ HM HSZ (by have:=HLN.out;omega) (nt hq.lo.bd.canon.num dx)).mono ?_;rintro e w2 ⟨y1,rfl,hy,hF⟩;have HY:=I hy;replace HT:=I (show Tv.Is w2 t s from ⟨HT.var,(by obtain⟨ts,t1,_⟩:=HZ.out;exact HT.coef.own t1 dx hF)⟩);replace DT:=I (hF.bk DT (fun e=>HTB.out _ e rfl));replace DP:=I (hF.bk DP (fun e=>HZ.ne DP dx e));replace DC:=I (hF.bk DC (fun e=>HZ.ne DC dx e));replace DR:=I (hF.bk DR (fun e=>HZ.ne DR dx e));replace HG:=I (HG.step hF (fun b _ e=>(HZ.lt b e).1));replace HSZ:=I (nt HSZ hF.size);clear HZ hy hF;have HZ:=HY;clear HY;obtain⟨t0,t1,t2,t3⟩:=DT.c4;go_wp2_with fail;refine (nonzero_any w2 w.heap.size y1 (snoc acc v (canonQ q)) t (s.1) (s.2) HZ HT HSZ (by have:=HLN.out;have:=snoc_len acc v (canonQ q);omega) (nt HSS.lo.bd.num dx)).mono ?_;rintro e w5 ⟨y,rfl,hy,hF⟩;have HY:=I hy;replace DP:=I (hF.bk DP (fun e=>HZ.ne DP dx e));replace DC:=I (hF.bk DC (fun e=>HZ.ne DC dx e));replace DR:=I (hF.bk DR (fun e=>HZ.ne DR dx e));replace HG:=I (HG.step hF (fun b _ e=>(HZ.lt b e).1));replace HSZ:=I (nt HSZ hF.size);clear hy hF t0 t1 t2 t3;go_wp2;go_roundw
      ·exact⟨k+1,y,snoc (snoc acc v (canonQ q)) s.1 s.2,true,rfl,rfl,by go_num,by omega,HY,HE.symm.trans HK,I (by have:=snoc_len acc v (canonQ q);have:=snoc_len (snoc acc v (canonQ q)) s.1 s.2;have:=HLN.out;omega),HG,DP,DC,DR⟩
      ·simp[intOf];omega
     ·have HE:Hid (plusGo v q false (s::x.terms.drop (k+1)) acc=plusGo v q false (x.terms.drop (k+1)) (snoc acc s.1 s.2)):=(if_neg hv).trans (if_neg (fun h=>hg h.2));have hg1:decide (v < t.var)=false:=by rw[hvs];simp;omega
      clear hv hvs hg;have htb:∀b,z.v.ownBlock=some b→b≠wr.heap.size:=fun b e=>Nat.ne_of_lt (HZ.lt b e).2
      have NT:=I HG0.size;clear htb;go_upto_region 7 with fail;clear d0 d1 d2 d3 a0_ c1_;refine nw1 fun W1 GB DT=>?_
      replace HZ:=I (HZ.up GB);replace HT:=I (HT.gr GB);replace HG:=HG.tr GB;replace DP:=GB.hb DP;replace DC:=GB.hb DC;replace DR:=GB.hb DR;have HSZ:=I HG.size;clear GB;generalize wr.heap.size=tb at*;have a0_:=DP.c4;have c1_:=DC.c3;obtain⟨t0,t1,t2,t3⟩:=DT.c4;have tz:=DT.frozen;go_wp2_with fail;refine (nonzero_any W1 w.heap.size z acc t (s.1) (s.2) HZ HT HSZ (by have:=HLN.out;omega) (nt HSS.lo.bd.num dx)).mono ?_;rintro e w5 ⟨y,rfl,hy,hF⟩;have HY:=I hy;replace DP:=I (hF.bk DP (fun e=>HZ.ne DP dx e));replace DC:=I (hF.bk DC (fun e=>HZ.ne DC dx e));replace DR:=I (hF.bk DR (fun e=>HZ.ne DR dx e));replace HG:=I (HG.step hF (fun b _ e=>(HZ.lt b e).1));replace HSZ:=I (nt HSZ hF.size);clear hy hF t0 t1 t2 t3 tz a0_ c1_;go_wp2;go_roundw
      ·exact⟨k+1,y,snoc acc s.1 s.2,false,rfl,rfl,by go_num,by omega,HY,HE.symm.trans HK,I (by have:=snoc_len acc s.1 s.2;have:=HLN.out;omega),HG,DP,DC,DR⟩
      ·simp[intOf];omega
    ·have HE:Hid (plusGo v q true (s::x.terms.drop (k+1)) acc=plusGo v q true (x.terms.drop (k+1)) (snoc acc s.1 s.2)):=(if_neg hv).trans (if_neg (fun h=>by cases h.1));clear hv hvs;have htb:∀b,z.v.ownBlock=some b→b≠wr.heap.size:=fun b e=>Nat.ne_of_lt (HZ.lt b e).2
     have NT:=I HG0.size;clear htb;go_upto_region 7 with fail;clear d0 d1 d2 d3 a0_ c1_;refine nw1 fun W1 GB DT=>?_
     replace HZ:=I (HZ.up GB);replace HT:=I (HT.gr GB);replace HG:=HG.tr GB;replace DP:=GB.hb DP;replace DC:=GB.hb DC;replace DR:=GB.hb DR;have HSZ:=I HG.size;clear GB;generalize wr.heap.size=tb at*;have a0_:=DP.c4;have c1_:=DC.c3;obtain⟨t0,t1,t2,t3⟩:=DT.c4;have tz:=DT.frozen;go_wp2_with fail;refine (nonzero_any W1 w.heap.size z acc t (s.1) (s.2) HZ HT HSZ (by have:=HLN.out;omega) (nt HSS.lo.bd.num dx)).mono ?_;rintro e w5 ⟨y,rfl,hy,hF⟩;have HY:=I hy;replace DP:=I (hF.bk DP (fun e=>HZ.ne DP dx e));replace DC:=I (hF.bk DC (fun e=>HZ.ne DC dx e));replace DR:=I (hF.bk DR (fun e=>HZ.ne DR dx e));replace HG:=I (HG.step hF (fun b _ e=>(HZ.lt b e).1));replace HSZ:=I (nt HSZ hF.size);clear hy hF t0 t1 t2 t3 tz a0_ c1_;go_wp2;go_roundw
     ·exact⟨k+1,y,snoc acc s.1 s.2,true,rfl,rfl,by go_num,by omega,HY,HE.symm.trans HK,I (by have:=snoc_len acc s.1 s.2;have:=HLN.out;omega),HG,DP,DC,DR⟩
     ·simp[intOf];omega
  ·obtain rfl:k=xn:=by omega
   have HD0:Hid (x.terms.drop k=[]):=I (List.drop_eq_nil_of_le (by rw[HXN.out];exact nr _));rw[HD0.out] at HK;cases d
   ·go_wp2_with fail;refine cm2 (rcanon_any wr c q (hc.gr HG) hq.b64.1 hq.b64.2) fun m w1 hm G1=>?_
    have HM:=I (show Tv.Is w1 ⟨v,m⟩ (v,canonQ q) from ⟨rfl,hm⟩);replace HZ:=I (HZ.up G1);replace HG:=HG.tr G1;replace DP:=G1.hb DP;replace DC:=G1.hb DC;replace DR:=G1.hb DR;have HSZ:=I HG.size;clear hm a0_ c1_;go_wp2_with fail;refine (nonzero_any w1 w.heap.size z acc ⟨v,m⟩ (v) (canonQ q) HZ HM HSZ (by have:=HLN.out;omega) (nt hq.lo.bd.canon.num dx)).mono ?_;rintro e w5 ⟨y,rfl,hy,hF⟩;have HY:=I hy;replace DP:=I (hF.bk DP (fun e=>HZ.ne DP dx e));replace DC:=I (hF.bk DC (fun e=>HZ.ne DC dx e));replace DR:=I (hF.bk DR (fun e=>HZ.ne DR dx e));replace HG:=I (HG.step hF (fun b _ e=>(HZ.lt b e).1));have hT:Hid (snoc acc v (canonQ q)=plusT x.terms v q):=HK;have HY2:Hid (Terms w5 y (plusT x.terms v q)):=by rw[← hT.out];exact HY.terms
    clear hy hF HZ HY;have a0_:=DP.c4;have q0_:=DR.c4;have qz:=DR.frozen;go_wp2;refine pex ?_;refine ks DR fun W5 B5 F5=>?_
    have d_:=B5.c4;refine bret Tryz.results68 ?_;exact⟨⟨y,fc⟩,rfl,Fv.Is.tf' (f:=⟨y,fc⟩) (x:=⟨_,_⟩) ⟨HY2.out,hf.const.gr HG⟩ F5 DR,HG.fr_at F5 N_r⟩
   ·have hT:Hid (acc=plusT x.terms v q):=HK;have HY2:Hid (Terms wr z (plusT x.terms v q)):=by rw[← hT.out];exact HZ.terms
    clear c1_;have q0_:=DR.c4;have qz:=DR.frozen;go_wp2;refine pex ?_;refine ks DR fun W5 B5 F5=>?_
    have d_:=B5.c4;refine bret Tryz.results68 ?_;exact⟨⟨z,fc⟩,rfl,Fv.Is.tf' (f:=⟨z,fc⟩) (x:=⟨_,_⟩) ⟨HY2.out,hf.const.gr HG⟩ F5 DR,HG.fr_at F5 N_r⟩
end
section
variable {P:Program} {t e size bytes:Nat}
theorem app0_run (h:ElemS P t e size bytes) (ty:TypeId) (w:World) (base:Option Addr) (x:Sv) (ds:List Value) (hx:x.Is w size ds) (h1:∀u∈ds,u.oneCell'=true) (h63:x.n≤maxLen) (hbytes:x.n*bytes≤140737488355328):
  ∃(y:Sv) (w':World),(Builtin.append_ #[t,t] ty #[.slice base 0 0,x.v]).run P w=.ok y.v w'∧y.n=x.n∧y.Is w' size ds∧y.Ty w' e∧Gr w w':=by
 obtain⟨i,z,hi,hz,hsz,hby,hzs⟩:=h.hi;have ht:=h.ht;obtain⟨A,n,c⟩:=x;have hlen:=hx.len;simp only at hlen h63 hbytes;rcases A with _ | ad
 ·obtain⟨h9,rfl⟩:=hx.mk0 rfl;injection h9 with _ h8 h7;subst h8 h7;refine⟨⟨base,0,0⟩,w,?_,rfl,⟨(Nat.zero_mul _).symm,nr _,nq _,(fun _=>rfl),Sees.nil⟩,(fun ad _ h=>absurd h (ni _)),Gr.refl w⟩;cases base<;>simp[Builtin.append_,run_underlying ht,sizeOf,typeInfo,hi,Builtin.lenOf,Builtin.firstCells,storeCells]
 ·by_cases h0:n=0
  ·subst h0;rw[Nat.zero_mul] at hlen;obtain rfl:=List.length_eq_zero_iff.1 hlen;refine⟨⟨base,0,0⟩,w,?_,rfl,⟨(Nat.zero_mul _).symm,nr _,nq _,(fun _=>rfl),Sees.nil⟩,(fun ad _ h=>absurd h (ni _)),Gr.refl w⟩;have hf:=run_firstCells_some (P:=P) w i.size 0 ad 0 c [] (by simp) (by simp);cases base<;>simp[Builtin.append_,run_underlying ht,sizeOf,typeInfo,hi,Builtin.lenOf,hf,storeCells]
  ·have hc:=hx.cells rfl;rcases base with _ | b
   ·obtain⟨v',w',hr,ho,hg,_⟩:=run_append_own_at (P:=P) w w.heap.size t ty e i z size bytes ht hi hz hsz hby hzs h.pos Nl 0 [] ⟨by simp,.inl ⟨rfl,rfl⟩⟩ ad n c ds hlen hc h1 om (by rw[Nat.zero_add];exact hbytes) (nr _);rw[Nat.zero_add,List.nil_append] at ho;obtain⟨y,rfl,hyn,hy,hty⟩:=Sv.of_row ho h.pos;exact⟨y,w',hr,hyn,hy,hty,Gr.of ((Below.refl _ w).grown hg (nr _) (fun k e=>by cases e))⟩
   ·obtain⟨v',w',hr,ho,hg⟩:=run_append_arg_grows (P:=P) w t ty e i z size bytes ht hi hz hsz hby hzs h.pos b 0 0 [] (by simp) (by simp) ad n c ds hlen hc om om (by rw[Nat.zero_add];exact hbytes);rw[Nat.zero_add,List.nil_append] at ho;obtain⟨y,rfl,hyn,hy,hty⟩:=Sv.of_row ho h.pos;exact⟨y,w',hr,hyn,hy,hty,Gr.of ((Below.refl _ w).grown hg (nr _) (fun k e=>by cases e))⟩
theorem doesAt_app0 (h:ElemS P t e size bytes) {o:Oper} {a:Act} {w:World} {K:Value→World→Prop} (s x:Operand) (ho:o.op=.call { callee:=.builtin .append,args:=#[s,x],argTypes:=#[t,t] }) (base:Option Addr) (xv:Sv) (ds:List Value) (hs:a.eval s=.slice base 0 0) (hxe:a.eval x=xv.v) (hx:xv.Is w size ds) (h1:∀u∈ds,u.oneCell'=true) (h63:xv.n≤maxLen) (hbytes:xv.n*bytes≤140737488355328)
  (hK:∀(y:Sv) (w':World),y.n=xv.n→y.Is w' size ds→y.Ty w' e→Gr w w'→K y.v w'):doesAt P o a w K:=by
 obtain⟨y,w',hr,hn,hy,hty,hg⟩:=app0_run (P:=P) h o.type w base xv ds hx h1 h63 hbytes;refine doesAt_value (v:=y.v) (W':=w') ?_ (hK y w' hn hy hty hg);unfold execOp;simp only[ho,resolve,invoke,builtin,Sem.run_bind,Sem.run_pure,Result.andThen_ok,List.map_toArray,List.map_cons,List.map_nil,hs,hxe,hr]
end
theorem Rows.app0 {α β:Type} {cs:β→List Value} {Is:World→β→α→Prop} {P:Program} {t e k bytes:Nat} (h:ElemS P t e k bytes) {o:Oper} {a:Act} {w:World} {K:Value→World→Prop} (s x:Operand) (ho:o.op=.call { callee:=.builtin .append,args:=#[s,x],argTypes:=#[t,t] }) (base:Option Addr) (xv:Sv) (xs:List α) (hs:a.eval s=.slice base 0 0) (hxe:a.eval x=xv.v)
  (hx:Rows cs Is e k w xv xs) (hI:∀{w w':World} {b:β} {a:α},Is w b a→Gr w w'→Is w' b a) (h1:∀b,∀u∈cs b,u.oneCell'=true) (h63:xv.n≤maxLen) (hbytes:xv.n*bytes≤140737488355328) (hK:∀(y:Sv) (w':World),y.n=xv.n→Rows cs Is e k w' y xs→Gr w w'→K y.v w'):doesAt P o a w K:=by
 obtain⟨ts,t1,t2,t3,t4⟩:=hx;refine doesAt_app0 h s x ho base xv _ hs hxe t1 (fun u hu=>by obtain⟨p,_,hp⟩:=List.mem_flatMap.1 hu;exact h1 _ u hp) h63 hbytes fun y w' hn hy hty hg=>hK y w' hn ⟨ts,hy,t2,fun p hp=>hI (t3 p hp) hg,hty⟩ hg
theorem Tv.one (t:Tv):∀u∈t.cs,u.oneCell'=true:=fun u hu=>by
 simp only[Tv.cs,List.mem_cons,List.not_mem_nil,or_false] at hu;rcases hu with rfl | rfl | rfl | rfl<;>rfl
theorem Fv.one (t:Fv):∀u∈t.cs,u.oneCell'=true:=fun u hu=>by
 simp only[Fv.cs,List.mem_cons,List.not_mem_nil,or_false] at hu;rcases hu with rfl | rfl | rfl | rfl<;>rfl
theorem Sv.inj {a b:Sv} (h:a.v=b.v):a=b:=by
 obtain⟨A,n,c⟩:=a;obtain⟨A',n',c'⟩:=b;simp only[Sv.v,Value.slice.injEq] at h;obtain⟨rfl,rfl,rfl⟩:=h;rfl
def NoRow (v:Value) (_:World):Prop:=∃b:Nat,v=.slice (some ⟨b,0,none⟩) 0 0
def Terms.At (l:List Tm) (v:Value) (W:World):Prop:=∃x:Sv,v=x.v∧Terms W x l
theorem Terms.At.gr {W W':World} {v:Value} {l:List Tm} (h:Terms.At l v W) (G:Gr W W'):Terms.At l v W':=by
 obtain⟨r,e,hr⟩:=h;exact⟨r,e,hr.gr G⟩
theorem Terms.At.is {W:World} {x:Sv} {l:List Tm} (h:Terms.At l x.v W):Terms W x l:=by
 obtain⟨s,e,hs⟩:=h;rw[Sv.inj e];exact hs
section
attribute [local go_sem] Oper.semAt_some
def addT:List Tm→List Tm→List Tm
 | acc,[]=>acc
 | acc,t::r=>addT (plusT acc t.1 t.2) r
theorem addT_snoc (t:Tm):∀(l acc:List Tm),addT acc (l++[t])=plusT (addT acc l) t.1 t.2
 | [],acc=>rfl
 | s::l,acc=>addT_snoc t l (plusT acc s.1 s.2)
def Fm.addR (f g:Fm):Fm:=⟨addT f.terms g.terms,Q.add f.const g.const⟩
def Good (t:Tm):Prop:=t.2.Sm∧t.2.Ok
theorem r7add_any (w:World) (f g:Fv) (x y:Fm) (hf:f.Is w x) (hg:g.Is w y) (hx:∀n,n≤y.terms.length→∀t∈addT x.terms (y.terms.take n),Good t) (hy:∀t∈y.terms,Good t) (hk:Good (0,x.const)) (hl:Good (0,y.const)) (hn:x.terms.length+y.terms.length≤900) (hp:∀n,n≤y.terms.length→(addT x.terms (y.terms.take n)).length≤900):
  Calls Tryz.prog 31 #[f.v,g.v] w fun e w'=>∃r:Fv,e=.returned r.v∧r.Is w' (Fm.addR x y)∧Gr w w':=by
 obtain⟨⟨gA,gn,gc⟩,gk⟩:=g;have hgn:y.terms.length=gn:=hg.terms.len;change Hid _ at hf hx hp;have HH:=I hg;have LY:=I hy;have LK:=I hk;have LL:=I hl;have LN:=I hn;have HGN:=I hgn;clear hg hy hk hl hn hgn;simp only[Rv.v,Fv.v] at*;go_enter Tryz.func31,Tryz.ntmps31;go_upto_region 1 with fail;refine nw3h fun W HG D_p D_g0 D_r=>?_
 have N_r:=dnl (w.heap.size) (w.heap.size+1+1);generalize w.heap.size+1+1=r at*;generalize w.heap.size+1=g0 at*;have HG9:=I HG.size;have HRL:=I D_r.lt;obtain⟨a0,a1,a2,a3⟩:=D_p.c4;obtain⟨b0,b1,b2,b3⟩:=D_g0.c4;refine wpr ?_;have kc:=I fun W' (G:Gr W.drew W')=>G.kk a0 <| G.kk a1 <| G.kk a2 <| G.kk a3 <| G.kk b0 <| G.kk b1 <| ai (G.keep b2) (G.keep b3)
 refine wg 1 (tf 9 1) [0,1,2,3,4,5,6,7,8] [(6,Rv.At (Q.add x.const y.const)),(8,NewAt 37 Fl W.heap.size)] ?_;iterate 6 refine .tk ?_
 refine .dc (fun W1 G1 F1=>?_) ?_
 ·obtain⟨a0,a1,a2,a3,b0,b1,b2,b3⟩:=kc.out W1 G1;refine doesAt_en ?_;refine cm2 (r3add_any W1 f.const gk x.const y.const (hf.const.gr (HG.trans G1.od)) (HH.const.gr (HG.trans G1.od)) LK.2 LL.2 LK.1.b31.1 LL.1.b31.1 LK.1.b31.2 LL.1.b31.2) fun k w' hi G=>?_
  exact⟨_,rfl,G,k,rfl,hi⟩
 rintro _ ⟨_,-,-,⟨k,rfl,-⟩⟩;refine .tk ?_;refine .da ?_;rintro _ ⟨_,-,-,⟨o,rfl,-,-⟩⟩;refine .done fun W1 G1 F1=>?_
 have hk:=lh F1 0;have ho:=lh F1 1;replace kc:=kc.out W1 G1;clear F1 a0 a1 a2 a3 b0 b1 b2 b3;refine wpAny_k 9 fun K hK=>?_
 have hN:=ho.is;have fz:=hN.1.frozen;obtain⟨o0,o1,o2,o3⟩:=hN.1.c4;go_simp;refine hK.out _ _ ?_;clear hK K;refine ptt ?_;refine wpe ?_;obtain⟨ho,hoN⟩:=ho.is;obtain⟨B5,F5⟩:=ho.put4 f.terms.v (.bool k.neg) k.num.v k.den.v;have HK:=I (Fv.Is.tf' (f:=⟨f.terms,k⟩) (x:=⟨x.terms,Q.add x.const y.const⟩) ⟨hf.terms.gr (HG.trans G1.od),hk.is⟩ F5 ho);have DO:=I B5;have HNO:=I (nt HG9 hoN);have hro:=I (show ¬o=r from fun e=>ni _ (nk (e▸HRL.out) hoN));have hgo:=I (show ¬o=g0 from fun e=>ni _ (nk (e▸D_g0.lt) hoN));replace HG:=I ((HG.trans G1.od).fr_at F5 HNO);replace D_g0:=I (F5.bk (G1.od.bk D_g0) (Nat.ne_of_lt (nk D_g0.lt hoN)));replace D_r:=I (F5.bk (G1.od.bk D_r) (Nat.ne_of_lt (nk D_r.lt hoN)));clear hk ho hoN G1 B5 F5 D_p kc;generalize (((W1.setCell ⟨o,0,none⟩ f.terms.v).setCell ⟨o,1,none⟩ (.bool k.neg)).setCell ⟨o,2,none⟩ k.num.v).setCell ⟨o,3,none⟩ k.den.v=W2 at*;go_wp2_with fail;go_loopw [6] (fun i wr=>∃(k:Nat) (z:Fv) (acc:Fm),i=.int .i64 k∧k≤gn∧Hid (z.Is wr acc)∧Hid (acc.terms=addT x.terms (y.terms.take k))∧Hid (addT acc.terms (y.terms.drop k)=addT x.terms y.terms)∧Hid (acc.const=Q.add x.const y.const)∧Hid (Gr w wr)∧Hid (Bk wr o 37 z.ar)∧Hid (Bk wr g0 37 #[.slice gA gn gc,.bool gk.neg,gk.num.v,gk.den.v])∧Hid (Bk wr r 37 Fl)) (fun i _=>gn - (intOf i).toNat)
 case atStart=>exact⟨0,⟨f.terms,k⟩,⟨x.terms,Q.add x.const y.const⟩,rfl,nq _,HK,rfl,rfl,rfl,HG,DO,D_g0,D_r⟩
 case round=>
  obtain⟨n,z,acc,rfl,hn,HZ,HAC,HAD,HCO,HG2,DO2,DG,DR2⟩:=hrel;clear HG HK DO D_g0 D_r;obtain⟨b0,b1,b2,b3⟩:=DG.c4;by_cases hng:n < gn
  ·obtain⟨s,hs⟩:∃s,y.terms[n]?=some s:=⟨_,ge (by rw[HGN.out];exact hng)⟩;obtain⟨t,ad,ht,hA,d0,d1,d2,d3⟩:=(HH.terms.gr HG2).at hs;simp only at hA;subst hA;have HT:=I ht;have HV:=I ht.var;have HSG:=I (LY.out s (mg hs));have HAL:Hid (∀t∈acc.terms,Good t):=by rw[HAC.out];exact hx.out n (by rw[HGN.out];exact hn)
   have HLN:Hid (acc.terms.length≤900):=by rw[HAC.out];exact hp.out n (by rw[HGN.out];exact hn)
   have HTK:Hid (plusT acc.terms s.1 s.2=addT x.terms (y.terms.take (n+1))):=by rw[List.take_add_one,hs,HAC.out];exact (addT_snoc s _ _).symm
   have HDR:Hid (addT (plusT acc.terms s.1 s.2) (y.terms.drop (n+1))=addT x.terms y.terms):=by rw[← HAD.out,show y.terms.drop n=s::y.terms.drop (n+1) from by rw[List.drop_eq_getElem?_toList_append,hs];rfl];exact rfl
   have hm9:n < 900:=by have:=LN.out;have:=HGN.out;omega
   clear hs ht;obtain⟨o0,o1,o2,o3⟩:=DO2.c4;go_wp2_with fail;go_upto_region 5 with fail;refine wpr ?_;have kc:=I fun W' (G:Gr wr.drew W')=>G.kk o0 <| G.kk o1 <| G.kk o2 <| G.kk o3 <| G.kk b0 <| G.kk b1 <| G.kk b2 <| G.kk b3 <| G.kk d0 <| G.kk d1 <| ai (G.keep d2) (G.keep d3)
   refine wg 1 (tf 14 1) [0,1,2,3,4,5,6,7,8,9,10,11,12,13] [(13,Fv.At (⟨plusT acc.terms s.1 s.2,acc.const⟩))] ?_;iterate 13 refine .tk ?_
   refine .dc (fun W1 G1 F1=>?_) ?_
   ·obtain⟨o0,o1,o2,o3,b0,b1,b2,b3,d0,d1,d2,d3⟩:=kc.out W1 G1;refine doesAt_en ?_;refine cm2 ((show Calls _ _ _ _ _ from by rw[HV.out];exact plus_any W1 z t.coef acc s.1 s.2 (HZ.gr G1.od) (HT.coef.gr G1.od) HAL HSG.1 HSG.2 (by have:=HLN.out;omega))) fun y1 w' hi G=>?_
    exact⟨_,rfl,G,y1,rfl,hi⟩
   rintro _ ⟨_,-,-,⟨y1,rfl,-⟩⟩;refine .done fun W1 G1 F1=>?_
   have hz2:=lh F1 0;clear F1;have kc1:=kc.out W1 G1;clear kc o0 o1 o2 o3 b0 b1 b2 b3 d0 d1 d2 d3;obtain⟨o0,o1,o2,o3,b0,b1,b2,b3,d0,d1,d2,d3⟩:=kc1;have hR5:=G1.od.bk DO2;refine wpAny_k 14 fun K hK=>?_
   have fz5:=hR5.frozen;have z50_:=hR5.c4;go_simp;refine hK.out _ _ ?_;clear hK K;refine ptt ?_;refine wpe ?_;obtain⟨B5,F5⟩:=hR5.put4 y1.terms.v (.bool y1.const.neg) y1.const.num.v y1.const.den.v;have H5:=I F5;have D5:=I B5;obtain⟨d0,d1,d2,d3⟩:=B5.c4;clear F5 B5;generalize (((W1.setCell ⟨o,0,none⟩ y1.terms.v).setCell ⟨o,1,none⟩ (.bool y1.const.neg)).setCell ⟨o,2,none⟩ y1.const.num.v).setCell ⟨o,3,none⟩ y1.const.den.v=W5 at*;have HY:=I (hz2.is.tf' H5 hR5);have HG5:=I ((HG2.trans G1.od).fr_at H5 HNO);have DG5:=I (H5.bk (G1.od.bk DG) (fun e=>hgo.out e.symm));have DR5:=I (H5.bk (G1.od.bk DR2) (fun e=>hro.out e.symm));clear hz2 G1 hR5 H5 d0 d1 d2 d3 o0 o1 o2 o3 b0 b1 b2 b3;go_wp2;go_roundw
   ·exact⟨n+1,y1,⟨plusT acc.terms s.1 s.2,acc.const⟩,by go_num,by omega,HY,HTK,HDR,HCO,HG5,D5,DG5,DR5⟩
   ·simp[intOf];omega
  ·obtain rfl:n=gn:=by omega
   have hAE:Hid (acc.terms=addT x.terms y.terms):=by rw[← HAD.out,List.drop_eq_nil_of_le (by rw[HGN.out];exact nr _)];exact rfl
   have HT:=I HZ.terms;rw[hAE] at HT;have HCC:=I HZ.const;rw[HCO.out] at HCC;have HLN:Hid ((addT x.terms y.terms).length≤900):=by have:=hp.out y.terms.length (nr _);rw[List.take_length] at this;exact this
   clear hAE;obtain⟨zt,zk⟩:=z;have htn:(addT x.terms y.terms).length=zt.n:=HT.len;have HTN:=I htn;obtain⟨o0,o1,o2,o3⟩:=DO2.c4;go_wp2_with fail;go_upto_region 6 with fail;clear b0 b1 b2 b3;refine wpr ?_;have kc:=I fun W' (G:Gr wr.drew W')=>G.kk o0 <| G.kk o1 <| ai (G.keep o2) (G.keep o3)
   refine wg 1 (tf 7 1) [0,1,2,3,4,5,6] [(0,NoRow),(3,Terms.At (addT x.terms y.terms))] ?_;refine .dc (fun W1 G1 F1=>?_) ?_
   ·obtain⟨o0,o1,o2,o3⟩:=kc.out W1 G1;refine dov ?_;exact⟨(Gr.refl W1).alloc _,_,rfl⟩
   rintro _ ⟨_,-,-,⟨b,rfl⟩⟩;iterate 2 refine .tk ?_
   refine .dc (fun W1 G1 F1=>?_) ?_
   ·obtain⟨o0,o1,o2,o3⟩:=kc.out W1 G1;exact Rows.app0 elemT _ _ (by rfl) (some ⟨b,0,none⟩) zt (addT x.terms y.terms) (by rfl) (by rfl) (HT.gr G1.od) (fun h G=>h.gr G) Tv.one (by unfold maxLen;have:=HTN.out;have:=HLN.out;omega) (by have:=HTN.out;have:=HLN.out;omega) (fun yy ww _ hy hg=>⟨hg,yy,rfl,hy⟩)
   rintro _ ⟨_,-,-,⟨yv,rfl,-⟩⟩;iterate 3 refine .tk ?_
   refine .done fun W1 G1 F1=>?_
   have hyv:=lh F1 1;clear F1;have kc1:=kc.out W1 G1;clear kc o0 o1 o2 o3;obtain⟨o0,o1,o2,o3⟩:=kc1;have hR5:=G1.od.bk DR2;refine wpAny_k 7 fun K hK=>?_
   have fz5:=hR5.frozen;have z50_:=hR5.c4;go_simp;refine hK.out _ _ ?_;clear hK K;refine ptt ?_;refine wpe ?_;obtain⟨B5,F5⟩:=hR5.put4 yv.v (.bool zk.neg) zk.num.v zk.den.v;have H5:=I F5;have D5:=I B5;obtain⟨d0,d1,d2,d3⟩:=B5.c4;clear F5 B5;generalize (((W1.setCell ⟨r,0,none⟩ yv.v).setCell ⟨r,1,none⟩ (.bool zk.neg)).setCell ⟨r,2,none⟩ zk.num.v).setCell ⟨r,3,none⟩ zk.den.v=W5 at*;go_wp2;refine pex ?_;refine bodyPost_ret (by simp[results,Tryz.results31,go_sem,d0,d1,d2,d3];try rfl) rfl ?_;exact⟨⟨yv,zk⟩,rfl,Fv.Is.tf' (f:=⟨yv,zk⟩) (x:=Fm.addR x y) ⟨hyv.is,HCC.gr G1.od⟩ H5 hR5,(HG2.trans G1.od).fr_at H5 N_r⟩
def scaleT (c:Q):List Tm→List Tm→List Tm
 | acc,[]=>acc
 | acc,t::r=>scaleT c (snoc acc t.1 (Q.mul t.2 c)) r
def Fm.scaleR (f:Fm) (c:Q):Fm:=⟨scaleT c [] f.terms,Q.mul f.const c⟩
theorem r7scale_any (w:World) (f:Fv) (c:Rv) (x:Fm) (q:Q) (hf:f.Is w x) (hc:c.Is w q) (hx:∀t∈x.terms,t.2.Sm) (hk:x.const.Sm) (hq:q.Sm) (hn:x.terms.length≤900):
  Calls Tryz.prog 32 #[f.v,c.v] w fun e w'=>∃r:Fv,e=.returned r.v∧r.Is w' (Fm.scaleR x q)∧Gr w w':=by
 obtain⟨⟨xA,xn,xc⟩,fc⟩:=f;have hxn:x.terms.length=xn:=hf.terms.len;change Hid _ at hf hx hq;have HC:=I hc;have LK:=I hk;have HXN:=I hxn;have hxn9:xn≤900:=by omega
 clear hc hk hxn hn;simp only[Rv.v,Fv.v] at*;go_enter Tryz.func32,Tryz.ntmps32;go_wp2_with fail;refine nw3hc fun W HG D_p D_c0 D_r=>?_
 obtain⟨a0,a1,a2,a3⟩:=D_p.c4;obtain⟨c1,c2,c3⟩:=D_c0.c3;have N_r:=dnl (w.heap.size) (w.heap.size+1+1);generalize w.heap.size+1+1=r at*;generalize w.heap.size+1=c0 at*;refine cm2 (r3mul_any W fc c x.const q (hf.const.gr HG) (HC.gr HG) (nt LK.num dx) (nt hq.num dx) (den_len (nt LK.den dx)) (den_len (nt hq.den dx))) fun k w1 hk G1=>?_
 have hlt:∀b,b < W.heap.size→b≠w1.heap.size:=fun b hb e=>by have:=G1.size;omega
 have HPO:=I (show ¬w.heap.size=w1.heap.size from hlt _ D_p.lt);have hro:=I (show ¬w1.heap.size=r from fun e=>hlt _ D_r.lt e.symm);have HNO:=I (nt HG.size G1.size);clear hlt a0 a1 a2 a3 c1 c2 c3;go_upto_region 2 with fail;refine nw1 fun W2 GB DO0=>?_
 have HK0:=I (hk.gr GB);have DP0:=I (GB.bk (G1.bk D_p));have DC0:=I (GB.bk (G1.bk D_c0));have DR0:=I (GB.bk (G1.bk D_r));have HG0:=I ((HG.trans G1).trans GB);clear hk D_p D_c0 D_r HG;clear GB;generalize w1.heap.size=o at*;go_wp2_with fail;go_loopw [6] (fun i wr=>∃(n:Nat) (z:Sv) (acc:List Tm),i=.int .i64 n∧n≤xn∧Hid (OwnT wr w.heap.size z acc)∧Hid (k.Is wr (Q.mul x.const q))∧Hid (scaleT q acc (x.terms.drop n)=scaleT q [] x.terms)∧Hid (acc.length≤n)∧Hid (Gr w wr)∧Hid (Bk wr o 37 #[z.v,.bool k.neg,k.num.v,k.den.v])∧Hid (Bk wr w.heap.size 37 #[.slice xA xn xc,.bool fc.neg,fc.num.v,fc.den.v])∧Hid (Bk wr c0 35 c.ar)∧Hid (Bk wr r 37 Fl)) (fun i _=>xn - (intOf i).toNat)
 case atStart=>exact⟨0,Sv.none,[],rfl,nq _,Own.nil _ _,HK0,rfl,nr _,HG0,DO0,DP0,DC0,DR0⟩
 case round=>
  obtain⟨n,z,acc,rfl,hn,HZ,HK,HSC,HLN,HG2,DO2,DP,DC,DR⟩:=hrel;clear HG0 HK0 DO0 DP0 DC0 DR0;obtain⟨a0,a1,a2,a3⟩:=DP.c4;by_cases hnx:n < xn
  ·obtain⟨s,hs⟩:∃s,x.terms[n]?=some s:=⟨_,ge (by rw[HXN.out];exact hnx)⟩;obtain⟨t,ad,ht,hA,d0,d1,d2,d3⟩:=(hf.terms.gr HG2).at hs;simp only at hA;subst hA;have HT:=I ht;have HSG:=I (hx.out s (mg hs));have HDR:Hid (scaleT q (snoc acc s.1 (Q.mul s.2 q)) (x.terms.drop (n+1))=scaleT q [] x.terms):=by rw[← HSC.out,show x.terms.drop n=s::x.terms.drop (n+1) from by rw[List.drop_eq_getElem?_toList_append,hs];rfl];exact rfl
   have hm9:n < 900:=by omega
   clear hs ht;obtain⟨o0,o1,o2,o3⟩:=DO2.c4;obtain⟨c1,c2,c3⟩:=DC.c3;go_wp2_with fail;go_upto_region 5 with fail;refine wpr ?_;have kc:=I fun W' (G:Gr wr.drew W')=>G.kk a0 <| G.kk a1 <| G.kk a2 <| G.kk a3 <| G.kk c1 <| G.kk c2 <| G.kk c3 <| G.kk o0 <| G.kk o1 <| G.kk o2 <| G.kk o3 <| G.kk d0 <| G.kk d1 <| ai (G.keep d2) (G.keep d3)
   refine wg 3 (tf 17 3) [0,1,2,3,4,5,6,7,8,9,10,11,12,13,14,15,16] [(15,Rv.At (Q.mul s.2 q))] ?_;iterate 15 refine .tk ?_
   refine .dk (fun W1 G1 F1=>r3mul_any W1 t.coef c s.2 q (HT.coef.gr G1.od) (HC.gr (HG2.trans G1.od)) (nt HSG.num dx) (nt hq.num dx) (den_len (nt HSG.den dx)) (den_len (nt hq.den dx))) ?_;rintro _ ⟨_,-,-,⟨m,rfl,-⟩⟩;refine .tk ?_;refine .done fun W1 G1 F1=>?_
   have hm:=lh F1 0;replace kc:=kc.out W1 G1;clear F1 a0 a1 a2 a3 c1 c2 c3 o0 o1 o2 o3 d0 d1 d2 d3;have GB:=I G1.od;refine wpAny_k 17 fun K hK=>?_
   refine doesAt_wp (K:=fun v W'=>∃y:Sv,v=y.v∧OwnT W' w.heap.size y (snoc acc s.1 (Q.mul s.2 q))∧Fr (fun b=>(z.v).ownBlock=some b) W1 W') (doesAt_enter (f:=70) (args:=#[z.v,.agg #[.int .i64 t.var,.bool m.neg,m.num.v,m.den.v]]) (by go_simp;try (first | with_reducible rfl | rfl)) ((nonzero_any W1 w.heap.size z acc ⟨t.var,m⟩ s.1 (Q.mul s.2 q) (HZ.up GB) ⟨HT.var,hm.is⟩ (nt HG2.size GB.size) (by have:=HLN.out;omega) (nt (HSG.lo.bd.mul hq.lo.bd).num dx)).mono ?_)) ?_
   ·rintro e w' ⟨yv,rfl,h1,h2⟩;exact⟨_,rfl,yv,rfl,h1,h2⟩
   rintro v w5 ⟨yv,rfl,hy,hF⟩;refine hK.out _ _ ?_;clear hK K;refine ptt ?_;have hz9:=HZ.up GB;have DO3:=I (hF.bk (GB.bk DO2) (fun e=>hz9.ne (GB.bk DO2) dx e));have DP3:=I (hF.bk (GB.bk DP) (fun e=>hz9.ne (GB.bk DP) dx e));have DC3:=I (hF.bk (GB.bk DC) (fun e=>hz9.ne (GB.bk DC) dx e));have DR3:=I (hF.bk (GB.bk DR) (fun e=>hz9.ne (GB.bk DR) dx e));have HG5:=I ((HG2.trans GB).step hF (fun b _ e=>(hz9.lt b e).1));have HK5:=I ((HK.gr GB).tf hF (fun b cs fr e hh=>(by obtain⟨ts,t1,_⟩:=hz9;obtain⟨cur,hc⟩:=rw_bk t1 b e;exact Bk.not_ty hc dx _ _ hh)));have HY5:=I hy;clear hz9 hy hF G1 hm kc;obtain⟨o0,o1,o2,o3⟩:=DO3.c4;have oz:=DO3.frozen;refine wo 18 ?_;refine wo 19 ?_;refine wpe ?_;have F6:=(Fr.set w5 ⟨o,0,none⟩ yv.v rfl:Fr (fun b=>b=o) w5 _);have B6:=DO3.put 0 yv.v;have HY6:=I (HY5.fr F6 (fun b cs fr e hh=>Bk.not_ty DO3 dx cs fr (e▸hh)) fun b hb e=>HY5.ne DO3 dx (e▸hb));have HK6:=I (HK5.tf' F6 DO3);have HG6:=I (HG5.fr_at F6 HNO);have DP6:=I (F6.bk DP3 HPO);have DC6:=I (F6.bk DC3 (fun e=>Bk.ne DC3 DO3 dx e));have DR6:=I (F6.bk DR3 (fun e=>hro.out e.symm));have DO6:=I B6;simp only[Array.setIfInBounds,List.size_toArray,List.length_cons,List.length_nil] at DO6;clear F6 B6 o0 o1 o2 o3 oz;generalize w5.setCell ⟨o,0,none⟩ yv.v=w6 at*;go_wp2;go_roundw
   ·exact⟨n+1,yv,snoc acc s.1 (Q.mul s.2 q),by go_num,by omega,HY6,HK6,HDR,I (by have:=snoc_len acc s.1 (Q.mul s.2 q);have:=HLN.out;omega),HG6,DO6,DP6,DC6,DR6⟩
   ·simp[intOf];omega
  ·obtain rfl:n=xn:=by omega
   have hAE:Hid (acc=scaleT q [] x.terms):=by rw[← HSC.out,List.drop_eq_nil_of_le (by rw[HXN.out];exact nr _)];exact rfl
   have z0_:=DR.c4;have fz:=DR.frozen;obtain⟨o0,o1,o2,o3⟩:=DO2.c4;go_wp2;refine pex ?_;refine ks DR fun W5 B5 F5=>?_
   have d_:=B5.c4;refine bret Tryz.results32 ?_;refine⟨⟨z,k⟩,rfl,Fv.Is.tf' (f:=⟨z,k⟩) (x:=Fm.scaleR x q) ⟨?_,HK.out⟩ F5 DR,HG2.fr_at F5 N_r⟩;rw[show (Fm.scaleR x q).terms=acc from hAE.symm];exact HZ.terms
end
theorem Q.one_mul {c:Q} (h:c.Ok):Q.mul Q.one c=c:=by
 have e:=quot_self h;unfold Q.mul;have h1:(Q.one.neg != c.neg)=c.neg:=by cases c.neg<;>rfl
 have h2:Q.one.un=1:=rfl;rw[h1,h2,show Q.one.num=1 from rfl,Nat.one_mul,Nat.one_mul];exact e
theorem Q.zero_mul (c:Q):Q.mul Q.zero c=Q.zero:=by
 unfold Q.mul quot;rw[show Q.zero.num=0 from rfl,Nat.zero_mul,if_pos rfl]
theorem Q.add_zero {k:Q} (h:k.Ok):Q.add k Q.zero=k:=by
 have e:=quot_self h;have hs:=sg_ok h;unfold Q.add;have h2:Q.zero.un=1:=rfl;have h3:Q.zero.num=0:=rfl;have h4:Q.zero.sg=false:=rfl;rw[h2,h3,h4,hs,Nat.mul_one,Nat.zero_mul,Nat.mul_one];by_cases h0:k.num=0
 ·obtain⟨h5,h6⟩:=h.pos h0;obtain rfl:k=Q.zero:=by obtain⟨n,a,d⟩:=k;simp only at h0 h5 h6;subst h0 h5 h6;rfl
  decide
 ·have hd:decide (0 < k.num)=true:=dt om;have:sadd (k.neg&&decide (0 < k.num)) k.num (false&&decide (0 < 0)) 0=(k.neg,k.num):=by
   unfold sadd;cases hn:k.neg
   ·simp
   ·simp;omega
  rw[this];exact e
theorem plusGo_snoc {v:Nat} {c:Q} (hc:c.Ok):∀(l acc:List Tm),(∀t∈l,t.1 < v∧t.2.num≠0)→plusGo v c false l acc=snoc (acc++l) v c
 | [],acc,_=>by
  unfold plusGo;rw[if_neg dx,canonQ_ok hc,List.append_nil]
 | t::r,acc,h=>by
  have ⟨h1,h2⟩:=h t (mf ..);unfold plusGo;rw[if_neg om,if_neg (fun e=>by have:=e.2;omega),show snoc acc t.1 t.2=acc++[t] from if_neg h2,plusGo_snoc hc r _ (fun s hs=>h s (List.mem_cons_of_mem _ hs)),List.append_assoc];rfl
theorem plusT_snoc {v:Nat} {c:Q} (hc:c.Ok) (l:List Tm) (h:∀t∈l,t.1 < v∧t.2.num≠0):plusT l v c=snoc l v c:=by
 unfold plusT;rw[plusGo_snoc hc l [] h,List.nil_append]
abbrev varF (v:Int):Fm:=⟨[(v,Q.one)],Q.zero⟩
theorem scaleR_var {v:Int} {c:Q} (hc:c.Ok):Fm.scaleR (varF v) c=⟨snoc [] v c,Q.zero⟩:=by
 unfold Fm.scaleR scaleT scaleT;rw[Q.one_mul hc,Q.zero_mul]
theorem addR_var {ts:List Tm} {k c:Q} {v:Nat} (h:Fm.Small ⟨ts,k⟩ v) (hc:c.Tiny):Fm.addR ⟨ts,k⟩ (Fm.scaleR (varF v) c)=⟨snoc ts v c,k⟩:=by
 rw[scaleR_var hc.ok];unfold Fm.addR;simp only;rw[Q.add_zero h.ok.const]
 congr 1
 by_cases h0:c.num=0
 ·rw[show snoc [] (v:Int) c=[] from if_pos h0,show snoc ts (v:Int) c=ts from if_pos h0];rfl
 ·rw[show snoc [] (v:Int) c=[((v:Int),c)] from if_neg h0];show plusT ts v c=_;exact plusT_snoc hc.ok ts fun t ht=>⟨(h.ok.each t ht).2.1,(h.ok.each t ht).2.2.1⟩
theorem Q.Tiny.good {c:Q} (h:c.Tiny) (v:Int):Good (v,c):=⟨h.sm,h.ok⟩
theorem addR_pre {ts:List Tm} {k c:Q} {v:Nat} (h:Fm.Small ⟨ts,k⟩ v) (hc:c.Tiny) (hl:ts.length≤v) (hv:v≤800):
  (∀n,n≤(Fm.scaleR (varF v) c).terms.length→∀t∈addT ts ((Fm.scaleR (varF v) c).terms.take n),Good t)∧(∀t∈(Fm.scaleR (varF v) c).terms,Good t)∧(ts.length+(Fm.scaleR (varF v) c).terms.length≤900)∧(∀n,n≤(Fm.scaleR (varF v) c).terms.length→(addT ts ((Fm.scaleR (varF v) c).terms.take n)).length≤900):=by
 rw[scaleR_var hc.ok];simp only;have ht:∀t∈ts,Good t:=fun t ht=>⟨(h.num t ht).sm,(h.num t ht).ok⟩
 by_cases h0:c.num=0
 ·rw[show snoc [] (v:Int) c=[] from if_pos h0];exact⟨(fun n _=>by rw[List.take_nil];exact ht),(fun t h=>by cases h),(by simp;omega),(fun n _=>by rw[List.take_nil];show ts.length≤900;omega)⟩
 ·rw[show snoc [] (v:Int) c=[((v:Int),c)] from if_neg h0];have e:∀n,addT ts (List.take n [((v:Int),c)])=if n=0 then ts else snoc ts v c:=fun n=>by
   cases n with
   | zero=>rfl
   | succ n=>
    rw[List.take_of_length_le (by simp),if_neg om];show plusT ts v c=_;rw[plusT_snoc hc.ok ts fun t ht=>⟨(h.ok.each t ht).2.1,(h.ok.each t ht).2.2.1⟩]
  have hg:∀t∈snoc ts (v:Int) c,Good t:=fun t htt=>by
   rw[show snoc ts (v:Int) c=ts++[((v:Int),c)] from if_neg h0] at htt;rcases List.mem_append.1 htt with h1 | h1
   ·exact ht t h1
   ·rw[mj h1];exact hc.good _
  have hn:=snoc_len ts (v:Int) c;refine⟨(fun n _=>by rw[e];split;exact ht;exact hg),(fun t h=>by rw[mj h];exact hc.good _),(by simp;omega),(fun n _=>by rw[e];split<;>omega)⟩
def Q.abs (q:Q):Q:=⟨false,q.num,q.den⟩
def boxQ:Nat→List Nat→(List Q×List Q)×List Nat
 | 0,r=>(([],[]),r)
 | n+1,r=>(((numQ r).1::(boxQ n (numQ (numQ r).2).2).1.1,Q.add (numQ r).1 (numQ (numQ r).2).1.abs::(boxQ n (numQ (numQ r).2).2).1.2),(boxQ n (numQ (numQ r).2).2).2)
theorem boxQ_succ (n:Nat) (r:List Nat):boxQ (n+1) r=(((numQ r).1::(boxQ n (numQ (numQ r).2).2).1.1,Q.add (numQ r).1 (numQ (numQ r).2).1.abs::(boxQ n (numQ (numQ r).2).2).1.2),(boxQ n (numQ (numQ r).2).2).2):=rfl
structure Rgm where
 lo:List Q
 hi:List Q
 rows:List Fm
def regionQ (n:Nat) (r:List Nat):Rgm×List Nat:=
 (⟨(boxQ n r).1.1,(boxQ n r).1.2,(outsQ (nx 3 (boxQ n r).2).1 n (nx 3 (boxQ n r).2).2).1⟩,(outsQ (nx 3 (boxQ n r).2).1 n (nx 3 (boxQ n r).2).2).2)
structure Qr where
 g:Gm
 rg:Rgm
 goal:Fm
def queryQ (r:List Nat):Qr×List Nat:=
 (⟨(graphQ r).1,(regionQ (graphQ r).1.inputs (graphQ r).2).1,(formQ ((graphQ r).1.inputs+(graphQ r).1.units.length) (regionQ (graphQ r).1.inputs (graphQ r).2).2).1⟩,(formQ ((graphQ r).1.inputs+(graphQ r).1.units.length) (regionQ (graphQ r).1.inputs (graphQ r).2).2).2)
structure Q.Qt (q:Q):Prop where
 ok:q.Ok
 un:q.un ∣ 4
 num:q.num≤4
theorem frac_qt:∀a,a < 9→∀b,b < 4→(fracQ ((a:Nat) - 4) (denN b)).Ok∧4 % (fracQ ((a:Nat) - 4) (denN b)).un=0∧(fracQ ((a:Nat) - 4) (denN b)).num≤4:=by decide
theorem numQ_qt (r:List Nat):(numQ r).1.Qt:=by
 obtain⟨h1,h2,h3⟩:=frac_qt _ (nx_lt (n:=9) dx r) _ (nx_lt (n:=4) dx (nx 9 r).2);exact⟨h1,Nat.dvd_of_mod_eq_zero h2,h3⟩
theorem snoc_all {P:Q→Prop} {l:List Tm} {v:Int} {c:Q} (h:∀t∈l,P t.2) (hc:P c):∀t∈snoc l v c,P t.2:=fun t ht=>by
 unfold snoc at ht;split at ht
 ·exact h t ht
 ·rcases List.mem_append.1 ht with h1 | h1
  ·exact h t h1
  ·rw[mj h1];exact hc
theorem addT_len:∀(y acc:List Tm),(addT acc y).length≤acc.length+y.length
 | [],acc=>by simp[addT]
 | s::y,acc=>by
  unfold addT;have h1:=addT_len y (plusT acc s.1 s.2);have h2:(plusT acc s.1 s.2).length≤acc.length+1:=by have:=plusGo_len s.1 s.2 acc false [];simpa [plusT] using this
  rw[List.length_cons];omega
theorem scaleT_all {P:Q→Prop} {c:Q}:∀(y acc:List Tm),(∀t∈acc,P t.2)→(∀t∈y,P (Q.mul t.2 c))→∀t∈scaleT c acc y,P t.2
 | [],acc,h,_=>by simpa [scaleT] using h
 | s::y,acc,h,hy=>by
  unfold scaleT;exact scaleT_all y _ (snoc_all h (hy s (mf ..))) fun t ht=>hy t (List.mem_cons_of_mem _ ht)
theorem scaleT_len {c:Q}:∀(y acc:List Tm),(scaleT c acc y).length≤acc.length+y.length
 | [],acc=>by simp[scaleT]
 | s::y,acc=>by
  unfold scaleT;have h1:=scaleT_len (c:=c) y (snoc acc s.1 (Q.mul s.2 c));have h2:=snoc_len acc s.1 (Q.mul s.2 c);rw[List.length_cons];omega
structure Fm.Qt (f:Fm) (vars:Nat):Prop where
 len:f.terms.length≤vars
 each:∀t∈f.terms,t.2.Qt
 const:f.const.Qt
theorem formT_qt:∀(n v:Nat) (ts:List Tm) (r:List Nat),(∀t∈ts,t.2.Qt)→(∀t∈(formT n v ts r).1,t.2.Qt)∧(formT n v ts r).1.length≤ts.length+n
 | 0,v,ts,r,h=>⟨h,nr _⟩
 | n+1,v,ts,r,h=>by
  unfold formT;split
  ·obtain⟨h1,h2⟩:=formT_qt n (v+1) (snoc ts v (numQ (nx 3 r).2).1) (numQ (nx 3 r).2).2 (snoc_all h (numQ_qt _));have:=snoc_len ts v (numQ (nx 3 r).2).1;exact⟨h1,by omega⟩
  ·obtain⟨h1,h2⟩:=formT_qt n (v+1) ts (nx 3 r).2 h;exact⟨h1,by omega⟩
theorem formQ_qt (vars:Nat) (r:List Nat):(formQ vars r).1.Qt vars:=by
 obtain⟨h1,h2⟩:=formT_qt vars 0 [] (numQ r).2 (fun t h=>by cases h);exact⟨by simpa [formQ] using h2,h1,numQ_qt r⟩
section
attribute [local go_sem] Oper.semAt_some
theorem formT_yes (n v:Nat) (ts:List Tm) (r:List Nat) (h:0 < (nx 3 r).1):formT (n+1) v ts r=formT n (v+1) (snoc ts v (numQ (nx 3 r).2).1) (numQ (nx 3 r).2).2:=if_pos h
theorem formT_no (n v:Nat) (ts:List Tm) (r:List Nat) (h:¬0 < (nx 3 r).1):formT (n+1) v ts r=formT n (v+1) ts (nx 3 r).2:=if_neg h
theorem sm_one:Q.one.Sm:=Q.Sm.small dx dx
theorem sm_zero:Q.zero.Sm:=Q.Sm.small dx dx
theorem ok_zero:Q.zero.Ok:=by decide
theorem Fv.Is.fp {w w':World} {p:Nat} {r:List Nat} {f:Fv} {x:Fm} (h:f.Is w x) (F:Fp p w w') (hd:Fd w p r):f.Is w' x:=by
 obtain⟨cs,hc⟩:=hd.bk;exact h.tf' F hc
theorem Rv.Is.fp {w w':World} {p:Nat} {r:List Nat} {f:Rv} {x:Q} (h:f.Is w x) (F:Fp p w w') (hd:Fd w p r):f.Is w' x:=by
 obtain⟨cs,hc⟩:=hd.bk;exact h.tf' F hc
theorem Bk.fp {w w':World} {p b t:Nat} {us:Array Value} {r:List Nat} (h:Bk w b t us) (F:Fp p w w') (hd:Fd w p r) (ht:t≠135):Bk w' b t us:=by
 obtain⟨cs,hc⟩:=hd.bk;exact F.bk h (fun e=>Bk.ne h hc ht e)
theorem Fd.st {w w':World} {p b t:Nat} {us:Array Value} {r:List Nat} (h:Fd w p r) (F:Fr (fun x=>x=b) w w') (hb:Bk w b t us) (h1:t≠135:=by decide) (h2:t≠5:=by decide):Fd w' p r:=by
 obtain⟨cs,hc⟩:=h.bk;exact h.fr F (fun e=>Bk.ne hc hb (Ne.symm h1) e) (fun b cs fr e hh=>Bk.not_ty hb h2 cs fr (e▸hh))
theorem form_any (w:World) (p vars:Nat) (r:List Nat) (hf:Fd w p r) (hv:vars≤700):
  Calls Tryz.prog 33 #[.pointer (some ⟨p,0,none⟩),.int .i64 vars] w fun e w'=>∃f:Fv,e=.returned f.v∧f.Is w' (formQ vars r).1∧Fd w' p (formQ vars r).2∧Fp p w w':=by
 obtain⟨B1,G⟩:=made1 w 37 (Fl);have HG:=I G;have D_r:=I B1;clear G B1;have HFD:=I hf;clear hf;go_enter Tryz.func33,Tryz.ntmps33;go_wp2_with fail;generalize hW:w.alloc (.cells Fl 37)=W at*;clear hW;refine (number_any W p r (HFD.gr HG)).mono ?_;rintro e w1 ⟨c,rfl,hc,hd,hp⟩;obtain⟨B1,GB⟩:=made1 w1 37 #[Nl,.bool c.neg,c.num.v,c.den.v];have D_1:=D_r.fp hp (HFD.gr HG) dx;have HZ0:Hid (Fv.Is (w1.alloc (.cells #[Nl,.bool c.neg,c.num.v,c.den.v] 37)) ⟨Sv.none,c⟩ ⟨[],(numQ r).1⟩):=⟨Rows.empty,hc.gr GB⟩;have HD0:=I (hd.gr GB);have HP0:=I ((HG.fp.trans hp).stp GB.fr (fun _ _ h=>h.elim));have HR0:=I (GB.bk D_1);have HNO:=I (nt HG.size hp.size);have hro:=I (show ¬w1.heap.size=w.heap.size from fun e=>ni _ (e▸D_1.lt));have HO0:=I B1;clear hc hd hp B1 GB D_1 D_r HG;go_upto_region 2 with fail;generalize w1.alloc (.cells #[Nl,.bool c.neg,c.num.v,c.den.v] 37)=W2 at*;generalize w1.heap.size=o at*;go_wp2_with fail;go_loopw [6] (fun i wr=>∃(k:Nat) (z:Fv) (ts:List Tm) (rr:List Nat),i=.int .i64 k∧k≤vars∧Hid (z.Is wr ⟨ts,(numQ r).1⟩)∧Hid (Fm.Small ⟨ts,(numQ r).1⟩ k)∧Hid (ts.length≤k)∧Hid (Fd wr p rr)∧Hid (formT (vars - k) k ts rr=formT vars 0 [] (numQ r).2)∧Hid (Fp p w wr)∧Hid (Bk wr o 37 z.ar)∧Hid (Bk wr w.heap.size 37 Fl)) (fun i _=>vars - (intOf i).toNat)
 case atStart=>exact⟨0,⟨Sv.none,c⟩,[],(numQ r).2,rfl,nq _,HZ0,⟨⟨fun i s t hs=>(by simp at hs),fun t ht=>(by cases ht),(numQ_tiny r).ok⟩,fun t ht=>(by cases ht),numQ_tiny r⟩,nr _,HD0,rfl,HP0,HO0,HR0⟩
 case round=>
  obtain⟨k,z,ts,rr,rfl,hk,HZ,HSM,HLN,HD,HF,HP,HO,HR⟩:=hrel;clear HZ0 HD0 HP0 HO0 HR0;by_cases hkv:k < vars
  ·have hm9:k < 700:=by omega
   have HVK:Hid (vars - k=vars - k - 1+1):=(by omega:vars - k=vars - k - 1+1);go_wp2_with fail;refine (next_any wr p 3 rr HD dx dx).mono ?_;rintro e w2 ⟨rfl,hd2,hp2⟩;have Z0:=I ((HZ.fp hp2 HD).gr (Gr.refl w2).drew);have O0:=I ((Gr.refl w2).drew.bk (HO.fp hp2 HD dx));have R0:=I ((Gr.refl w2).drew.bk (HR.fp hp2 HD dx));have P0:=I ((HP.trans hp2).trans (Gr.refl w2).drew.fp);have Z9:=I (HZ.fp hp2 HD);have O9:=I (HO.fp hp2 HD dx);have R9:=I (HR.fp hp2 HD dx);have P9:=I (HP.trans hp2);have D9:=I hd2;have D0:=I (hd2.gr (Gr.refl w2).drew);clear hd2 hp2 HZ HO HR HP;by_cases h0:0 < (nx 3 rr).1
   ·have H0:=I h0;have hx1:decide (0 < (((nx 3 rr).1:Nat):Int))=true:=by simp;omega
    have PRE:=I (addR_pre HSM (numQ_tiny (nx 3 rr).2) HLN om);have HV1:Hid (∀t∈(varF (k:Int)).terms,t.2.Sm):=fun t ht=>by rw[mj ht];exact sm_one
    have HV2:Hid ((varF (k:Int)).const.Sm):=sm_zero;have HV3:Hid ((numQ (nx 3 rr).2).1.Sm):=(numQ_tiny _).sm;have HV4:Hid ((varF (k:Int)).terms.length≤900):=by show 1≤900;decide
    have HG1:Hid (Good (0,(numQ r).1)):=(numQ_tiny r).good 0;have HG2:Hid (Good (0,(Fm.scaleR (varF (k:Int)) (numQ (nx 3 rr).2).1).const)):=by rw[scaleR_var (numQ_tiny _).ok];exact⟨sm_zero,ok_zero⟩
    clear Z9 O9 R9 P9 D9 h0;go_wp2_with fail;go_upto_region 6 with fail;have hS0:=O0.c4;refine wp_region_E (fun W=>W.cell? ⟨o,0,none⟩=some z.terms.v∧W.cell? ⟨o,1,none⟩=some (.bool z.const.neg)∧W.cell? ⟨o,2,none⟩=some z.const.num.v∧W.cell? ⟨o,3,none⟩=some z.const.den.v) (by kernel_rfl) ?_;show anyE _ _ _ _ 8 _ _ _;refine anyE.tk 0 hS0 ?_;refine anyE.tk 1 hS0 ?_;refine anyE.tk 3 hS0 ?_;refine anyE.k 2 fun K hK=>?_
    refine doesAt_wp (K:=fun v W=>∃fv:Fv,v=fv.v∧fv.Is W (varF (k:Int))∧Gr w2.drew W) (doesAt_enter (f:=60) (args:=#[.int .i64 k]) (by go_simp;try (first | with_reducible rfl | rfl)) ((r7var_any _ (k:Int)).mono ?_)) ?_
    ·rintro e w' ⟨fv,rfl,hv,G⟩;exact⟨_,rfl,fv,rfl,hv,G⟩
    rintro v w3 ⟨fv,rfl,hv,G⟩;have V1:=I hv;have D1:=I (D0.gr G);have Z1:=I (Z0.gr G);have P1:=I (P0.trans G.fp);have O1:=I (G.bk O0);have R1:=I (G.bk R0);clear hv G hS0;refine hK.out _ _ ⟨Or.inl (O1.c4),?_⟩;clear hK K;refine ptt ?_;refine anyE.k 4 fun K hK=>?_
    refine doesAt_wp (K:=fun v W=>∃cq:Rv,v=cq.v∧cq.Is W (numQ (nx 3 rr).2).1∧Fd W p (numQ (nx 3 rr).2).2∧Fp p w3 W) (doesAt_enter (f:=34) (args:=#[.pointer (some ⟨p,0,none⟩)]) (by go_simp;try (first | with_reducible rfl | rfl)) ((number_any _ p _ D1).mono ?_)) ?_
    ·rintro e w' ⟨cq,rfl,hq,hd,hp⟩;exact⟨_,rfl,cq,rfl,hq,hd,hp⟩
    rintro v w4 ⟨cq,rfl,hq,hd,hp⟩;have Q2:=I hq;have V2:=I (V1.fp hp D1);have Z2:=I (Z1.fp hp D1);have P2:=I (P1.trans hp);have O2:=I (O1.fp hp D1 dx);have R2:=I (R1.fp hp D1 dx);have D2:=I hd;clear hq hd hp;refine hK.out _ _ ⟨Or.inl (O2.c4),?_⟩;clear hK K;refine ptt ?_;refine anyE.k 5 fun K hK=>?_
    refine doesAt_wp (K:=fun v W=>∃fs:Fv,v=fs.v∧fs.Is W (Fm.scaleR (varF (k:Int)) (numQ (nx 3 rr).2).1)∧Gr w4 W) (doesAt_enter (f:=32) (args:=#[fv.v,cq.v]) (by go_simp;try (first | with_reducible rfl | rfl)) ((r7scale_any _ fv cq (varF k) _ V2 Q2 HV1 HV2 HV3 HV4).mono ?_)) ?_
    ·rintro e w' ⟨fs,rfl,hs,G⟩;exact⟨_,rfl,fs,rfl,hs,G⟩
    rintro v w5 ⟨fs,rfl,hs,G⟩;have S3:=I hs;have D3:=I (D2.gr G);have Z3:=I (Z2.gr G);have P3:=I (P2.trans G.fp);have O3:=I (G.bk O2);have R3:=I (G.bk R2);clear hs G;refine hK.out _ _ ⟨Or.inl (O3.c4),?_⟩;clear hK K;refine ptt ?_;refine anyE.k 6 fun K hK=>?_
    refine doesAt_wp (K:=fun v W=>∃y:Fv,v=y.v∧y.Is W (Fm.addR ⟨ts,(numQ r).1⟩ (Fm.scaleR (varF (k:Int)) (numQ (nx 3 rr).2).1))∧Gr w5 W) (doesAt_enter (f:=31) (args:=#[z.v,fs.v]) (by go_simp;try (first | with_reducible rfl | rfl)) ((r7add_any _ z fs _ _ Z3 S3 PRE.1 PRE.2.1 HG1 HG2 PRE.2.2.1 PRE.2.2.2).mono ?_)) ?_
    ·rintro e w' ⟨y,rfl,hy,G⟩;exact⟨_,rfl,y,rfl,hy,G⟩
    rintro v v4 ⟨y,rfl,hy,G⟩;have Y4:=I hy;have D4:=I (D3.gr G);have Z4:=I (Z3.gr G);have P4:=I (P3.trans G.fp);have O4:=I (G.bk O3);have R4:=I (G.bk R3);clear hy G;refine hK.out _ _ ⟨Or.inl (O4.c4),?_⟩;clear hK K;refine ptt ?_;refine anyE.k 7 fun K hK=>?_
    have fz4:=O4.frozen;have o9:=O4.c4;have o0:=o9.1;have o1:=o9.2.1;have o2:=o9.2.2.1;have o3:=o9.2.2.2;clear o9;go_simp;refine hK.out _ _ ⟨Or.inr (by kernel_rfl),?_⟩;clear hK K;refine ptt ?_;refine anyE.done (by kernel_rfl) ?_;refine ks O4 fun W5 B5 F5=>?_
    have D5:=I (D4.st F5 O4);have Y5:=I (Y4.tf' F5 O4);have P5:=I (P4.stp F5 (fun b _ e=>Or.inr (by rw[e];exact HNO.out)));have R5:=I (F5.bk R4 (fun e=>hro.out e.symm));have O5:=B5;clear B5 F5 Y4 fz4 o0 o1 o2 o3;go_wp2;go_roundw
    ·refine⟨k+1,y,snoc ts (k:Int) (numQ (nx 3 rr).2).1,(numQ (nx 3 rr).2).2,by go_num,by omega,?_,snoc_small HSM (numQ_tiny _),I (by have:=snoc_len ts (k:Int) (numQ (nx 3 rr).2).1;have:=HLN.out;omega),D5,?_,P5,O5,R5⟩
     ·have:=Y5.out;rw[addR_var HSM.out (numQ_tiny _)] at this;exact this
     ·show formT (vars - (k+1)) _ _ _=_;rw[← HF.out,HVK.out,formT_yes _ _ _ _ H0.out,show vars - (k+1)=vars - k - 1 from by omega]
    ·simp[intOf];omega
   ·have hx1:decide (0 < (((nx 3 rr).1:Nat):Int))=false:=by simp;omega
    have H0:=I h0;clear Z0 O0 R0 P0 D0 h0;go_wp2;go_roundw
    ·refine⟨k+1,z,ts,(nx 3 rr).2,by go_num,by omega,Z9,⟨HSM.ok.mono om,HSM.num,HSM.const⟩,I (by have:=HLN.out;omega),D9,?_,P9,O9,R9⟩;show formT (vars - (k+1)) _ _ _=_;rw[← HF.out,HVK.out,formT_no _ _ _ _ H0.out,show vars - (k+1)=vars - k - 1 from by omega]
    ·simp[intOf];omega
  ·obtain rfl:k=vars:=by omega
   obtain⟨o0,o1,o2,o3⟩:=HO.c4;have HFE:Hid ((ts,rr)=formT k 0 [] (numQ r).2):=by rw[← HF.out,Nat.sub_self];exact rfl
   have z0_:=HR.c4;have fz:=HR.frozen;go_wp2;refine pex ?_;refine ks HR fun W5 B5 F5=>?_
   have d_:=B5.c4;refine bret Tryz.results33 ?_;have HQ1:(formQ k r).1=⟨ts,(numQ r).1⟩:=by unfold formQ;rw[← HFE.out]
   have HQ2:(formQ k r).2=rr:=by unfold formQ;rw[← HFE.out]
   rw[HQ1,HQ2];exact⟨z,rfl,HZ.tf' F5 HR,HD.st F5 HR,HP.stp F5 (fun b _ e=>Or.inr (by rw[e];exact nr _))⟩
end
theorem Fr.ext {X Y:Nat→Prop} {a b c:World} (h:Fr X a b) (k:Fr Y b c) (hX:∀i,i < b.heap.size→Y i→X i∨a.heap.size≤i):Fr X a c:=⟨h.bel.trans k.bel,fun i hi hx=>by
 have hib:=nk hi h.size;rw[k.keep i hib (fun e=>by rcases hX i hib e with e | e;exact hx e;omega)];exact h.keep i hi hx⟩
section
variable {α β:Type} {cs:β→List Value} {Is:World→β→α→Prop} {e k:Nat} {w w':World} {B:Nat} {x:Sv} {xs:List α}
theorem Own.push (hz:Own cs Is e k w B x xs) {b:β} {u:α} {v':Value} (ts:List (β×α)) (hl:xs=ts.map (·.2)) (hts:∀p∈ts,Is w p.1 p.2) (hb:Is w b u) (h:w'.ownsRow B e k v' (x.n+1) ((ts.flatMap fun p=>cs p.1)++cs b)) (hI:∀p a,Is w p a→Is w' p a):
  ∃y:Sv,v'=y.v∧y.n=x.n+1∧Own cs Is e k w' B y (xs++[u]):=by
 obtain⟨A,c,rfl⟩:=rw_form h;refine⟨⟨A,x.n+1,c⟩,rfl,rfl,ts++[(b,u)],?_,?_,?_⟩
 ·rw[List.flatMap_append];simpa using h
 ·rw[hl,List.map_append];rfl
 ·intro p hp;rcases List.mem_append.1 hp with hp | hp
  ·exact hI _ _ (hts p hp)
  ·rw[mj hp];exact hI _ _ hb
theorem Own.app1 {P:Program} {t bytes:Nat} (h:ElemS P t e k bytes) {o:Oper} {a:Act} {K:Act→World→Prop} {Q:Exit→Act→World→Prop} (s xo:Operand) (ho:o.op=.call { callee:=.builtin .append,args:=#[s,xo],argTypes:=#[t,t] }) (hs:a.eval s=x.v) (hz:Own cs Is e k w B x xs) (ad:Addr) (c:Nat) (b:β) (u:α)
  (hx:a.eval xo=.slice (some ad) 1 c) (hb:Is w b u) (hlen:(cs b).length=k) (hcell:∀j v,(cs b)[j]?=some v→w.cell? (ad.add j)=some v) (h1:∀v∈cs b,v.oneCell'=true) (h63:x.n+1≤maxLen) (hbytes:(x.n+1)*bytes≤140737488355328) (hB:B≤w.heap.size) (hI:∀w',Fr (fun b=>(x.v).ownBlock=some b) w w'→∀p a,Is w p a→Is w' p a)
  (hK:∀(y:Sv) (w':World),y.n=x.n+1→Own cs Is e k w' B y (xs++[u])→Fr (fun b=>(x.v).ownBlock=some b) w w'→K (a.put o.dst y.v) w'):o.wp P a w K Q:=by
 obtain⟨i,z,hi,hzz,hsz,hby,hzs⟩:=h.hi;have hz':=hz;obtain⟨ts,t1,t2,t3⟩:=hz';obtain⟨v',w',hrun,h2,h3,_,h5⟩:=run_append_own_at (P:=P) w B t o.type e i z k bytes h.ht hi hzz hsz hby hzs h.pos _ x.n _ t1 ad 1 c (cs b) (by rw[hlen,Nat.one_mul]) hcell h1 h63 hbytes hB;have F:=fr_own0 h3;obtain⟨y,rfl,hyn,hy⟩:=hz.push ts t2 t3 hb h2 (hI w' F);unfold Oper.wp execOp;simp only[ho,resolve,invoke,builtin,Sem.run_bind,Sem.run_pure,Result.andThen_ok,List.map_toArray,List.map_cons,List.map_nil,hs,hx,hrun];exact hK y w' hyn hy F
end
theorem elemF:ElemS Tryz.prog 25 37 4 80:=elem_of (z:=.agg #[.slice none 0 0,.bool false,.slice none 0 0,.slice none 0 0]) (by kernel_rfl) (by kernel_rfl) rfl dx
abbrev OwnF (w:World) (B:Nat) (x:Sv) (l:List Fm):Prop:=Own Fv.cs Fv.Is 37 4 w B x l
theorem Fv.Is.own {w w':World} {f:Fv} {x:Fm} {v:Value} {B k n:Nat} {xs:List Value} (h:f.Is w x) (ho:w.ownsRow B 37 k v n xs) (F:Fr (fun b=>v.ownBlock=some b) w w'):f.Is w' x:=
 h.tf F (fun b cs fr hb hh=>by obtain⟨cur,hc⟩:=rw_bk ho b hb;exact Bk.not_ty hc dx _ _ hh) (fun b cs fr hb hh=>by obtain⟨cur,hc⟩:=rw_bk ho b hb;exact Bk.not_ty hc dx _ _ hh)
theorem OwnF.step {w w':World} {B:Nat} {x:Sv} {l:List Fm} (h:OwnF w B x l) (F:Fr (fun b=>(Value.slice x.A x.n x.c).ownBlock=some b) w w'):∀(p:Fv) (a:Fm),p.Is w a→p.Is w' a:=fun p a hp=>by
 obtain⟨ts,t1,_⟩:=h;exact hp.own t1 F
theorem OwnF.up {w w':World} {B:Nat} {x:Sv} {l:List Fm} (h:OwnF w B x l) (G:Gr w w'):OwnF w' B x l:=Own.gr h (fun _ _ ha=>ha.gr G) G
theorem OwnF.forms {w:World} {B:Nat} {x:Sv} {l:List Fm} (h:OwnF w B x l):Forms w x l:=h.rows dx
theorem OwnF.st {w w':World} {B p t:Nat} {x:Sv} {l:List Fm} {us:Array Value} (h:OwnF w B x l) (F:Fr (fun b=>b=p) w w') (hb:Bk w p t us) (h0:t≠37:=by decide) (h1:t≠138:=by decide) (h2:t≠200:=by decide):OwnF w' B x l:=
 Own.go h (fun f a ha=>ha.tf' F hb h1 h2) fun b hb'=>F.keep b (h.lt b hb').2 fun e=>h.ne hb h0 (e▸hb')
section
attribute [local go_sem] Oper.semAt_some
theorem OwnF.fp {w w':World} {p B:Nat} {r:List Nat} {x:Sv} {l:List Fm} (h:OwnF w B x l) (F:Fp p w w') (hd:Fd w p r):OwnF w' B x l:=by
 obtain⟨cs,hc⟩:=hd.bk;exact h.st F hc
theorem Fd.own {w w':World} {p B:Nat} {r:List Nat} {x:Sv} {l:List Fm} (h:Fd w p r) (ho:OwnF w B x l) (F:Fr (fun b=>(Value.slice x.A x.n x.c).ownBlock=some b) w w'):Fd w' p r:=by
 obtain⟨cs,hc⟩:=h.bk;refine h.fr F (fun e=>ho.ne hc dx e) fun b cs fr e hh=>?_
 obtain⟨ts,t1,_⟩:=ho;obtain⟨cur,hc'⟩:=rw_bk t1 b e;exact Bk.not_ty hc' dx _ _ hh
theorem Forms.pg {w w':World} {p g:Nat} {r:List Nat} {us:Array Value} {x:Sv} {l:List Fm} (h:Forms w x l) (F:Fr (fun b=>b=p∨b=g) w w') (hd:Fd w p r) (hg:Bk w g 27 us):Forms w' x l:=by
 obtain⟨cs,hc⟩:=hd.bk;have no:∀t,t≠135→t≠27→∀b cs fr,(b=p∨b=g)→w.heap[b]?≠some (.cells cs t fr):=fun t h1 h2 b cs fr e hh=>by
  rcases e with e | e
  ·exact Bk.not_ty hc (Ne.symm h1) cs fr (e▸hh)
  ·exact Bk.not_ty hg (Ne.symm h2) cs fr (e▸hh)
 exact Rows.tf h F (no _ dx dx) fun f a hf=>hf.tf F (no _ dx dx) (no _ dx dx)
theorem Forms.st {w w':World} {p t:Nat} {us:Array Value} {x:Sv} {l:List Fm} (h:Forms w x l) (F:Fr (fun b=>b=p) w w') (hb:Bk w p t us) (h0:t≠37:=by decide) (h1:t≠138:=by decide) (h2:t≠200:=by decide):Forms w' x l:=
 Rows.tf h F (fun b cs fr e hh=>Bk.not_ty hb h0 cs fr (e▸hh)) fun f a hf=>hf.tf' F hb h1 h2
theorem unitsQ_succ (n v:Nat) (r:List Nat):unitsQ (n+1) v r=((formQ v r).1::(unitsQ n (v+1) (formQ v r).2).1,(unitsQ n (v+1) (formQ v r).2).2):=rfl
theorem outsQ_succ (n v:Nat) (r:List Nat):outsQ (n+1) v r=((formQ v r).1::(outsQ n v (formQ v r).2).1,(outsQ n v (formQ v r).2).2):=rfl
theorem graph_any (w:World) (p:Nat) (r:List Nat) (hf:Fd w p r):
  Calls Tryz.prog 116 #[.pointer (some ⟨p,0,none⟩)] w fun e w'=>∃g:Gv,e=.returned g.v∧g.Is w' (graphQ r).1∧Fd w' p (graphQ r).2∧Fp p w w':=by
 have HFD:=I hf;clear hf;go_enter Tryz.func116,Tryz.ntmps116;go_wp2_with fail;refine nw1hc fun W HG D_r=>?_
 refine (next_any W p 3 r (HFD.gr HG) dx dx).mono ?_;rintro e w1 ⟨rfl,hd1,hp1⟩;have hx9:=nx_lt (n:=3) dx r;generalize hx:(nx 3 r).1=x at*;have HX1:=I hx;obtain⟨n,hn⟩:∃n:Nat,n=1+x:=⟨_,rfl⟩;have hw1:IntKind.i64.wrap (1+(x:Int))=(n:Int):=by rw[wi _ om];omega
 have hn9:n≤3:=by omega
 have hnx:=I hn;have D_1:=D_r.fp hp1 (HFD.gr HG) dx;have HNO:=I (nt HG.size hp1.size);have hgr:=I (show ¬w1.heap.size=w.heap.size from fun e=>ni _ (e▸D_1.lt));clear hx hn D_r hx9;go_wp2_with fail;refine nw1c fun W2 GB DG1=>?_
 have HD1:=I (hd1.gr GB);have HP1:=I ((HG.fp.trans hp1).stp GB.fr (fun _ _ h=>h.elim));have DR1:=I (GB.bk D_1);clear hd1 hp1 D_1 HG;clear GB;generalize w1.heap.size=g at*;refine (next_any W2 p 5 _ HD1 dx dx).mono ?_;rintro e w3 ⟨rfl,hd1,hp1⟩;have hu9:=nx_lt (n:=5) dx (nx 3 r).2;generalize hx:(nx 5 (nx 3 r).2).1=u at*;have HX2:=I hx;have HD2:=I hd1;have HP2:=I (HP1.trans hp1);have DR2:=I (DR1.fp hp1 HD1 dx);have DG2:=I (DG1.fp hp1 HD1 dx);clear hx hd1 hp1 HD1 HP1 DR1 DG1;go_wp2_with fail;refine (next_any w3 p 3 _ HD2 dx dx).mono ?_;rintro e w4 ⟨rfl,hd1,hp1⟩;have hy9:=nx_lt (n:=3) dx (nx 5 (nx 3 r).2).2;generalize hx:(nx 3 (nx 5 (nx 3 r).2).2).1=y0 at*;have HX3:=I hx;obtain⟨m,hm⟩:∃m:Nat,m=1+y0:=⟨_,rfl⟩;have hw2:IntKind.i64.wrap (1+(y0:Int))=(m:Int):=by rw[wi _ om];omega
 have hm9:m≤3:=by omega
 have hmx:=I hm;have HD:=I hd1;have HPP:=I (HP2.trans hp1);have DR:=I (DR2.fp hp1 HD2 dx);have DG:=I (DG2.fp hp1 HD2 dx);obtain⟨nu,hnu0⟩:∃nu:Nat,nu=n+u:=⟨_,rfl⟩;have hnu:=I hnu0;have hnu9:nu=n+u:=hnu0;clear hx hm hd1 hp1 HD2 HP2 DR2 DG2 hy9 hnu0;generalize hr3:(nx 3 (nx 5 (nx 3 r).2).2).2=r3 at*;have HR3:=I hr3;clear hr3;go_wp2_with fail;go_loopw [6] (fun i wr=>∃(j:Nat) (z:Sv) (acc:List Fm) (rr:List Nat),i=.int .i64 j∧j≤u∧Hid (OwnF wr w4.heap.size z acc)∧Hid (acc++(unitsQ (u - j) (n+j) rr).1=(unitsQ u n r3).1)∧Hid ((unitsQ (u - j) (n+j) rr).2=(unitsQ u n r3).2)∧Hid (acc.length=j)∧Hid (Fd wr p rr)∧Hid (Fr (fun b=>b=p∨b=g) w4 wr)∧Hid (Bk wr g 27 #[.int .i64 (n:Int),z.v,Nl])∧Hid (Bk wr w.heap.size 27 #[.int .i64 0,Nl,Nl])) (fun i _=>u - (intOf i).toNat)
 case atStart=>exact⟨0,Sv.none,[],r3,rfl,nq _,Own.nil _ _,rfl,rfl,rfl,HD,Fr.refl _ _,DG,DR⟩
 case round=>
  obtain⟨j,z,acc,rr,rfl,hj,HA,HE1,HE2,HAL,HD9,HP9,HG9,HR9⟩:=hrel;clear HD DG DR;by_cases hju:j < u
  ·have HJ:Hid (u - j=u - j - 1+1):=(show u - j=u - j - 1+1 from by omega);obtain⟨v,hv⟩:∃v:Nat,v=n+j:=⟨_,rfl⟩;have HV:=I hv.symm;have hw7:IntKind.i64.wrap ((n:Int)+(j:Int))=(v:Int):=by rw[wi _ om];omega
   have hv9:v≤100:=by omega
   have hj9:j < 100:=by omega
   have D0:=I (HD9.gr (Gr.refl wr).drew);have A0:=I (HA.up (Gr.refl wr).drew);have P0:=I (HP9.ext (Gr.refl wr).drew.fr (fun _ _ h=>h.elim));have G0:=I ((Gr.refl wr).drew.bk HG9);have R0:=I ((Gr.refl wr).drew.bk HR9);clear HA HD9 HP9 HG9 HR9;clear hv;go_wp2_with fail;go_upto_region 6 with fail;have hS0:=G0.c3;refine wp_region_E (fun W=>W.cell? ⟨g,0,none⟩=some (.int .i64 (n:Int))∧W.cell? ⟨g,1,none⟩=some z.v∧W.cell? ⟨g,2,none⟩=some Nl) (by kernel_rfl) ?_;show anyE _ _ _ _ 12 _ _ _;refine anyE.tk 0 hS0 ?_;refine anyE.tk 1 hS0 ?_;refine anyE.tk 2 hS0 ?_;refine anyE.tk 3 hS0 ?_;refine anyE.tk 4 hS0 ?_;refine anyE.tk 5 hS0 ?_;refine anyE.tk 6 hS0 ?_;refine anyE.k 7 fun K hK=>?_
   refine doesAt_wp (K:=fun v' W=>∃f:Fv,v'=f.v∧f.Is W (formQ v rr).1∧Fd W p (formQ v rr).2∧Fp p wr.drew W) (doesAt_enter (f:=33) (args:=#[.pointer (some ⟨p,0,none⟩),.int .i64 (v:Int)]) (by go_simp;try (first | with_reducible rfl | rfl)) ((form_any _ p v _ D0 om).mono ?_)) ?_
   ·rintro e w' ⟨f,rfl,hf,hd,hp⟩;exact⟨_,rfl,f,rfl,hf,hd,hp⟩
   rintro v w5 ⟨f,rfl,hf,hd,hp⟩;have FI1:=I hf;have D1:=I hd;have A1:=I (A0.fp hp D0);have P1:=I (P0.ext hp (fun i _ e=>.inl (.inl e)));have G1:=I (G0.fp hp D0 dx);have R1:=I (R0.fp hp D0 dx);clear hf hd hp hS0;refine hK.out _ _ ⟨Or.inl (G1.c3),?_⟩;clear hK K;refine ptt ?_;obtain⟨B1,GB⟩:=made1 w5 37 f.ar;have FI2:=I (FI1.gr GB);have D2:=I (D1.gr GB);have A2:=I (A1.up GB);have P2:=I (P1.ext GB.fr (fun _ _ h=>h.elim));have G2:=I (GB.bk G1);have R2:=I (GB.bk R1);have BC:=I (bk_cells B1);clear GB B1;refine anyE.k 8 fun K hK=>?_
   go_simp;refine hK.out _ _ ⟨Or.inl (G2.c3),?_⟩;clear hK K;refine ptt ?_;generalize hw6:w5.alloc (.cells f.ar 37)=w6 at*;clear hw6;have LB2:=I P2.size;have LZ:Hid (z.n=j):=by rw[← HAL.out];exact (A2.len Fv.len dx).symm
   refine anyE.k 9 fun K hK=>?_
   refine Own.app1 elemF _ _ (by rfl) (by rfl) A2.out ⟨w5.heap.size,0,none⟩ 1 f _ (by rfl) FI2.out rfl BC.out (Fv.one f) (by unfold maxLen;have:=LZ.out;omega) (by have:=LZ.out;omega) LB2.out (fun w' F=>A2.step F) (fun y w7 hyn hy hF=>?_);have A3:=I hy;have D3:=I (D2.own A2 hF);have P3:=I (P2.ext hF (fun i _ e=>.inr (A2.lt i e).1));have G3:=I (hF.bk G2 (fun e=>A2.ne G2 dx e));have R3:=I (hF.bk R2 (fun e=>A2.ne R2 dx e));clear hy hF hyn;refine hK.out _ _ ⟨Or.inl (G3.c3),?_⟩;clear hK K;refine ptt ?_;have hS3:=G3.c3;refine anyE.tk 10 hS3 ?_;clear hS3;refine anyE.k 11 fun K hK=>?_
   have fz3:=G3.frozen;have g9:=G3.c3;have g0:=g9.1;have g1:=g9.2.1;have g2:=g9.2.2;clear g9;go_simp;refine hK.out _ _ ⟨Or.inr (by kernel_rfl),?_⟩;clear hK K;refine ptt ?_;refine anyE.done (by kernel_rfl) ?_;have F4:=(Fr.set w7 ⟨g,1,none⟩ y.v rfl:Fr (fun b=>b=g) w7 _);have B4:=G3.put 1 y.v;have D4:=I (D3.st F4 G3);have A4:=I (OwnF.st A3 F4 G3);have P4:=I (P3.ext F4 (fun i _ e=>.inl (.inr e)));have R4:=I (F4.bk R3 (fun e=>hgr.out e.symm));have G4:=I B4;simp only[Array.setIfInBounds,List.size_toArray,List.length_cons,List.length_nil] at G4;clear F4 B4 g0 g1 g2 fz3;generalize w7.setCell ⟨g,1,none⟩ y.v=w8 at*;go_wp2;go_roundw
   ·refine⟨j+1,y,acc++[(formQ v rr).1],(formQ v rr).2,by go_num,by omega,A4,?_,?_,I (by have:=HAL.out;rw[List.length_append,this];rfl),D4,P4,G4,R4⟩
    ·show _++(unitsQ (u - (j+1)) (n+(j+1)) (formQ v rr).2).1=_;rw[← HE1.out,HJ.out,unitsQ_succ,show u - (j+1)=u - j - 1 from by omega,List.append_assoc,HV.out,show n+(j+1)=v+1 from by have:=HV.out;omega]
     all_goals rfl
    ·show (unitsQ (u - (j+1)) (n+(j+1)) (formQ v rr).2).2=_;rw[← HE2.out,HJ.out,unitsQ_succ,show u - (j+1)=u - j - 1 from by omega,HV.out,show n+(j+1)=v+1 from by have:=HV.out;omega]
     all_goals rfl
   ·simp[intOf];omega
  ·obtain rfl:u=j:=by omega
   have HU1:Hid (acc=(unitsQ u n r3).1):=by rw[← HE1.out,Nat.sub_self];exact (List.append_nil _).symm
   have HU2:Hid (rr=(unitsQ u n r3).2):=by rw[← HE2.out,Nat.sub_self];exact rfl
   have HUF:=I HA.forms;have HPW:=I (HPP.ext HP9 (fun i _ e=>e.elim (fun e=>.inl e) (fun e=>.inr (by rw[e];exact HNO.out))));have HD:=HD9;have DG:=HG9;have DR:=HR9;have HGB:=HG9;clear HD9 HG9 HR9 HP9 HA HE1 HE2 HAL;generalize z=zu at*;generalize rr=r4 at*;generalize acc=us at*;go_wp2_with fail;generalize wr=wB at*;go_loopw [7] (fun i wr=>∃(j:Nat) (z:Sv) (acc:List Fm) (rr:List Nat),i=.int .i64 j∧j≤m∧Hid (OwnF wr wB.heap.size z acc)∧Hid (acc++(outsQ (m - j) (nu) rr).1=(outsQ m nu r4).1)∧Hid ((outsQ (m - j) (nu) rr).2=(outsQ m nu r4).2)∧Hid (acc.length=j)∧Hid (Fd wr p rr)∧Hid (Fr (fun b=>b=p∨b=g) wB wr)∧Hid (Bk wr g 27 #[.int .i64 (n:Int),zu.v,z.v])∧Hid (Bk wr w.heap.size 27 #[.int .i64 0,Nl,Nl])) (fun i _=>m - (intOf i).toNat)
   case atStart=>exact⟨0,Sv.none,[],r4,rfl,nq _,Own.nil _ _,rfl,rfl,rfl,HD,Fr.refl _ _,DG,DR⟩
   case round=>
    obtain⟨j,z,acc,rr,rfl,hj,HA,HE1,HE2,HAL,HD9,HP9,HG9,HR9⟩:=hrel;have HDB:=HD;clear HD DG DR;by_cases hju:j < m
    ·have HJ:Hid (m - j=m - j - 1+1):=(show m - j=m - j - 1+1 from by omega);have hw7:IntKind.i64.wrap ((n:Int)+(u:Int))=(nu:Int):=by rw[wi _ om];omega
     have hv9:nu≤100:=by omega
     have hj9:j < 100:=by omega
     have D0:=I (HD9.gr (Gr.refl wr).drew);have A0:=I (HA.up (Gr.refl wr).drew);have P0:=I (HP9.ext (Gr.refl wr).drew.fr (fun _ _ h=>h.elim));have G0:=I ((Gr.refl wr).drew.bk HG9);have R0:=I ((Gr.refl wr).drew.bk HR9);clear HA HD9 HP9 HG9 HR9;go_wp2_with fail;go_upto_region 10 with fail;have hS0:=G0.c3;refine wp_region_E (fun W=>W.cell? ⟨g,0,none⟩=some (.int .i64 (n:Int))∧W.cell? ⟨g,1,none⟩=some zu.v∧W.cell? ⟨g,2,none⟩=some z.v) (by kernel_rfl) ?_;show anyE _ _ _ _ 12 _ _ _;refine anyE.tk 0 hS0 ?_;refine anyE.tk 1 hS0 ?_;refine anyE.tk 2 hS0 ?_;refine anyE.tk 3 hS0 ?_;refine anyE.tk 4 hS0 ?_;refine anyE.tk 5 hS0 ?_;refine anyE.tk 6 hS0 ?_;refine anyE.k 7 fun K hK=>?_
     refine doesAt_wp (K:=fun v' W=>∃f:Fv,v'=f.v∧f.Is W (formQ nu rr).1∧Fd W p (formQ nu rr).2∧Fp p wr.drew W) (doesAt_enter (f:=33) (args:=#[.pointer (some ⟨p,0,none⟩),.int .i64 (nu:Int)]) (by go_simp;try (first | with_reducible rfl | rfl)) ((form_any _ p nu _ D0 om).mono ?_)) ?_
     ·rintro e w' ⟨f,rfl,hf,hd,hp⟩;exact⟨_,rfl,f,rfl,hf,hd,hp⟩
     rintro v w5 ⟨f,rfl,hf,hd,hp⟩;have FI1:=I hf;have D1:=I hd;have A1:=I (A0.fp hp D0);have P1:=I (P0.ext hp (fun i _ e=>.inl (.inl e)));have G1:=I (G0.fp hp D0 dx);have R1:=I (R0.fp hp D0 dx);clear hf hd hp hS0;refine hK.out _ _ ⟨Or.inl (G1.c3),?_⟩;clear hK K;refine ptt ?_;obtain⟨B1,GB⟩:=made1 w5 37 f.ar;have FI2:=I (FI1.gr GB);have D2:=I (D1.gr GB);have A2:=I (A1.up GB);have P2:=I (P1.ext GB.fr (fun _ _ h=>h.elim));have G2:=I (GB.bk G1);have R2:=I (GB.bk R1);have BC:=I (bk_cells B1);clear GB B1;refine anyE.k 8 fun K hK=>?_
     go_simp;refine hK.out _ _ ⟨Or.inl (G2.c3),?_⟩;clear hK K;refine ptt ?_;generalize hw6:w5.alloc (.cells f.ar 37)=w6 at*;clear hw6;have LB2:=I P2.size;have LZ:Hid (z.n=j):=by rw[← HAL.out];exact (A2.len Fv.len dx).symm
     refine anyE.k 9 fun K hK=>?_
     refine Own.app1 elemF _ _ (by rfl) (by rfl) A2.out ⟨w5.heap.size,0,none⟩ 1 f _ (by rfl) FI2.out rfl BC.out (Fv.one f) (by unfold maxLen;have:=LZ.out;omega) (by have:=LZ.out;omega) LB2.out (fun w' F=>A2.step F) (fun y w7 hyn hy hF=>?_);have A3:=I hy;have D3:=I (D2.own A2 hF);have P3:=I (P2.ext hF (fun i _ e=>.inr (A2.lt i e).1));have G3:=I (hF.bk G2 (fun e=>A2.ne G2 dx e));have R3:=I (hF.bk R2 (fun e=>A2.ne R2 dx e));clear hy hF hyn;refine hK.out _ _ ⟨Or.inl (G3.c3),?_⟩;clear hK K;refine ptt ?_;have hS3:=G3.c3;refine anyE.tk 10 hS3 ?_;clear hS3;refine anyE.k 11 fun K hK=>?_
     have fz3:=G3.frozen;have g9:=G3.c3;have g0:=g9.1;have g1:=g9.2.1;have g2:=g9.2.2;clear g9;go_simp;refine hK.out _ _ ⟨Or.inr (by kernel_rfl),?_⟩;clear hK K;refine ptt ?_;refine anyE.done (by kernel_rfl) ?_;have F4:=(Fr.set w7 ⟨g,2,none⟩ y.v rfl:Fr (fun b=>b=g) w7 _);have B4:=G3.put 2 y.v;have D4:=I (D3.st F4 G3);have A4:=I (OwnF.st A3 F4 G3);have P4:=I (P3.ext F4 (fun i _ e=>.inl (.inr e)));have R4:=I (F4.bk R3 (fun e=>hgr.out e.symm));have G4:=I B4;simp only[Array.setIfInBounds,List.size_toArray,List.length_cons,List.length_nil] at G4;clear F4 B4 g0 g1 g2 fz3;generalize w7.setCell ⟨g,2,none⟩ y.v=w8 at*;go_wp2;go_roundw
     ·refine⟨j+1,y,acc++[(formQ nu rr).1],(formQ nu rr).2,by go_num,by omega,A4,?_,?_,I (by have:=HAL.out;rw[List.length_append,this];rfl),D4,P4,G4,R4⟩
      ·show _++(outsQ (m - (j+1)) (nu) (formQ nu rr).2).1=_;rw[← HE1.out,HJ.out,outsQ_succ,show m - (j+1)=m - j - 1 from by omega,List.append_assoc]
       all_goals rfl
      ·show (outsQ (m - (j+1)) (nu) (formQ nu rr).2).2=_;rw[← HE2.out,HJ.out,outsQ_succ,show m - (j+1)=m - j - 1 from by omega]
       all_goals rfl
     ·simp[intOf];omega
    ·obtain rfl:m=j:=by omega
     have HO1:Hid (acc=(outsQ m nu r4).1):=by rw[← HE1.out,Nat.sub_self];exact (List.append_nil _).symm
     have HO2:Hid (rr=(outsQ m nu r4).2):=by rw[← HE2.out,Nat.sub_self];exact rfl
     have HOF:=I HA.forms;have HUF2:=I (HUF.pg HP9 HDB HGB);have HPE:=I (HPW.ext HP9 (fun i _ e=>e.elim (fun e=>.inl e) (fun e=>.inr (by rw[e];exact HNO.out))));obtain⟨g0,g1,g2⟩:=HG9.c3;have z0_:=HR9.c3;have fz:=HR9.frozen;go_wp2;refine pex ?_;refine ks HR9 fun W5 B5 F5=>?_
     have d_:=B5.c3;refine bret Tryz.results116 ?_;have HQ:graphQ r=(⟨n,us,acc⟩,rr):=by
      unfold graphQ;simp only;rw[HX1.out,HX2.out,← hnx.out,HX3.out,← hmx.out,HR3.out,show n+u=nu from hnu.symm,← HU2.out,← HU1.out,← HO1.out,← HO2.out]
     rw[HQ];exact⟨⟨n,zu,z⟩,rfl,⟨rfl,HUF2.st F5 HR9,HOF.st F5 HR9⟩,HD9.st F5 HR9,HPE.ext F5 (fun i _ e=>.inr (by rw[e];exact nr _))⟩
abbrev leafV (p:Sv):Value:=.agg #[.slice none 0 0,.int .i64 0,.int .i64 0,.bool false,.slice none 0 0,.slice none 0 0,.slice none 0 0,.bool false,.slice p.A p.n p.c]
theorem Bk.c9 {w:World} {p t:Nat} {a b c d e f g h i:Value} (k:Bk w p t #[a,b,c,d,e,f,g,h,i]):w.cell? ⟨p,0,none⟩=some a∧w.cell? ⟨p,1,none⟩=some b∧w.cell? ⟨p,2,none⟩=some c∧w.cell? ⟨p,3,none⟩=some d∧w.cell? ⟨p,4,none⟩=some e∧w.cell? ⟨p,5,none⟩=some f∧w.cell? ⟨p,6,none⟩=some g∧w.cell? ⟨p,7,none⟩=some h∧w.cell? ⟨p,8,none⟩=some i:=⟨k.cell 0,k.cell 1,k.cell 2,k.cell 3,k.cell 4,k.cell 5,k.cell 6,k.cell 7,k.cell 8⟩
structure Rw where
 kind:Int
 index:Int
 lo:Int
 hi:Int
 deriving DecidableEq,Inhabited
structure Mv where
 row:Rw
 coef:Rv
abbrev Mm:=Rw×Q
abbrev Mv.ar (t:Mv):Array Value:=#[.int .i64 t.row.kind,.int .i64 t.row.index,.int .i64 t.row.lo,.int .i64 t.row.hi,.bool t.coef.neg,.slice t.coef.num.A t.coef.num.n t.coef.num.c,.slice t.coef.den.A t.coef.den.n t.coef.den.c]
attribute [go_sem] Mv.ar
def Mv.cs (t:Mv):List Value:=[.int .i64 t.row.kind,.int .i64 t.row.index,.int .i64 t.row.lo,.int .i64 t.row.hi,.bool t.coef.neg,.slice t.coef.num.A t.coef.num.n t.coef.num.c,.slice t.coef.den.A t.coef.den.n t.coef.den.c]
structure Mv.Is (w:World) (t:Mv) (x:Mm):Prop where
 row:t.row=x.1
 coef:t.coef.Is w x.2
theorem Mv.Is.gr {w w':World} {t:Mv} {x:Mm} (h:t.Is w x) (G:Gr w w'):t.Is w' x:=⟨h.row,h.coef.gr G⟩
instance kpMv {x:Mv} {q} {w w'}:Kp (x.Is w q) w w' (x.Is w' q):=⟨fun G h=>h.gr G⟩
abbrev Mults (w:World) (x:Sv) (l:List Mm):Prop:=Rows Mv.cs Mv.Is 98 7 w x l
theorem Mults.gr {w w':World} {x:Sv} {l:List Mm} (h:Mults w x l) (G:Gr w w'):Mults w' x l:=Rows.gr (fun h G=>h.gr G) h G
instance kpMs {x l} {w w'}:Kp (Mults w x l) w w' (Mults w' x l):=⟨fun G h=>Mults.gr h G⟩
theorem Bk.c1 {w:World} {p t:Nat} {a:Value} (h:Bk w p t #[a]):w.cell? ⟨p,0,none⟩=some a:=h.cell 0
end
end Go.Proofs.YtbhbainhmfjpdaaGreatDoor
