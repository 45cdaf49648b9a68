/- Walks of the search and of what it calls, part 10. -/
import Derived.Test.YtbhbainhmfjpdaaGreatDoorMi
set_option linter.unusedVariables false
set_option linter.unusedSimpArgs false
set_option maxRecDepth 100000
set_option maxHeartbeats 8000000
namespace Go.Proofs.YtbhbainhmfjpdaaGreatDoor
open Go.RowKit
section
attribute [local go_sem] Oper.semAt_some
theorem aa1 (w:World) (a b:Rv) (x y:Q) (ha:a.Is w x) (hb:b.Is w y) (hx:x.Ok) (hy:y.Ok) (h1:Sl x.num) (h2:Sl y.num) (h3:Sl x.den) (h4:Sl y.den):
  Calls Tryz.prog 20 #[a.v,b.v] w fun e w'=>∃r:Rv,e=.returned r.v∧r.Is w' (Q.add x y)∧Gr w w':=by
 obtain⟨B1,B2,B3,G⟩:=a8e w 35 35 35 a.ar b.ar Rl;have HA:=I (ha.gr G);have HB:=I (hb.gr G);have HG:=I G;have C1:=I B1;have C2:=I B2;have C3:=I B3;have U1:Hid (Sl x.un):=vy h3;have U2:Hid (Sl y.un):=vy h4;have L:∀n,Sl n→(ab n).length≤400000:=fun n h=>nt h dx
 have L1:=I (L _ h1);have L2:=I (L _ h2);have L3:=I (nt (L _ h3) (by decide:400000≤1000000));have L4:=I (nt (L _ h4) (by decide:400000≤1000000));have L5:=I (L _ U1);have L6:=I (L _ U2);have bd:∀m n,Sl m→Sl n→(ab (m*n)).length≤200000:=fun m n hm hn=>nt (bh m n) (Nat.add_le_add hm hn)
 have b1:=bd _ _ h1 U2;have b2:=bd _ _ h2 U1;have b3:=bd _ _ U1 U2;have BL1:=I (nt b1 (by decide:200000≤300000));have BL2:=I (nt b2 (by decide:200000≤300000));have BD:=I (nt b3 (by decide:200000≤300000));have BQ:Hid ((ab (sadd x.neg (x.num*y.un) y.neg (y.num*x.un)).2).length≤300000):=by
  show (ab (sadd x.neg (x.num*y.un) y.neg (y.num*x.un)).2).length≤300000;unfold sadd;split
  ·exact nt (ee _ _ 200000 b1 b2) dx
  ·split
   ·exact nt (aw (Nat.sub_le _ _)) (nt b2 dx)
   ·exact nt (aw (Nat.sub_le _ _)) (nt b1 dx)
 have hE:Hid (Q.add x y=quot (sadd x.neg (x.num*y.un) y.neg (y.num*x.un)).1 (sadd x.neg (x.num*y.un) y.neg (y.num*x.un)).2 (x.un*y.un)):=by
  show Q.add x y=_;have e:∀u v:Q,u.Ok→(u.sg&&decide (0 < u.num*v.un))=u.neg:=fun u v hu=>by
   unfold Q.sg;by_cases h0:u.num=0
   ·rw[h0,(hu.pos h0).1];rfl
   ·rw[dt (by omega:0 < u.num),dt (Nat.mul_pos om v.un_pos),Bool.and_true,Bool.and_true]
  unfold Q.add;rw[e _ _ hx,e _ _ hy]
 clear ha hb B1 B2 B3 G L bd b1 b2 b3 hx hy h1 h2 h3 h4;simp only[Rv.v] at*;go_enter Tryz.func20,Tryz.ntmps20;go_wp2_with fail;have h9:¬w.heap.size=w.heap.size+1+1:=by omega
 have h8:¬w.heap.size+1=w.heap.size+1+1:=by omega
 have hpo:Hid (w.heap.size≤w.heap.size+1+1):=nt (Nat.le_succ _) (Nat.le_succ _);generalize hW:((w.alloc (.cells a.ar 35)).alloc (.cells b.ar 35)).alloc (.cells Rl 35)=W at*;clear hW;generalize w.heap.size+1+1=r at*;generalize w.heap.size+1=q at*;generalize hp:w.heap.size=p at*;have hPE:=I hp;clear hp;obtain⟨a0,a1,a2⟩:=C1.c3;obtain⟨b0,b1,b2⟩:=C2.c3;have HG0:Hid (Gr W W.drew):=(Gr.refl W).drew;have kp:Hid (∀X,Gr W X→(fun W=>W.cell? ⟨p,0,none⟩=some (.bool a.neg)∧W.cell? ⟨p,1,none⟩=some a.num.v∧W.cell? ⟨p,2,none⟩=some a.den.v∧W.cell? ⟨q,0,none⟩=some (.bool b.neg)∧W.cell? ⟨q,1,none⟩=some b.num.v∧W.cell? ⟨q,2,none⟩=some b.den.v) X):=fun X G=>⟨G.keep a0,G.keep a1,G.keep a2,G.keep b0,G.keep b1,G.keep b2⟩
 have HU:Hid (∀W2,Gr W W2→Calls Tryz.prog 54 #[b.den.v] W2 fun e w'=>∃u:Sv,e=.returned u.v∧u.Num w' (ab y.un)∧Gr W2 w'):=fun W2 G=>ko W2 b.den _ (HB.den.gr G) L4
 have HM:Hid (∀W2 {u:Sv},Gr W W2→u.Num W2 (ab y.un)→Calls Tryz.prog 53 #[a.num.v,u.v] W2 fun e w'=>∃z:Sv,e=.returned z.v∧z.Num w' (ab (x.num*y.un))∧Gr W2 w'):=fun W2 u G hu=>by
  have h:=lg W2 a.num u _ _ (HA.num.gr G) hu L1 L6;rw[vl,vl] at h;exact h
 go_cut [5] from 8 (fun s wx=>∃(g:Nat) (z:Sv),s=.pointer (some ⟨g,0,none⟩)∧Hid (Bk wx g 118 #[.bool a.neg,z.v])∧Hid (z.Num wx (ab (x.num*y.un)))∧Hid (Gr W wx)∧Hid (W.heap.size≤g))
 case first=>
  first | (go_region_held3 (fun W=>W.cell? ⟨p,0,none⟩=some (.bool a.neg)∧W.cell? ⟨p,1,none⟩=some a.num.v∧W.cell? ⟨p,2,none⟩=some a.den.v∧W.cell? ⟨q,0,none⟩=some (.bool b.neg)∧W.cell? ⟨q,1,none⟩=some b.num.v∧W.cell? ⟨q,2,none⟩=some b.den.v)
    (first | exact kp.out _ (by first | exact HH2.out | exact HH2.out.alloc _ | exact HH1.out | exact HH1.out.alloc _ | exact HG0.out | exact HG0.out.alloc _ | exact ((Gr.refl _).alloc _).drew | exact (((HH2.out).set (nr _) _).set (nr _) _) | exact (((HH2.out).set HH1.out.size _).set HH1.out.size _) | exact (((HH2.out.alloc _).set HH2.out.size _).set HH2.out.size _) | exact (((HH2.out.alloc _).set (nr _) _).set (nr _) _)) | go_keep)
    (first | (go_at_call 53;refine (HM.out _ HH1.out hU1.out).mono ?_;rintro e v2 ⟨z,rfl,hz,G⟩;have HH2:=I (HH1.out.trans G);have hU2:=I (hU1.out.gr G);have hZ2:=I hz;clear hz;(first | (have hN2:=I (G.bk hN1.out);obtain⟨n20,n21⟩:=hN2.out.c2;have fz:=hN2.out.frozen;clear G) | clear G)) | (go_at_call 53;with_reducible show Calls _ _ _ (World.alloc _ _) _;refine (HM.out _ (HH1.out.alloc (.cells #[.bool false,.slice none 0 0] 118)) (hU1.out.gr ((Gr.refl _).alloc (.cells #[.bool false,.slice none 0 0] 118)))).mono ?_;rintro e v2 ⟨z,rfl,hz,G⟩;have HH2:=I ((HH1.out.alloc (.cells #[.bool false,.slice none 0 0] 118)).trans G);have hU2:=I (hU1.out.gr (((Gr.refl _).alloc (.cells #[.bool false,.slice none 0 0] 118)).trans G));have hZ2:=I hz;clear hz;have hN2:=I (G.bk (Bk.made _ 118 #[.bool false,.slice none 0 0]));obtain⟨n20,n21⟩:=hN2.out.c2;have fz:=hN2.out.frozen;clear G) | (go_at_call 54;refine (HU.out _ HG0.out).mono ?_;rintro e v1 ⟨u,rfl,hu,G⟩;have HH1:=I (HG0.out.trans G);have hU1:=I hu;clear hu;clear G) | (go_at_call 54;with_reducible show Calls _ _ _ (World.drew (World.alloc _ _)) _;refine (HU.out _ (((Gr.refl W).alloc (.cells #[.bool false,.slice none 0 0] 118)).drew)).mono ?_;rintro e v1 ⟨u,rfl,hu,G⟩;have HH1:=I ((((Gr.refl W).alloc (.cells #[.bool false,.slice none 0 0] 118)).drew).trans G);have hU1:=I hu;clear hu;have hN1:=I (G.bk ((((Gr.refl _).drew).bk (Bk.made W 118 #[.bool false,.slice none 0 0]))));obtain⟨n10,n11⟩:=hN1.out.c2;have fz:=hN1.out.frozen;clear G))) | fail
  all_goals (go_wp2_with fail;go_meet)
  ·exact⟨_,z,rfl,I (Bk.made v2 118 #[.bool a.neg,z.v]),I (hZ2.gr ((Gr.refl _).alloc _)),I (HH2.alloc _),I HH2.size⟩
  ·exact⟨_,z,rfl,I (hN2.put2 _ _).1,I (hZ2.fr (hN2.put2 _ _).2 hN2 (bf _ _ _ _)),I ((HH2.set HH1.size _).set HH1.size _),I HH1.size⟩
  ·exact⟨_,z,rfl,I (hN2.put2 _ _).1,I (hZ2.fr (hN2.put2 _ _).2 hN2 (bf _ _ _ _)),I ((HH2.set (nr _) _).set (nr _) _),I (nr _)⟩
 case rest=>
  generalize wc=wa at*;obtain⟨g,z,rfl,E1,Z1,K1,le1⟩:=hcut;have D1:=I (K1.bk C1);have D2:=I (K1.bk C2);have D3:=I (K1.bk C3);have HA1:=I (HA.gr K1);have HB1:=I (HB.gr K1);clear a0 a1 a2 b0 b1 b2 HG0 kp HU HM;obtain⟨a0,a1,a2⟩:=D1.c3;obtain⟨b0,b1,b2⟩:=D2.c3;go_wp2_with fail;have HG0:Hid (Gr wa wa.drew):=(Gr.refl wa).drew;have kp:Hid (∀X,Gr wa X→(fun W=>W.cell? ⟨p,0,none⟩=some (.bool a.neg)∧W.cell? ⟨p,1,none⟩=some a.num.v∧W.cell? ⟨p,2,none⟩=some a.den.v∧W.cell? ⟨q,0,none⟩=some (.bool b.neg)∧W.cell? ⟨q,1,none⟩=some b.num.v∧W.cell? ⟨q,2,none⟩=some b.den.v) X):=fun X G=>⟨G.keep a0,G.keep a1,G.keep a2,G.keep b0,G.keep b1,G.keep b2⟩
  have HU:Hid (∀W2,Gr wa W2→Calls Tryz.prog 54 #[a.den.v] W2 fun e w'=>∃u:Sv,e=.returned u.v∧u.Num w' (ab x.un)∧Gr W2 w'):=fun W2 G=>ko W2 a.den _ (HA1.den.gr G) L3
  have HM:Hid (∀W2 {u:Sv},Gr wa W2→u.Num W2 (ab x.un)→Calls Tryz.prog 53 #[b.num.v,u.v] W2 fun e w'=>∃z:Sv,e=.returned z.v∧z.Num w' (ab (y.num*x.un))∧Gr W2 w'):=fun W2 u G hu=>by
   have h:=lg W2 b.num u _ _ (HB1.num.gr G) hu L2 L5;rw[vl,vl] at h;exact h
  go_cut [6] from 17 (fun s wx=>∃(g:Nat) (z:Sv),s=.pointer (some ⟨g,0,none⟩)∧Hid (Bk wx g 118 #[.bool b.neg,z.v])∧Hid (z.Num wx (ab (y.num*x.un)))∧Hid (Gr wa wx)∧Hid (wa.heap.size≤g))
  case first=>
   first | (go_region_held3 (fun W=>W.cell? ⟨p,0,none⟩=some (.bool a.neg)∧W.cell? ⟨p,1,none⟩=some a.num.v∧W.cell? ⟨p,2,none⟩=some a.den.v∧W.cell? ⟨q,0,none⟩=some (.bool b.neg)∧W.cell? ⟨q,1,none⟩=some b.num.v∧W.cell? ⟨q,2,none⟩=some b.den.v)
     (first | exact kp.out _ (by first | exact HH2.out | exact HH2.out.alloc _ | exact HH1.out | exact HH1.out.alloc _ | exact HG0.out | exact HG0.out.alloc _ | exact ((Gr.refl _).alloc _).drew | exact (((HH2.out).set (nr _) _).set (nr _) _) | exact (((HH2.out).set HH1.out.size _).set HH1.out.size _) | exact (((HH2.out.alloc _).set HH2.out.size _).set HH2.out.size _) | exact (((HH2.out.alloc _).set (nr _) _).set (nr _) _)) | go_keep)
     (first | (go_at_call 53;refine (HM.out _ HH1.out hU1.out).mono ?_;rintro e v2 ⟨z,rfl,hz,G⟩;have HH2:=I (HH1.out.trans G);have hU2:=I (hU1.out.gr G);have hZ2:=I hz;clear hz;(first | (have hN2:=I (G.bk hN1.out);obtain⟨n20,n21⟩:=hN2.out.c2;have fz:=hN2.out.frozen;clear G) | clear G)) | (go_at_call 53;with_reducible show Calls _ _ _ (World.alloc _ _) _;refine (HM.out _ (HH1.out.alloc (.cells #[.bool false,.slice none 0 0] 118)) (hU1.out.gr ((Gr.refl _).alloc (.cells #[.bool false,.slice none 0 0] 118)))).mono ?_;rintro e v2 ⟨z,rfl,hz,G⟩;have HH2:=I ((HH1.out.alloc (.cells #[.bool false,.slice none 0 0] 118)).trans G);have hU2:=I (hU1.out.gr (((Gr.refl _).alloc (.cells #[.bool false,.slice none 0 0] 118)).trans G));have hZ2:=I hz;clear hz;have hN2:=I (G.bk (Bk.made _ 118 #[.bool false,.slice none 0 0]));obtain⟨n20,n21⟩:=hN2.out.c2;have fz:=hN2.out.frozen;clear G) | (go_at_call 54;refine (HU.out _ HG0.out).mono ?_;rintro e v1 ⟨u,rfl,hu,G⟩;have HH1:=I (HG0.out.trans G);have hU1:=I hu;clear hu;clear G) | (go_at_call 54;with_reducible show Calls _ _ _ (World.drew (World.alloc _ _)) _;refine (HU.out _ (((Gr.refl wa).alloc (.cells #[.bool false,.slice none 0 0] 118)).drew)).mono ?_;rintro e v1 ⟨u,rfl,hu,G⟩;have HH1:=I ((((Gr.refl wa).alloc (.cells #[.bool false,.slice none 0 0] 118)).drew).trans G);have hU1:=I hu;clear hu;have hN1:=I (G.bk ((((Gr.refl _).drew).bk (Bk.made wa 118 #[.bool false,.slice none 0 0]))));obtain⟨n10,n11⟩:=hN1.out.c2;have fz:=hN1.out.frozen;clear G))) | fail
   all_goals (go_wp2_with fail;go_meet)
   ·exact⟨_,z,rfl,I (Bk.made v2 118 #[.bool b.neg,z.v]),I (hZ2.gr ((Gr.refl _).alloc _)),I (HH2.alloc _),I HH2.size⟩
   ·exact⟨_,z,rfl,I (hN2.put2 _ _).1,I (hZ2.fr (hN2.put2 _ _).2 hN2 (bf _ _ _ _)),I ((HH2.set HH1.size _).set HH1.size _),I HH1.size⟩
   ·exact⟨_,z,rfl,I (hN2.put2 _ _).1,I (hZ2.fr (hN2.put2 _ _).2 hN2 (bf _ _ _ _)),I ((HH2.set (nr _) _).set (nr _) _),I (nr _)⟩
  case rest=>
   obtain⟨g2,z2,rfl,E2,Z2,K2,le2⟩:=hcut;have J:=I (a9d wc ⟨a.neg,z⟩ ⟨b.neg,z2⟩ x.neg y.neg (x.num*y.un) (y.num*x.un) ⟨HA1.neg,Z1.gr K2⟩ ⟨HB1.neg,Z2.out⟩ BL1 BL2);have F1:=I (K2.bk E1);have HK:=I (K1.trans K2);have HA2:=I (HA.gr HK);have HB2:=I (HB.gr HK);have HS:=I (HG.trans HK);have c1:=I (HK.bk C1);have c2:=I (HK.bk C2);have c3:=I (HK.bk C3);have e0_:=F1.c2;have f0_:=E2.c2;clear a0 a1 a2 b0 b1 b2 HG0 kp HU HM D1 D2 D3 C1 C2 C3 E1 E2 HA1 HB1 Z1 Z2;simp only[Iv.v] at J;go_wp2_with fail;refine cm2 J fun sm w3 hsm G3=>?_
   have D3:=Bk.made w3 118 #[.bool sm.neg,sm.mag.v];have G4:=G3.alloc (.cells #[.bool sm.neg,sm.mag.v] 118);have HSM:=I (hsm.gr ((Gr.refl w3).alloc (.cells #[.bool sm.neg,sm.mag.v] 118)));have HG4:=I (HS.trans G4);have C1:=I (G4.bk c1);have C2:=I (G4.bk c2);have C3:=I (G4.bk c3);have HA4:=I (HA2.gr G4);have HB4:=I (HB2.gr G4);have C4:=I D3;clear hsm G4 J D3 HS c1 c2 c3 HA2 HB2 e0_ f0_ F1 HK K1 K2 HA HB HG;go_wp2_with fail;have h7:¬w3.heap.size=r:=fun e=>Bk.ne C4 C3 dx e
   generalize hW:w3.alloc (.cells #[.bool sm.neg,sm.mag.v] 118)=W at*;clear hW;generalize w3.heap.size=g at*;have h6:¬r=p:=fun e=>h9 e.symm
   have h5:¬r=q:=fun e=>h8 e.symm
   have h4:¬r=g:=fun e=>h7 e.symm
   obtain⟨a0,a1,a2⟩:=C1.c3;obtain⟨b0,b1,b2⟩:=C2.c3;have y0_:=C4.c2;have HG0:Hid (Gr W W.drew):=(Gr.refl W).drew;have HU1:=I (ko W.drew a.den _ (HA4.den.gr HG0) L3);have HU2:Hid (∀W2,Gr W W2→Calls Tryz.prog 54 #[b.den.v] W2 fun e w'=>∃y':Sv,e=.returned y'.v∧y'.Num w' (ab y.un)∧Gr W2 w'):=fun W2 G=>ko W2 b.den _ (HB4.den.gr G) L4
   first | (go_region_held3 (fun W=>W.cell? ⟨p,0,none⟩=some (.bool a.neg)∧W.cell? ⟨p,1,none⟩=some a.num.v∧W.cell? ⟨p,2,none⟩=some a.den.v∧W.cell? ⟨q,0,none⟩=some (.bool b.neg)∧W.cell? ⟨q,1,none⟩=some b.num.v∧W.cell? ⟨q,2,none⟩=some b.den.v∧W.cell? ⟨g,0,none⟩=some (.bool sm.neg)∧W.cell? ⟨g,1,none⟩=some sm.mag.v)
     (first | go_keep | exact⟨hk1.1.1,hk1.1.2.1,hk1.1.2.2,hk1.2.1.1,hk1.2.1.2.1,hk1.2.1.2.2,hk1.2.2.1,hk1.2.2.2⟩ | exact⟨hk2.1.1,hk2.1.2.1,hk2.1.2.2,hk2.2.1.1,hk2.2.1.2.1,hk2.2.1.2.2,hk2.2.2.1,hk2.2.2.2⟩ | exact⟨hk3.1.1,hk3.1.2.1,hk3.1.2.2,hk3.2.1.1,hk3.2.1.2.1,hk3.2.1.2.2,hk3.2.2.1,hk3.2.2.2⟩ | exact⟨hk4.1.1,hk4.1.2.1,hk4.1.2.2,hk4.2.1.1,hk4.2.1.2.1,hk4.2.1.2.2,hk4.2.2.1,hk4.2.2.2⟩)
     (first | (go_at_call 56;refine (HQ.out).mono ?_;rintro e w7 ⟨i,rfl,hi,G8⟩;have HG8:=I (HG7.out.trans G8);have hk4:=ai (HG8.out.bk C1.out).c3 (ai (HG8.out.bk C2.out).c3 (HG8.out.bk C4.out).c2);have HBs:=I (HG8.out.bk C3.out);obtain⟨r0,r1,r2⟩:=HBs.out.c3;have fz:=HBs.out.frozen;have HII:=I hi;rw[HSM.out.neg] at HII;clear hi G8) | (go_at_call 53;refine (HM.out).mono ?_;rintro e w6 ⟨z,rfl,hz,G7⟩;have HG7:=I (HG6.out.trans G7);have hk3:=ai (HG7.out.bk C1.out).c3 (ai (HG7.out.bk C2.out).c3 (HG7.out.bk C4.out).c2);have HQ:=I (n5 w6 sm.neg sm.mag z _ _ (HSM.out.mag.gr HG7.out) hz BQ.out (Nat.mul_pos x.un_pos y.un_pos) BD.out);clear hz G7) | (go_at_call 54;refine ((HU2.out w4 HG5.out)).mono ?_;rintro e w5 ⟨v,rfl,hv,G6⟩;have HG6:=I (HG5.out.trans G6);have hk2:=ai (HG6.out.bk C1.out).c3 (ai (HG6.out.bk C2.out).c3 (HG6.out.bk C4.out).c2);have HM:=I (lg w5 u v _ _ (HNU.out.gr G6) hv L5.out L6.out);rw[vl,vl] at HM;clear hv G6) | (go_at_call 54;refine (HU1.out).mono ?_;rintro e w4 ⟨u,rfl,hu,G5⟩;have HG5:=I (HG0.out.trans G5);have hk1:=ai (HG5.out.bk C1.out).c3 (ai (HG5.out.bk C2.out).c3 (HG5.out.bk C4.out).c2);have HNU:=I hu;clear hu G5))) | fail
   go_wp2;refine pex ?_;refine ks HBs fun W5 B5 F5=>?_
   have d_:=B5.c3;refine bret Tryz.results20 ?_;exact⟨i,rfl,by rw[hE.out];exact HII.fr F5 HBs (ba _ _ _ _ _ _ _),(HG4.trans HG8).fr_at F5 (by rw[hPE.out];exact hpo.out)⟩
end
theorem wh (q:Q):(isg q.neg q.num == 0)=decide (q.num=0):=by
 unfold isg;by_cases h:q.num=0
 ·simp[h]
 ·rw[if_neg h,df h];cases q.neg<;>rfl
def fg (v:Int) (c:Q):Bool→List Tm→List Tm→List Tm
 | done,[],acc=>if done then acc else snoc acc v (ck c)
 | done,t::r,acc=>
  if t.1=v then fg v c true r (snoc acc t.1 (Q.add t.2 c))
  else if done=false∧v < t.1 then fg v c true r (snoc (snoc acc v (ck c)) t.1 t.2)
  else fg v c done r (snoc acc t.1 t.2)
def l5 (l:List Tm) (v:Int) (c:Q):List Tm:=fg v c false l []
theorem em (l:List Tm) (v:Int) (q:Q):(snoc l v q).length≤l.length+1:=by
 unfold snoc;split
 ·omega
 ·simp
theorem ol (v:Int) (c:Q):∀(l:List Tm) (d:Bool) (acc:List Tm),(fg v c d l acc).length≤acc.length+l.length+(if d then 0 else 1)
 | [],d,acc=>by
  unfold fg;cases d
  ·have:=em acc v (ck c);simp;omega
  ·simp
 | t::r,d,acc=>by
  unfold fg;split
  ·have h1:=ol v c r true (snoc acc t.1 (Q.add t.2 c));have h2:=em acc t.1 (Q.add t.2 c);simp at h1 ⊢;omega
  ·split
   ·rename_i h;have h1:=ol v c r true (snoc (snoc acc v (ck c)) t.1 t.2);have h2:=em acc v (ck c);have h3:=em (snoc acc v (ck c)) t.1 t.2;rw[h.1];simp at h1 ⊢;omega
   ·have h1:=ol v c r d (snoc acc t.1 t.2);have h2:=em acc t.1 t.2;cases d<;>simp at h1 ⊢<;>omega
theorem Q.Sm.b31 {q:Q} (h:q.Sm):Sl q.num∧Sl q.den:=⟨nt h.num dx,l7 (nt h.den dx)⟩
def addT:List Tm→List Tm→List Tm
 | acc,[]=>acc
 | acc,t::r=>addT (l5 acc t.1 t.2) r
theorem a47 (t:Tm):∀(l acc:List Tm),addT acc (l++[t])=l5 (addT acc l) t.1 t.2
 | [],acc=>rfl
 | s::l,acc=>a47 t l (l5 acc s.1 s.2)
def Fm.addR (f g:Fm):Fm:=⟨addT f.terms g.terms,Q.add f.const g.const⟩
def Good (t:Tm):Prop:=t.2.Sm∧t.2.Ok
def eo (c:Q):List Tm→List Tm→List Tm
 | acc,[]=>acc
 | acc,t::r=>eo c (snoc acc t.1 (Q.mul t.2 c)) r
def Fm.scaleR (f:Fm) (c:Q):Fm:=⟨eo c [] f.terms,Q.mul f.const c⟩
theorem Q.one_mul {c:Q} (h:c.Ok):Q.mul Q.one c=c:=by
 have e:=jw h;unfold Q.mul;have h1:(Q.one.neg != c.neg)=c.neg:=by cases c.neg<;>rfl
 have h2:Q.one.un=1:=rfl;rw[h1,h2,show Q.one.num=1 from rfl,Nat.one_mul,Nat.one_mul];exact e
theorem Q.zero_mul (c:Q):Q.mul Q.zero c=Q.zero:=by
 unfold Q.mul quot;rw[show Q.zero.num=0 from rfl,Nat.zero_mul,if_pos rfl]
theorem Q.add_zero {k:Q} (h:k.Ok):Q.add k Q.zero=k:=by
 have e:=jw h;have hs:=sg_ok h;unfold Q.add;have h2:Q.zero.un=1:=rfl;have h3:Q.zero.num=0:=rfl;have h4:Q.zero.sg=false:=rfl;rw[h2,h3,h4,hs,Nat.mul_one,Nat.zero_mul,Nat.mul_one];by_cases h0:k.num=0
 ·obtain⟨h5,h6⟩:=h.pos h0;obtain rfl:k=Q.zero:=by obtain⟨n,a,d⟩:=k;simp only at h0 h5 h6;subst h0 h5 h6;rfl
  decide
 ·have hd:decide (0 < k.num)=true:=dt om;have:sadd (k.neg&&decide (0 < k.num)) k.num (false&&decide (0 < 0)) 0=(k.neg,k.num):=by
   unfold sadd;cases hn:k.neg
   ·simp
   ·simp;omega
  rw[this];exact e
theorem y6 {v:Nat} {c:Q} (hc:c.Ok):∀(l acc:List Tm),(∀t∈l,t.1 < v∧t.2.num≠0)→fg v c false l acc=snoc (acc++l) v c
 | [],acc,_=>by
  unfold fg;rw[if_neg dx,lq hc,List.append_nil]
 | t::r,acc,h=>by
  have ⟨h1,h2⟩:=h t (mf ..);unfold fg;rw[if_neg om,if_neg (fun e=>by have:=e.2;omega),show snoc acc t.1 t.2=acc++[t] from if_neg h2,y6 hc r _ (fun s hs=>h s (List.mem_cons_of_mem _ hs)),List.append_assoc];rfl
theorem a81 {v:Nat} {c:Q} (hc:c.Ok) (l:List Tm) (h:∀t∈l,t.1 < v∧t.2.num≠0):l5 l v c=snoc l v c:=by
 unfold l5;rw[y6 hc l [] h,List.nil_append]
abbrev varF (v:Int):Fm:=⟨[(v,Q.one)],Q.zero⟩
theorem a7k {v:Int} {c:Q} (hc:c.Ok):Fm.scaleR (varF v) c=⟨snoc [] v c,Q.zero⟩:=by
 unfold Fm.scaleR eo eo;rw[Q.one_mul hc,Q.zero_mul]
theorem ag0 {ts:List Tm} {k c:Q} {v:Nat} (h:Fm.Small ⟨ts,k⟩ v) (hc:c.Tiny):Fm.addR ⟨ts,k⟩ (Fm.scaleR (varF v) c)=⟨snoc ts v c,k⟩:=by
 rw[a7k hc.ok];unfold Fm.addR;simp only;rw[Q.add_zero h.ok.const]
 congr 1
 by_cases h0:c.num=0
 ·rw[show snoc [] (v:Int) c=[] from if_pos h0,show snoc ts (v:Int) c=ts from if_pos h0];rfl
 ·rw[show snoc [] (v:Int) c=[((v:Int),c)] from if_neg h0];show l5 ts v c=_;exact a81 hc.ok ts fun t ht=>⟨(h.ok.each t ht).2.1,(h.ok.each t ht).2.2.1⟩
def Gm.put (x:Gm) (k:Nat) (f:Fm):Gm:=⟨x.inputs,x.units.set k f,x.outputs⟩
theorem Gm.put_ok {x:Gm} (h:x.Ok) {k:Nat} {f:Fm} (hf:f.Small (x.inputs+k)):(x.put k f).Ok:=by
 refine⟨h.i0,h.i9,by show (x.units.set k f).length≤4;rw[List.length_set];exact h.u9,h.o0,h.o9,fun j g hg=>?_,fun g hg=>?_⟩
 ·show g.Small (x.inputs+j);have hg':(x.units.set k f)[j]?=some g:=hg;by_cases hjk:k=j
  ·subst hjk;have hlt:k < x.units.length:=by have:=(gs hg').1;rw[List.length_set] at this;exact this
   rw[List.getElem?_set_self hlt] at hg';injection hg' with e;rw[← e];exact hf
  ·rw[List.getElem?_set_ne hjk] at hg';exact h.us j g hg'
 ·have:=h.os g hg;show g.Small (x.inputs+(x.units.set k f).length);rw[List.length_set];exact this
def Q.abs (q:Q):Q:=⟨false,q.num,q.den⟩
def boxQ:Nat→List Nat→(List Q×List Q)×List Nat
 | 0,r=>(([],[]),r)
 | n+1,r=>(((numQ r).1::(boxQ n (numQ (numQ r).2).2).1.1,Q.add (numQ r).1 (numQ (numQ r).2).1.abs::(boxQ n (numQ (numQ r).2).2).1.2),(boxQ n (numQ (numQ r).2).2).2)
theorem ace (n:Nat) (r:List Nat):boxQ (n+1) r=(((numQ r).1::(boxQ n (numQ (numQ r).2).2).1.1,Q.add (numQ r).1 (numQ (numQ r).2).1.abs::(boxQ n (numQ (numQ r).2).2).1.2),(boxQ n (numQ (numQ r).2).2).2):=rfl
structure Rgm where
 lo:List Q
 hi:List Q
 rows:List Fm
def kw (n:Nat) (r:List Nat):Rgm×List Nat:=
 (⟨(boxQ n r).1.1,(boxQ n r).1.2,(ja (nx 3 (boxQ n r).2).1 n (nx 3 (boxQ n r).2).2).1⟩,(ja (nx 3 (boxQ n r).2).1 n (nx 3 (boxQ n r).2).2).2)
structure Qr where
 g:Gm
 rg:Rgm
 goal:Fm
def am (r:List Nat):Qr×List Nat:=
 (⟨(dn r).1,(kw (dn r).1.inputs (dn r).2).1,(ep ((dn r).1.inputs+(dn r).1.units.length) (kw (dn r).1.inputs (dn r).2).2).1⟩,(ep ((dn r).1.inputs+(dn r).1.units.length) (kw (dn r).1.inputs (dn r).2).2).2)
def cf (q:Qr) (r:List Nat):Qr:=
 if (nx (q.g.units.length+1) r).1=q.g.units.length then ⟨q.g,q.rg,Fm.addR q.goal (Fm.scaleR (ep q.g.inputs (nx (q.g.units.length+1) r).2).1 (numQ (ep q.g.inputs (nx (q.g.units.length+1) r).2).2).1)⟩
 else ⟨q.g.put (nx (q.g.units.length+1) r).1 (ep (q.g.inputs+(nx (q.g.units.length+1) r).1) (nx (q.g.units.length+1) r).2).1,q.rg,q.goal⟩
structure Q.Qt (q:Q):Prop where
 ok:q.Ok
 un:q.un ∣ 4
 num:q.num≤4
theorem ajc:∀a,a < 9→∀b,b < 4→(a4z ((a:Nat) - 4) (denN b)).Ok∧4 % (a4z ((a:Nat) - 4) (denN b)).un=0∧(a4z ((a:Nat) - 4) (denN b)).num≤4:=by decide
theorem a18 (r:List Nat):(numQ r).1.Qt:=by
 obtain⟨h1,h2,h3⟩:=ajc _ (qh (n:=9) dx r) _ (qh (n:=4) dx (nx 9 r).2);exact⟨h1,Nat.dvd_of_mod_eq_zero h2,h3⟩
theorem a5p {P:Q→Prop} {l:List Tm} {v:Int} {c:Q} (h:∀t∈l,P t.2) (hc:P c):∀t∈snoc l v c,P t.2:=fun t ht=>by
 unfold snoc at ht;split at ht
 ·exact h t ht
 ·rcases List.mem_append.1 ht with h1 | h1
  ·exact h t h1
  ·rw[mj h1];exact hc
theorem wu:∀(y acc:List Tm),(addT acc y).length≤acc.length+y.length
 | [],acc=>by simp[addT]
 | s::y,acc=>by
  unfold addT;have h1:=wu y (l5 acc s.1 s.2);have h2:(l5 acc s.1 s.2).length≤acc.length+1:=by have:=ol s.1 s.2 acc false [];simpa [l5] using this
  rw[List.length_cons];omega
theorem tp {P:Q→Prop} {c:Q}:∀(y acc:List Tm),(∀t∈acc,P t.2)→(∀t∈y,P (Q.mul t.2 c))→∀t∈eo c acc y,P t.2
 | [],acc,h,_=>by simpa [eo] using h
 | s::y,acc,h,hy=>by
  unfold eo;exact tp y _ (a5p h (hy s (mf ..))) fun t ht=>hy t (List.mem_cons_of_mem _ ht)
theorem tm {c:Q}:∀(y acc:List Tm),(eo c acc y).length≤acc.length+y.length
 | [],acc=>by simp[eo]
 | s::y,acc=>by
  unfold eo;have h1:=tm (c:=c) y (snoc acc s.1 (Q.mul s.2 c));have h2:=em acc s.1 (Q.mul s.2 c);rw[List.length_cons];omega
structure Fm.Qt (f:Fm) (vars:Nat):Prop where
 len:f.terms.length≤vars
 each:∀t∈f.terms,t.2.Qt
 const:f.const.Qt
theorem a1t:∀(n v:Nat) (ts:List Tm) (r:List Nat),(∀t∈ts,t.2.Qt)→(∀t∈(formT n v ts r).1,t.2.Qt)∧(formT n v ts r).1.length≤ts.length+n
 | 0,v,ts,r,h=>⟨h,nr _⟩
 | n+1,v,ts,r,h=>by
  unfold formT;split
  ·obtain⟨h1,h2⟩:=a1t n (v+1) (snoc ts v (numQ (nx 3 r).2).1) (numQ (nx 3 r).2).2 (a5p h (a18 _));have:=em ts v (numQ (nx 3 r).2).1;exact⟨h1,by omega⟩
  ·obtain⟨h1,h2⟩:=a1t n (v+1) ts (nx 3 r).2 h;exact⟨h1,by omega⟩
theorem afc (vars:Nat) (r:List Nat):(ep vars r).1.Qt vars:=by
 obtain⟨h1,h2⟩:=a1t vars 0 [] (numQ r).2 (fun t h=>by cases h);exact⟨by simpa [ep] using h2,h1,a18 r⟩
abbrev iP (n:Int):PV:=.raw (.int .i64 n)
abbrev bP (b:Bool):PV:=.raw (.bool b)
def qC (q:Q):List PV:=[bP q.neg,.nat q.num,.nat q.den]
abbrev ratP (q:Q):PV:=.agg (qC q)
def tmC (t:Tm):List PV:=[iP t.1,bP t.2.neg,.nat t.2.num,.nat t.2.den]
abbrev bu (l:List Tm):PV:=.rows 138 4 [200] (l.map tmC)
def fmC (f:Fm):List PV:=[bu f.terms,bP f.const.neg,.nat f.const.num,.nat f.const.den]
abbrev fmP (f:Fm):PV:=.agg (fmC f)
abbrev b7 (l:List Fm):PV:=.rows 37 4 [138,200] (l.map fmC)
abbrev cz (l:List Q):PV:=.rows 35 3 [200] (l.map qC)
def gmC (g:Gm):List PV:=[iP g.inputs,b7 g.units,b7 g.outputs]
abbrev gmP (g:Gm):PV:=.agg (gmC g)
def rgC (r:Rgm):List PV:=[cz r.lo,cz r.hi,b7 r.rows]
abbrev rgP (r:Rgm):PV:=.agg (rgC r)
def rwC (r:Rw):List PV:=[iP r.kind,iP r.index,iP r.lo,iP r.hi]
abbrev rwP (r:Rw):PV:=.agg (rwC r)
def mmC (m:Mm):List PV:=[iP m.1.kind,iP m.1.index,iP m.1.lo,iP m.1.hi,bP m.2.neg,.nat m.2.num,.nat m.2.den]
abbrev mmsP (l:List Mm):PV:=.rows 98 7 [200] (l.map mmC)
theorem aj {α β:Type} {f:α→β} {l:List α} {i:Nat} {a:α} (h:l[i]?=some a):(l.map f)[i]?=some (f a):=by rw[List.getElem?_map,h];rfl
theorem y7 (r:Rw):PCalls Tryz.prog [] 275 [rwP r] (bP (r.lo == 0&&r.hi == 0)):=by
 refine PCalls.of [96] al a3b (by kernel_rfl) Tryz.func275 rfl rfl (fun D=>?_);refine a03 (aa4 al Y Y ?_);refine a03 (a2u ?_);refine ie al rfl ?_;cases h1:(r.lo == 0)
 ·refine fe rfl rfl rfl (fun hd=>qf rfl rfl rfl (congrArg some h1) hd) ?_;refine ie al rfl (a0r rfl ?_);refine aa2 ?_;exact⟨_,rfl,.pv _⟩
 ·refine fe rfl rfl rfl (fun hd=>qf rfl rfl rfl (congrArg some h1) hd) ?_;refine ie al rfl ?_;refine fe rfl rfl rfl (fun hd=>qf rfl rfl rfl rfl hd) ?_;refine ie al rfl (a0r rfl ?_);refine aa2 ?_;exact⟨_,rfl,.pv _⟩
section
attribute [local go_sem] Oper.semAt_some
def Q.cmpQ (x y:Q):Int:=if x.sign < y.sign then -1 else if y.sign < x.sign then 1 else cmpI (x.sg&&decide (0 < x.num*y.un)) (x.num*y.un) (y.sg&&decide (0 < y.num*x.un)) (y.num*x.un)
theorem a9j (w:World) (a b:Rv) (x y:Q) (ha:a.Is w x) (hb:b.Is w y) (h1:(ab x.num).length≤100000) (h2:(ab y.num).length≤100000) (h3:Sl x.un) (h4:Sl y.un):
  Calls Tryz.prog 127 #[a.v,b.v] w fun e w'=>e=.returned (.int .i64 (Q.cmpQ x y))∧Gr w w':=by
 have L1:=I h1;have L2:=I h2;have D1:=I (nt (l7 h3) (by decide:100000≤400000));have D2:=I (nt (l7 h4) (by decide:100000≤400000));have M1:=I (nt (oo h1 h4) (by decide:200000≤1000000));have M2:=I (nt (oo h2 h3) (by decide:200000≤1000000));have hE:Hid (Q.cmpQ x y=if x.sign < y.sign then -1 else if y.sign < x.sign then 1 else cmpI (x.sg&&decide (0 < x.num*y.un)) (x.num*y.un) (y.sg&&decide (0 < y.num*x.un)) (y.num*x.un)):=rfl;clear h1 h2 h3 h4;simp only[Rv.v];go_enter Tryz.func127,Tryz.ntmps127;go_wp2_with fail;refine nw2h fun W HG hB1 hB2=>?_
 have HA:=I (ha.gr HG);have HB:=I (hb.gr HG);clear ha hb;generalize w.heap.size+1=q at*;generalize w.heap.size=p at*;obtain⟨a0,a1,a2⟩:=hB1.c3;obtain⟨b0,b1,b2⟩:=hB2.c3;have HG0:Hid (Gr W W.drew):=(Gr.refl W).drew;have HX:Hid (∀W2,Gr W W2→Calls Tryz.prog 179 #[a.v,b.v] W2 fun e w'=>∃r1 r2:Iv,e=.returned (.tuple #[r1.v,r2.v])∧r1.Is w' (x.sg&&decide (0 < x.num*y.un)) (x.num*y.un)∧r2.Is w' (y.sg&&decide (0 < y.num*x.un)) (y.num*x.un)∧Gr W2 w'):=fun W2 G=>a3w W2 a b x y (HA.gr G) (HB.gr G) (nt L1 dx) (nt L2 dx) D1 D2
 have HS1:=I (vq W.drew a x (HA.gr HG0) (nt L1 dx));have HS2:Hid (∀W2,Gr W W2→Calls Tryz.prog 130 #[b.v] W2 fun e w'=>e=.returned (.int .i64 y.sign)∧Gr W2 w'):=fun W2 G=>vq W2 b y (HB.gr G) (nt L2 dx)
 simp only[Rv.v] at HS1 HS2 HX;generalize x.sign=sm at*;generalize y.sign=tn at*
 first | (go_region_held3 (fun W=>W.cell? ⟨p,0,none⟩=some (.bool a.neg)∧W.cell? ⟨p,1,none⟩=some a.num.v∧W.cell? ⟨p,2,none⟩=some a.den.v∧W.cell? ⟨q,0,none⟩=some (.bool b.neg)∧W.cell? ⟨q,1,none⟩=some b.num.v∧W.cell? ⟨q,2,none⟩=some b.den.v)
   (first | go_keep | exact⟨hk1.1.1,hk1.1.2.1,hk1.1.2.2,hk1.2.1,hk1.2.2.1,hk1.2.2.2⟩ | exact⟨hk2.1.1,hk2.1.2.1,hk2.1.2.2,hk2.2.1,hk2.2.2.1,hk2.2.2.2⟩)
   (first | (go_at_call 130;refine ((HS2.out w1 HG1.out)).mono ?_;rintro e w2 ⟨rfl,G2⟩;have HG2:=I (HG1.out.trans G2);have hk2:=ai (HG2.out.bk hB1.out).c3 (HG2.out.bk hB2.out).c3;clear G2) | (go_at_call 130;refine (HS1.out).mono ?_;rintro e w1 ⟨rfl,G1⟩;have HG1:=I (HG0.out.trans G1);have hk1:=ai (HG1.out.bk hB1.out).c3 (HG1.out.bk hB2.out).c3;clear G1))) | fail
 clear HS1 HS2 a0 a1 a2 b0 b1 b2 hk1;obtain⟨⟨a0,a1,a2⟩,b0,b1,b2⟩:=hk2;have HF:=I (HG.trans HG2);have HXX:=I (HX.out w2 HG2);by_cases h1:sm < tn
 ·rw[if_pos h1] at hE;have hd:decide (sm < tn)=true:=by simp[h1]
  have hn:(sm != tn)=true:=by simp;omega
  go_wp2;go_ret;exact⟨by rw[hE.out];rfl,HF.out⟩
 ·have hd:decide (sm < tn)=false:=by simp;omega
  rw[if_neg h1] at hE;by_cases h2:tn < sm
  ·rw[if_pos h2] at hE;have hn:(sm != tn)=true:=by simp;omega
   go_wp2;go_ret;exact⟨by rw[hE.out];rfl,HF.out⟩
  ·rw[if_neg h2] at hE;obtain rfl:sm=tn:=by omega
   have hn:(sm != sm)=false:=by simp
   generalize (x.sg&&decide (0 < x.num*y.un))=s1 at*;generalize (y.sg&&decide (0 < y.num*x.un))=s2 at*;generalize x.num*y.un=m1 at*;generalize y.num*x.un=m2 at*;go_wp2_with fail;go_at_call 179
   refine HXX.mono ?_;rintro e w3 ⟨x1,x2,rfl,hx1,hx2,G3⟩;obtain⟨E1,E2,G4⟩:=a1c w3 118 118 #[.bool x1.neg,x1.mag.v] #[.bool x2.neg,x2.mag.v];have HI:=I (af6 _ x1 x2 _ _ _ _ (hx1.gr G4) (hx2.gr G4) M1 M2);have HG4:=I ((HF.trans G3).trans G4);have x10_:=E1.c2;have x20_:=E2.c2;clear hx1 hx2 G3 G4 E1 E2 HXX a0 a1 a2 b0 b1 b2;simp only[Iv.v] at*;generalize cmpI s1 m1 s2 m2=c at*;go_wp2_with fail;go_at_call 180
   refine cm0 HI fun w4 G5=>?_
   have HG5:=I (HG4.trans G5)

   go_wp2;go_ret;exact⟨by rw[hE.out];rfl,HG5.out⟩
def Q.neg' (q:Q):Q:=ck q.flip
def Q.sub (a b:Q):Q:=Q.add a b.flip
def Q.div (a b:Q):Q:=quot (a.neg != b.neg) (a.num*b.un) (a.un*b.num)
theorem ae0 (w:World) (a b:Rv) (x y:Q) (ha:a.Is w x) (hb:b.Is w y) (h1:(ab x.num).length≤100000) (h2:(ab y.num).length≤100000) (h3:Two x y):
  Calls Tryz.prog 282 #[a.v,b.v] w fun e w'=>∃r:Rv,e=.returned r.v∧r.Is w' (Q.sub x y)∧Gr w w':=by
 have H1:=I h1;have H2:=I h2;have H3:=I h3;clear h1 h2 h3;have X_p_q:=dnx (w.heap.size) (w.heap.size+1);have X_r_q:=dnx (w.heap.size+1+1) (w.heap.size+1);simp only[Rv.v] at*;go_enter Tryz.func282,Tryz.ntmps282;go_upto_region 1 with fail;refine nw3h fun W HG D_p D_q D_r=>?_
 have HA:=I ((ha).gr HG);have HB:=I ((hb).gr HG);clear ha hb;have p_:=D_p.c3;have q_:=D_q.c3;have N_q:=dnl (w.heap.size) (w.heap.size+1);have N_r:=dnl (w.heap.size) (w.heap.size+1+1);generalize w.heap.size+1+1=r at*;generalize w.heap.size+1=q at*;have fz_q:=D_q.frozen;go_upto_region 2 with fail;refine ks D_q fun w1 B5 F5=>?_
 replace HA:=I (HA.tf' F5 D_q);replace HB:=I (HB.tf' F5 D_q);replace HG:=HG.fa F5 N_q;replace D_p:=F5.hb D_p X_p_q;replace D_r:=F5.hb D_r X_r_q;replace D_q:=B5;clear B5 F5 p_ q_ fz_q;have HF:Hid ((⟨!b.neg,b.num,b.den⟩:Rv).Is w1 y.flip):=⟨by rw[HB.neg];rfl,HB.num,HB.den⟩;have p_:=D_p.c3;have q_:=D_q.c3;go_wp2_with fail;refine cm1 (a62 w1 a ⟨!b.neg,b.num,b.den⟩ x y.flip HA HF H1 H2 H3) fun i w2 HI G=>?_
 replace D_r:=G.hb D_r;replace HG:=HG.tr G;clear p_ q_ HF;have z0_:=D_r.c3;have fz:=D_r.frozen;go_wp2;refine pex ?_;refine ks D_r fun W5 B5 F5=>?_
 have d_:=B5.c3;refine bret Tryz.results282 ?_;exact⟨i,rfl,HI.tf' F5 D_r,HG.fr_at F5 N_r⟩
end
structure XOk (w:World) (X:Nat→Prop) (T:List Nat):Prop where
 old:∀b,X b→b < w.heap.size
 ty:∀b cs t fr,X b→w.heap[b]?=some (.cells cs t fr)→t ∉ T
section
variable {w w':World} {X:Nat→Prop} {T:List Nat} {v:Value} {q:Q} {us:List Value}
theorem XOk.gr (h:XOk w X T) (G:Gr w w'):XOk w' X T:=⟨fun b hb=>nk (h.old b hb) G.size,fun b cs t fr hb hh=>h.ty b cs t fr hb (by rw[← G.below.block b (h.old b hb)];exact hh)⟩
theorem Sv.Ty.av {x:Sv} {e:Nat} (h:x.Ty w e) (hX:XOk w X T) (he:e∈T):x.Av X:=fun ad ha hn hx=>by
 obtain⟨cs,fr,hh⟩:=h ad ha hn;exact hX.ty _ cs e fr hx hh he
theorem a6k {x:Sv} {n:Nat} (h:x.Num w (ab n)) (hX:XOk w X T) (hu:200∈T):(PV.nat n).Rep w X x.v:=by
 rw[PV.Rep];exact⟨x,rfl,h,h.ty.av hX hu⟩
theorem nc (v:Value):(PV.raw v).Rep w X v:=by rw[PV.Rep]
theorem r7 {u:Value} (h:(PV.raw u).Rep w X v):v=u:=by rw[PV.Rep] at h;exact h
theorem rz {n:Nat} (h:(PV.nat n).Rep w X v):∃x:Sv,v=x.v∧x.Num w (ab n):=by
 rw[PV.Rep] at h;obtain⟨x,e,h,_⟩:=h;exact⟨x,e,h⟩
theorem q_to {r:Rv} (h:r.Is w q) (hX:XOk w X T) (hu:200∈T):PV.RepL w X (qC q) r.cs:=by
 unfold qC;refine PV.RepL.cons ?_ (PV.RepL.cons (a6k h.num hX hu) (PV.RepL.cons (a6k h.den hX hu) PV.RepL.nil));rw[← h.neg];exact nc _
theorem q_of (h:PV.RepL w X (qC q) us):∃r:Rv,us=r.cs∧r.Is w q:=by
 unfold qC at h;rw[PV.RepL] at h;obtain⟨u1,us1,rfl,h1,h⟩:=h;rw[PV.RepL] at h;obtain⟨u2,us2,rfl,h2,h⟩:=h;rw[PV.RepL] at h;obtain⟨u3,us3,rfl,h3,h⟩:=h;rw[PV.RepL] at h;subst h;obtain rfl:=r7 h1;obtain⟨x,rfl,hx⟩:=rz h2;obtain⟨y,rfl,hy⟩:=rz h3;exact⟨⟨q.neg,x,y⟩,rfl,rfl,hx,hy⟩
theorem a2o {r:Rv} (h:r.Is w q) (hX:XOk w X T) (hu:200∈T):(ratP q).Rep w X r.v:=by
 rw[PV.Rep];exact⟨r.cs,rfl,q_to h hX hu⟩
theorem a02 (h:(ratP q).Rep w X v):∃r:Rv,v=r.v∧r.Is w q:=by
 rw[PV.Rep] at h;obtain⟨us,rfl,h⟩:=h;obtain⟨r,rfl,hr⟩:=q_of h;exact⟨r,rfl,hr⟩
theorem acj {p:PV} (h:PV.RepL w X [p] us):∃u,us=[u]∧p.Rep w X u:=by
 rw[PV.RepL] at h;obtain⟨u,us',rfl,h1,h⟩:=h;rw[PV.RepL] at h;subst h;exact⟨u,rfl,h1⟩
theorem a44 {p q:PV} (h:PV.RepL w X [p,q] us):∃u v,us=[u,v]∧p.Rep w X u∧q.Rep w X v:=by
 rw[PV.RepL] at h;obtain⟨u,us',rfl,h1,h⟩:=h;obtain⟨v,rfl,h2⟩:=acj h;exact⟨u,v,rfl,h1,h2⟩
end
section
variable {P:Program} {f:FuncId} {x z:Q}
abbrev u32:Nat:=200
abbrev TU:List Nat:=[200]
abbrev TF:List Nat:=[138,200]
theorem ai9 (hc:gg P f=true) (h:∀(w:World) (a:Rv),a.Is w x→Calls P f #[a.v] w fun e w'=>∃r:Rv,e=.returned r.v∧r.Is w' z∧Gr w w'):PCalls P TU f [ratP x] (ratP z):=⟨hc,fun w X us h1 h2 h3=>by
 obtain⟨u,rfl,g⟩:=acj h3;obtain⟨a,rfl,ha⟩:=a02 g;exact (h w a ha).mono fun e w' ⟨r,he,hr,G⟩=>⟨_,he,a2o hr (XOk.gr ⟨h1,h2⟩ G) (List.mem_singleton.2 rfl),G⟩⟩
theorem aa9 {y:Q} (hc:gg P f=true) (h:∀(w:World) (a b:Rv),a.Is w x→b.Is w y→Calls P f #[a.v,b.v] w fun e w'=>∃r:Rv,e=.returned r.v∧r.Is w' z∧Gr w w'):PCalls P TU f [ratP x,ratP y] (ratP z):=⟨hc,fun w X us h1 h2 h3=>by
 obtain⟨u,v,rfl,g1,g2⟩:=a44 h3;obtain⟨a,rfl,ha⟩:=a02 g1;obtain⟨b,rfl,hb⟩:=a02 g2;exact (h w a b ha hb).mono fun e w' ⟨r,he,hr,G⟩=>⟨_,he,a2o hr (XOk.gr ⟨h1,h2⟩ G) (List.mem_singleton.2 rfl),G⟩⟩
theorem al9 {i:Value} (hc:gg P f=true) (h:∀(w:World),Calls P f #[i] w fun e w'=>∃r:Rv,e=.returned r.v∧r.Is w' z∧Gr w w'):PCalls P TU f [.raw i] (ratP z):=⟨hc,fun w X us h1 h2 h3=>by
 obtain⟨u,rfl,g⟩:=acj h3;obtain rfl:=r7 g;exact (h w).mono fun e w' ⟨r,he,hr,G⟩=>⟨_,he,a2o hr (XOk.gr ⟨h1,h2⟩ G) (List.mem_singleton.2 rfl),G⟩⟩
theorem ao5 {i j:Value} (hc:gg P f=true) (h:∀(w:World),Calls P f #[i,j] w fun e w'=>∃r:Rv,e=.returned (.tuple #[r.v,.int .i64 0])∧r.Is w' z∧Gr w w'):PCalls P TU f [.raw i,.raw j] (.tup [ratP z,iP 0]):=⟨hc,fun w X us h1 h2 h3=>by
 obtain⟨u,v,rfl,g1,g2⟩:=a44 h3;obtain rfl:=r7 g1;obtain rfl:=r7 g2;exact (h w).mono fun e w' ⟨r,he,hr,G⟩=>⟨_,he,by rw[PV.Rep];exact⟨_,rfl,PV.RepL.cons (a2o hr (XOk.gr ⟨h1,h2⟩ G) (List.mem_singleton.2 rfl)) (PV.RepL.cons (nc _) PV.RepL.nil)⟩,G⟩⟩
theorem a82 {z:Value} (hc:gg P f=true) (h:∀(w:World) (a:Rv),a.Is w x→Calls P f #[a.v] w fun e w'=>e=.returned z∧Gr w w'):PCalls P [] f [ratP x] (.raw z):=⟨hc,fun w X us h1 h2 h3=>by
 obtain⟨u,rfl,g⟩:=acj h3;obtain⟨a,rfl,ha⟩:=a02 g;exact (h w a ha).mono fun e w' ⟨he,G⟩=>⟨_,he,nc _,G⟩⟩
theorem al8 {y:Q} {z:Value} (hc:gg P f=true) (h:∀(w:World) (a b:Rv),a.Is w x→b.Is w y→Calls P f #[a.v,b.v] w fun e w'=>e=.returned z∧Gr w w'):PCalls P [] f [ratP x,ratP y] (.raw z):=⟨hc,fun w X us h1 h2 h3=>by
 obtain⟨u,v,rfl,g1,g2⟩:=a44 h3;obtain⟨a,rfl,ha⟩:=a02 g1;obtain⟨b,rfl,hb⟩:=a02 g2;exact (h w a b ha hb).mono fun e w' ⟨he,G⟩=>⟨_,he,nc _,G⟩⟩
end
theorem Q.Sm.num' {q:Q} (h:q.Sm):(ab q.num).length≤100000:=nt h.num dx
theorem Q.Sm.un' {q:Q} (h:q.Sm):Sl q.un:=nt h.den dx
theorem Q.Sm.den' {q:Q} (h:q.Sm):Sl q.den:=l7 h.un'
theorem aaf {q:Q} (h:q.Sm):PCalls Tryz.prog [] 130 [ratP q] (iP q.sign):=a82 (by kernel_rfl) fun w a ha=>vq w a q ha (nt h.num dx)
theorem aaq {q:Q} (h:q.Sm):PCalls Tryz.prog TU 177 [ratP q] (ratP (ck q)):=ai9 (by kernel_rfl) fun w a ha=>zf w a q ha (nt h.num dx) h.un'
theorem ae9 {x y:Q} (h:x.Sm) (k:y.Sm):PCalls Tryz.prog TU 230 [ratP x,ratP y] (ratP (Q.mul x y)):=aa9 (by kernel_rfl) fun w a b ha hb=>adh w a b x y ha hb h.num' k.num' ⟨h.un',k.un'⟩
theorem ao7 {x y:Q} (h:x.Sm) (k:y.Sm):PCalls Tryz.prog TU 282 [ratP x,ratP y] (ratP (Q.sub x y)):=aa9 (by kernel_rfl) fun w a b ha hb=>ae0 w a b x y ha hb h.num' k.num' ⟨h.un',k.un'⟩
theorem p_of (x:Int) (h1:-1000000000≤x) (h2:x≤1000000000):PCalls Tryz.prog TU 188 [iP x] (ratP (ofQ x)):=al9 (by kernel_rfl) fun w=>ahq w x h1 h2
theorem lz {q:Q} (h:q.Sm) (hq:q.Ok):PCalls Tryz.prog [] 126 [ratP q] (bP true):=a82 (by kernel_rfl) fun w a ha=>a7n w a q ha hq (nt h.num dx) h.un'
theorem aoa {x y:Q} (h:x.Sm) (k:y.Sm):PCalls Tryz.prog [] 127 [ratP x,ratP y] (iP (Q.cmpQ x y)):=al8 (by kernel_rfl) fun w a b ha hb=>a9j w a b x y ha hb h.num' k.num' h.un' k.un'
structure Fm.Lo (f:Fm):Prop where
 num:∀t∈f.terms,t.2.Lo
 const:f.const.Lo
 len:f.terms.length≤400
theorem iz {q:Q} (h:q.Sm):PCalls Tryz.prog [] 27 [ratP q] (iP (isg q.neg q.num)):=a82 (by kernel_rfl) fun w a ha=>a2i w a q ha (nt h.num dx)
theorem kz {q:Q} (h:q.Sm):PCalls Tryz.prog TU 124 [ratP q] (ratP (ck q)):=ai9 (by kernel_rfl) fun w a ha=>a01 w a q ha h.num' h.den'
theorem a7y {x y:Q} (h:x.Sm) (k:y.Sm) (hx:x.Ok) (hy:y.Ok):PCalls Tryz.prog TU 20 [ratP x,ratP y] (ratP (Q.add x y)):=aa9 (by kernel_rfl) fun w a b ha hb=>aa1 w a b x y ha hb hx hy h.num' k.num' h.den' k.den'
theorem adq {x y:Q} (h:x.Sm) (k:y.Sm):PCalls Tryz.prog TU 69 [ratP x,ratP y] (ratP (Q.mul x y)):=aa9 (by kernel_rfl) fun w a b ha hb=>aa0 w a b x y ha hb h.num' k.num' h.den' k.den'
theorem r_of (x:Int) (h1:-1000000000≤x) (h2:x≤1000000000):PCalls Tryz.prog TU 61 [iP x] (ratP (ofQ x)):=al9 (by kernel_rfl) fun w=>adx w x h1 h2
theorem akz (a:Int) (b:Nat) (h1:-1000000000≤a) (h2:a≤1000000000) (h3:0 < b) (h4:b≤1000000000):PCalls Tryz.prog TU 19 [iP a,iP b] (.tup [ratP (quot (decide (a < 0)) a.natAbs b),iP 0]):=ao5 (by kernel_rfl) fun w=>af9 w a b h1 h2 h3 h4
theorem nf {q:Q} (h:q.Sm) (hq:q.Ok):PCalls Tryz.prog [] 142 [ratP q] (bP true):=a82 (by kernel_rfl) fun w a ha=>a4q w a q ha hq h.num' h.den'
theorem uq {x y:Q}:PCalls Tryz.prog [] 151 [ratP x,ratP y] (bP (decide (x=y))):=al8 (by kernel_rfl) fun w a b ha hb=>a2j w a b x y ha hb
theorem ajh {q:Q} (h:q.Sm):q.flip.Sm:=⟨h.num,h.den⟩
theorem ai0 {q:Q} (h:q.Sm):PCalls Tryz.prog TU 66 [ratP q] (ratP q.neg'):=by
 refine pc [35] (by kernel_rfl) Tryz.func66 Y Y (fun D=>?_);refine pa Y Y (pa Y Y (pr Y ?_));refine rc (kz (ajh h)) Y Y Y Y Y Y Y Y (rn Y ?_);exact pt (zl Y Y)
theorem amc {q:Q} (h:q.Sm):q.neg'.Sm:=by
 have:=(show Q.Bd q.flip 10000 10000 from ⟨h.num,h.den⟩).canon;exact⟨this.num,this.den⟩
theorem adp {x y:Q} (h:x.Sm) (k:y.Sm) (hx:x.Ok) (hy:y.neg'.Ok):PCalls Tryz.prog TU 28 [ratP x,ratP y] (ratP (Q.add x y.neg')):=by
 refine pc [35] (by kernel_rfl) Tryz.func28 Y Y (fun D=>?_);refine pa Y Y (pr Y ?_);refine rc (ai0 k) Y Y Y Y Y Y Y Y ?_;refine rc (a7y h (amc k) hx hy) Y Y Y Y Y Y Y Y (rn (by kernel_rfl) ?_);exact pt (zl Y Y)
theorem a4o {x y:Q} (h:x.Sm) (k:y.Sm) (hx:x.Ok) (hy:y.neg'.Ok) (hs:(Q.add x y.neg').Sm):PCalls Tryz.prog TU 123 [ratP x,ratP y] (iP (isg (Q.add x y.neg').neg (Q.add x y.neg').num)):=by
 refine pc [35] (by kernel_rfl) Tryz.func123 Y Y (fun D=>?_);refine pa Y Y (pr Y ?_);refine rc (adp h k hx hy) Y Y Y Y Y Y Y Y ?_;refine rc (iz hs) Y Y Y Y Y Y Y Y (rn Y ?_);exact pt (zl Y Y)
def minR (x y:Q):Q:=bif decide (isg (Q.add x y.neg').neg (Q.add x y.neg').num≤0) then ck x else ck y
theorem aky {x y:Q} (h:x.Sm) (k:y.Sm) (hx:x.Ok) (hy:y.neg'.Ok) (hs:(Q.add x y.neg').Sm):PCalls Tryz.prog TU 65 [ratP x,ratP y] (ratP (minR x y)):=by
 refine pc [35] (by kernel_rfl) Tryz.func65 Y Y (fun D=>?_);refine pa Y Y (ps (pr Y ?_));refine rc (a4o h k hx hy hs) Y Y Y Y Y Y Y Y ?_;refine ro Y Y Y (fun hd=>qf Y Y Y Y hd) Y (rn Y ?_);refine pif Y (fun e=>?_) (fun e=>pk ?_)
 ·refine pr Y ?_;refine rc (kz h) Y Y Y Y Y Y Y Y (rn Y ?_);exact pt (zl Y (by unfold minR;rw[e];rfl))
 ·refine pr Y ?_;refine rc (kz k) Y Y Y Y Y Y Y Y (rn Y ?_);exact pt (zl Y (by unfold minR;rw[e];rfl))
structure Dc where
 kind:Int
 index:Int
 at_:Q
 deriving DecidableEq,Inhabited
structure Lm where
 unit:Int
 upper:Bool
 value:Q
 proof:List Mm
 deriving Inhabited
structure Sc where
 q:Qr
 path:List Dc
 lems:List Lm
def qyC (q:Qr):List PV:=[iP q.g.inputs,b7 q.g.units,b7 q.g.outputs,cz q.rg.lo,cz q.rg.hi,b7 q.rg.rows,bu q.goal.terms,bP q.goal.const.neg,.nat q.goal.const.num,.nat q.goal.const.den]
abbrev qyP (q:Qr):PV:=.agg (qyC q)
def dcC (d:Dc):List PV:=[iP d.kind,iP d.index,bP d.at_.neg,.nat d.at_.num,.nat d.at_.den]
abbrev dcP (d:Dc):PV:=.agg (dcC d)
abbrev dcsP (l:List Dc):PV:=.rows 42 5 [200] (l.map dcC)
def lmC (m:Lm):List PV:=[iP m.unit,bP m.upper,bP m.value.neg,.nat m.value.num,.nat m.value.den,mmsP m.proof]
abbrev lmP (m:Lm):PV:=.agg (lmC m)
abbrev lmsP (l:List Lm):PV:=.rows 100 6 [200,98] (l.map lmC)
def scC (s:Sc):List PV:=[iP s.q.g.inputs,b7 s.q.g.units,b7 s.q.g.outputs,cz s.q.rg.lo,cz s.q.rg.hi,b7 s.q.rg.rows,bu s.q.goal.terms,bP s.q.goal.const.neg,.nat s.q.goal.const.num,.nat s.q.goal.const.den,dcsP s.path,lmsP s.lems]
abbrev scP (s:Sc):PV:=.agg (scC s)
section
variable {P:Program} {f:FuncId}
theorem ao4 {x z:Nat} (hc:gg P f=true) (h:∀(w:World) (a:Sv),a.Num w (ab x)→Calls P f #[a.v] w fun e w'=>∃r:Sv,e=.returned r.v∧r.Num w' (ab z)∧Gr w w'):PCalls P TU f [.nat x] (.nat z):=⟨hc,fun w X us h1 h2 h3=>by
 obtain⟨u,rfl,g⟩:=acj h3;obtain⟨a,rfl,ha⟩:=rz g;exact (h w a ha).mono fun e w' ⟨r,he,hr,G⟩=>⟨_,he,a6k hr (XOk.gr ⟨h1,h2⟩ G) (List.mem_singleton.2 rfl),G⟩⟩
theorem ao3 {x y z:Nat} (hc:gg P f=true) (h:∀(w:World) (a b:Sv),a.Num w (ab x)→b.Num w (ab y)→Calls P f #[a.v,b.v] w fun e w'=>∃r:Sv,e=.returned r.v∧r.Num w' (ab z)∧Gr w w'):PCalls P TU f [.nat x,.nat y] (.nat z):=⟨hc,fun w X us h1 h2 h3=>by
 obtain⟨u,v,rfl,g1,g2⟩:=a44 h3;obtain⟨a,rfl,ha⟩:=rz g1;obtain⟨b,rfl,hb⟩:=rz g2;exact (h w a b ha hb).mono fun e w' ⟨r,he,hr,G⟩=>⟨_,he,a6k hr (XOk.gr ⟨h1,h2⟩ G) (List.mem_singleton.2 rfl),G⟩⟩
end
theorem aor {w:World} {X:Nat→Prop} {p q r:PV} {us:List Value} (h:PV.RepL w X [p,q,r] us):∃u v x,us=[u,v,x]∧p.Rep w X u∧q.Rep w X v∧r.Rep w X x:=by
 rw[PV.RepL] at h;obtain⟨u,us',rfl,h1,h⟩:=h;obtain⟨v,x,rfl,h2,h3⟩:=a44 h;exact⟨u,v,x,rfl,h1,h2,h3⟩
theorem akw {m:Nat} (hm:Sl m):PCalls Tryz.prog TU 54 [.nat m] (.nat (tv m)):=ao4 (by kernel_rfl) fun w a ha=>ko w a m ha (nt hm dx)
theorem agf {a b:Nat} (ha:Sl a) (hb:Sl b):PCalls Tryz.prog TU 53 [.nat a,.nat b] (.nat (a*b)):=ao3 (by kernel_rfl) fun w x y hx hy=>by
 have h:=lg w x y _ _ hx hy (nt ha dx) (nt hb dx);rw[vl,vl] at h;exact h
theorem aku {s:Bool} {a b:Nat} (ha:(ab a).length≤300000) (hb0:0 < b) (hb:(ab b).length≤300000):PCalls Tryz.prog TU 56 [bP s,.nat a,.nat b] (ratP (quot s a b)):=⟨by kernel_rfl,fun w X us h1 h2 h3=>by
 obtain⟨u,v,x,rfl,g1,g2,g3⟩:=aor h3;obtain rfl:=r7 g1;obtain⟨x,rfl,hx⟩:=rz g2;obtain⟨y,rfl,hy⟩:=rz g3;exact (n5 w s x y a b hx hy ha hb0 hb).mono fun e w' ⟨r,he,hr,G⟩=>⟨_,he,a2o hr (XOk.gr ⟨h1,h2⟩ G) (List.mem_singleton.2 rfl),G⟩⟩
set_option maxRecDepth 20000 in
theorem ao1 {x y:Q} (h:x.Sm) (k:y.Sm) (h0:y.num≠0):PCalls Tryz.prog TU 171 [ratP x,ratP y] (.tup [ratP (Q.div x y),iP 0]):=by
 refine pc [35] (by kernel_rfl) Tryz.func171 Y Y (fun D=>?_);have hx:=h.b31;have hy:=k.b31;have e1:tv y.den=y.un:=rfl;have e2:tv x.den=x.un:=rfl;have hs:(isg y.neg y.num == 0)=false:=by unfold isg;rw[if_neg h0];cases y.neg<;>rfl
 refine pa Y Y (ps (pr Y ?_));refine rc (iz k) Y Y Y Y Y Y Y Y ?_;refine ro Y Y Y (fun hd=>qf Y Y Y (congrArg some hs) hd) Y (rn Y ?_);refine pif Y (fun e=>by cases e) (fun e=>pk ?_);refine pr Y ?_;refine rbe (x.neg != y.neg) Y Y Y Y Y Y (.inr ⟨rfl,rfl⟩) Y ?_;refine rc (akw hy.2) Y Y Y Y Y Y Y Y ?_;refine rc (agf hx.1 (show Sl (tv y.den) from nt k.den dx)) Y Y Y Y Y Y Y Y ?_;refine rc (akw hx.2) Y Y Y Y Y Y Y Y ?_;refine rc (agf (show Sl (tv x.den) from nt h.den dx) hy.1) Y Y Y Y Y Y Y Y ?_;have l1:(ab x.un).length≤10000:=h.den;have l2:(ab y.un).length≤10000:=k.den;refine rc (aku (nt (bh _ _) (by have:=h.num;have:=k.den;have:(ab (tv y.den)).length≤10000:=k.den;omega)) (Nat.mul_pos x.un_pos (Nat.pos_of_ne_zero h0)) (nt (bh _ _) (by have:=k.num;have:(ab (tv x.den)).length≤10000:=h.den;omega))) Y Y Y Y Y Y Y Y (rn (by kernel_rfl) ?_);exact pt (zl Y Y)
structure Q.S (s:Nat) (q:Q):Prop where
 num:(ab q.num).length≤s
 den:(ab q.un).length≤s
 ok:q.Ok
theorem Q.S.up {s t:Nat} {q:Q} (h:q.S s) (ht:s≤t):q.S t:=⟨nt h.num ht,nt h.den ht,h.ok⟩
theorem Q.S.sm {s:Nat} {q:Q} (h:q.S s) (ht:s≤10000):q.Sm:=⟨nt h.num ht,nt h.den ht⟩
theorem Q.S.lo {s:Nat} {q:Q} (h:q.S s) (ht:s≤10000):q.Lo:=⟨nt h.num ht,nt h.den ht⟩
theorem Q.S.pos {s:Nat} {q:Q} (h:q.S s):1≤s:=nt (abi q.un_pos) h.den
theorem a65 (b:Bool) {n d s:Nat} (hn:(ab n).length≤s) (hd0:0 < d) (hd:(ab d).length≤s):(quot b n d).S s:=⟨(xz b hn hd0 hd).num,(xz b hn hd0 hd).den,xy b n hd0⟩
theorem Q.S.canon {s:Nat} {q:Q} (h:q.S s):ck q=q:=lq h.ok
theorem Q.S.mul {s t:Nat} {x y:Q} (h:x.S s) (k:y.S t):(Q.mul x y).S (s+t):=
 a65 _ (nt (bh _ _) (Nat.add_le_add h.num k.num)) (Nat.mul_pos x.un_pos y.un_pos) (nt (bh _ _) (Nat.add_le_add h.den k.den))
theorem Q.S.div {s t:Nat} {x y:Q} (h:x.S s) (k:y.S t) (h0:y.num≠0):(Q.div x y).S (s+t):=
 a65 _ (nt (bh _ _) (Nat.add_le_add h.num k.den)) (Nat.mul_pos x.un_pos (Nat.pos_of_ne_zero h0)) (nt (bh _ _) (Nat.add_le_add h.den k.num))
theorem Q.S.add {s t:Nat} {x y:Q} (h:x.S s) (k:y.S t):(Q.add x y).S (s+t+1):=by
 have h1:(ab (x.num*y.un)).length≤s+t:=nt (bh _ _) (Nat.add_le_add h.num k.den);have h2:(ab (y.num*x.un)).length≤s+t:=nt (bh _ _) (by have:=k.num;have:=h.den;omega);refine a65 _ ?_ (Nat.mul_pos x.un_pos y.un_pos) (nt (bh _ _) (by have:=h.den;have:=k.den;omega));unfold sadd;split
 ·exact ee _ _ _ h1 h2
 ·split
  ·exact nt (aw (Nat.sub_le _ _)) om
  ·exact nt (aw (Nat.sub_le _ _)) om
theorem Q.S.neg {s:Nat} {q:Q} (h:q.S s):q.neg'.S s:=a65 (!q.neg) h.num q.un_pos h.den
theorem a0j {q:Q} (h1:q.num < B32) (h2:q.un < B32) (h:q.Ok):q.S 1:=⟨bb (k:=1) (by rw[Nat.pow_one];exact h1),bb (k:=1) (by rw[Nat.pow_one];exact h2),h⟩
theorem sz_zero:Q.zero.S 1:=a0j dx dx dx
theorem sz_one:Q.one.S 1:=a0j dx dx dx
theorem ez:Q.mone.S 1:=a0j dx dx dx
theorem Q.zero_of {q:Q} (h:q.Ok) (h0:q.num=0):q=Q.zero:=by
 obtain⟨n,a,d⟩:=q;obtain⟨h1,h2⟩:=h.pos h0;simp only at h0 h1 h2;rw[h0,h1,h2]
theorem Q.add_ok (x y:Q):(Q.add x y).Ok:=xy _ _ (Nat.mul_pos x.un_pos y.un_pos)
theorem Q.mul_ok (x y:Q):(Q.mul x y).Ok:=xy _ _ (Nat.mul_pos x.un_pos y.un_pos)
theorem ahi:Q.zero.un=1:=rfl
theorem Q.zadd {x:Q} (h:x.Ok):Q.add Q.zero x=x:=by
 have hs:=Q.sg_ok h;unfold Q.add;simp only[ahi,Nat.one_mul,Nat.mul_one,Nat.zero_mul];have e1:Q.zero.sg=false:=rfl;rw[e1,hs];simp only[Bool.false_and];have:sadd false 0 (x.neg&&decide (0 < x.num)) x.num=(x.neg,x.num):=by
  have h2:(x.neg&&decide (0 < x.num))=x.neg:=by rw[← hs];unfold Q.sg;cases x.neg<;>simp
  rw[h2];unfold sadd;cases hn:x.neg with
  | false=>simp
  | true=>
   have:0 < x.num:=by
    rcases Nat.eq_zero_or_pos x.num with h3 | h3
    ·have:=(h.pos h3).1;rw[hn] at this;cases this
    ·exact h3
   simp[this]
 rw[this];exact jw h
theorem a98 (na:Bool) (a:Nat) (nb:Bool) (b:Nat) (ha:a=0→na=false) (hb:b=0→nb=false):sadd na a nb b=sadd nb b na a:=by
 unfold sadd;cases na<;>cases nb<;>simp[Nat.add_comm]
 ·rcases Nat.lt_trichotomy a b with h | h | h
  ·simp[h,Nat.not_lt_of_gt h,Nat.sub_pos_of_lt h]
  ·subst h;simp
  ·simp[h,Nat.not_lt_of_gt h]
 ·rcases Nat.lt_trichotomy a b with h | h | h
  ·simp[h,Nat.not_lt_of_gt h]
  ·subst h;simp
  ·simp[h,Nat.not_lt_of_gt h,Nat.sub_pos_of_lt h]
theorem Q.addc (x y:Q):Q.add x y=Q.add y x:=by
 unfold Q.add;simp only;rw[a98 _ _ _ _ (fun h=>by simp[h]) (fun h=>by simp[h]),Nat.mul_comm x.un]
theorem Q.addz {x:Q} (h:x.Ok):Q.add x Q.zero=x:=by rw[Q.addc,Q.zadd h]
theorem Q.zmul (x:Q):Q.mul Q.zero x=Q.zero:=by
 unfold Q.mul quot;simp
def cfL:List Tm→Int→Q
 | [],_=>Q.zero
 | t::r,v=>if t.1=v then t.2 else cfL r v
abbrev Srt' (l:List Tm):Prop:=l.Pairwise fun a b=>a.1 < b.1
abbrev Nz (l:List Tm):Prop:=∀t∈l,t.2.Ok∧t.2.num≠0
theorem f6:∀{l:List Tm} {v:Int},(∀t∈l,t.1≠v)→cfL l v=Q.zero
 | [],v,_=>rfl
 | t::r,v,h=>by
  rw[cfL,if_neg (h t (mf ..))];exact f6 fun u hu=>h u (List.mem_cons_of_mem _ hu)
theorem a55:∀{l:List Tm} {t:Tm},Srt' l→t∈l→cfL l t.1=t.2
 | u::r,t,hs,h=>by
  rw[Srt',List.pairwise_cons] at hs;rw[cfL];rcases List.mem_cons.1 h with e | e
  ·subst e;rw[if_pos rfl]
  ·rw[if_neg (by have:=hs.1 t e;omega)];exact a55 hs.2 e
theorem a40:∀{l:List Tm} {v:Int},Nz l→(cfL l v).Ok
 | [],v,_=>(by decide:Q.zero.Ok)
 | t::r,v,h=>by
  rw[cfL];split
  ·exact (h t (mf ..)).1
  ·exact a40 fun u hu=>h u (List.mem_cons_of_mem _ hu)
theorem zd:∀{l r:List Tm} {v:Int},(∀t∈l,t.1≠v)→cfL (l++r) v=cfL r v
 | [],r,v,_=>rfl
 | t::l,r,v,h=>by
  rw[List.cons_append,cfL,if_neg (h t (mf ..))];exact zd fun u hu=>h u (List.mem_cons_of_mem _ hu)
theorem a56:∀{l r:List Tm},Srt' l→Srt' r→Nz l→Nz r→(∀v,cfL l v=cfL r v)→l=r
 | [],[],_,_,_,_,_=>rfl
 | [],u::r,_,_,_,hn,h=>by
  have:=h u.1;rw[cfL,cfL,if_pos rfl] at this;have h1:=(hn u (mf ..)).2;rw[← this] at h1;exact absurd rfl h1
 | t::l,[],_,_,hn,_,h=>by
  have:=h t.1;rw[cfL,cfL,if_pos rfl] at this;have h1:=(hn t (mf ..)).2;rw[this] at h1;exact absurd rfl h1
 | t::l,u::r,hl,hr,hn,hm,h=>by
  rw[Srt',List.pairwise_cons] at hl hr;have ht:=(hn t (mf ..)).2;have hu:=(hm u (mf ..)).2;have e:t.1=u.1:=by
   rcases Int.lt_trichotomy t.1 u.1 with g | g | g
   ·have:=h t.1;rw[cfL,if_pos rfl,f6 (l:=u::r) (fun x hx=>by
     rcases List.mem_cons.1 hx with e | e
     ·subst e;omega
     ·have:=hr.1 x e;omega)] at this
    rw[this] at ht;exact absurd rfl ht
   ·exact g
   ·have:=h u.1;rw[f6 (l:=t::l) (fun x hx=>by
     rcases List.mem_cons.1 hx with e | e
     ·subst e;omega
     ·have:=hl.1 x e;omega),cfL,if_pos rfl] at this
    rw[← this] at hu;exact absurd rfl hu
  have e2:t.2=u.2:=by
   have:=h t.1;rw[cfL,if_pos rfl,cfL,if_pos e.symm] at this;exact this
  have e3:t=u:=Prod.ext e e2;subst e3;rw[a56 hl.2 hr.2 (fun x hx=>hn x (List.mem_cons_of_mem _ hx)) (fun x hx=>hm x (List.mem_cons_of_mem _ hx)) fun v=>by
   by_cases hv:t.1=v
   ·rw[f6 fun x hx=>by have:=hl.1 x hx;omega,f6 fun x hx=>by have:=hr.1 x hx;omega]
   ·have:=h v;rwa [cfL,if_neg hv,cfL,if_neg hv] at this]
def one' (v:Int) (c:Q):List Tm:=if c.num=0 then [] else [(v,c)]
theorem jj (l:List Tm) (v:Int) (c:Q):snoc l v c=l++one' v c:=by unfold snoc one';split<;>simp
theorem rf (l:List Tm) (v:Int) (c:Q) (h:c.Ok):putT l v c=l++one' v c:=by rw[aa5 l v h,jj]
theorem a34 {v:Int} {c:Q} (h:c.Ok):Nz (one' v c):=fun t ht=>by
 unfold one' at ht;split at ht
 ·cases ht
 ·rename_i h0;rw[mj ht];exact⟨h,h0⟩
theorem gp {v:Int} {c:Q}:∀t∈one' v c,t.1=v:=fun t ht=>by
 unfold one' at ht;split at ht
 ·cases ht
 ·rw[mj ht]
theorem agx {v:Int} {c:Q} (h:c.Ok):cfL (one' v c) v=c:=by
 unfold one';split
 ·rename_i h0;rw[Q.zero_of h h0];rfl
 ·rw[cfL,if_pos rfl]
theorem ab1 {v:Int} {c:Q}:Srt' (one' v c):=by unfold one';split<;>simp[Srt']
def insT (v:Int) (c:Q):List Tm→List Tm
 | []=>one' v c
 | t::r=>if t.1=v then one' v (Q.add t.2 c)++r else if v < t.1 then one' v c++t::r else t::insT v c r
theorem a16 {t:Tm} (h:t.2.num≠0):one' t.1 t.2=[t]:=by unfold one';rw[if_neg h]
theorem pz {v:Int} {c:Q}:∀(l acc:List Tm),Nz l→(∀t∈l,t.1≠v)→fg v c true l acc=acc++l
 | [],acc,_,_=>by simp[fg]
 | t::r,acc,hn,hv=>by
  rw[fg,if_neg (hv t (mf ..)),if_neg (by simp),jj,a16 (hn t (mf ..)).2,pz r _ (fun x hx=>hn x (List.mem_cons_of_mem _ hx)) fun x hx=>hv x (List.mem_cons_of_mem _ hx)];simp
theorem tu {v:Int} {c:Q} (hc:c.Ok):∀(l acc:List Tm),Srt' l→Nz l→fg v c false l acc=acc++insT v c l
 | [],acc,_,_=>by rw[fg,if_neg (by simp),lq hc,jj,insT]
 | t::r,acc,hs,hn=>by
  rw[Srt',List.pairwise_cons] at hs;have hr:Nz r:=fun x hx=>hn x (List.mem_cons_of_mem _ hx)
  rw[fg,insT];by_cases h1:t.1=v
  ·rw[if_pos h1,if_pos h1,jj,pz r _ hr (fun x hx=>by have:=hs.1 x hx;omega),h1,List.append_assoc]
  ·rw[if_neg h1,if_neg h1];by_cases h2:v < t.1
   ·rw[if_pos ⟨rfl,h2⟩,if_pos h2,lq hc,jj,jj,a16 (hn t (mf ..)).2,pz r _ hr (fun x hx=>by have:=hs.1 x hx;omega)];simp
   ·rw[if_neg (fun h=>h2 h.2),if_neg h2,jj,a16 (hn t (mf ..)).2,tu hc r _ hs.2 hr];simp
theorem a6u {v:Int} {c:Q}:∀{l:List Tm} {t:Tm},t∈insT v c l→t.1=v∨t∈l
 | [],t,h=>.inl (gp t h)
 | u::r,t,h=>by
  rw[insT] at h;split at h
  ·rcases List.mem_append.1 h with h | h
   ·exact .inl (gp t h)
   ·exact .inr (List.mem_cons_of_mem _ h)
  ·split at h
   ·rcases List.mem_append.1 h with h | h
    ·exact .inl (gp t h)
    ·exact .inr h
   ·rcases List.mem_cons.1 h with e | e
    ·exact .inr (e▸mf ..)
    ·exact (a6u e).imp id (List.mem_cons_of_mem _)
theorem a4x {v:Int} {c:Q} (hc:c.Ok):∀{l:List Tm},Nz l→Nz (insT v c l)
 | [],h=>a34 hc
 | u::r,h=>by
  have hr:Nz r:=fun x hx=>h x (List.mem_cons_of_mem _ hx)
  rw[insT];split
  ·intro t ht;rcases List.mem_append.1 ht with ht | ht
   ·exact a34 (Q.add_ok ..) t ht
   ·exact hr t ht
  ·split
   ·intro t ht;rcases List.mem_append.1 ht with ht | ht
    ·exact a34 hc t ht
    ·exact h t ht
   ·intro t ht;rcases List.mem_cons.1 ht with e | e
    ·exact e▸h u (mf ..)
    ·exact a4x hc hr t e
theorem m9 {v:Int} {c:Q} {r:List Tm} (h:Srt' r) (hv:∀t∈r,v < t.1):Srt' (one' v c++r):=by
 rw[Srt',List.pairwise_append];exact⟨ab1,h,fun a ha b hb=>by rw[gp a ha];exact hv b hb⟩
theorem a1n {v:Int} {c:Q}:∀{l:List Tm},Srt' l→Srt' (insT v c l)
 | [],h=>ab1
 | u::r,h=>by
  rw[Srt',List.pairwise_cons] at h;rw[insT];split
  ·rename_i e
   exact m9 h.2 fun t ht=>by have:=h.1 t ht;omega
  ·split
   ·rename_i e
    exact m9 (List.pairwise_cons.2 h) fun t ht=>by
     rcases List.mem_cons.1 ht with g | g
     ·rw[g];exact e
     ·have:=h.1 t g;omega
   ·rename_i e1 e2
    rw[Srt',List.pairwise_cons];exact⟨fun t ht=>(a6u ht).elim (fun g=>by omega) fun g=>h.1 t g,a1n h.2⟩
theorem abr {v:Int} {c:Q} (hc:c.Ok):∀{l:List Tm} (w:Int),Srt' l→Nz l→cfL (insT v c l) w=if w=v then Q.add (cfL l v) c else cfL l w
 | [],w,_,_=>by
  rw[insT];split
  ·rename_i e;rw[e,agx hc,cfL,Q.zadd hc]
  ·rename_i e;rw[f6 fun t ht=>by rw[gp t ht];omega];rfl
 | u::r,w,hs,hn=>by
  rw[Srt',List.pairwise_cons] at hs;have hr:Nz r:=fun x hx=>hn x (List.mem_cons_of_mem _ hx)
  rw[insT];by_cases h1:u.1=v
  ·rw[if_pos h1];by_cases hw:w=v
   ·rw[if_pos hw,cfL,if_pos h1];have:=agx (v:=v) (Q.add_ok u.2 c);unfold one' at this ⊢;split
    ·rename_i h0
     rw[List.nil_append,f6 fun t ht=>by have:=hs.1 t ht;omega,Q.zero_of (Q.add_ok ..) h0]
    ·rw[hw,List.cons_append,cfL,if_pos rfl]
   ·rw[if_neg hw,zd fun t ht=>by rw[gp t ht];omega,cfL,if_neg om]
  ·rw[if_neg h1];by_cases h2:v < u.1
   ·rw[if_pos h2];by_cases hw:w=v
    ·rw[if_pos hw];have h3:cfL (u::r) v=Q.zero:=f6 fun t ht=>by
      rcases List.mem_cons.1 ht with g | g
      ·rw[g];exact h1
      ·have:=hs.1 t g;omega
     rw[h3,Q.zadd hc];unfold one';split
     ·rename_i h0
      rw[List.nil_append,hw,h3,Q.zero_of hc h0]
     ·rw[List.cons_append,cfL,if_pos hw.symm]
    ·rw[if_neg hw,zd fun t ht=>by rw[gp t ht];omega]
   ·rw[if_neg h2,cfL];by_cases h3:u.1=w
    ·rw[if_pos h3,if_neg om,cfL,if_pos h3]
    ·rw[if_neg h3,abr hc w hs.2 hr,cfL,if_neg h1,cfL,if_neg h3]
theorem a26:∀(y acc:List Tm),Srt' y→Nz y→Srt' acc→Nz acc→Srt' (addT acc y)∧Nz (addT acc y)∧∀w,cfL (addT acc y) w=Q.add (cfL acc w) (cfL y w)
 | [],acc,_,_,hs,hn=>⟨hs,hn,fun w=>by rw[addT,cfL,Q.addz (a40 hn)]⟩
 | t::y,acc,hy,hyn,hs,hn=>by
  rw[Srt',List.pairwise_cons] at hy;have ht:=hyn t (mf ..);have e:l5 acc t.1 t.2=insT t.1 t.2 acc:=by rw[l5,tu ht.1 acc [] hs hn];rfl
  obtain⟨h1,h2,h3⟩:=a26 y (insT t.1 t.2 acc) hy.2 (fun x hx=>hyn x (List.mem_cons_of_mem _ hx)) (a1n hs) (a4x ht.1 hn);rw[addT,e];refine⟨h1,h2,fun w=>?_⟩;rw[h3,abr ht.1 w hs hn,cfL];by_cases hw:w=t.1
  ·have hz:cfL y w=Q.zero:=f6 fun x hx=>by have:=hy.1 x hx;omega
   rw[if_pos hw,if_pos hw.symm,hz,Q.addz (Q.add_ok ..),hw]
  ·rw[if_neg hw,if_neg om]
theorem qy {c:Q}:∀(y acc:List Tm),Srt' y→∃r,eo c acc y=acc++r∧Srt' r∧Nz r∧(∀t∈r,∃u∈y,u.1=t.1)∧∀w,cfL r w=Q.mul (cfL y w) c
 | [],acc,_=>⟨[],by simp[eo],by simp[Srt'],(fun t h=>by cases h),(fun t h=>by cases h),fun w=>by rw[cfL,Q.zmul]⟩
 | t::y,acc,hy=>by
  rw[Srt',List.pairwise_cons] at hy;obtain⟨r,h1,h2,h3,h4,h5⟩:=qy (c:=c) y (snoc acc t.1 (Q.mul t.2 c)) hy.2;have hv:∀x∈r,t.1 < x.1:=fun x hx=>by obtain⟨u,hu,e⟩:=h4 x hx;have:=hy.1 u hu;omega
  refine⟨one' t.1 (Q.mul t.2 c)++r,by rw[eo,h1,jj,List.append_assoc],m9 h2 hv,fun x hx=>?_,fun x hx=>?_,fun w=>?_⟩
  ·rcases List.mem_append.1 hx with e | e
   ·exact a34 (Q.mul_ok ..) x e
   ·exact h3 x e
  ·rcases List.mem_append.1 hx with e | e
   ·exact⟨t,mf ..,(gp x e).symm⟩
   ·obtain⟨u,hu,e⟩:=h4 x e;exact⟨u,List.mem_cons_of_mem _ hu,e⟩
  ·rw[cfL];by_cases hw:t.1=w
   ·rw[if_pos hw];unfold one';split
    ·rename_i h0
     rw[List.nil_append,f6 fun x hx=>by have:=hv x hx;omega,Q.zero_of (Q.mul_ok ..) h0]
    ·rw[List.cons_append,cfL,if_pos hw]
   ·rw[if_neg hw,zd fun x hx=>by rw[gp x hx];exact hw,h5]
theorem aix {c:Q}:∀(n:Nat) (la lb acc:List Tm),la.length+lb.length≤n→Srt' la→Srt' lb→Nz la→∃r,mrgT c n la lb acc=acc++r∧Srt' r∧Nz r∧(∀t∈r,(∃u∈la,u.1=t.1)∨∃u∈lb,u.1=t.1)∧∀w,cfL r w=Q.add (cfL la w) (Q.mul (cfL lb w) c):=by
 have join:∀(v:Int) (q:Q) (r:List Tm) (F:Int→Q),q.Ok→Srt' r→Nz r→(∀x∈r,v < x.1)→(∀w,w≠v→cfL r w=F w)→F v=q→Srt' (one' v q++r)∧Nz (one' v q++r)∧∀w,cfL (one' v q++r) w=F w:=fun v q r F hq h1 h2 h3 h4 h5=>by
  refine⟨m9 h1 h3,fun x hx=>?_,fun w=>?_⟩
  ·rcases List.mem_append.1 hx with e | e
   ·exact a34 hq x e
   ·exact h2 x e
  ·by_cases hw:w=v
   ·subst hw;unfold one';split
    ·rename_i h0
     rw[List.nil_append,f6 fun x hx=>by have:=h3 x hx;omega,h5,Q.zero_of hq h0]
    ·rw[List.cons_append,cfL,if_pos rfl,h5]
   ·rw[zd fun x hx=>by rw[gp x hx];omega,h4 w hw]
 intro n
 induction n with
 | zero=>
  intro la lb acc hn _ _ _;obtain rfl:=List.length_eq_zero_iff.1 (show la.length=0 by omega);obtain rfl:=List.length_eq_zero_iff.1 (show lb.length=0 by omega);exact⟨[],by simp[mrgT],by simp[Srt'],(fun t h=>by cases h),(fun t h=>by cases h),fun w=>by rw[cfL,Q.zmul,Q.zadd dx]⟩
 | succ n ih=>
  intro la lb acc hn ha hb hz
  match la,lb with
  | [],[]=>exact⟨[],by simp[mrgT],by simp[Srt'],(fun t h=>by cases h),(fun t h=>by cases h),fun w=>by rw[cfL,Q.zmul,Q.zadd dx]⟩
  | s::la,[]=>
   have ha':=List.pairwise_cons.1 ha;have hs:=hz s (mf ..);obtain⟨r,h1,h2,h3,h4,h5⟩:=ih la [] (putT acc s.1 s.2) (by simp only[List.length_cons,List.length_nil] at hn ⊢;omega) ha'.2 hb fun x hx=>hz x (List.mem_cons_of_mem _ hx)
   have hv:∀x∈r,s.1 < x.1:=fun x hx=>by
    rcases h4 x hx with ⟨u,hu,e⟩ | ⟨u,hu,e⟩
    ·have:=ha'.1 u hu;omega
    ·cases hu
   obtain⟨j1,j2,j3⟩:=join s.1 s.2 r (fun w=>Q.add (cfL (s::la) w) (Q.mul (cfL [] w) c)) hs.1 h2 h3 hv (fun w hw=>by show _=Q.add (cfL (s::la) w) _;rw[h5,cfL.eq_2 _ s,if_neg om]) (by show Q.add (cfL (s::la) s.1) (Q.mul Q.zero c)=_;rw[cfL.eq_2 _ s,if_pos rfl,Q.zmul,Q.addz hs.1]);refine⟨one' s.1 s.2++r,by rw[mrgT,h1,rf _ _ _ hs.1,List.append_assoc],j1,j2,fun x hx=>?_,j3⟩;rcases List.mem_append.1 hx with e | e
   ·exact .inl ⟨s,mf ..,(gp x e).symm⟩
   ·exact (h4 x e).imp (fun ⟨u,hu,e⟩=>⟨u,List.mem_cons_of_mem _ hu,e⟩) id
  | [],t::lb=>
   have hb':=List.pairwise_cons.1 hb;obtain⟨r,h1,h2,h3,h4,h5⟩:=ih [] lb (putT acc t.1 (Q.mul t.2 c)) (by simp only[List.length_cons,List.length_nil] at hn ⊢;omega) ha hb'.2 hz;have hv:∀x∈r,t.1 < x.1:=fun x hx=>by
    rcases h4 x hx with ⟨u,hu,e⟩ | ⟨u,hu,e⟩
    ·cases hu
    ·have:=hb'.1 u hu;omega
   obtain⟨j1,j2,j3⟩:=join t.1 (Q.mul t.2 c) r (fun w=>Q.add (cfL [] w) (Q.mul (cfL (t::lb) w) c)) (Q.mul_ok ..) h2 h3 hv (fun w hw=>by show _=Q.add _ (Q.mul (cfL (t::lb) w) c);rw[h5,cfL.eq_2 _ t,if_neg om]) (by show Q.add Q.zero (Q.mul (cfL (t::lb) t.1) c)=_;rw[cfL.eq_2 _ t,if_pos rfl,Q.zadd (Q.mul_ok ..)]);refine⟨one' t.1 (Q.mul t.2 c)++r,by rw[mrgT,h1,rf _ _ _ (Q.mul_ok ..),List.append_assoc],j1,j2,fun x hx=>?_,j3⟩;rcases List.mem_append.1 hx with e | e
   ·exact .inr ⟨t,mf ..,(gp x e).symm⟩
   ·exact (h4 x e).imp id fun ⟨u,hu,e⟩=>⟨u,List.mem_cons_of_mem _ hu,e⟩
  | s::la,t::lb=>
   have ha':=List.pairwise_cons.1 ha;have hb':=List.pairwise_cons.1 hb;have hs:=hz s (mf ..);have hz':Nz la:=fun x hx=>hz x (List.mem_cons_of_mem _ hx)
   rw[mrgT];by_cases g1:s.1 < t.1
   ·rw[if_pos g1];obtain⟨r,h1,h2,h3,h4,h5⟩:=ih la (t::lb) (putT acc s.1 s.2) (by simp only[List.length_cons] at hn ⊢;omega) ha'.2 hb hz';have hv:∀x∈r,s.1 < x.1:=fun x hx=>by
     rcases h4 x hx with ⟨u,hu,e⟩ | ⟨u,hu,e⟩
     ·have:=ha'.1 u hu;omega
     ·rcases List.mem_cons.1 hu with e2 | e2
      ·subst e2;omega
      ·have:=hb'.1 u e2;omega
    have hz0:cfL (t::lb) s.1=Q.zero:=f6 fun x hx=>by
     rcases List.mem_cons.1 hx with e2 | e2
     ·subst e2;omega
     ·have:=hb'.1 x e2;omega
    obtain⟨j1,j2,j3⟩:=join s.1 s.2 r (fun w=>Q.add (cfL (s::la) w) (Q.mul (cfL (t::lb) w) c)) hs.1 h2 h3 hv (fun w hw=>by show _=Q.add (cfL (s::la) w) _;rw[h5,cfL.eq_2 _ s,if_neg om]) (by show Q.add (cfL (s::la) s.1) (Q.mul (cfL (t::lb) s.1) c)=_;rw[hz0,cfL.eq_2 _ s,if_pos rfl,Q.zmul,Q.addz hs.1]);refine⟨one' s.1 s.2++r,by rw[h1,rf _ _ _ hs.1,List.append_assoc],j1,j2,fun x hx=>?_,j3⟩;rcases List.mem_append.1 hx with e | e
    ·exact .inl ⟨s,mf ..,(gp x e).symm⟩
    ·exact (h4 x e).imp (fun ⟨u,hu,e⟩=>⟨u,List.mem_cons_of_mem _ hu,e⟩) id
   ·rw[if_neg g1];by_cases g2:t.1 < s.1
    ·rw[if_pos g2];obtain⟨r,h1,h2,h3,h4,h5⟩:=ih (s::la) lb (putT acc t.1 (Q.mul t.2 c)) (by simp only[List.length_cons] at hn ⊢;omega) ha hb'.2 hz;have hv:∀x∈r,t.1 < x.1:=fun x hx=>by
      rcases h4 x hx with ⟨u,hu,e⟩ | ⟨u,hu,e⟩
      ·rcases List.mem_cons.1 hu with e2 | e2
       ·subst e2;omega
       ·have:=ha'.1 u e2;omega
      ·have:=hb'.1 u hu;omega
     have hz0:cfL (s::la) t.1=Q.zero:=f6 fun x hx=>by
      rcases List.mem_cons.1 hx with e2 | e2
      ·subst e2;omega
      ·have:=ha'.1 x e2;omega
     obtain⟨j1,j2,j3⟩:=join t.1 (Q.mul t.2 c) r (fun w=>Q.add (cfL (s::la) w) (Q.mul (cfL (t::lb) w) c)) (Q.mul_ok ..) h2 h3 hv (fun w hw=>by show _=Q.add _ (Q.mul (cfL (t::lb) w) c);rw[h5,cfL.eq_2 _ t,if_neg om]) (by show Q.add (cfL (s::la) t.1) (Q.mul (cfL (t::lb) t.1) c)=_;rw[hz0,cfL.eq_2 _ t,if_pos rfl,Q.zadd (Q.mul_ok ..)]);refine⟨one' t.1 (Q.mul t.2 c)++r,by rw[h1,rf _ _ _ (Q.mul_ok ..),List.append_assoc],j1,j2,fun x hx=>?_,j3⟩;rcases List.mem_append.1 hx with e | e
     ·exact .inr ⟨t,mf ..,(gp x e).symm⟩
     ·exact (h4 x e).imp id fun ⟨u,hu,e⟩=>⟨u,List.mem_cons_of_mem _ hu,e⟩
    ·rw[if_neg g2];have e0:t.1=s.1:=by omega
     obtain⟨r,h1,h2,h3,h4,h5⟩:=ih la lb (putT acc s.1 (Q.add s.2 (Q.mul t.2 c))) (by simp only[List.length_cons] at hn ⊢;omega) ha'.2 hb'.2 hz';have hv:∀x∈r,s.1 < x.1:=fun x hx=>by
      rcases h4 x hx with ⟨u,hu,e⟩ | ⟨u,hu,e⟩
      ·have:=ha'.1 u hu;omega
      ·have:=hb'.1 u hu;omega
     obtain⟨j1,j2,j3⟩:=join s.1 (Q.add s.2 (Q.mul t.2 c)) r (fun w=>Q.add (cfL (s::la) w) (Q.mul (cfL (t::lb) w) c)) (Q.add_ok ..) h2 h3 hv (fun w hw=>by show _=Q.add (cfL (s::la) w) (Q.mul (cfL (t::lb) w) c);rw[h5,cfL.eq_2 _ s,if_neg om,cfL.eq_2 _ t,if_neg om]) (by show Q.add (cfL (s::la) s.1) (Q.mul (cfL (t::lb) s.1) c)=_;rw[cfL.eq_2 _ s,if_pos rfl,cfL.eq_2 _ t,if_pos e0]);refine⟨one' s.1 (Q.add s.2 (Q.mul t.2 c))++r,by rw[h1,rf _ _ _ (Q.add_ok ..),List.append_assoc],j1,j2,fun x hx=>?_,j3⟩;rcases List.mem_append.1 hx with e | e
     ·exact .inl ⟨s,mf ..,(gp x e).symm⟩
     ·exact (h4 x e).imp (fun ⟨u,hu,e⟩=>⟨u,List.mem_cons_of_mem _ hu,e⟩) fun ⟨u,hu,e⟩=>⟨u,List.mem_cons_of_mem _ hu,e⟩
structure Fm.Cn (f:Fm):Prop where
 srt:Srt' f.terms
 nz:Nz f.terms
 const:f.const.Ok
theorem Fm.Cn.addR {f g:Fm} (h:f.Cn) (k:g.Cn):(Fm.addR f g).Cn:=by
 obtain⟨h1,h2,_⟩:=a26 g.terms f.terms k.srt k.nz h.srt h.nz;exact⟨h1,h2,Q.add_ok ..⟩
theorem Fm.Cn.scaleR {f:Fm} {q:Q} (h:f.Cn):(Fm.scaleR f q).Cn:=by
 obtain⟨r,h1,h2,h3,_⟩:=qy (c:=q) f.terms [] h.srt;rw[List.nil_append] at h1;exact⟨by show Srt' (eo q [] f.terms);rw[h1];exact h2,by show Nz (eo q [] f.terms);rw[h1];exact h3,Q.mul_ok ..⟩
theorem Fm.Cn.scale_cf {f:Fm} {q:Q} (h:f.Cn) (w:Int):cfL (Fm.scaleR f q).terms w=Q.mul (cfL f.terms w) q:=by
 obtain⟨r,h1,_,_,_,h5⟩:=qy (c:=q) f.terms [] h.srt;rw[List.nil_append] at h1;show cfL (eo q [] f.terms) w=_;rw[h1];exact h5 w
theorem Fm.Cn.add_cf {f g:Fm} (h:f.Cn) (k:g.Cn) (w:Int):cfL (Fm.addR f g).terms w=Q.add (cfL f.terms w) (cfL g.terms w):=(a26 g.terms f.terms k.srt k.nz h.srt h.nz).2.2 w
theorem ab7 {f g:Fm} {q:Q} (h:f.Cn) (k:g.Cn):mrg f g q=Fm.addR f (Fm.scaleR g q):=by
 obtain⟨r,h1,h2,h3,_,h5⟩:=aix (c:=q) (f.terms.length+g.terms.length) f.terms g.terms [] (nr _) h.srt k.srt h.nz;rw[List.nil_append] at h1;have k2:=k.scaleR (q:=q);have hc:=h.addR k2;have e:r=(Fm.addR f (Fm.scaleR g q)).terms:=a56 h2 hc.srt h3 hc.nz fun v=>by rw[h5,h.add_cf k2,k.scale_cf]
 show Fm.mk _ _=_;rw[h1,e];rfl
structure Fm.S (s l:Nat) (f:Fm):Prop where
 cn:f.Cn
 each:∀t∈f.terms,t.2.S s
 const:f.const.S s
 len:f.terms.length≤l
theorem Fm.S.up {s l t m:Nat} {f:Fm} (h:f.S s l) (hs:s≤t) (hl:l≤m):f.S t m:=⟨h.cn,fun x hx=>(h.each x hx).up hs,h.const.up hs,nt h.len hl⟩
theorem cn_zero:Fm.zero.Cn:=⟨by simp[Srt'],(fun t h=>by cases h),by decide⟩
theorem fm_zero_S:Fm.zero.S 1 0:=⟨cn_zero,fun t h=>(by cases h),sz_zero,nr _⟩
theorem ajt:∀{l:List Tm} {s:Nat} {v:Int},(∀t∈l,t.2.S s)→1≤s→(cfL l v).S s
 | [],s,v,_,h=>sz_zero.up h
 | t::r,s,v,h,h1=>by
  rw[cfL];split
  ·exact h t (mf ..)
  ·exact ajt (fun u hu=>h u (List.mem_cons_of_mem _ hu)) h1
theorem ahf {s t:Nat} {x y:List Tm} (hx:Srt' x) (hxn:Nz x) (hy:Srt' y) (hyn:Nz y) (h:∀e∈x,e.2.S s) (k:∀e∈y,e.2.S t) (h1:1≤s) (k1:1≤t):∀e∈addT x y,e.2.S (s+t+1):=fun e he=>by
 obtain⟨g1,g2,g3⟩:=a26 y x hy hyn hx hxn;rw[← a55 g1 he,g3];exact (ajt h h1).add (ajt k k1)
theorem Fm.S.addR {s l t m:Nat} {f g:Fm} (h:f.S s l) (k:g.S t m):(Fm.addR f g).S (s+t+1) (l+m):=
 ⟨h.cn.addR k.cn,ahf h.cn.srt h.cn.nz k.cn.srt k.cn.nz h.each k.each h.const.pos k.const.pos,h.const.add k.const,nt (wu ..) (Nat.add_le_add h.len k.len)⟩
theorem Fm.S.scaleR {s l t:Nat} {f:Fm} {q:Q} (h:f.S s l) (k:q.S t):(Fm.scaleR f q).S (s+t) l:=
 ⟨h.cn.scaleR,tp (P:=fun x=>x.S (s+t)) f.terms [] (fun x hx=>by cases hx) fun x hx=>(h.each x hx).mul k,h.const.mul k,nt (tm ..) (by simpa using h.len)⟩
theorem Fm.S.lo {s l:Nat} {f:Fm} (h:f.S s l) (hs:s≤10000) (hl:l≤400):f.Lo:=⟨fun t ht=>(h.each t ht).lo hs,h.const.lo hs,nt h.len hl⟩
section
theorem aic {q:Q} {n d:Nat} (h:q.Bd n d) (hn:n≤100000):PCalls Tryz.prog [] 130 [ratP q] (iP q.sign):=a82 (by kernel_rfl) fun w a ha=>vq w a q ha (nt h.num (nt hn dx))
theorem ael {q:Q} {n d:Nat} (h:q.Bd n d) (hn:n≤100000) (hd:d≤100000):PCalls Tryz.prog TU 177 [ratP q] (ratP (ck q)):=ai9 (by kernel_rfl) fun w a ha=>zf w a q ha (nt h.num (nt hn dx)) (nt h.den hd)
theorem agv {x y:Q} {n d m e:Nat} (h:x.Bd n d) (k:y.Bd m e) (hn:n≤100000) (hd:d≤100000) (hm:m≤100000) (he:e≤100000):PCalls Tryz.prog TU 229 [ratP x,ratP y] (ratP (Q.add x y)):=aa9 (by kernel_rfl) fun w a b ha hb=>a62 w a b x y ha hb (nt h.num hn) (nt k.num hm) ⟨nt h.den hd,nt k.den he⟩
theorem ai8 {l:List Tm} {v:Int} {c:Q} (h:(c.sign != 0)=false):putT l v c=l:=by
 rw[xp,Bool.not_eq_false',de] at h;rw[putT,if_pos h]
theorem ae2 {l:List Tm} {v:Int} {c:Q} (h:(c.sign != 0)=true):l++[(v,ck c)]=putT l v c:=by
 rw[xp,Bool.not_eq_true',decide_eq_false_iff_not] at h;rw[putT,if_neg h]
theorem abj {α β:Type} {f:α→β} {a:α} {l:List α}:((((a::l).map f).length:Int) == 0)=false:=beq_eq_false_iff_ne.2 (by simp only[List.map_cons,List.length_cons];omega)
theorem al7 {α β:Type} {f:α→β} {a:α} {l:List α}:decide ((0:Int) < (((a::l).map f).length:Int))=true:=dt (by simp only[List.map_cons,List.length_cons];omega)
theorem acb {α β:Type} {f:α→β} {l:List α} (h:decide ((0:Int) < ((l.map f).length:Int))=true):∃a r,l=a::r:=by
 cases l with
 | nil=>cases h
 | cons a r=>exact⟨a,r,rfl⟩
theorem ab6 {α β:Type} {f:α→β} {l:List α} (h:decide ((0:Int) < ((l.map f).length:Int))=false):l=[]:=by
 cases l with
 | nil=>rfl
 | cons a r=>rw[al7] at h;cases h
theorem aiv {α β:Type} {f:α→β} {l:List α} (h:(((l.map f).length:Int) == 0)=true):l=[]:=by
 cases l with
 | nil=>rfl
 | cons a r=>rw[abj] at h;cases h
theorem afi {α β:Type} {f:α→β} {l:List α} (h:(((l.map f).length:Int) == 0)=false):∃a r,l=a::r:=by
 cases l with
 | nil=>cases h
 | cons a r=>exact⟨a,r,rfl⟩
theorem sub1 {α β:Type} {f:α→β} {a:α} {l:List α}:((((a::l).map f).take ((a::l).map f).length).drop 1)=l.map f:=by rw[List.take_length];rfl
theorem tm_snoc {l:List Tm} {v:Int} {c:Q}:l.map tmC++[tmC (v,c)]=(l++[(v,c)]).map tmC:=by rw[List.map_append];rfl
theorem aai {l:List Tm} {k c:Q} {v:Int} {n d:Nat} (hc:c.Bd n d) (hn:n≤100000) (hd:d≤100000) (hl:l.length≤1000000):SCalls Tryz.prog (fun _=>True) TU 231 [.agg [.tok 1000,.pv (bP k.neg),.pv (.nat k.num),.pv (.nat k.den)],.pv (iP v),.pv (ratP c)] (some (.tok 138 4 [200] (l.map tmC))) (.tok 138 4 [200] ((putT l v c).map tmC)) (.agg [.tok 1000,.pv (bP k.neg),.pv (.nat k.num),.pv (.nat k.den)]) true:=by
 refine pcs [37,35,138] Tryz.func231 (fun D hH hF=>?_);refine ac (c:=aic hc hn) ?_;refine a2 (fun e9=>?_) (fun e9=>?_)
 ·refine ac (c:=ael hc hn hd) ?_;refine au ?_;refine rp0 a52 (by rw[List.length_map];show l.length+1≤_;omega) Y Y Y Y Y Y Y Y ?_;refine au ?_;exact rets Y Y (congrArg (fun x=>some (Res.tok _ _ _ x)) (tm_snoc.trans (congrArg (List.map tmC) (ae2 e9))))
 ·refine au ?_;exact rets Y Y (congrArg (fun x=>some (Res.tok 138 4 [200] (List.map tmC x))) (ai8 e9).symm)
structure MrgAt (x y:Fm) (c:Q) (n:Nat) (la lb acc:List Tm):Prop where
 ey:mrgT c n la lb acc=(mrg x y c).terms
 ha:∀t∈la,t.2.Lo
 hb:∀t∈lb,t.2.Lo
 hn:la.length+lb.length≤n
 hl:acc.length+n≤1000
variable {x y:Fm} {c:Q} {s t:Tm} {n:Nat} {la lb acc:List Tm}
theorem MrgAt.fin (h:MrgAt x y c n [] [] acc):acc=(mrg x y c).terms:=(aey c n acc).symm.trans h.ey
theorem MrgAt.a0 (h:MrgAt x y c n (s::la) [] acc):MrgAt x y c (n - 1) la [] (putT acc s.1 s.2):=by
 have h1:=h.hn;have h2:=h.hl;have h3:=rh acc s.1 s.2;obtain⟨m,rfl⟩:∃m,n=m+1:=⟨n - 1,by rw[List.length_cons] at h1;omega⟩;exact⟨h.ey,fun t ht=>h.ha t (List.mem_cons_of_mem _ ht),h.hb,by rw[List.length_cons] at h1;show _≤m;omega,by show _+m≤_;omega⟩
theorem MrgAt.a1 (h:MrgAt x y c n (s::la) (t::lb) acc) (hs:s.1 < t.1):MrgAt x y c (n - 1) la (t::lb) (putT acc s.1 s.2):=by
 have h1:=h.hn;have h2:=h.hl;have h3:=rh acc s.1 s.2;obtain⟨m,rfl⟩:∃m,n=m+1:=⟨n - 1,by rw[List.length_cons] at h1;omega⟩;have h4:=h.ey;rw[mrgT,if_pos hs] at h4;exact⟨h4,fun t ht=>h.ha t (List.mem_cons_of_mem _ ht),h.hb,by simp only[List.length_cons] at h1 ⊢;show _≤m;omega,by show _+m≤_;omega⟩
theorem MrgAt.b0 (h:MrgAt x y c n [] (t::lb) acc):MrgAt x y c (n - 1) [] lb (putT acc t.1 (Q.mul t.2 c)):=by
 have h1:=h.hn;have h2:=h.hl;have h3:=rh acc t.1 (Q.mul t.2 c);obtain⟨m,rfl⟩:∃m,n=m+1:=⟨n - 1,by rw[List.length_cons] at h1;omega⟩;exact⟨h.ey,h.ha,fun s hs=>h.hb s (List.mem_cons_of_mem _ hs),by rw[List.length_cons] at h1;show _≤m;omega,by show _+m≤_;omega⟩
theorem MrgAt.b1 (h:MrgAt x y c n (s::la) (t::lb) acc) (hs:¬s.1 < t.1) (ht:t.1 < s.1):MrgAt x y c (n - 1) (s::la) lb (putT acc t.1 (Q.mul t.2 c)):=by
 have h1:=h.hn;have h2:=h.hl;have h3:=rh acc t.1 (Q.mul t.2 c);obtain⟨m,rfl⟩:∃m,n=m+1:=⟨n - 1,by rw[List.length_cons] at h1;omega⟩;have h4:=h.ey;rw[mrgT,if_neg hs,if_pos ht] at h4;exact⟨h4,h.ha,fun s hs=>h.hb s (List.mem_cons_of_mem _ hs),by simp only[List.length_cons] at h1 ⊢;show _≤m;omega,by show _+m≤_;omega⟩
theorem MrgAt.c1 (h:MrgAt x y c n (s::la) (t::lb) acc) (hs:¬s.1 < t.1) (ht:¬t.1 < s.1):MrgAt x y c (n - 1) la lb (putT acc s.1 (Q.add s.2 (Q.mul t.2 c))):=by
 have h1:=h.hn;have h2:=h.hl;have h3:=rh acc s.1 (Q.add s.2 (Q.mul t.2 c));obtain⟨m,rfl⟩:∃m,n=m+1:=⟨n - 1,by rw[List.length_cons] at h1;omega⟩;have h4:=h.ey;rw[mrgT,if_neg hs,if_neg ht] at h4;exact⟨h4,fun t ht=>h.ha t (List.mem_cons_of_mem _ ht),fun s hs=>h.hb s (List.mem_cons_of_mem _ hs),by simp only[List.length_cons] at h1;show _≤m;omega,by show _+m≤_;omega⟩
theorem a4s (h:x.Lo) (k:y.Lo) (hq:c.Lo):PCalls Tryz.prog TF 192 [fmP x,fmP y,ratP c] (fmP (mrg x y c)):=by
 refine pcA [37,35,138] Tryz.func192 (fun D=>?_);refine ac (c:=ae9 k.const.sm hq.sm) ?_;refine ac (c:=agv h.const.bd (k.const.bd.mul hq.bd) dx dx dx dx) ?_;refine au ?_;refine tkb (b:=7) (off:=0) (id:=1000) (e:=138) (k:=4) (ts:=[200]) Y ?_;refine pl (ι:={p:Nat×List Tm×List Tm×List Tm // MrgAt x y c p.1 p.2.1 p.2.2.1 p.2.2.2}) (fun p=>[(3,.box 3 0),(4,.box 4 0),(5,.box 5 0),(6,.box 6 0),(7,.box 7 0),(8,.pv (bu p.1.2.1)),(9,.pv (bu p.1.2.2.1))]) (fun p=>[(3,.box 37 [.pv (bu x.terms),.pv (bP x.const.neg),.pv (.nat x.const.num),.pv (.nat x.const.den)]),(4,.box 37 [.pv (bu y.terms),.pv (bP y.const.neg),.pv (.nat y.const.num),.pv (.nat y.const.den)]),(5,.box 35 [.pv (bP c.neg),.pv (.nat c.num),.pv (.nat c.den)]),(6,.box 37 [.nil 138 4 [200],.pv (bP false),.pv (.nat 0),.pv (.nat 0)]),(7,.box 37 [.tok 1000,.pv (bP (mrg x y c).const.neg),.pv (.nat (mrg x y c).const.num),.pv (.nat (mrg x y c).const.den)]),(1000,.tok 138 4 [200] (p.1.2.2.2.map tmC))]) [37,35,138] (fun p=>p.1.2.1.length+p.1.2.2.1.length) ⟨(x.terms.length+y.terms.length,x.terms,y.terms,[]),⟨rfl,h.num,k.num,nr _,by have:=h.len;have:=k.len;simp only[List.length_nil];omega⟩⟩ (ai Y (ai Y (ai Y (ai Y (ai Y (ai Y (ai Y trivial))))))) (ai Y (ai Y (ai Y (ai Y (ai Y (ai Y trivial)))))) (fun _=>rfl) ?_;intro ⟨(n,la,lb,acc),hI⟩;simp only at hI;refine a2 (fun e25=>?_) (fun e25=>?_)
 ·obtain⟨s,la,rfl⟩:=acb e25;refine a2 (fun e55=>?_) (fun e55=>?_)
  ·obtain rfl:=aiv e55;refine ax (c:=rfl) ?_;refine ax (c:=rfl) ?_;refine au ?_;refine rsc0 (fun _ _ _=>trivial) (fun e=>by cases e) (aai (l:=acc) (k:=(mrg x y c).const) (hI.ha s (mf ..)).bd dx dx (by have:=hI.hl;omega)) ?_;refine au ?_;refine ro0 Y Y Y (fun hd=>f5 al Y Y Y (.inr ⟨_,rfl,show _=some (SV.pv (iP ((1:Nat):Int))) from rfl⟩) (.inl ⟨rfl,rfl⟩) (by simp only[List.map_cons,List.length_cons];omega) (nr _) Y dx hd) ?_;refine au ?_;exact pe ⟨(n - 1,la,[],putT acc s.1 s.2),hI.a0⟩ (ai Y (ai Y (ai Y (ai Y (ai Y (ai (congrArg (fun z=>some (SV.pv (PV.rows 138 4 [200] z))) sub1) (ai (Y) trivial))))))) (ai Y (ai Y (ai Y (ai Y (ai Y (ai Y trivial)))))) Y (by simp only[List.length_cons,List.length_nil];omega)
  ·obtain⟨t,lb,rfl⟩:=afi e55;refine akT (c:=by exact al7) ?_;refine ax (c:=rfl) ?_;refine ax (c:=rfl) ?_;refine a2 (fun e51=>?_) (fun e51=>?_)
   ·refine ax (c:=rfl) ?_;refine ax (c:=rfl) ?_;refine au ?_;refine rsc0 (fun _ _ _=>trivial) (fun e=>by cases e) (aai (l:=acc) (k:=(mrg x y c).const) (hI.ha s (mf ..)).bd dx dx (by have:=hI.hl;omega)) ?_;refine au ?_;refine ro0 Y Y Y (fun hd=>f5 al Y Y Y (.inr ⟨_,rfl,show _=some (SV.pv (iP ((1:Nat):Int))) from rfl⟩) (.inl ⟨rfl,rfl⟩) (by simp only[List.map_cons,List.length_cons];omega) (nr _) Y dx hd) ?_;refine au ?_;exact pe ⟨(n - 1,la,t::lb,putT acc s.1 s.2),hI.a1 (of_decide_eq_true e51)⟩ (ai Y (ai Y (ai Y (ai Y (ai Y (ai (congrArg (fun z=>some (SV.pv (PV.rows 138 4 [200] z))) sub1) (ai (Y) trivial))))))) (ai Y (ai Y (ai Y (ai Y (ai Y (ai Y trivial)))))) Y (by simp only[List.length_cons,List.length_nil];omega)
   ·refine akF (c:=by exact abj) ?_;refine ax (c:=rfl) ?_;refine ax (c:=rfl) ?_;refine a2 (fun e83=>?_) (fun e83=>?_)
    ·refine ax (c:=rfl) ?_;refine ax (c:=rfl) ?_;refine ac (c:=ae9 (hI.hb t (mf ..)).sm hq.sm) ?_;refine rsc0 (fun _ _ _=>trivial) (fun e=>by cases e) (aai (l:=acc) (k:=(mrg x y c).const) ((hI.hb t (mf ..)).bd.mul hq.bd) dx dx (by have:=hI.hl;omega)) ?_;refine au ?_;refine ro0 Y Y Y (fun hd=>f5 al Y Y Y (.inr ⟨_,rfl,show _=some (SV.pv (iP ((1:Nat):Int))) from rfl⟩) (.inl ⟨rfl,rfl⟩) (by simp only[List.map_cons,List.length_cons];omega) (nr _) Y dx hd) ?_;refine au ?_;exact pe ⟨(n - 1,s::la,lb,putT acc t.1 (Q.mul t.2 c)),hI.b1 (of_decide_eq_false e51) (of_decide_eq_true e83)⟩ (ai Y (ai Y (ai Y (ai Y (ai Y (ai (Y) (ai (congrArg (fun z=>some (SV.pv (PV.rows 138 4 [200] z))) sub1) trivial))))))) (ai Y (ai Y (ai Y (ai Y (ai Y (ai Y trivial)))))) Y (by simp only[List.length_cons,List.length_nil];omega)
    ·refine ax (c:=rfl) ?_;refine ax (c:=rfl) ?_;refine ax (c:=rfl) ?_;refine ac (c:=ae9 (hI.hb t (mf ..)).sm hq.sm) ?_;refine ac (c:=agv (hI.ha s (mf ..)).bd ((hI.hb t (mf ..)).bd.mul hq.bd) dx dx dx dx) ?_;refine rsc0 (fun _ _ _=>trivial) (fun e=>by cases e) (aai (l:=acc) (k:=(mrg x y c).const) ((hI.ha s (mf ..)).bd.add ((hI.hb t (mf ..)).bd.mul hq.bd)) dx dx (by have:=hI.hl;omega)) ?_;refine au ?_;refine ro0 Y Y Y (fun hd=>f5 al Y Y Y (.inr ⟨_,rfl,show _=some (SV.pv (iP ((1:Nat):Int))) from rfl⟩) (.inl ⟨rfl,rfl⟩) (by simp only[List.map_cons,List.length_cons];omega) (nr _) Y dx hd) ?_;refine au ?_;refine ro0 Y Y Y (fun hd=>f5 al Y Y Y (.inr ⟨_,rfl,show _=some (SV.pv (iP ((1:Nat):Int))) from rfl⟩) (.inl ⟨rfl,rfl⟩) (by simp only[List.map_cons,List.length_cons];omega) (nr _) Y dx hd) ?_;refine au ?_;exact pe ⟨(n - 1,la,lb,putT acc s.1 (Q.add s.2 (Q.mul t.2 c))),hI.c1 (of_decide_eq_false e51) (of_decide_eq_false e83)⟩ (ai Y (ai Y (ai Y (ai Y (ai Y (ai (congrArg (fun z=>some (SV.pv (PV.rows 138 4 [200] z))) sub1) (ai (congrArg (fun z=>some (SV.pv (PV.rows 138 4 [200] z))) sub1) trivial))))))) (ai Y (ai Y (ai Y (ai Y (ai Y (ai Y trivial)))))) Y (by simp only[List.length_cons,List.length_nil];omega)
 ·obtain rfl:=ab6 e25;refine a2 (fun e29=>?_) (fun e29=>?_)
  ·obtain⟨t,lb,rfl⟩:=acb e29;refine akF (c:=by exact abj) ?_;refine akF (c:=by exact rfl) ?_;refine akT (c:=by exact rfl) ?_;refine ax (c:=rfl) ?_;refine ax (c:=rfl) ?_;refine ac (c:=ae9 (hI.hb t (mf ..)).sm hq.sm) ?_;refine rsc0 (fun _ _ _=>trivial) (fun e=>by cases e) (aai (l:=acc) (k:=(mrg x y c).const) ((hI.hb t (mf ..)).bd.mul hq.bd) dx dx (by have:=hI.hl;omega)) ?_;refine au ?_;refine ro0 Y Y Y (fun hd=>f5 al Y Y Y (.inr ⟨_,rfl,show _=some (SV.pv (iP ((1:Nat):Int))) from rfl⟩) (.inl ⟨rfl,rfl⟩) (by simp only[List.map_cons,List.length_cons];omega) (nr _) Y dx hd) ?_;refine au ?_;exact pe ⟨(n - 1,[],lb,putT acc t.1 (Q.mul t.2 c)),hI.b0⟩ (ai Y (ai Y (ai Y (ai Y (ai Y (ai (Y) (ai (congrArg (fun z=>some (SV.pv (PV.rows 138 4 [200] z))) sub1) trivial))))))) (ai Y (ai Y (ai Y (ai Y (ai Y (ai Y trivial)))))) Y (by simp only[List.length_cons,List.length_nil];omega)
  ·obtain rfl:=ab6 e29;exact ar (c:=congrArg (fun l=>fmP ⟨l,(mrg x y c).const⟩) hI.fin)
theorem alo (h:x.Lo) (k:y.Lo):PCalls Tryz.prog TF 191 [fmP x,fmP y] (fmP (mrg x y Q.one)):=by
 refine pcA [37] Tryz.func191 (fun D=>?_);refine ac (c:=p_of 1 dx dx) ?_;refine ac (c:=a4s (c:=Q.one) h k amk) ?_;exact ar (c:=rfl)
theorem alj (h:x.Lo) (k:y.Lo):PCalls Tryz.prog TF 140 [fmP x,fmP y] (fmP (mrg x y Q.mone)):=by
 refine pcA [37] Tryz.func140 (fun D=>?_);refine ac (c:=p_of (-1) dx dx) ?_;refine ac (c:=a4s (c:=Q.mone) h k aj4) ?_;exact ar (c:=rfl)
theorem aea (h:x.Lo) (hq:c.Lo):PCalls Tryz.prog TF 187 [fmP x,ratP c] (fmP (mrg Fm.zero x c)):=by
 refine pcA [37,35] Tryz.func187 (fun D=>?_);refine ac (c:=a4s (x:=Fm.zero) ⟨(fun t ht=>by cases ht),aj3,by decide⟩ h hq) ?_;exact ar (c:=rfl)
end
end Go.Proofs.YtbhbainhmfjpdaaGreatDoor
