/- Walks of the search and of what it calls, part 15. -/
import Derived.Test.YtbhbainhmfjpdaaGreatDoorMn
import Derived.Lib.AppendZeros
set_option linter.unusedVariables false
set_option linter.unusedSectionVars false
set_option linter.unusedSimpArgs false
set_option maxRecDepth 100000
set_option maxHeartbeats 8000000
namespace Go.Proofs.YtbhbainhmfjpdaaGreatDoor
open Go.RowKit
section
attribute [local go_sem] Oper.semAt_some
def Grafted (l:List Mm) (N:Nat) (v:Value) (W:World):Prop:=∃vb:Nat,v=.tuple #[.pointer (some ⟨vb,0,none⟩),.bool true]∧N≤vb∧∃y:Sv,Bk W vb 241 #[.slice none 0 0,.int .i64 0,.int .i64 0,.bool false,.slice none 0 0,.slice none 0 0,.slice none 0 0,.bool false,.slice y.A y.n y.c,.slice none 0 0]∧MultR W y l
theorem Grafted.gr {l:List Mm} {N:Nat} {v:Value} {W W':World} (h:Grafted l N v W) (G:Gr W W'):Grafted l N v W':=by
 obtain⟨vb,e,hn,y,h1,h2⟩:=h;exact⟨vb,e,hn,y,G.bk h1,h2.gr G⟩
theorem Grafted.is {l:List Mm} {N vb:Nat} {W:World} (h:Grafted l N (.tuple #[.pointer (some ⟨vb,0,none⟩),.bool true]) W):N≤vb∧∃y:Sv,Bk W vb 241 #[.slice none 0 0,.int .i64 0,.int .i64 0,.bool false,.slice none 0 0,.slice none 0 0,.slice none 0 0,.bool false,.slice y.A y.n y.c,.slice none 0 0]∧MultR W y l:=by
 obtain⟨vb',e,h⟩:=h;simp at e;subst e;exact h
theorem ah5 (w:World) (r:Nat) (h1:w.cell? ⟨r,22,none⟩=some (.int .i64 0)) (h2:w.cell? ⟨r,23,none⟩=some (.int .i64 0)):
  Calls Tryz.prog 157 #[.pointer (some ⟨r,0,none⟩)] w fun e w'=>e=.returned (.bool false)∧Gr w w':=by
 go_enter Tryz.func157,Tryz.ntmps157;go_wp2_with fail;refine cm0 (nw _ r 22 0 h1) fun w1 G1=>?_
 replace h2:=G1.keep h2;go_wp2_with fail;refine cm0 (nw _ r 23 0 h2) fun w2 G2=>?_
 have HG:=I (G1.trans G2);clear h1 h2;go_wp2;go_ret;exact⟨rfl,HG.out⟩
theorem ak7 (w:World) (q:Qs) (r v kb:Nat) (hr:Bk w r 190 #[.int .i64 q.i,q.a.v,q.b.v,q.c.v,q.d.v,q.e.v,q.f.v,.bool q.s,q.h.v,q.k.v,.int .i64 0,.int .i64 0,.bool false,.bool false,.int .i64 0,.int .i64 10,.int .i64 0,.iface 281 (.agg #[]),.pointer (some ⟨v,0,none⟩),Nl,.pointer (some ⟨kb,0,none⟩),.int .i64 0,.int .i64 0,.int .i64 0,.pointer none]):
  Calls Tryz.prog 156 #[.pointer (some ⟨r,0,none⟩)] w fun e w'=>∃p:Nat,e=.returned (.pointer (some ⟨p,0,none⟩))∧w.heap.size≤p∧Bk w' p 297 #[.int .i64 q.i,.slice q.a.A q.a.n q.a.c,.slice q.b.A q.b.n q.b.c,.slice q.c.A q.c.n q.c.c,.slice q.d.A q.d.n q.d.c,.slice q.e.A q.e.n q.e.c,.slice q.f.A q.f.n q.f.c,.bool q.s,.slice q.h.A q.h.n q.h.c,.slice q.k.A q.k.n q.k.c,.slice none 0 0,.slice none 0 0,.pointer (some ⟨v,0,none⟩)]∧Gr w w':=by
 have HR:=I hr;clear hr;go_enter Tryz.func156,Tryz.ntmps156;go_upto_region 1 with fail;have gd:=(Gr.refl w).drew;have hS0:=(show (fun W=>W.cell? ⟨r,0,none⟩=some (.int .i64 q.i)∧W.cell? ⟨r,1,none⟩=some q.a.v∧W.cell? ⟨r,2,none⟩=some q.b.v∧W.cell? ⟨r,3,none⟩=some q.c.v∧W.cell? ⟨r,4,none⟩=some q.d.v∧W.cell? ⟨r,5,none⟩=some q.e.v∧W.cell? ⟨r,6,none⟩=some q.f.v∧W.cell? ⟨r,7,none⟩=some (.bool q.s)∧W.cell? ⟨r,8,none⟩=some q.h.v∧W.cell? ⟨r,9,none⟩=some q.k.v∧W.cell? ⟨r,18,none⟩=some (.pointer (some ⟨v,0,none⟩))) w.drew from ⟨(gd.bk HR).cell 0,(gd.bk HR).cell 1,(gd.bk HR).cell 2,(gd.bk HR).cell 3,(gd.bk HR).cell 4,(gd.bk HR).cell 5,(gd.bk HR).cell 6,(gd.bk HR).cell 7,(gd.bk HR).cell 8,(gd.bk HR).cell 9,(gd.bk HR).cell 18⟩);clear gd;refine wy (fun W=>W.cell? ⟨r,0,none⟩=some (.int .i64 q.i)∧W.cell? ⟨r,1,none⟩=some q.a.v∧W.cell? ⟨r,2,none⟩=some q.b.v∧W.cell? ⟨r,3,none⟩=some q.c.v∧W.cell? ⟨r,4,none⟩=some q.d.v∧W.cell? ⟨r,5,none⟩=some q.e.v∧W.cell? ⟨r,6,none⟩=some q.f.v∧W.cell? ⟨r,7,none⟩=some (.bool q.s)∧W.cell? ⟨r,8,none⟩=some q.h.v∧W.cell? ⟨r,9,none⟩=some q.k.v∧W.cell? ⟨r,18,none⟩=some (.pointer (some ⟨v,0,none⟩))) (by kernel_rfl) ?_;show anyE _ _ _ _ 12 _ _ _;refine anyE.tk 0 hS0 ?_;refine anyE.tk 1 hS0 ?_;refine anyE.tk 2 hS0 ?_;refine anyE.tk 3 hS0 ?_;refine anyE.tk 4 hS0 ?_;refine anyE.tk 5 hS0 ?_;refine anyE.tk 6 hS0 ?_;refine anyE.tk 7 hS0 ?_;refine anyE.tk 8 hS0 ?_;refine anyE.tk 9 hS0 ?_;have GA:=((Gr.refl w).alloc (.cells #[.int .i64 q.i,q.a.v,q.b.v,q.c.v,q.d.v,q.e.v,q.f.v,.bool q.s,q.h.v,q.k.v,Nl,Nl,.pointer (some ⟨v,0,none⟩)] 297)).drew;have D1:=I (GA.bk HR);have HG1:=I GA;have DP:=I (show Bk ((w.alloc (.cells #[.int .i64 q.i,q.a.v,q.b.v,q.c.v,q.d.v,q.e.v,q.f.v,.bool q.s,q.h.v,q.k.v,Nl,Nl,.pointer (some ⟨v,0,none⟩)] 297)).drew) w.heap.size 297 #[.int .i64 q.i,q.a.v,q.b.v,q.c.v,q.d.v,q.e.v,q.f.v,.bool q.s,q.h.v,q.k.v,Nl,Nl,.pointer (some ⟨v,0,none⟩)] from Bk.made _ _ _);clear GA hS0;refine anyE.k 10 fun K hK=>?_
 go_simp;refine hK.out _ _ ⟨Or.inl (⟨D1.cell 0,D1.cell 1,D1.cell 2,D1.cell 3,D1.cell 4,D1.cell 5,D1.cell 6,D1.cell 7,D1.cell 8,D1.cell 9,D1.cell 18⟩),?_⟩;clear hK K;refine ptt ?_;generalize hw2:(w.alloc (.cells #[.int .i64 q.i,q.a.v,q.b.v,q.c.v,q.d.v,q.e.v,q.f.v,.bool q.s,q.h.v,q.k.v,Nl,Nl,.pointer (some ⟨v,0,none⟩)] 297)).drew=w2 at*;clear hw2;have hS1:=(show (fun W=>W.cell? ⟨r,0,none⟩=some (.int .i64 q.i)∧W.cell? ⟨r,1,none⟩=some q.a.v∧W.cell? ⟨r,2,none⟩=some q.b.v∧W.cell? ⟨r,3,none⟩=some q.c.v∧W.cell? ⟨r,4,none⟩=some q.d.v∧W.cell? ⟨r,5,none⟩=some q.e.v∧W.cell? ⟨r,6,none⟩=some q.f.v∧W.cell? ⟨r,7,none⟩=some (.bool q.s)∧W.cell? ⟨r,8,none⟩=some q.h.v∧W.cell? ⟨r,9,none⟩=some q.k.v∧W.cell? ⟨r,18,none⟩=some (.pointer (some ⟨v,0,none⟩))) w2 from ⟨D1.cell 0,D1.cell 1,D1.cell 2,D1.cell 3,D1.cell 4,D1.cell 5,D1.cell 6,D1.cell 7,D1.cell 8,D1.cell 9,D1.cell 18⟩);refine anyE.tk 11 hS1 ?_;refine anyE.done (by kernel_rfl) ?_;go_wp2;go_ret;exact⟨w.heap.size,rfl,nr _,DP.out,HG1.out⟩
theorem ant (w:World) (q:Qs) (x:Qr) (l:List Mm) (kb m1 m2 m3 r v:Nat) (z:Sv) (p:Nat) (hq:Qi w x q) (hx:Lf x l) (hkb:Bk w kb 246 #[.int .i64 q.i,q.a.v,q.b.v,q.c.v,q.d.v,q.e.v,q.f.v,.bool q.s,q.h.v,q.k.v,.map (some m1),.map (some m2),.map (some m3)]) (h1:Ob w m1 (.map #[{ key:=.string ⟨#[]⟩,val:=z.v,born:=0 }] 1)) (hz:Ebs w z [l]) (h3:Ob w m3 (.map #[] 0)) (hr:Bk w r 190 #[.int .i64 q.i,q.a.v,q.b.v,q.c.v,q.d.v,q.e.v,q.f.v,.bool q.s,q.h.v,q.k.v,.int .i64 0,.int .i64 0,.bool false,.bool false,.int .i64 0,.int .i64 10,.int .i64 0,.iface 281 (.agg #[]),.pointer (some ⟨v,0,none⟩),Nl,.pointer (some ⟨kb,0,none⟩),.int .i64 0,.int .i64 0,.int .i64 0,.pointer none]) (hv:Bk w v 241 #[Nl,.int .i64 0,.int .i64 0,.bool false,Nl,Nl,Nl,.bool false,Nl,Nl]) (hp:Bk w p 297 #[.int .i64 q.i,q.a.v,q.b.v,q.c.v,q.d.v,q.e.v,q.f.v,.bool q.s,q.h.v,q.k.v,Nl,Nl,.pointer (some ⟨v,0,none⟩)]):
  Calls Tryz.prog 201 #[.pointer (some ⟨r,0,none⟩),.pointer (some ⟨p,0,none⟩)] w fun e w'=>e=.returned (.bool true)∧(∃y:Sv,Bk w' v 241 #[.slice none 0 0,.int .i64 0,.int .i64 0,.bool false,.slice none 0 0,.slice none 0 0,.slice none 0 0,.bool false,.slice y.A y.n y.c,.slice none 0 0]∧MultR w' y l)∧Fr (fun b=>b=v) w w':=by
 have HQ:=I hq;have HX:=I hx;have HKB:=I hkb;have H1:=I h1;have HZ:=I hz;have H3:=I h3;have HR:=I hr;have HV:=I hv;have HP:=I hp;clear hq hx hkb h1 hz h3 hr hv hp;have r20:=HR.cell 20;simp only[List.getElem?_toArray,List.getElem?_cons_zero,List.getElem?_cons_succ] at r20;obtain⟨p0,p1,p2,p3,p4,p5,p6,p7,p8,p9,p10,p11,p12⟩:=HP.c13;go_enter Tryz.func201,Tryz.ntmps201;go_upto_region 1 with fail;refine wpr ?_;have kc:=I fun W' (G:Gr w.drew W')=>G.kk r20 <| G.kk p0 <| G.kk p1 <| G.kk p2 <| G.kk p3 <| G.kk p4 <| G.kk p5 <| G.kk p6 <| G.kk p7 <| G.kk p8 <| G.kk p9 <| ai (G.keep p10) (G.keep p11)
 refine wg 0 (tf 14 0) [0,1,2,3,4,5,6,7,8,9,10,11,12,13] [(8,Grafted l w.heap.size)] ?_;iterate 8 refine .tk ?_
 refine .dc (fun W1 G1 F1=>?_) ?_
 ·obtain⟨r20,p0,p1,p2,p3,p4,p5,p6,p7,p8,p9,p10,p11⟩:=kc.out W1 G1;refine ac8 ?_;refine (amt W1 q x l kb m1 m2 m3 z (HQ.gr G1.od) HX (G1.od.bk HKB) (H1.gr G1.od) (HZ.gr G1.od) (H3.gr G1.od)).mono ?_;rintro e w' ⟨vb,y,rfl,hvb,h5,h6,G⟩;exact⟨_,rfl,G,vb,rfl,nt G1.od.size hvb,y,h5,h6⟩
 rintro _ ⟨_,-,-,⟨vb,rfl,-⟩⟩;iterate 5 refine .tk ?_
 refine .done fun W1 G1 F1=>?_
 have hgr:=lh F1 0;clear F1;refine wpe ?_;obtain⟨hvN,y,hvb,hy⟩:=hgr.is;have HG:=I G1.od;have HVB:=I hvb;have HY:=I hy;have HP3:=I (HG.bk HP);have HV3:=I (HG.bk HV);clear hvN hvb hy hgr G1 p12 kc r20 p0 p1 p2 p3 p4 p5 p6 p7 p8 p9 p10 p11;generalize W1=w3 at*;obtain⟨p0,p1,p2,p3,p4,p5,p6,p7,p8,p9,p10,p11,p12⟩:=HP3.c13;obtain⟨v0,v1,v2,v3,v4,v5,v6,v7,v8,v9⟩:=HVB.c10;clear p0 p1 p2 p3 p4 p5 p6 p7 p8 p9 p10 p11;go_wp2_with fail;go_upto_region 3 with fail;refine wpr ?_;have kc:=I fun W' (G:Gr w3.drew W')=>G.kk p12 <| G.kk v0 <| G.kk v1 <| G.kk v2 <| G.kk v3 <| G.kk v4 <| G.kk v5 <| G.kk v6 <| G.kk v7 <| ai (G.keep v8) (G.keep v9)
 refine wg 2 (tf 7 2) [0,1,2,3,4,5,6] [] ?_;iterate 7 refine .tk ?_
 refine .done fun W1 G1 F1=>?_
 replace kc:=kc.out W1 G1;clear F1 p12 v0 v1 v2 v3 v4 v5 v6 v7 v8 v9;refine wo 7 ?_;refine a4f 8 fun K hK=>?_
 have hR5:=G1.od.bk HV3;have fz:=hR5.frozen;have z0_:=hR5.c10;go_simp;refine hK.out _ _ ?_;clear hK K;refine ptt ?_;refine wpe ?_;have hR5:=G1.od.bk HV3;obtain⟨B5,F5⟩:=hR5.put10 Nl (.int .i64 0) (.int .i64 0) (.bool false) Nl Nl Nl (.bool false) y.v Nl;have HV5:=I B5;have HY5:=I ((HY.gr G1.od).st F5 hR5 dx dx);have HF5:=I (((HG.trans G1.od).fr.none.trans F5):Fr (fun b=>b=v) w _);clear hR5 B5 F5 G1 kc;generalize (((((((((W1.setCell ⟨v,0,none⟩ Nl).setCell ⟨v,1,none⟩ (.int .i64 0)).setCell ⟨v,2,none⟩ (.int .i64 0)).setCell ⟨v,3,none⟩ (.bool false)).setCell ⟨v,4,none⟩ Nl).setCell ⟨v,5,none⟩ Nl).setCell ⟨v,6,none⟩ Nl).setCell ⟨v,7,none⟩ (.bool false)).setCell ⟨v,8,none⟩ y.v).setCell ⟨v,9,none⟩ Nl=w5 at*;go_wp2;go_ret;exact⟨rfl,⟨y,HV5.out,HY5.out⟩,HF5.out⟩
theorem ak9 (w:World) (q:Qs) (x:Qr) (l:List Mm) (kb m1 m2 m3 r v:Nat) (z:Sv) (p:Nat) (hq:Qi w x q) (hx:Lf x l) (hkb:Bk w kb 246 #[.int .i64 q.i,q.a.v,q.b.v,q.c.v,q.d.v,q.e.v,q.f.v,.bool q.s,q.h.v,q.k.v,.map (some m1),.map (some m2),.map (some m3)]) (h1:Ob w m1 (.map #[{ key:=.string ⟨#[]⟩,val:=z.v,born:=0 }] 1)) (hz:Ebs w z [l]) (h3:Ob w m3 (.map #[] 0)) (hr:Bk w r 190 #[.int .i64 q.i,q.a.v,q.b.v,q.c.v,q.d.v,q.e.v,q.f.v,.bool q.s,q.h.v,q.k.v,.int .i64 0,.int .i64 0,.bool false,.bool false,.int .i64 0,.int .i64 10,.int .i64 0,.iface 281 (.agg #[]),.pointer (some ⟨v,0,none⟩),Nl,.pointer (some ⟨kb,0,none⟩),.int .i64 0,.int .i64 0,.int .i64 0,.pointer none]) (hv:Bk w v 241 #[Nl,.int .i64 0,.int .i64 0,.bool false,Nl,Nl,Nl,.bool false,Nl,Nl]) (hp:Bk w p 297 #[.int .i64 q.i,q.a.v,q.b.v,q.c.v,q.d.v,q.e.v,q.f.v,.bool q.s,q.h.v,q.k.v,Nl,Nl,.pointer (some ⟨v,0,none⟩)]):
  Calls Tryz.prog 158 #[.pointer (some ⟨r,0,none⟩),.pointer (some ⟨p,0,none⟩)] w fun e w'=>e=.returned (.slice none 0 0)∧(∃y:Sv,Bk w' v 241 #[.slice none 0 0,.int .i64 0,.int .i64 0,.bool false,.slice none 0 0,.slice none 0 0,.slice none 0 0,.bool false,.slice y.A y.n y.c,.slice none 0 0]∧MultR w' y l)∧Fr (fun b=>b=v) w w':=by
 go_enter Tryz.func158,Tryz.ntmps158;go_wp2_with fail;have r22:=hr.cell 22;have r23:=hr.cell 23;simp only[List.getElem?_toArray,List.getElem?_cons_zero,List.getElem?_cons_succ] at r22 r23;refine cm0 (ah5 w r r22 r23) fun w1 G=>?_
 have H9:=I (ant w1 q x l kb m1 m2 m3 r v z p (hq.gr G) hx (G.bk hkb) (h1.gr G) (hz.gr G) (h3.gr G) (G.bk hr) (G.bk hv) (G.bk hp));have HG:=I G;clear hq hx hkb h1 hz h3 hr hv hp r22 r23;go_wp2_with fail;refine H9.mono ?_;rintro e w2 ⟨rfl,⟨y,h5,h6⟩,F⟩;have H5:=I h5;have H6:=I h6;have HF:=I (HG.fr.none.trans F:Fr (fun b=>b=v) w _);clear h5 h6 F H9;go_wp2;go_ret;exact⟨rfl,⟨y,H5.out,H6.out⟩,HF.out⟩
theorem Bk.put12 {w:World} {p t:Nat} {a0 a1 a2 a3 a4 a5 a6 a7 a8 a9 a10 a11:Value} (hh:Bk w p t #[a0,a1,a2,a3,a4,a5,a6,a7,a8,a9,a10,a11]) (x0 x1 x2 x3 x4 x5 x6 x7 x8 x9 x10 x11:Value):Bk ((((((((((((w.setCell ⟨p,0,none⟩ x0).setCell ⟨p,1,none⟩ x1).setCell ⟨p,2,none⟩ x2).setCell ⟨p,3,none⟩ x3).setCell ⟨p,4,none⟩ x4).setCell ⟨p,5,none⟩ x5).setCell ⟨p,6,none⟩ x6).setCell ⟨p,7,none⟩ x7).setCell ⟨p,8,none⟩ x8).setCell ⟨p,9,none⟩ x9).setCell ⟨p,10,none⟩ x10).setCell ⟨p,11,none⟩ x11) p t #[x0,x1,x2,x3,x4,x5,x6,x7,x8,x9,x10,x11]∧Fr (fun b=>b=p) w ((((((((((((w.setCell ⟨p,0,none⟩ x0).setCell ⟨p,1,none⟩ x1).setCell ⟨p,2,none⟩ x2).setCell ⟨p,3,none⟩ x3).setCell ⟨p,4,none⟩ x4).setCell ⟨p,5,none⟩ x5).setCell ⟨p,6,none⟩ x6).setCell ⟨p,7,none⟩ x7).setCell ⟨p,8,none⟩ x8).setCell ⟨p,9,none⟩ x9).setCell ⟨p,10,none⟩ x10).setCell ⟨p,11,none⟩ x11):=by
 refine⟨?_,((((((((((((Fr.set w ⟨p,0,none⟩ x0 rfl:Fr (fun b=>b=p) w _)).trans (Fr.set _ ⟨p,1,none⟩ x1 rfl)).trans (Fr.set _ ⟨p,2,none⟩ x2 rfl)).trans (Fr.set _ ⟨p,3,none⟩ x3 rfl)).trans (Fr.set _ ⟨p,4,none⟩ x4 rfl)).trans (Fr.set _ ⟨p,5,none⟩ x5 rfl)).trans (Fr.set _ ⟨p,6,none⟩ x6 rfl)).trans (Fr.set _ ⟨p,7,none⟩ x7 rfl)).trans (Fr.set _ ⟨p,8,none⟩ x8 rfl)).trans (Fr.set _ ⟨p,9,none⟩ x9 rfl)).trans (Fr.set _ ⟨p,10,none⟩ x10 rfl)).trans (Fr.set _ ⟨p,11,none⟩ x11 rfl)⟩;have:=((((((((((((Bk.put hh 0 x0).put 1 x1).put 2 x2).put 3 x3).put 4 x4).put 5 x5).put 6 x6).put 7 x7).put 8 x8).put 9 x9).put 10 x10).put 11 x11);simpa using this
theorem adi (w:World):
  Calls Tryz.prog 159 #[Nl] w fun e w'=>e=.returned (.tuple #[])∧Gr w w':=by
 go_enter Tryz.func159,Tryz.ntmps159;go_wp2_with fail;refine wp_loop_rounds 1 ?_;rw[rounds_succ];go_wp2;refine pex ?_
 first | (refine bodyPost_ret (results_none rfl _ _ _) rfl ?_) | (refine bodyPost_end (results_none rfl _ _ _) rfl ?_)
 exact⟨rfl,Gr.refl w⟩
theorem an9 (w:World) (q:Qs) (x:Qr) (l:List Mm) (kb m1 m2 m3 r v:Nat) (z:Sv) (hq:Qi w x q) (hx:Lf x l) (hkb:Bk w kb 246 #[.int .i64 q.i,q.a.v,q.b.v,q.c.v,q.d.v,q.e.v,q.f.v,.bool q.s,q.h.v,q.k.v,.map (some m1),.map (some m2),.map (some m3)]) (h1:Ob w m1 (.map #[{ key:=.string ⟨#[]⟩,val:=z.v,born:=0 }] 1)) (hz:Ebs w z [l]) (h3:Ob w m3 (.map #[] 0)) (hr:Bk w r 190 #[.int .i64 q.i,q.a.v,q.b.v,q.c.v,q.d.v,q.e.v,q.f.v,.bool q.s,q.h.v,q.k.v,.int .i64 0,.int .i64 0,.bool false,.bool false,.int .i64 0,.int .i64 10,.int .i64 0,.iface 281 (.agg #[]),.pointer (some ⟨v,0,none⟩),Nl,.pointer (some ⟨kb,0,none⟩),.int .i64 0,.int .i64 0,.int .i64 0,.pointer none]) (hv:Bk w v 241 #[Nl,.int .i64 0,.int .i64 0,.bool false,Nl,Nl,Nl,.bool false,Nl,Nl]):
  Calls Tryz.prog 100 #[.pointer (some ⟨r,0,none⟩)] w fun e w'=>e=.returned (.tuple #[])∧(∃y:Sv,Bk w' v 241 #[.slice none 0 0,.int .i64 0,.int .i64 0,.bool false,.slice none 0 0,.slice none 0 0,.slice none 0 0,.bool false,.slice y.A y.n y.c,.slice none 0 0]∧MultR w' y l)∧Fr (fun b=>b=v) w w':=by
 go_enter Tryz.func100,Tryz.ntmps100;go_wp2_with fail;refine (ak7 w q r v kb hr).mono ?_;rintro e w1 ⟨p,rfl,hpn,hp,G⟩;obtain⟨B1,GB⟩:=abd w1 249 #[.pointer (some ⟨p,0,none⟩)];have G2:=G.trans GB;have DS:=I B1;have HR:=I (G2.bk hr);have H9:=I (fun (W:World) (G3:Gr w W) (hp:Bk W p 297 #[.int .i64 q.i,q.a.v,q.b.v,q.c.v,q.d.v,q.e.v,q.f.v,.bool q.s,q.h.v,q.k.v,Nl,Nl,.pointer (some ⟨v,0,none⟩)])=>ak9 W q x l kb m1 m2 m3 r v z p (hq.gr G3) hx (G3.bk hkb) (h1.gr G3) (hz.gr G3) (h3.gr G3) (G3.bk hr) (G3.bk hv) hp);have HP:=I (GB.bk hp);have HG:=I G2;have hvr:¬v=r:=fun e=>by rw[e] at hv;exact Bk.ne hr hv dx rfl
 have hvs:¬w1.heap.size=v:=fun e=>by have:=hv.lt;have:=G.size;omega
 have HVS:=I hvs;clear hq hx hkb h1 hz h3 hr hv hp G GB B1 G2 hpn hvr hvs;have s0:=DS.c1;have r22:=HR.cell 22;have r23:=HR.cell 23;simp only[List.getElem?_toArray,List.getElem?_cons_zero,List.getElem?_cons_succ] at r22 r23;go_wp2_with fail;refine wp_loop_rounds 2 ?_;rw[rounds_succ];go_wp2_with fail;refine cm0 (ah5 _ r r22 r23) fun w2 G=>?_
 replace s0:=G.keep s0;obtain⟨HG,HP,DS⟩:=G.u3 HG HP DS;clear r22 r23;go_wp2_with fail;refine (H9.out _ HG HP).mono ?_;rintro e w3 ⟨rfl,⟨y,h5,h6⟩,F⟩;have H5:=I h5;have H6:=I h6;have HF:=I (HG.fr.none.trans F:Fr (fun b=>b=v) w _);replace s0:=(F.bk DS HVS).c1;clear h5 h6 F H9 HG HP HR;go_wp2_with fail;refine cm0 (adi w3) fun w4 G=>?_
 have H7:=I (G.bk H5);have H8:=I (H6.gr G);have HF8:=I (HF.trans G.fr.none:Fr (fun b=>b=v) w _);clear s0 H5 H6 HF;go_wp2;rw[rounds_succ];go_wp2;refine pex ?_
 first | (refine bodyPost_ret (results_none rfl _ _ _) rfl ?_) | (refine bodyPost_end (results_none rfl _ _ _) rfl ?_)
 exact⟨rfl,⟨y,H7.out,H8.out⟩,HF8.out⟩
theorem ans (w:World) (v:Nat) (y:Sv) (hv:Bk w v 241 #[Nl,.int .i64 0,.int .i64 0,.bool false,Nl,Nl,Nl,.bool false,y.v,Nl]):
  Calls Tryz.prog 161 #[.pointer (some ⟨v,0,none⟩)] w fun e w'=>e=.returned (aoj y)∧Gr w w':=by
 go_enter Tryz.func161,Tryz.ntmps161;go_upto_region 1 with fail;refine nw1h fun W HG D_t=>?_
 have HV:=I (HG.bk hv);clear hv;have N_t:=dnl (w.heap.size) (w.heap.size);obtain⟨B1,GB⟩:=abd W 46 #[Nl,.int .i64 0,.int .i64 0,.bool false,Nl,Nl,Nl,.bool false,y.v];have n0_:=B1.c9;obtain⟨v0,v1,v2,v3,v4,v5,v6,v7,v8,v9⟩:=HV.c10;have w9:=GB.keep v9;have DT:=I (GB.bk D_t);have HG2:=I (HG.trans GB);have fz:=DT.frozen;have t9:=DT.c9;obtain⟨B5,F5⟩:=DT.put9 Nl (.int .i64 0) (.int .i64 0) (.bool false) Nl Nl Nl (.bool false) y.v;have H5:=I F5;obtain⟨d0,d1,d2,d3,d4,d5,d6,d7,d8⟩:=B5.c9;have hne:¬W.heap.size=w.heap.size:=fun e=>ni _ (e▸D_t.lt)
 clear F5 B5 B1 GB;go_wp2_with fail;refine wp_loop_rounds 1 ?_;rw[rounds_succ];obtain⟨t0,t1,t2,t3,t4,t5,t6,t7,t8⟩:=t9;go_wp2;generalize (((((((((W.alloc (.cells #[Nl,.int .i64 0,.int .i64 0,.bool false,Nl,Nl,Nl,.bool false,y.v] 46)).setCell ⟨w.heap.size,0,none⟩ Nl).setCell ⟨w.heap.size,1,none⟩ (.int .i64 0)).setCell ⟨w.heap.size,2,none⟩ (.int .i64 0)).setCell ⟨w.heap.size,3,none⟩ (.bool false)).setCell ⟨w.heap.size,4,none⟩ Nl).setCell ⟨w.heap.size,5,none⟩ Nl).setCell ⟨w.heap.size,6,none⟩ Nl).setCell ⟨w.heap.size,7,none⟩ (.bool false)).setCell ⟨w.heap.size,8,none⟩ y.v=W5 at*;refine pex ?_;refine bodyPost_ret (by simp[results,Tryz.results161,go_sem,d0,d1,d2,d3,d4,d5,d6,d7,d8];try rfl) rfl ?_;exact⟨rfl,HG2.fr_at H5 N_t⟩
theorem Bk.put10of12 {w:World} {p t:Nat} {a0 a1 a2 a3 a4 a5 a6 a7 a8 a9 a10 a11:Value} (hh:Bk w p t #[a0,a1,a2,a3,a4,a5,a6,a7,a8,a9,a10,a11]) (x0 x1 x2 x3 x4 x5 x6 x7 x8 x9:Value):Bk ((((((((((w.setCell ⟨p,0,none⟩ x0).setCell ⟨p,1,none⟩ x1).setCell ⟨p,2,none⟩ x2).setCell ⟨p,3,none⟩ x3).setCell ⟨p,4,none⟩ x4).setCell ⟨p,5,none⟩ x5).setCell ⟨p,6,none⟩ x6).setCell ⟨p,7,none⟩ x7).setCell ⟨p,8,none⟩ x8).setCell ⟨p,9,none⟩ x9) p t #[x0,x1,x2,x3,x4,x5,x6,x7,x8,x9,a10,a11]∧Fr (fun b=>b=p) w ((((((((((w.setCell ⟨p,0,none⟩ x0).setCell ⟨p,1,none⟩ x1).setCell ⟨p,2,none⟩ x2).setCell ⟨p,3,none⟩ x3).setCell ⟨p,4,none⟩ x4).setCell ⟨p,5,none⟩ x5).setCell ⟨p,6,none⟩ x6).setCell ⟨p,7,none⟩ x7).setCell ⟨p,8,none⟩ x8).setCell ⟨p,9,none⟩ x9):=by
 refine⟨?_,((((((((((Fr.set w ⟨p,0,none⟩ x0 rfl:Fr (fun b=>b=p) w _)).trans (Fr.set _ ⟨p,1,none⟩ x1 rfl)).trans (Fr.set _ ⟨p,2,none⟩ x2 rfl)).trans (Fr.set _ ⟨p,3,none⟩ x3 rfl)).trans (Fr.set _ ⟨p,4,none⟩ x4 rfl)).trans (Fr.set _ ⟨p,5,none⟩ x5 rfl)).trans (Fr.set _ ⟨p,6,none⟩ x6 rfl)).trans (Fr.set _ ⟨p,7,none⟩ x7 rfl)).trans (Fr.set _ ⟨p,8,none⟩ x8 rfl)).trans (Fr.set _ ⟨p,9,none⟩ x9 rfl)⟩;have:=((((((((((Bk.put hh 0 x0).put 1 x1).put 2 x2).put 3 x3).put 4 x4).put 5 x5).put 6 x6).put 7 x7).put 8 x8).put 9 x9);simpa using this
theorem aem (w:World) (q:Qs) (r v kb:Nat) (y:Sv) (hr:Bk w r 190 #[.int .i64 q.i,q.a.v,q.b.v,q.c.v,q.d.v,q.e.v,q.f.v,.bool q.s,q.h.v,q.k.v,.int .i64 0,.int .i64 0,.bool false,.bool false,.int .i64 0,.int .i64 10,.int .i64 0,.iface 281 (.agg #[]),.pointer (some ⟨v,0,none⟩),Nl,.pointer (some ⟨kb,0,none⟩),.int .i64 0,.int .i64 0,.int .i64 0,.pointer none]) (hv:Bk w v 241 #[Nl,.int .i64 0,.int .i64 0,.bool false,Nl,Nl,Nl,.bool false,y.v,Nl]):
  Calls Tryz.prog 101 #[.pointer (some ⟨r,0,none⟩)] w fun e w'=>e=.returned (.tuple #[.agg #[.int .i64 1,.slice none 0 0,.int .i64 0,.int .i64 0,.bool false,.slice none 0 0,.slice none 0 0,.slice none 0 0,.bool false,.slice y.A y.n y.c,.slice none 0 0,.int .i64 0],.int .i64 0])∧Gr w w':=by
 go_enter Tryz.func101,Tryz.ntmps101;go_wp2_with fail;refine am5 fun W HG D_t=>?_
 have HR:=I (HG.bk hr);have HV:=I (HG.bk hv);clear hr hv;refine cm0 (nw _ r 23 0 (HR.cell 23)) fun w1 G=>?_
 obtain⟨HG,HR,HV,D_t⟩:=G.u4 HG HR HV D_t

 go_wp2_with fail;go_upto_region 4 with fail;refine wpr ?_;show wpAny _ _ _ _ 11 _ _ _;refine wg 1 (tf 10 1) [0,1,2,3,4,5,6,7,8,9] [(3,fun v _=>v=.int .i64 0),(7,fun v _=>v=.int .i64 0),(9,NewAt 61 #[.int .i64 0,Nl,.int .i64 0,.int .i64 0,.bool false,Nl,Nl,Nl,.bool false,Nl,Nl,.int .i64 0] w1.heap.size)] ?_;iterate 3 refine .tk ?_
 refine .dk (fun W1 G1 F1=>nw W1 r 22 0 ((G1.od.bk HR).cell 22)) ?_;rintro _ ⟨_,-,-,rfl⟩;iterate 3 refine .tk ?_
 refine .dk (fun W1 G1 F1=>nw W1 r 21 0 ((G1.od.bk HR).cell 21)) ?_;rintro _ ⟨_,-,-,rfl⟩;refine .tk ?_;refine .da ?_;rintro _ ⟨_,-,-,⟨o,rfl,-,-⟩⟩;refine .done fun W1 G1 F1=>?_
 have ho:=lh F1 2;clear F1;refine a4f 10 fun K hK=>?_
 have hN:=ho.is;have fz:=hN.1.frozen;have o0_:=hN.1.c12;go_simp;refine hK.out _ _ ?_;clear hK K;refine ptt ?_;refine wpe ?_;obtain⟨ho,hoN⟩:=ho.is;obtain⟨B5,F5⟩:=ho.put12 (.int .i64 0) Nl (.int .i64 0) (.int .i64 0) (.bool false) Nl Nl Nl (.bool false) Nl Nl (.int .i64 0);have HNO:=I (nt HG.size hoN);have hot:=I (show ¬o=w.heap.size from fun e=>ni _ (nk (e▸D_t.lt) hoN));have HG5:=I ((HG.trans G1.od).fr_at F5 HNO);have DO:=I B5;replace HR:=I (F5.bk (G1.od.bk HR) (Nat.ne_of_lt (nk HR.lt hoN)));replace HV:=I (F5.bk (G1.od.bk HV) (Nat.ne_of_lt (nk HV.lt hoN)));replace D_t:=I (F5.bk (G1.od.bk D_t) (Nat.ne_of_lt (nk D_t.lt hoN)));clear ho hoN G1 B5 F5 HG;generalize (((((((((((W1.setCell ⟨o,0,none⟩ (.int .i64 0)).setCell ⟨o,1,none⟩ Nl).setCell ⟨o,2,none⟩ (.int .i64 0)).setCell ⟨o,3,none⟩ (.int .i64 0)).setCell ⟨o,4,none⟩ (.bool false)).setCell ⟨o,5,none⟩ Nl).setCell ⟨o,6,none⟩ Nl).setCell ⟨o,7,none⟩ Nl).setCell ⟨o,8,none⟩ (.bool false)).setCell ⟨o,9,none⟩ Nl).setCell ⟨o,10,none⟩ Nl).setCell ⟨o,11,none⟩ (.int .i64 0)=w5 at*;have r18:=HR.cell 18;simp only[List.getElem?_toArray,List.getElem?_cons_zero,List.getElem?_cons_succ] at r18;have o0_:=DO.c12;go_wp2_with fail;refine cm0 (ans w5 v y HV) fun w6 G=>?_
 have DO6:=G.bk DO;have T6:=G.bk D_t;have HG6:=I (HG5.trans G);obtain⟨B7,F7⟩:=DO6.put10of12 (.int .i64 1) Nl (.int .i64 0) (.int .i64 0) (.bool false) Nl Nl Nl (.bool false) y.v;have fzo:=DO6.frozen;have T7:=I (F7.bk T6 (fun e=>hot.out e.symm));have HG7:=I (HG6.fr_at F7 HNO);have D7:=I B7;clear o0_ r18;have o0_:=DO6.c12;clear F7 B7 T6 DO6 HV HR DO D_t HG6 HG5;go_upto_region 10 with fail;clear o0_ fzo;generalize (((((((((w6.setCell ⟨o,0,none⟩ (.int .i64 1)).setCell ⟨o,1,none⟩ Nl).setCell ⟨o,2,none⟩ (.int .i64 0)).setCell ⟨o,3,none⟩ (.int .i64 0)).setCell ⟨o,4,none⟩ (.bool false)).setCell ⟨o,5,none⟩ Nl).setCell ⟨o,6,none⟩ Nl).setCell ⟨o,7,none⟩ Nl).setCell ⟨o,8,none⟩ (.bool false)).setCell ⟨o,9,none⟩ y.v=w7 at*;have fzt:=T7.frozen;have o0_:=D7.c12;have t0_:=T7.c12;obtain⟨B8,F8⟩:=T7.put12 (.int .i64 1) Nl (.int .i64 0) (.int .i64 0) (.bool false) Nl Nl Nl (.bool false) y.v Nl (.int .i64 0);have H8:=I (HG7.fr_at F8 (nr _));obtain⟨d0,d1,d2,d3,d4,d5,d6,d7,d8,d9,d10,d11⟩:=B8.c12;clear B8 F8 T7 D7 HG7;go_wp2;generalize (((((((((((w7.setCell ⟨w.heap.size,0,none⟩ (.int .i64 1)).setCell ⟨w.heap.size,1,none⟩ Nl).setCell ⟨w.heap.size,2,none⟩ (.int .i64 0)).setCell ⟨w.heap.size,3,none⟩ (.int .i64 0)).setCell ⟨w.heap.size,4,none⟩ (.bool false)).setCell ⟨w.heap.size,5,none⟩ Nl).setCell ⟨w.heap.size,6,none⟩ Nl).setCell ⟨w.heap.size,7,none⟩ Nl).setCell ⟨w.heap.size,8,none⟩ (.bool false)).setCell ⟨w.heap.size,9,none⟩ y.v).setCell ⟨w.heap.size,10,none⟩ Nl).setCell ⟨w.heap.size,11,none⟩ (.int .i64 0)=w8 at*;refine pex ?_;refine bodyPost_ret (by simp[results,Tryz.results101,go_sem,d0,d1,d2,d3,d4,d5,d6,d7,d8,d9,d10,d11];try rfl) rfl ?_;exact⟨rfl,H8.out⟩
end
theorem a1p {e size:Nat} (h:((Tryz.prog).info? e).map (fun i=>(i.zero.isSome,i.size,decide (i.bytes≤1000)))=some (true,size,true)):∃i z,(Tryz.prog).info? e=some i∧i.zero=some z∧i.size=size∧i.bytes≤1000:=by
 obtain⟨i,hi,h2⟩:=Option.map_eq_some_iff.1 h;simp only[Prod.mk.injEq,de] at h2;obtain⟨z,hz⟩:=Option.isSome_iff_exists.1 h2.1;exact⟨i,z,hi,hz,h2.2.1,h2.2.2⟩
def gj (ls:List Lm) (p:List Mm):List Bool:=addM (oneM ls ls.length) p (List.replicate ls.length false)
def ph:Nat→List Bool→List Int
 | _,[]=>[]
 | n,b::is=>bif b then ((n+1:Nat):Int)::ph (n+1) is else 0::ph n is
def ci (is:List Bool):List Int:=ph 0 is
def renL (to:List Int) (m:Lm):Lm:=⟨m.unit,m.upper,m.value,m.proof.map (renM to)⟩
def eg (to:List Int):List Bool→List Lm→List Lm
 | b::is,m::ls=>bif b then renL to m::eg to is ls else eg to is ls
 | _,_=>[]
def du (x:En):En:=⟨x.path,eg (ci (gj x.lems x.proof)) (gj x.lems x.proof) x.lems,x.empty,x.proof.map (renM (ci (gj x.lems x.proof)))⟩
theorem wm (n:Nat):cntF (List.replicate n false)=n:=by simp[cntF,List.countP_replicate]
theorem uc (ls:List Lm) (p:List Mm):(gj ls p).length=ls.length:=(zi (rm ls.length) p _ (by simp) (by rw[wm];exact nr _)).1
theorem aie {ls:List Lm} {p:List Mm} (h9:ls.length≤100000) (hp:∀m∈ls,m.proof.length≤100000) (hp9:p.length≤100000):MCalls Tryz.prog [] 81 [.box 1000 0,.pv (mmsP p)] (mkR ls (List.replicate ls.length false)) (mkR ls (gj ls p)) (.tup []):=
 agu hp9 (by simp) (by rw[wm];exact nr _) (ags h9 hp ls.length)
abbrev isC (to:List Int):List (List PV):=to.map fun z=>[iP z]
theorem agd (n:Nat):List.replicate n [bP false]=bsC (List.replicate n false):=by rw[bsC,List.map_replicate]
theorem agc (n:Nat):List.replicate n [iP 0]=isC ([]++List.replicate (n - 0) 0):=by rw[List.nil_append,isC,List.map_replicate];rfl
theorem a17 {done:List Int} {m i:Nat} (h:done.length=i) (hi:i < m):(isC (done++List.replicate (m - i) 0))[i]?=some [iP 0]:=by
 refine aj (f:=fun z=>[iP z]) ?_;rw[List.getElem?_append_right om,h,Nat.sub_self,show m - i=(m - (i+1))+1 from by omega,List.replicate_succ];rfl
theorem a6h {done:List Int} {m i:Nat} {z:Int} (h:done.length=i) (hi:i < m):(isC (done++List.replicate (m - i) 0)).set i [iP z]=isC ((done++[z])++List.replicate (m - (i+1)) 0):=by
 rw[show [iP z]=(fun z=>[iP z]) z from rfl,← List.map_set,List.set_append_right _ _ om,h,Nat.sub_self,show m - i=(m - (i+1))+1 from by omega,List.replicate_succ,List.set_cons_zero,List.append_assoc];rfl
theorem a35 {done:List Int} {m i:Nat} (hi:i < m):isC (done++List.replicate (m - i) 0)=isC ((done++[0])++List.replicate (m - (i+1)) 0):=by
 rw[show m - i=(m - (i+1))+1 from by omega,List.replicate_succ,List.append_assoc];rfl
theorem rp {n i:Nat} {is:List Bool} {done:List Int} {b:Bool} (hi:i < is.length) (hb:atZ is (i:Int)=b) (h:done++ph n (is.drop i)=ci is):(bif b then (done++[((n+1:Nat):Int)])++ph (n+1) (is.drop (i+1)) else (done++[0])++ph n (is.drop (i+1)))=ci is:=by
 have e:is.drop i=atZ is (i:Int)::is.drop (i+1):=by rw[bm (ge hi),List.drop_eq_getElem_cons hi]
 rw[e,ph,hb] at h;cases b with
 | true=>rw[← h];simp
 | false=>rw[← h];simp
theorem a6i {n i:Nat} {is:List Bool} {done:List Int} (hi:is.length≤i) (h:done++ph n (is.drop i)=ci is):done++List.replicate (is.length - i) 0=ci is:=by
 rw[List.drop_of_length_le hi,ph,List.append_nil] at h;rw[Nat.sub_eq_zero_of_le hi,List.replicate_zero,List.append_nil,h]
theorem sn {to:List Int} {is:List Bool} {ls:List Lm} {acc:List Lm} {i:Nat} {b:Bool} (hl:is.length=ls.length) (hi:i < ls.length) (hb:atZ is (i:Int)=b) (h:acc++eg to (is.drop i) (ls.drop i)=eg to is ls):(bif b then acc++[renL to (atZ ls (i:Int))] else acc)++eg to (is.drop (i+1)) (ls.drop (i+1))=eg to is ls:=by
 have hi':i < is.length:=by omega
 have e:is.drop i=atZ is (i:Int)::is.drop (i+1):=by rw[bm (ge hi'),List.drop_eq_getElem_cons hi']
 have e2:ls.drop i=atZ ls (i:Int)::ls.drop (i+1):=by rw[bm (ge hi),List.drop_eq_getElem_cons hi]
 rw[e,e2,eg,hb] at h;cases b with
 | true=>rw[← h];simp
 | false=>rw[← h];simp
theorem a6s {to:List Int} {is:List Bool} {ls:List Lm} {acc:List Lm} {i:Nat} (hl:is.length=ls.length) (hi:ls.length≤i) (h:acc++eg to (is.drop i) (ls.drop i)=eg to is ls):acc=eg to is ls:=by
 rw[List.drop_of_length_le om,eg,List.append_nil] at h
 ·exact h
 ·intro b is2 m ls2 e;cases e
theorem ae8 {x:En} (h9:x.lems.length≤1000) (hx:EnOk x):PCallsG Tryz.prog [] 38 [enP x] (enP (du x)):=by
 have hl:(gj x.lems x.proof).length=x.lems.length:=uc _ _;have hm:=aie (p:=x.proof) (show x.lems.length≤100000 by omega) (fun m hm=>nt (hx.lems m hm).proof.len dx) (nt hx.proof.len dx);unfold du;generalize gj x.lems x.proof=is at*;refine pcF [77,154,4,3,100] (by kernel_rfl) Tryz.func38 rfl rfl (fun D hF hG=>?_);refine pa Y Y (pr0 (qg 7 ?_));refine rmk0 (n:=(x.lems.map lmC).length) 1001 (by rw[List.length_map];show x.lems.length*1≤_;omega) (a1p (by kernel_rfl)) Y Y Y Y Y Y Y Y Y Y Y ?_;refine qg 1 ?_;refine rbx0 1000 hF Y Y Y Y Y Y Y ?_;refine au ?_;refine rm0 [(1,.box 1 0),(2,.box 2 0),(3,.box 1000 0)] [(1,.box 77 [.pv (dcsP x.path),.pv (lmsP x.lems),.pv (iP 0),.pv (iP 0),.pv (bP false),.pv (.nat 0),.pv (.nat 0),.pv (.rows 46 9 ndT []),.pv (bP x.empty),.pv (mmsP x.proof)]),(2,.box 77 [.nil 42 5 [200],.nil 100 6 [200,98],.pv (iP 0),.pv (iP 0),.pv (bP false),.pv (.nat 0),.pv (.nat 0),.nil 46 9 ndT,.pv (bP false),.nil 98 7 [200]])] hG (hm) Y Y Y Y Y Y (ai (Y) (ai (congrArg (fun x=>some (Res.tok _ _ _ x)) (by rw[List.length_map];exact agd _)) trivial)) (c3 Y Y Y trivial) (c2 Y Y trivial) Y Y Y ?_;refine pr0 (qg 5 ?_);refine rmk0 (n:=(bsC is).length) 31 (by rw[List.length_map];show is.length*1≤_;omega) (a1p (by kernel_rfl)) Y Y Y Y Y Y Y Y Y Y Y ?_;refine au ?_;refine pwk ?_;refine pl (ι:={p:Nat×Nat×List Int // p.1≤is.length∧p.2.1≤p.1∧p.2.2.length=p.1∧p.2.2++ph p.2.1 (is.drop p.1)=ci is}) (fun p=>[(1,.box 1 0),(2,.box 2 0),(3,.box 1000 0),(4,.tok 31),(5,.pv (iP (p.1.2.1:Int))),(35,.tok 1001),(36,.pv (iP ((bsC is).length:Int))),(37,.pv (iP (p.1.1:Int)))]) (fun p=>[(1,.box 77 [.pv (dcsP x.path),.pv (lmsP x.lems),.pv (iP 0),.pv (iP 0),.pv (bP false),.pv (.nat 0),.pv (.nat 0),.pv (.rows 46 9 ndT []),.pv (bP x.empty),.pv (mmsP x.proof)]),(2,.box 77 [.pv (dcsP []),.pv (lmsP []),.pv (iP 0),.pv (iP 0),.pv (bP false),.pv (.nat 0),.pv (.nat 0),.pv (.rows 46 9 ndT []),.pv (bP false),.pv (mmsP [])]),(1000,.box 154 [.pv (lmsP x.lems),.tok 1001]),(1001,.tok 4 1 [] (bsC is)),(31,.tok 3 1 [] (isC (p.1.2.2++List.replicate (is.length - p.1.1) 0)))]) [77,154,4,3,100] (fun p=>is.length - p.1.1) ⟨(0,0,[]),nq _,nr _,rfl,rfl⟩ (c8 Y Y Y Y Y Y Y Y trivial) (c4 Y Y Y Y (ai (congrArg (fun x=>some (Res.tok _ _ _ x)) (by rw[List.length_map];exact agc _)) trivial)) (fun _=>rfl) ?_;intro ⟨(i,n,done),hi0,hn,hd0,hg⟩;simp only at hi0 hn hd0 hg;refine a2 (fun e38=>?_) (fun e38=>?_)
 ·have hi:i < is.length:=by have h:(i:Int) < ((bsC is).length:Int):=of_decide_eq_true e38;rw[List.length_map] at h;omega
  refine pk (ps (pb ?_));refine pr0 (qg 1 ?_);refine ro0 Y Y Y (fun hd=>fv (i:=i) al Y Y Y Y Y Y dx Y (aj (f:=fun b=>[bP b]) (ah (show i < is.length by omega))) hd) ?_;refine ro0 Y Y Y (fun hd=>ca (i:=i) (j:=0) al Y Y Y Y Y Y (aj (f:=fun b=>[bP b]) (ah (show i < is.length by omega))) Y hd) ?_;refine a2 (fun e42=>?_) (fun e42=>?_)
  ·refine aa (c:=ae (by show n≤_;omega)) ?_;refine qg 1 ?_;refine rn Y (pr0' (qg 3 ?_));refine ro0 Y Y Y (fun hd=>fv (i:=i) al Y Y Y Y Y Y dx Y (a17 hd0 hi) hd) ?_;refine ro0 Y Y Y (fun hd=>eb (i:=i) (j:=0) al Y Y Y Y Y Y Y (a17 hd0 hi) Y Y Y Y Y) ?_;refine aa (c:=ae (by show i≤_;omega)) ?_;refine au ?_;exact pe ⟨(i+1,n+1,done++[((n+1:Nat):Int)]),hi,by show n+1≤i+1;omega,by show (done++_).length=i+1;rw[List.length_append,hd0];rfl,rp hi e42 hg⟩ (c8 Y Y Y Y Y Y Y Y trivial) (c4 Y Y Y Y (ai (congrArg (fun x=>some (Res.tok _ _ _ x)) (a6h hd0 hi)) trivial)) Y (by show is.length - (i+1) < is.length - i;omega)
  ·refine aa (c:=ae (by show i≤_;omega)) ?_;refine au ?_;exact pe ⟨(i+1,n,done++[0]),hi,by show n≤i+1;omega,by show (done++_).length=i+1;rw[List.length_append,hd0];rfl,rp hi e42 hg⟩ (c8 Y Y Y Y Y Y Y Y trivial) (c4 Y Y Y Y (ai (congrArg (fun x=>some (Res.tok _ _ _ x)) (a35 hi)) trivial)) Y (by show is.length - (i+1) < is.length - i;omega)
 ·have hj:is.length≤i:=by have h:¬(i:Int) < ((bsC is).length:Int):=of_decide_eq_false e38;rw[List.length_map] at h;omega
  have ht:=a6i hj hg;refine ac (c:=a04 (to:=done++List.replicate (is.length - i) 0) (nt hx.proof.len dx) (by simp;omega)) ?_;refine au ?_;refine tkb (b:=8) (off:=1) (id:=88) (e:=100) (k:=6) (ts:=[200,98]) Y ?_;refine pl (ι:={p:Nat×List Lm // p.1≤x.lems.length∧p.2.length≤p.1∧p.2++eg (ci is) (is.drop p.1) (x.lems.drop p.1)=eg (ci is) is x.lems}) (fun p=>[(1,.box 1 0),(2,.box 2 0),(3,.box 1000 0),(4,.tok 31),(8,.box 8 0),(64,.pv (lmsP x.lems)),(65,.pv (iP ((x.lems.map lmC).length:Int))),(66,.pv (iP (p.1.1:Int)))]) (fun p=>[(1,.box 77 [.pv (dcsP x.path),.pv (lmsP x.lems),.pv (iP 0),.pv (iP 0),.pv (bP false),.pv (.nat 0),.pv (.nat 0),.pv (.rows 46 9 ndT []),.pv (bP x.empty),.pv (mmsP x.proof)]),(2,.box 77 [.pv (dcsP []),.pv (lmsP []),.pv (iP 0),.pv (iP 0),.pv (bP false),.pv (.nat 0),.pv (.nat 0),.pv (.rows 46 9 ndT []),.pv (bP false),.pv (mmsP [])]),(1000,.box 154 [.pv (lmsP x.lems),.tok 1001]),(1001,.tok 4 1 [] (bsC is)),(31,.tok 3 1 [] (isC (ci is))),(8,.box 77 [.pv (dcsP x.path),.tok 88,.pv (iP 0),.pv (iP 0),.pv (bP false),.pv (.nat 0),.pv (.nat 0),.nil 46 9 ndT,.pv (bP x.empty),.pv (mmsP (x.proof.map (renM (ci is))))]),(88,.tok 100 6 [200,98] (p.1.2.map lmC))]) [77,154,4,3,100] (fun p=>x.lems.length - p.1.1) ⟨(0,[]),nq _,nr _,rfl⟩ (c8 Y Y Y Y Y Y Y Y trivial) (c4 Y Y Y Y (ai (congrArg (fun t=>some (Res.tok _ _ _ (isC t))) ht) (ai (congrArg (fun t=>some (Res.box _ [.pv (dcsP x.path),.tok 88,.pv (iP 0),.pv (iP 0),.pv (bP false),.pv (.nat 0),.pv (.nat 0),.nil 46 9 ndT,.pv (bP x.empty),.pv (mmsP (x.proof.map (renM t)))])) ht) (ai Y trivial)))) (fun _=>rfl) ?_;intro ⟨(i,acc),hi0,ha9,hg⟩;simp only at hi0 ha9 hg;refine a2 (fun e67=>?_) (fun e67=>?_)
  ·have hi:i < x.lems.length:=db e67;refine ax (c:=(aj (ah hi))) ?_;refine qg 4 ?_;refine rn Y (pr0 (qg 5 ?_));refine ro0 Y Y Y (fun hd=>fv (i:=i) al Y Y Y Y Y Y dx Y (aj (f:=fun b=>[bP b]) (ah (show i < is.length by omega))) hd) ?_;refine ro0 Y Y Y (fun hd=>ca (i:=i) (j:=0) al Y Y Y Y Y Y (aj (f:=fun b=>[bP b]) (ah (show i < is.length by omega))) Y hd) ?_;refine a2 (fun e77=>?_) (fun e77=>?_)
   ·refine ac (c:=a04 (to:=(ci is)) (nt (hx.lems _ (bi (l:=x.lems) (z:=(i:Int)) om om)).proof.len dx) (by rw[← ht];simp;omega)) ?_;refine au ?_;refine rp0 el_Lemma (by simp;omega) Y Y Y Y Y Y Y Y ?_;refine aa (c:=ae (by show i≤_;omega)) ?_;refine au ?_;exact pe ⟨(i+1,acc++[renL (ci is) (atZ x.lems (i:Int))]),hi,by show (acc++_).length≤i+1;rw[List.length_append];exact Nat.succ_le_succ ha9,sn hl hi e77 hg⟩ (c8 Y Y Y Y Y Y Y Y trivial) (c6 Y Y Y Y Y Y (ai (congrArg (fun x=>some (Res.tok _ _ _ x)) (show acc.map lmC++[lmC (renL (ci is) (atZ x.lems (i:Int)))]=(acc++[renL (ci is) (atZ x.lems (i:Int))]).map lmC from by rw[List.map_append];rfl)) trivial)) Y (by show x.lems.length - (i+1) < x.lems.length - i;omega)
   ·refine aa (c:=ae (by show i≤_;omega)) ?_;refine au ?_;exact pe ⟨(i+1,acc),hi,Nat.le_succ_of_le ha9,sn hl hi e77 hg⟩ (c8 Y Y Y Y Y Y Y Y trivial) (c7 Y Y Y Y Y Y Y trivial) Y (by show x.lems.length - (i+1) < x.lems.length - i;omega)
  ·have hj:x.lems.length≤i:=dw e67;exact ar (c:=congrArg (fun l=>enP ⟨x.path,l,x.empty,x.proof.map (renM (ci is))⟩) (a6s hl hj hg))
open Lib (hid)
set_option maxRecDepth 100000 in
theorem abx (w:World) (n:Nat) (hn:n≤1000000):
  Calls Tryz.prog 132 #[.slice none 0 0,.int .i64 (n:Int)] w fun e w'=>∃x:Sv,e=.returned x.v∧x.n=0∧w'.ownsRow 0 100 6 x.v 0 []∧(∀b,x.v.ownBlock=some b→w.heap.size≤b)∧Gr w w':=by
 rcases Nat.eq_zero_or_pos n with rfl | h0
 ·go_enter Tryz.func132,Tryz.ntmps132;go_wp2;go_ret;exact⟨Sv.none,rfl,rfl,World.ownsRow_nil w _ _ _,(fun b e=>by cases e),Gr.refl w⟩
 ·obtain⟨i,z,h1,h2,h3,h4,h5⟩:=el_Lemma.hi;have run:=Lib.run_append_nil_zeros (P:=Tryz.prog) w 40 3 40 100 i z .i64 .i64 el_Lemma.ht (by kernel_rfl) h1 h2 n h0 (by rw[h3];decide) om (by rw[h4];omega);have HR:=hid run;have HB:=hid (grownCap_ge w n 0 100);have HM:=hid (grownCap_le_maxLen w n 0 100 (by unfold maxLen;omega));have HZ:Hid ((Builtin.zeroCells z.cells n++Builtin.zeroCells z.cells (grownCap w n 0 100 - n)).size=grownCap w n 0 100*6):=by
   show _=_;rw[Array.size_append,size_zeroCells,size_zeroCells,h5,← Nat.add_mul,Nat.add_sub_cancel' (grownCap_ge w n 0 100)]
  clear run h1 h2 h3 h4 h5;generalize grownCap w n 0 100=c at*;generalize Builtin.zeroCells z.cells n++Builtin.zeroCells z.cells (c - n)=cs at*;have HN:((0:Int) < (n:Int))=true:=by simp;omega
  have HN1:((n:Int) < 0)=false:=by simp
  have HN2:(0 < n)=True:=by simp;omega
  go_enter Tryz.func132,Tryz.ntmps132;go_wp2_with (at_builtin;refine Lib.wpList_append_run _ rfl _ _ _ _ rfl _ _ rfl rfl _ _ HR.out ?_);go_wp2;go_ret;refine⟨⟨some ⟨w.heap.size,0,none⟩,0,c⟩,rfl,rfl,⟨rfl,.inr ⟨w.heap.size,c,cs,rfl,nq _,?_,nq _,HM.out,HZ.out,rfl⟩⟩,(fun b e=>by injection e with e;exact Nat.le_of_eq e),((Gr.refl w).drew).alloc _⟩;exact Bk.made w.drew _ _
set_option maxRecDepth 100000 in
theorem aby (w:World) (n:Nat) (hn:n≤1000000):
  Calls Tryz.prog 133 #[.slice none 0 0,.int .i64 (n:Int)] w fun e w'=>∃x:Sv,e=.returned x.v∧x.n=0∧w'.ownsRow 0 42 5 x.v 0 []∧(∀b,x.v.ownBlock=some b→w.heap.size≤b)∧Gr w w':=by
 rcases Nat.eq_zero_or_pos n with rfl | h0
 ·go_enter Tryz.func133,Tryz.ntmps133;go_wp2;go_ret;exact⟨Sv.none,rfl,rfl,World.ownsRow_nil w _ _ _,(fun b e=>by cases e),Gr.refl w⟩
 ·obtain⟨i,z,h1,h2,h3,h4,h5⟩:=el_Decision.hi;have run:=Lib.run_append_nil_zeros (P:=Tryz.prog) w 75 3 75 42 i z .i64 .i64 el_Decision.ht (by kernel_rfl) h1 h2 n h0 (by rw[h3];decide) om (by rw[h4];omega);have HR:=hid run;have HB:=hid (grownCap_ge w n 0 42);have HM:=hid (grownCap_le_maxLen w n 0 42 (by unfold maxLen;omega));have HZ:Hid ((Builtin.zeroCells z.cells n++Builtin.zeroCells z.cells (grownCap w n 0 42 - n)).size=grownCap w n 0 42*5):=by
   show _=_;rw[Array.size_append,size_zeroCells,size_zeroCells,h5,← Nat.add_mul,Nat.add_sub_cancel' (grownCap_ge w n 0 42)]
  clear run h1 h2 h3 h4 h5;generalize grownCap w n 0 42=c at*;generalize Builtin.zeroCells z.cells n++Builtin.zeroCells z.cells (c - n)=cs at*;have HN:((0:Int) < (n:Int))=true:=by simp;omega
  have HN1:((n:Int) < 0)=false:=by simp
  have HN2:(0 < n)=True:=by simp;omega
  go_enter Tryz.func133,Tryz.ntmps133;go_wp2_with (at_builtin;refine Lib.wpList_append_run _ rfl _ _ _ _ rfl _ _ rfl rfl _ _ HR.out ?_);go_wp2;go_ret;refine⟨⟨some ⟨w.heap.size,0,none⟩,0,c⟩,rfl,rfl,⟨rfl,.inr ⟨w.heap.size,c,cs,rfl,nq _,?_,nq _,HM.out,HZ.out,rfl⟩⟩,(fun b e=>by injection e with e;exact Nat.le_of_eq e),((Gr.refl w).drew).alloc _⟩;exact Bk.made w.drew _ _
theorem pq {α:Type} {L:List (List α)} (i:Nat):((L.take i).map List.length).sum≤(L.map List.length).sum:=by
 conv=>rhs;rw[← List.take_append_drop i L]
 rw[List.map_append,List.sum_append];exact Nat.le_add_right ..
theorem lw {α:Type} [Inhabited α] {L:List (List α)} {i:Nat} (hi:i < L.length):((L.take i).map List.length).sum+(atZ L (i:Int)).length=((L.take (i+1)).map List.length).sum:=by
 rw[List.take_add_one,ah hi];simp
theorem qt {α:Type} [Inhabited α] {L:List (List α)} {i:Nat} (hi:i < L.length):((L.take i).map List.length).sum+(atZ L (i:Int)).length≤(L.map List.length).sum:=by
 rw[lw hi];exact pq _
theorem ux {α:Type} {L:List (List α)} (i:Nat):(L.take i).flatten.length=((L.take i).map List.length).sum:=List.length_flatten
theorem po {α:Type} [Inhabited α] {L:List (List α)} {i:Nat} (hi:i < L.length):(L.take i).flatten++atZ L (i:Int)=(L.take (i+1)).flatten:=by
 rw[List.take_add_one,ah hi];simp
theorem aih (n:Nat) (hn:n≤1000000):NCalls Tryz.prog [] 132 [.raw (.slice none 0 0),iP (n:Int)] 100 6 [200,98] []:=⟨by kernel_rfl,fun w X us h1 h2 h3=>by
 obtain⟨u,v,rfl,g1,g2⟩:=a44 h3;obtain rfl:=r7 g1;obtain rfl:=r7 g2;exact (abx w n hn).mono fun e w' ⟨x,he,hx,ho,hb,G⟩=>⟨x,[],he,by rw[hx];exact ho,hb,PV.RepLL.nil,(fun r hr=>by cases hr),hx,by decide,G⟩⟩
theorem aan {L:List (List Lm)} (h9:L.length≤1000) (hs:(L.map List.length).sum≤1000000):NCalls Tryz.prog [] 76 [.rows 40 1 [100,200,98] (L.map fun l=>[lmsP l])] 100 6 [200,98] (L.flatten.map lmC):=by
 refine pcn [100] (by kernel_rfl) Tryz.func76 Y Y (fun D=>?_);refine au ?_;refine pl (ι:={i:Nat // i≤L.length}) (fun i=>[(0,.pv (.rows 40 1 [100,200,98] (L.map fun l=>[lmsP l]))),(2,.nil 100 6 [200,98]),(3,.pv (iP (((L.take i.1).map List.length).sum:Int))),(9,.pv (.rows 40 1 [100,200,98] (L.map fun l=>[lmsP l]))),(10,.pv (iP ((L.map fun l=>[lmsP l]).length:Int))),(11,.pv (iP (i.1:Int)))]) (fun _=>[]) [100] (fun i=>L.length - i.1) ⟨0,nq _⟩ (c6 Y Y Y Y Y Y trivial) trivial (fun _=>rfl) ?_;intro ⟨i,hi0⟩;refine a2 (fun e12=>?_) (fun e12=>?_)
 ·have hi:i < L.length:=db e12;refine ax (c:=(aj (f:=fun l=>[lmsP l]) (ah hi))) ?_;refine aa (c:=a24 (show _≤1000000 from nt (pq i) hs) (show ((atZ L (i:Int)).map lmC).length≤1000000 by rw[List.length_map];have:=qt hi;omega)) ?_;refine akF (c:=by exact (show _=false from df om)) ?_;refine aa (c:=ae (by show i≤_;omega)) ?_;refine au ?_;exact pe ⟨i+1,hi⟩ (c2 Y Y (ai (congrArg (fun n:Nat=>some (SV.pv (iP (n:Int)))) (by rw[List.length_map];exact lw hi)) (c3 Y Y Y trivial))) trivial Y (by show L.length - (i+1) < L.length - i;omega)
 ·have hj:L.length≤i:=dw e12;have hsz:((L.take i).map List.length).sum=(L.map List.length).sum:=by rw[List.take_of_length_le hj]
  refine px ?_;refine pr0 (qg 1 ?_);refine rcn0 24 (aih ((L.take i).map List.length).sum (by rw[hsz];exact hs)) Y Y Y Y Y Y Y Y ?_;refine au ?_;refine pl (ι:={i:Nat // i≤L.length}) (fun i=>[(6,.tok 24),(25,.pv (.rows 40 1 [100,200,98] (L.map fun l=>[lmsP l]))),(26,.pv (iP ((L.map fun l=>[lmsP l]).length:Int))),(27,.pv (iP (i.1:Int)))]) (fun i=>[(24,.tok 100 6 [200,98] ((L.take i.1).flatten.map lmC))]) [100] (fun i=>L.length - i.1) ⟨0,nq _⟩ (c4 Y Y Y Y trivial) (ai Y trivial) (fun _=>rfl) ?_;intro ⟨i,hi0⟩;refine a2 (fun e28=>?_) (fun e28=>?_)
  ·have hi:i < L.length:=db e28;have h33:((L.take i).flatten.map lmC).length+((atZ L (i:Int)).map lmC).length≤100000000:=by rw[List.length_map,List.length_map];have:=qt hi;have:=ux (L:=L) i;omega
   refine ax (c:=(aj (f:=fun l=>[lmsP l]) (ah hi))) ?_;refine au ?_;refine rp0 el_Lemma (h33) Y Y Y Y Y Y Y Y ?_;refine aa (c:=ae (by show i≤_;omega)) ?_;refine au ?_;exact pe ⟨i+1,hi⟩ (c4 Y Y Y Y trivial) (ai (congrArg (fun x=>some (Res.tok _ _ _ x)) (by show List.map lmC _++List.map lmC _=List.map lmC _;rw[← List.map_append,po hi])) trivial) Y (by show L.length - (i+1) < L.length - i;omega)
  ·have hj2:L.length≤i:=dw e28;refine au ?_;exact retn Y Y Y Y (congrArg (List.map lmC) (by show (L.take i).flatten=L.flatten;rw[List.take_of_length_le hj2]))
theorem aii (n:Nat) (hn:n≤1000000):NCalls Tryz.prog [] 133 [.raw (.slice none 0 0),iP (n:Int)] 42 5 [200] []:=⟨by kernel_rfl,fun w X us h1 h2 h3=>by
 obtain⟨u,v,rfl,g1,g2⟩:=a44 h3;obtain rfl:=r7 g1;obtain rfl:=r7 g2;exact (aby w n hn).mono fun e w' ⟨x,he,hx,ho,hb,G⟩=>⟨x,[],he,by rw[hx];exact ho,hb,PV.RepLL.nil,(fun r hr=>by cases hr),hx,by decide,G⟩⟩
theorem aao {L:List (List Dc)} (h9:L.length≤1000) (hs:(L.map List.length).sum≤1000000):NCalls Tryz.prog [] 80 [.rows 75 1 [42,200] (L.map fun l=>[dcsP l])] 42 5 [200] (L.flatten.map dcC):=by
 refine pcn [42] (by kernel_rfl) Tryz.func80 Y Y (fun D=>?_);refine au ?_;refine pl (ι:={i:Nat // i≤L.length}) (fun i=>[(0,.pv (.rows 75 1 [42,200] (L.map fun l=>[dcsP l]))),(2,.nil 42 5 [200]),(3,.pv (iP (((L.take i.1).map List.length).sum:Int))),(9,.pv (.rows 75 1 [42,200] (L.map fun l=>[dcsP l]))),(10,.pv (iP ((L.map fun l=>[dcsP l]).length:Int))),(11,.pv (iP (i.1:Int)))]) (fun _=>[]) [42] (fun i=>L.length - i.1) ⟨0,nq _⟩ (c6 Y Y Y Y Y Y trivial) trivial (fun _=>rfl) ?_;intro ⟨i,hi0⟩;refine a2 (fun e12=>?_) (fun e12=>?_)
 ·have hi:i < L.length:=db e12;refine ax (c:=(aj (f:=fun l=>[dcsP l]) (ah hi))) ?_;refine aa (c:=a24 (show _≤1000000 from nt (pq i) hs) (show ((atZ L (i:Int)).map dcC).length≤1000000 by rw[List.length_map];have:=qt hi;omega)) ?_;refine akF (c:=by exact (show _=false from df om)) ?_;refine aa (c:=ae (by show i≤_;omega)) ?_;refine au ?_;exact pe ⟨i+1,hi⟩ (c2 Y Y (ai (congrArg (fun n:Nat=>some (SV.pv (iP (n:Int)))) (by rw[List.length_map];exact lw hi)) (c3 Y Y Y trivial))) trivial Y (by show L.length - (i+1) < L.length - i;omega)
 ·have hj:L.length≤i:=dw e12;have hsz:((L.take i).map List.length).sum=(L.map List.length).sum:=by rw[List.take_of_length_le hj]
  refine px ?_;refine pr0 (qg 1 ?_);refine rcn0 24 (aii ((L.take i).map List.length).sum (by rw[hsz];exact hs)) Y Y Y Y Y Y Y Y ?_;refine au ?_;refine pl (ι:={i:Nat // i≤L.length}) (fun i=>[(6,.tok 24),(25,.pv (.rows 75 1 [42,200] (L.map fun l=>[dcsP l]))),(26,.pv (iP ((L.map fun l=>[dcsP l]).length:Int))),(27,.pv (iP (i.1:Int)))]) (fun i=>[(24,.tok 42 5 [200] ((L.take i.1).flatten.map dcC))]) [42] (fun i=>L.length - i.1) ⟨0,nq _⟩ (c4 Y Y Y Y trivial) (ai Y trivial) (fun _=>rfl) ?_;intro ⟨i,hi0⟩;refine a2 (fun e28=>?_) (fun e28=>?_)
  ·have hi:i < L.length:=db e28;have h33:((L.take i).flatten.map dcC).length+((atZ L (i:Int)).map dcC).length≤100000000:=by rw[List.length_map,List.length_map];have:=qt hi;have:=ux (L:=L) i;omega
   refine ax (c:=(aj (f:=fun l=>[dcsP l]) (ah hi))) ?_;refine au ?_;refine rp0 el_Decision (h33) Y Y Y Y Y Y Y Y ?_;refine aa (c:=ae (by show i≤_;omega)) ?_;refine au ?_;exact pe ⟨i+1,hi⟩ (c4 Y Y Y Y trivial) (ai (congrArg (fun x=>some (Res.tok _ _ _ x)) (by show List.map dcC _++List.map dcC _=List.map dcC _;rw[← List.map_append,po hi])) trivial) Y (by show L.length - (i+1) < L.length - i;omega)
  ·have hj2:L.length≤i:=dw e28;refine au ?_;exact retn Y Y Y Y (congrArg (List.map dcC) (by show (L.take i).flatten=L.flatten;rw[List.take_of_length_le hj2]))
def oppD (d:Dc):Dc:=bif decide (0 < d.kind)&&decide (d.kind < 5) then ⟨oppK d.kind,d.index,d.at_⟩ else d
theorem ao9 (d:Dc):PCallsG Tryz.prog [224] 79 [dcP d] (dcP (oppD d)):=by
 refine pcF [42] (by kernel_rfl) Tryz.func79 rfl rfl (fun D hF hG=>?_);refine a2 (fun e6=>?_) (fun e6=>?_)
 ·have g1:=of_decide_eq_true e6;refine a2 (fun e10=>?_) (fun e10=>?_)
  ·have g2:=of_decide_eq_true e10;refine pr0' (qg 2 ?_);refine ro0 Y Y Y (fun hd=>aes Y hG Y Y om om Y hd) ?_;exact ar (c:=by unfold oppD;simp only[e6,e10];rfl)
  ·exact ar (c:=by unfold oppD;simp only[e6,e10];rfl)
 ·exact ar (c:=by unfold oppD;simp only[e6];rfl)
theorem a05 {a b:List Lm} (h:a.length+b.length≤1000000):PCalls Tryz.prog [] 76 [.rows 40 1 [100,200,98] [[lmsP a],[lmsP b]]] (lmsP (a++b)):=by
 have:=(aan (L:=[a,b]) (by simp) (by simpa using h)).p;rwa [show [a,b].flatten=a++b from by simp] at this
theorem a06 {a b:List Dc} (h:a.length+b.length≤1000000):PCalls Tryz.prog [] 80 [.rows 75 1 [42,200] [[dcsP a],[dcsP b]]] (dcsP (a++b)):=by
 have:=(aao (L:=[a,b]) (by simp) (by simpa using h)).p;rwa [show [a,b].flatten=a++b from by simp] at this
def entR:Nat→Nd→List Dc→List Lm→List En
 | 0,.mk ls _ _ e p,path,lems=>[⟨path,lems++ls,e,p⟩]
 | k+1,.mk ls d ks _ _,path,lems=>match ks with
  | [a,b]=>entR k a (path++[d]) (lems++ls)++entR k b (path++[oppD d]) (lems++ls)
  | _=>[]
abbrev ewR (acc:List En):List (Nat×Res):=[(1000,.box 51 [.tok 1002]),(1001,.box 145 [.fn 75 [.box 1000 0,.box 1001 0]]),(1002,.tok 77 10 enT (acc.map enC))]
abbrev ndX (x:Nd):List PV:=[lmsP x.lems,iP x.split.kind,iP x.split.index,bP x.split.at_.neg,.nat x.split.at_.num,.nat x.split.at_.den,ndsP x.kids,bP x.empty,mmsP x.proof]
theorem ru (x:Nd):ndC x=ndX x:=by obtain⟨ls,d,ks,e,p⟩:=x;rfl
theorem an3 {acc:List En} {x:En}:acc.map enC++[enC x]=(acc++[x]).map enC:=by rw[List.map_append];rfl
theorem alt {ls lems:List Lm} {d:Dc} {e:Bool} {p:List Mm} {path:List Dc} {acc:List En} (h1:lems.length+ls.length≤100000) (h2:path.length≤100000) (h3:p.length≤100000) (h4:acc.length≤100000):MCalls Tryz.prog [224] 75 [.pv (.agg (ndC (.mk ls d [] e p))),.pv (dcsP path),.pv (lmsP lems),.box 1000 0,.box 1001 0] (ewR acc) (ewR (acc++[⟨path,lems++ls,e,p⟩])) (.tup []):=by
 refine pcm [46,42,77,51,145] (by kernel_rfl) Tryz.func75 Y Y (fun D hG=>?_);refine au ?_;refine rc0 (a05 om) Y Y Y Y Y Y Y ?_;refine akT (c:=by exact (show _=true from rfl)) ?_;refine au ?_;refine rc0 ((aek om).p) Y Y Y Y Y Y Y ?_;refine au ?_;refine rc0 ((a13 om).p) Y Y Y Y Y Y Y ?_;refine au ?_;refine rp0 wl (by rw[List.length_map];simp;omega) Y Y Y Y Y Y Y Y ?_;refine au ?_;exact retm Y Y ((c2 Y Y (ai (congrArg (fun x=>some (Res.tok _ _ _ x)) (an3 (x:=⟨path,lems++ls,e,p⟩))) trivial)))
def dirR (d:Dc) (i:Nat):Dc:=bif decide (0 < (i:Int)) then oppD d else d
def accR (E:Nat→List En) (acc:List En) (i:Nat):List En:=acc++((List.range i).map E).flatten
instance ndInh:Inhabited Nd:=⟨.mk [] dc0 [] false []⟩
theorem amn {a b:Nd} {i:Nat} (h:i < 2):(ndCs [a,b])[i]?=some (ndX (atZ [a,b] (i:Int))):=by
 have:i=0∨i=1:=by omega
 rcases this with rfl | rfl
 ·rw[← ru];rfl
 ·rw[← ru];rfl
theorem a48 {E:Nat→List En} {acc:List En} {i:Nat}:accR E acc i++E i=accR E acc (i+1):=by
 unfold accR;rw[List.range_succ,List.map_append,List.flatten_append,List.append_assoc];simp
theorem als {ls lems:List Lm} {d:Dc} {a b:Nd} {e:Bool} {p:List Mm} {path:List Dc} {acc:List En} {E:Nat→List En} (h1:lems.length+ls.length≤100000) (h2:path.length≤100000) (ih:∀(i:Nat),i < 2→MCalls Tryz.prog [224] 75 [.pv (.agg (ndX (atZ [a,b] (i:Int)))),.pv (dcsP (path++[dirR d i])),.pv (lmsP (lems++ls)),.box 1000 0,.box 1001 0] (ewR (accR E acc i)) (ewR (accR E acc i++E i)) (.tup [])):MCalls Tryz.prog [224] 75 [.pv (.agg (ndC (.mk ls d [a,b] e p))),.pv (dcsP path),.pv (lmsP lems),.box 1000 0,.box 1001 0] (ewR acc) (ewR (accR E acc 2)) (.tup []):=by
 refine pcm [46,42,77,51,145] (by kernel_rfl) Tryz.func75 Y Y (fun D hG=>?_);refine au ?_;refine rc0 (a05 om) Y Y Y Y Y Y Y ?_;refine akF (c:=by exact (show _=false from rfl)) ?_;refine au ?_;refine pl (ι:={i:Nat // i≤2}) (fun i=>[(1,.pv (dcsP path)),(2,.pv (lmsP (lems++ls))),(3,.box 1000 0),(4,.box 1001 0),(5,.box 5 0),(34,.pv (ndsP [a,b])),(35,.pv (iP ((ndCs [a,b]).length:Int))),(36,.pv (iP (i.1:Int)))]) (fun i=>[(5,.box 46 [.pv (lmsP ls),.pv (iP d.kind),.pv (iP d.index),.pv (bP d.at_.neg),.pv (.nat d.at_.num),.pv (.nat d.at_.den),.pv (ndsP [a,b]),.pv (bP e),.pv (mmsP p)]),(1000,.box 51 [.tok 1002]),(1001,.box 145 [.fn 75 [.box 1000 0,.box 1001 0]]),(1002,.tok 77 10 enT ((accR E acc i.1).map enC))]) [46,42,77,51,145] (fun i=>2 - i.1) ⟨0,nq _⟩ (c8 Y Y Y Y Y Y Y Y trivial) (c3 Y Y Y (ai (congrArg (fun x=>some (Res.tok _ _ _ x)) (by show _=List.map enC (accR E acc 0);unfold accR;simp)) trivial)) (fun _=>rfl) ?_;intro ⟨i,hi0⟩;refine a2 (fun e37=>?_) (fun e37=>?_)
 ·have hi:i < 2:=by have h:(i:Int) < 2:=of_decide_eq_true e37;omega
  refine ax (c:=(amn hi)) ?_;refine a2 (fun e44=>?_) (fun e44=>?_)
  ·refine au ?_;refine rcg0 hG (ao9 d) Y Y Y Y Y Y Y ?_;refine ac (c:=a06 (a:=path) (b:=[oppD d]) (by show path.length+1≤_;omega)) ?_;refine au ?_;refine rmv0 (args:=[.pv (.agg (ndX (atZ [a,b] (i:Int)))),.pv (dcsP (path++[oppD d])),.pv (lmsP (lems++ls))]) (caps:=[.box 1000 0,.box 1001 0]) [(1,.pv (dcsP path)),(2,.pv (lmsP (lems++ls))),(3,.box 1000 0),(4,.box 1001 0),(5,.box 5 0),(34,.pv (ndsP [a,b])),(35,.pv (iP ((ndCs [a,b]).length:Int))),(36,.pv (iP (i:Int)))] [(5,.box 46 [.pv (lmsP ls),.pv (iP d.kind),.pv (iP d.index),.pv (bP d.at_.neg),.pv (.nat d.at_.num),.pv (.nat d.at_.den),.pv (ndsP [a,b]),.pv (bP e),.pv (mmsP p)])] hG (show MCalls Tryz.prog [224] 75 [.pv (.agg (ndX (atZ [a,b] (i:Int)))),.pv (dcsP (path++[oppD d])),.pv (lmsP (lems++ls)),.box 1000 0,.box 1001 0] (ewR (accR E acc i)) (ewR (accR E acc i++E i)) (.tup []) from by have:=ih i hi;rw[show dirR d i=oppD d from by unfold dirR;rw[e44];rfl] at this;exact this) Y Y Y Y Y Y Y (c3 Y Y Y trivial) (c8 Y Y Y Y Y Y Y Y trivial) (ai Y trivial) Y (by kernel_rfl) (by kernel_rfl) ?_;refine aa (c:=ae (by show i≤_;omega)) ?_;refine au ?_;exact pe ⟨i+1,hi⟩ (c8 Y Y Y Y Y Y Y Y trivial) (c3 Y Y Y (ai (congrArg (fun l:List En=>some (Res.tok 77 10 enT (l.map enC))) (a48 (E:=E) (acc:=acc) (i:=i))) trivial)) Y (by show 2 - (i+1) < 2 - i;omega)
  ·refine ac (c:=a06 (a:=path) (b:=[d]) (by show path.length+1≤_;omega)) ?_;refine au ?_;refine rmv0 (args:=[.pv (.agg (ndX (atZ [a,b] (i:Int)))),.pv (dcsP (path++[d])),.pv (lmsP (lems++ls))]) (caps:=[.box 1000 0,.box 1001 0]) [(1,.pv (dcsP path)),(2,.pv (lmsP (lems++ls))),(3,.box 1000 0),(4,.box 1001 0),(5,.box 5 0),(34,.pv (ndsP [a,b])),(35,.pv (iP ((ndCs [a,b]).length:Int))),(36,.pv (iP (i:Int)))] [(5,.box 46 [.pv (lmsP ls),.pv (iP d.kind),.pv (iP d.index),.pv (bP d.at_.neg),.pv (.nat d.at_.num),.pv (.nat d.at_.den),.pv (ndsP [a,b]),.pv (bP e),.pv (mmsP p)])] hG (show MCalls Tryz.prog [224] 75 [.pv (.agg (ndX (atZ [a,b] (i:Int)))),.pv (dcsP (path++[d])),.pv (lmsP (lems++ls)),.box 1000 0,.box 1001 0] (ewR (accR E acc i)) (ewR (accR E acc i++E i)) (.tup []) from by have:=ih i hi;rw[show dirR d i=d from by unfold dirR;rw[e44];rfl] at this;exact this) Y Y Y Y Y Y Y (c3 Y Y Y trivial) (c8 Y Y Y Y Y Y Y Y trivial) (ai Y trivial) Y (by kernel_rfl) (by kernel_rfl) ?_;refine aa (c:=ae (by show i≤_;omega)) ?_;refine au ?_;exact pe ⟨i+1,hi⟩ (c8 Y Y Y Y Y Y Y Y trivial) (c3 Y Y Y (ai (congrArg (fun l:List En=>some (Res.tok 77 10 enT (l.map enC))) (a48 (E:=E) (acc:=acc) (i:=i))) trivial)) Y (by show 2 - (i+1) < 2 - i;omega)
 ·have hj:i=2:=by have h:¬(i:Int) < 2:=of_decide_eq_false e37;omega
  refine au ?_;exact a7t Y Y ((c2 Y Y (ai (congrArg (fun i=>some (Res.tok 77 10 enT ((accR E acc i).map enC))) hj) trivial)))
def Nd.Lim:Nat→Nd→Prop
 | 0,.mk ls _ _ _ p=>ls.length≤100∧p.length≤100
 | k+1,.mk ls _ ks _ _=>ls.length≤100∧∀a∈ks,Nd.Lim k a
theorem jo:∀(k:Nat) (n:Nd) (path:List Dc) (lems:List Lm),(entR k n path lems).length≤2 ^ k
 | 0,.mk _ _ _ _ _,_,_=>nr _
 | k+1,.mk ls d ks e p,path,lems=>by
  have h0:0 < 2 ^ k:=Nat.pow_pos dx
  match ks with
  | []=>exact nq _
  | [_]=>exact nq _
  | [a,b]=>
   show (entR k a _ _++entR k b _ _).length≤_;have h1:=jo k a (path++[d]) (lems++ls);have h2:=jo k b (path++[oppD d]) (lems++ls);rw[List.length_append,Nat.pow_succ];omega
  | _::_::_::_=>exact nq _
theorem alu:∀(k:Nat) (n:Nd) (path:List Dc) (lems:List Lm) (acc:List En),n.Wf k→n.Lim k→k≤8→lems.length≤1000 - 100*k→path.length≤100 - k→acc.length≤1000 - 2 ^ k→MCalls Tryz.prog [224] 75 [.pv (.agg (ndC n)),.pv (dcsP path),.pv (lmsP lems),.box 1000 0,.box 1001 0] (ewR acc) (ewR (acc++entR k n path lems)) (.tup [])
 | 0,.mk ls d ks e p,path,lems,acc,hw,hl,hk,h1,h2,h3=>by
  obtain⟨_,rfl⟩:=hw;obtain⟨l1,l2⟩:=hl;exact alt om om om om
 | k+1,.mk ls d ks e p,path,lems,acc,hw,hl,hk,h1,h2,h3=>by
  obtain⟨_,_,_,_,a,b,rfl,ha,hb⟩:=hw;obtain⟨l1,l2⟩:=hl;have h0:0 < 2 ^ k:=Nat.pow_pos dx;have h8:2 ^ k≤2 ^ 7:=Nat.pow_le_pow_right dx om;rw[Nat.pow_succ] at h3;have e0:∀x:Int,x=0→atZ [a,b] x=a:=fun x e=>by rw[e];rfl
  have e1:∀x:Int,x=1→atZ [a,b] x=b:=fun x e=>by rw[e];rfl
  have:=als (ls:=ls) (lems:=lems) (d:=d) (a:=a) (b:=b) (e:=e) (p:=p) (path:=path) (acc:=acc) (E:=fun i=>entR k (atZ [a,b] (i:Int)) (path++[dirR d i]) (lems++ls)) om om fun i hi=>by
   rw[← ru];have hi':i=0∨i=1:=by omega
   have hacc:(accR (fun i=>entR k (atZ [a,b] (i:Int)) (path++[dirR d i]) (lems++ls)) acc i).length≤1000 - 2 ^ k:=by
    unfold accR;rcases hi' with rfl | rfl
    ·simp;omega
    ·have:=jo k (atZ [a,b] ((0:Nat):Int)) (path++[dirR d 0]) (lems++ls);show (acc++(entR k (atZ [a,b] ((0:Nat):Int)) (path++[dirR d 0]) (lems++ls)++[])).length≤_;rw[List.length_append,List.append_nil];omega
   refine alu k _ _ _ _ ?_ ?_ om (by rw[List.length_append];omega) (by rw[List.length_append];show _+1≤_;omega) hacc
   ·rcases hi' with rfl | rfl
    ·exact ha
    ·exact hb
   ·rcases hi' with rfl | rfl
    ·exact l2 a (mf ..)
    ·exact l2 b (List.mem_cons_of_mem _ (mf ..))
  have e2:accR (fun i=>entR k (atZ [a,b] (i:Int)) (path++[dirR d i]) (lems++ls)) acc 2=acc++entR (k+1) (.mk ls d [a,b] e p) path lems:=by
   unfold accR;show acc++((List.map _ [0,1]).flatten)=_;simp[entR,dirR,List.flatten,atZ]
  rw[e2] at this;exact this
theorem a83 {n:Nd} {k:Nat} (hw:n.Wf k) (hl:n.Lim k) (hk:k≤8):PCallsG Tryz.prog [224] 37 [.agg (ndX n)] (ensP (entR k n [] [])):=by
 have h8:2 ^ k≤2 ^ 8:=Nat.pow_le_pow_right dx hk;have hm:=alu k n [] [] [] hw hl hk (nq _) (nq _) (nq _);rw[ru] at hm;refine pcF [46,77,51,145] (by kernel_rfl) Tryz.func37 rfl rfl (fun D hF hG=>?_);refine pa Y Y (pr0 (ral0 1000 hF Y Y Y Y Y Y ?_));refine rn Y (pr0 (ral0 1001 hF Y Y Y Y Y Y ?_));refine au ?_;refine rmk Y Y Y Y ?_;refine qg 1 ?_;refine rn Y (tkb (b:=1000) (off:=0) (id:=1002) (e:=77) (k:=10) (ts:=enT) Y ?_);refine au ?_;refine rmv0 (args:=[.pv (.agg (ndX n)),.pv (.raw (.slice none 0 0)),.pv (.raw (.slice none 0 0))]) (caps:=[.box 1000 0,.box 1001 0]) [(3,.box 1000 0)] [] hG (MCalls.nil (pre:=[.pv (.agg (ndX n))]) (e:=42) (k:=5) (ts:=[200]) (MCalls.nil (pre:=[.pv (.agg (ndX n)),.pv (dcsP [])]) (e:=100) (k:=6) (ts:=[200,98]) hm)) Y Y Y Y Y Y Y (c3 Y Y Y trivial) (ai Y trivial) trivial Y Y Y ?_;exact ar (c:=rfl)
abbrev TE:List Nat:=[138,200,224]
def gk (q:Qr) (l:List En):List En:=(l.map du).filter (bz q)
theorem sk {q:Qr} {l:List En} {i:Nat} {y:En} {b:Bool} (hi:i < l.length) (hy:du (atZ l (i:Int))=y) (hb:bz q y=b):gk q (l.take (i+1))=(bif b then gk q (l.take i)++[y] else gk q (l.take i)):=by
 unfold gk;rw[List.take_add_one,ah hi,List.map_append,List.filter_append];show _++List.filter (bz q) [du (atZ l (i:Int))]=_;rw[hy,List.filter_cons,hb];cases b<;>simp
theorem wd (q:Qr) (l:List En):(gk q l).length≤l.length:=by
 unfold gk;exact nt (List.length_filter_le ..) (by simp)
theorem a2x {q:Qr} {n:Nd} {k a b:Nat} (hw:n.Wf k) (hl:n.Lim k) (hk:k≤8) (hq:q.Va a) (h4:q.g.inputs+q.g.units.length≤8) (hg:q.goal.S 100 8) (hE:∀x∈entR k n [] [],EnOk x∧x.lems.length≤1000∧EnOk (du x)∧((du x).sc q).Va a b):PCallsG Tryz.prog TE 12 [qyP q,.agg (ndX n)] (.tup [ensP (gk q (entR k n [] [])),iP 0]):=by
 have hv:=ae6 hw om;rw[show ndP n=.agg (ndX n) from by rw[← ru]] at hv;have h8:2 ^ k≤2 ^ 8:=Nat.pow_le_pow_right dx hk;have hlen:=jo k n [] [];have hs:=a83 hw hl hk;generalize entR k n [] []=L at*;refine pcF [39,46,77] (by kernel_rfl) Tryz.func12 rfl rfl (fun D hF hG=>?_);refine ac (c:=m7 hq om) ?_;refine ac (c:=hv) ?_;refine au ?_;refine rcg0 hG (hs) Y Y Y Y Y Y Y ?_;refine au ?_;refine tks (t:=6) (id:=32) (e:=77) (k:=10) (ts:=enT) Y ?_;refine pl (ι:={i:Nat // i≤L.length}) (fun i=>[(2,.box 2 0),(5,.pv (iP 0)),(6,.tok 32),(18,.pv (ensP L)),(19,.pv (iP ((L.map enC).length:Int))),(20,.pv (iP (i.1:Int)))]) (fun i=>[(2,.box 39 [.pv (iP q.g.inputs),.pv (b7 q.g.units),.pv (b7 q.g.outputs),.pv (cz q.rg.lo),.pv (cz q.rg.hi),.pv (b7 q.rg.rows),.pv (bu q.goal.terms),.pv (bP q.goal.const.neg),.pv (.nat q.goal.const.num),.pv (.nat q.goal.const.den)]),(32,.tok 77 10 enT ((gk q (L.take i.1)).map enC))]) [39,46,77] (fun i=>L.length - i.1) ⟨0,nq _⟩ (c6 Y Y Y Y Y Y trivial) (c2 Y Y trivial) (fun _=>rfl) ?_;intro ⟨i,hi0⟩;refine a2 (fun e21=>?_) (fun e21=>?_)
 ·have hi:i < L.length:=db e21;obtain⟨h0,h1,h2,h3⟩:=hE _ (mg (ah hi));have hr:=ae8 h1 h0;generalize hy:du (atZ L (i:Int))=y at*;obtain⟨yp,yl,ye,yr⟩:=y;refine ax (c:=(aj (ah hi))) ?_;refine au ?_;refine rcg0 hG (hr) Y Y Y Y Y Y Y ?_;refine ac (c:=aar h3 h2 hg) ?_;refine a2 (fun e28=>?_) (fun e28=>?_)
  ·refine au ?_;refine rp0 wl (by rw[List.length_map];exact nt (Nat.add_le_add_right (nt (wd q (L.take i)) (by rw[List.length_take];exact Nat.min_le_right ..)) _) (by simp;omega)) Y Y Y Y Y Y Y Y ?_;refine aa (c:=ae (by show i≤_;omega)) ?_;refine au ?_;exact pe ⟨i+1,hi⟩ (c6 Y Y Y Y Y Y trivial) (ai Y (ai (congrArg (fun x=>some (Res.tok 77 10 enT x)) (by show (gk q (L.take i)).map enC++[enC ⟨yp,yl,ye,yr⟩]=(gk q (L.take (i+1))).map enC;rw[sk hi hy e28];rw[cond_true,List.map_append];rfl)) trivial)) Y (by show L.length - (i+1) < L.length - i;omega)
  ·refine aa (c:=ae (by show i≤_;omega)) ?_;refine au ?_;exact pe ⟨i+1,hi⟩ (c6 Y Y Y Y Y Y trivial) (ai Y (ai (congrArg (fun x=>some (Res.tok 77 10 enT x)) (by show (gk q (L.take i)).map enC=(gk q (L.take (i+1))).map enC;rw[sk hi hy e28];rfl)) trivial)) Y (by show L.length - (i+1) < L.length - i;omega)
 ·have hj:L.length≤i:=dw e21;exact ar (c:=congrArg (fun l=>PV.tup [ensP l,iP 0]) (by rw[List.take_of_length_le hj]))
section
attribute [local go_sem] Oper.semAt_some
structure Ns where
 (a b c d f:Sv)
def lfN (l:List Mm):Nd:=.mk [] ⟨0,0,Q.zero⟩ [] false l
def Ni (w:World) (l:List Mm) (n:Ns):Prop:=PV.RepL w NoX (ndX (lfN l)) [.slice n.a.A n.a.n n.a.c,.int .i64 0,.int .i64 0,.bool false,.slice n.b.A n.b.n n.b.c,.slice n.c.A n.c.n n.c.c,.slice n.d.A n.d.n n.d.c,.bool false,.slice n.f.A n.f.n n.f.c]
theorem Ni.gr {w w':World} {l:List Mm} {n:Ns} (h:Ni w l n) (G:Gr w w'):Ni w' l n:=PV.RepL.gr h G
theorem LaidG.gr {w w':World} (h:LaidG w) (G:Gr w w'):LaidG w':=h.keep (G.below.block 0 h.lt)
theorem aog {w:World} {l:List Mm} {v:Value} (h:(PV.agg (ndX (lfN l))).Rep w NoX v):∃n:Ns,v=.agg #[.slice n.a.A n.a.n n.a.c,.int .i64 0,.int .i64 0,.bool false,.slice n.b.A n.b.n n.b.c,.slice n.c.A n.c.n n.c.c,.slice n.d.A n.d.n n.d.c,.bool false,.slice n.f.A n.f.n n.f.c]∧Ni w l n:=by
 rw[PV.Rep] at h;obtain⟨us,rfl,h⟩:=h;have h0:=h;unfold ndX at h;obtain⟨u0,us,rfl,g0,h⟩:=PV.RepL.inv' h;obtain⟨u1,us,rfl,g1,h⟩:=PV.RepL.inv' h;obtain⟨u2,us,rfl,g2,h⟩:=PV.RepL.inv' h;obtain⟨u3,us,rfl,g3,h⟩:=PV.RepL.inv' h;obtain⟨u4,us,rfl,g4,h⟩:=PV.RepL.inv' h;obtain⟨u5,us,rfl,g5,h⟩:=PV.RepL.inv' h;obtain⟨u6,us,rfl,g6,h⟩:=PV.RepL.inv' h;obtain⟨u7,us,rfl,g7,h⟩:=PV.RepL.inv' h;obtain⟨u8,us,rfl,g8,h⟩:=PV.RepL.inv' h;obtain rfl:=PV.RepL.inv0 h;obtain⟨a,rfl,-⟩:=f4 g0;obtain rfl:=gn g1;obtain rfl:=gn g2;obtain rfl:=gn g3;obtain⟨b,rfl⟩:=tw g4;obtain⟨c,rfl⟩:=tw g5;obtain⟨d,rfl,-⟩:=f4 g6;obtain rfl:=gn g7;obtain⟨f,rfl,-⟩:=f4 g8;exact⟨⟨a,b,c,d,f⟩,rfl,h0⟩
theorem a0g {w:World} {X:Nat→Prop} {a b:PV} {v:Value} (h:(PV.tup [a,b]).Rep w X v):∃u1 u2,v=.tuple #[u1,u2]∧a.Rep w X u1∧b.Rep w X u2:=by
 rw[PV.Rep] at h;obtain⟨us,rfl,h⟩:=h;obtain⟨u0,us,rfl,g0,h⟩:=PV.RepL.inv' h;obtain⟨u1,us,rfl,g1,h⟩:=PV.RepL.inv' h;obtain rfl:=PV.RepL.inv0 h;exact⟨u0,u1,rfl,g0,g1⟩
theorem agb {w:World} {l:List Mm} {v:Value} (h:(PV.tup [ensP [en0 l],iP 0]).Rep w NoX v):∃z:Sv,v=.tuple #[z.v,.int .i64 0]∧Ebs w z [l]:=by
 obtain⟨u1,u2,rfl,h1,h2⟩:=a0g h;obtain rfl:=gn h2;obtain⟨z,rfl,hz⟩:=an7 h1;exact⟨z,rfl,hz⟩
theorem Ebs.st {w w':World} {p t:Nat} {us:Array Value} {x:Sv} {l:List (List Mm)} (h:Ebs w x l) (F:Fr (fun b=>b=p) w w') (hb:Bk w p t us) (h0:t≠77) (ht:t ∉ PV.tyL (enC (en0 []))):Ebs w' x l:=
 Rows.tf h F (fun b cs fr e hh=>Bk.not_ty hb h0 cs fr (e▸hh)) fun y a hy=>EbI.fr hy F fun b cs t' fr e hh ht'=>by
  subst e;have ht2:t'∈PV.tyL (enC (en0 [])):=ht';exact Bk.not_ty hb (fun e=>ht (e▸ht2)) cs fr hh
theorem Ob.st {w w':World} {p t b c:Nat} {us:Array Value} {es:Array MapEntry} (h:Ob w b (.map es c)) (F:Fr (fun b=>b=p) w w') (hb:Bk w p t us):Ob w' b (.map es c):=
 h.fr F fun e=>by
  subst e;unfold Ob at h;unfold Bk at hb;rw[h] at hb;cases hb
theorem ahr (w:World) (q:Qs) (x:Qr) (l:List Mm) (z:Sv) (hq:Qi w x q) (hx:Lf x l) (hz:Ebs w z [l]):
  Calls Tryz.prog 47 #[.agg #[.int .i64 q.i,.slice q.a.A q.a.n q.a.c,.slice q.b.A q.b.n q.b.c,.slice q.c.A q.c.n q.c.c,.slice q.d.A q.d.n q.d.c,.slice q.e.A q.e.n q.e.c,.slice q.f.A q.f.n q.f.c,.bool q.s,.slice q.h.A q.h.n q.h.c,.slice q.k.A q.k.n q.k.c],.agg #[.int .i64 0,.int .i64 0,.bool false,.bool false,.int .i64 0,.int .i64 10,.int .i64 0],.slice z.A z.n z.c] w fun e w'=>∃y:Sv,e=.returned (.tuple #[.agg #[.int .i64 1,.slice none 0 0,.int .i64 0,.int .i64 0,.bool false,.slice none 0 0,.slice none 0 0,.slice none 0 0,.bool false,.slice y.A y.n y.c,.slice none 0 0,.int .i64 0],.int .i64 0])∧Gr w w':=by
 have HQ:=I hq;have HX:=I hx;have HZ:=I hz;clear hq hx hz;go_enter Tryz.func47,Tryz.ntmps47;go_wp2_with fail;refine aoe fun W HG D_p0 D_o0 D_t=>?_
 have q0_:=D_p0.out.c10;obtain⟨o0,o1,o2,o3,o4,o5,o6⟩:=D_o0.out.c7;have N_t:=dnl (w.heap.size) (w.heap.size+1+1);generalize w.heap.size+1+1=t at*;generalize w.heap.size+1=o0 at*;refine (anm W q x l (HQ.out.gr HG.out) HX.out).mono ?_;rintro e w1 ⟨r,v,rfl,hr1,hv1,hrv,hr,hv,G⟩;have HR:=I hr;have HV:=I hv;have HRV:=I hrv;have HRN:=I (Nat.le_trans HG.out.size hr1);have HVN:=I (Nat.le_trans HG.out.size hv1);have htv:=I (show ¬t=v from fun e=>by have:=D_t.out.lt;omega);have htr:=I (show ¬t=r from fun e=>by have:=D_t.out.lt;omega);obtain⟨HG,D_p0,D_t⟩:=G.u3 HG D_p0 D_t;clear hr hv hrv hr1 hv1 G q0_ o0 o1 o2 o3 o4 o5 o6 D_o0;have q0_:=D_p0.out.c10;go_wp2_with fail;refine (ams w1 q l z (HZ.out.gr HG.out)).mono ?_;rintro e w2 ⟨kb,m1,m2,m3,yz,rfl,-,-,-,hkb,h1,hz,h2,h3,G⟩;have HR2:=G.bk HR.out;have fz:=HR2.frozen;have r20:=HR2.cell 20;simp only[List.getElem?_toArray,List.getElem?_cons_zero,List.getElem?_cons_succ] at r20;have F3:=(Fr.set w2 ⟨r,20,none⟩ (.pointer (some ⟨kb,0,none⟩)) rfl:Fr (fun b=>b=r) w2 _);have B3:=HR2.put 20 (.pointer (some ⟨kb,0,none⟩));have HKB:=I (F3.bk hkb (fun e=>Bk.ne hkb HR2 dx e));have H1:=I (h1.st F3 HR2);have H3:=I (h3.st F3 HR2);have HZ3:=I (hz.st F3 HR2 dx dx);have HV3:=I (F3.bk (G.bk HV.out) (fun e=>HRV.out e.symm));have D_t3:=I (F3.bk (G.bk D_t.out) htr.out);have HG3:=I ((HG.out.trans G).fr_at F3 HRN.out);have HR3:Hid (Bk (w2.setCell ⟨r,20,none⟩ (.pointer (some ⟨kb,0,none⟩))) r 190 #[.int .i64 q.i,.slice q.a.A q.a.n q.a.c,.slice q.b.A q.b.n q.b.c,.slice q.c.A q.c.n q.c.c,.slice q.d.A q.d.n q.d.c,.slice q.e.A q.e.n q.e.c,.slice q.f.A q.f.n q.f.c,.bool q.s,.slice q.h.A q.h.n q.h.c,.slice q.k.A q.k.n q.k.c,.int .i64 0,.int .i64 0,.bool false,.bool false,.int .i64 0,.int .i64 10,.int .i64 0,.iface 281 (.agg #[]),.pointer (some ⟨v,0,none⟩),.slice none 0 0,.pointer (some ⟨kb,0,none⟩),.int .i64 0,.int .i64 0,.int .i64 0,.pointer none]):=I (by simpa using B3);clear B3 F3 HR2 hkb h1 h2 h3 hz G HR HV D_t D_p0 HG q0_;go_upto_region 5 with fail;clear fz r20;generalize w2.setCell ⟨r,20,none⟩ (.pointer (some ⟨kb,0,none⟩))=w3 at*;go_wp2_with fail;refine (an9 w3 q x l kb m1 m2 m3 r v yz (HQ.out.gr HG3.out) HX.out HKB.out H1.out HZ3.out H3.out HR3.out HV3.out).mono ?_;rintro e w4 ⟨rfl,⟨y,hv,hy⟩,F⟩;have HV4:=I hv;have HR4:=I (F.bk HR3.out HRV.out);have D_t4:=I (F.bk D_t3.out htv.out);have HG4:=I (HG3.out.fr_at F HVN.out);clear hv hy F HR3 HV3 HKB H1 H3 HZ3 D_t3 HG3;go_wp2_with fail;refine cm0 (aem w4 q r v kb y HR4.out HV4.out) fun w5 G=>?_
 have T5:=G.bk D_t4.out;have fzt:=T5.frozen;have t0_:=T5.c12;obtain⟨B8,F8⟩:=T5.put12 (.int .i64 1) (.slice none 0 0) (.int .i64 0) (.int .i64 0) (.bool false) (.slice none 0 0) (.slice none 0 0) (.slice none 0 0) (.bool false) (.slice y.A y.n y.c) (.slice none 0 0) (.int .i64 0);have H8:=I ((HG4.out.trans G).fr_at F8 N_t.out);obtain⟨d0,d1,d2,d3,d4,d5,d6,d7,d8,d9,d10,d11⟩:=B8.c12;clear B8 F8 T5 HG4 HV4 HR4 D_t4;go_wp2;generalize (((((((((((w5.setCell ⟨t,0,none⟩ (.int .i64 1)).setCell ⟨t,1,none⟩ (.slice none 0 0)).setCell ⟨t,2,none⟩ (.int .i64 0)).setCell ⟨t,3,none⟩ (.int .i64 0)).setCell ⟨t,4,none⟩ (.bool false)).setCell ⟨t,5,none⟩ (.slice none 0 0)).setCell ⟨t,6,none⟩ (.slice none 0 0)).setCell ⟨t,7,none⟩ (.slice none 0 0)).setCell ⟨t,8,none⟩ (.bool false)).setCell ⟨t,9,none⟩ (.slice y.A y.n y.c)).setCell ⟨t,10,none⟩ (.slice none 0 0)).setCell ⟨t,11,none⟩ (.int .i64 0)=w8 at*;refine pex ?_;refine bodyPost_ret (by simp[results,Tryz.results47,go_sem,d0,d1,d2,d3,d4,d5,d6,d7,d8,d9,d10,d11];try rfl) rfl ?_;exact⟨y,rfl,H8.out⟩
theorem akj (w:World) (q:Qs) (x:Qr) (l:List Mm) (n:Ns) (hw:LaidG w) (hq:Qi w x q) (hx:Lf x l) (hE:PCallsG Tryz.prog TE 12 [qyP x,.agg (ndX (lfN l))] (.tup [ensP [en0 l],iP 0])) (hp:Ni w l n):
  Calls Tryz.prog 16 #[.agg #[.int .i64 q.i,q.a.v,q.b.v,q.c.v,q.d.v,q.e.v,q.f.v,.bool q.s,q.h.v,q.k.v],.agg #[n.a.v,.int .i64 0,.int .i64 0,.bool false,n.b.v,n.c.v,n.d.v,.bool false,n.f.v],.agg #[.int .i64 0,.int .i64 0,.bool false,.bool false,.int .i64 0,.int .i64 10,.int .i64 0]] w fun e w'=>∃y:Sv,e=.returned (.tuple #[.agg #[.int .i64 1,.slice none 0 0,.int .i64 0,.int .i64 0,.bool false,.slice none 0 0,.slice none 0 0,.slice none 0 0,.bool false,.slice y.A y.n y.c,.slice none 0 0,.int .i64 0],.int .i64 1,.int .i64 0])∧Gr w w':=by
 have HQ:=I hq;have HX:=I hx;have HP:=I hp;have HW:=I hw;clear hq hx hp hw;go_enter Tryz.func16,Tryz.ntmps16;go_wp2_with fail;refine aod fun W HG D_p0 D_n0 D_o0 D_t=>?_
 have q0_:=D_p0.c10;have a0_:=D_n0.c9;have N_t:=dnl (w.heap.size) (w.heap.size+1+1+1);generalize w.heap.size+1+1+1=t at*;generalize w.heap.size+1+1=o0 at*;generalize w.heap.size+1=n0 at*;refine cm2 (hE.raw (HW.gr HG) (PV.RepL.cons (lx (HQ.gr HG)) (PV.RepL.cons (lx (HP.gr HG)) PV.RepL.nil))) fun vv w1 hvv G=>?_
 obtain⟨z,rfl,hz⟩:=agb hvv;have HZ:=I hz;have hzn:1=z.n:=hz.len;obtain⟨zA,zn,zc⟩:=z;simp only at hzn;subst hzn;obtain⟨HG,D_p0,D_o0,D_t⟩:=G.u4 HG D_p0 D_o0 D_t;clear hz q0_ a0_ D_n0;have q0_:=D_p0.c10;obtain⟨o0,o1,o2,o3,o4,o5,o6⟩:=D_o0.c7;simp only[Sv.v];go_wp2_with fail;refine (ahr w1 q x l ⟨zA,1,zc⟩ (HQ.gr HG) HX HZ).mono ?_;rintro e w2 ⟨y,rfl,G⟩;clear D_p0 D_o0 q0_ o0 o1 o2 o3 o4 o5 o6 HZ;go_upto_region 5 with fail;refine nw1 fun w3 GB DX=>?_
 have T5:=I (GB.bk (G.bk D_t));have HG2:=I ((HG.trans G).trans GB);clear G HG D_t;clear GB;generalize w2.heap.size=xb at*;have fzt:=T5.frozen;have t0_:=T5.c12;have x0_:=DX.c12;obtain⟨B8,F8⟩:=T5.put12 (.int .i64 1) Nl (.int .i64 0) (.int .i64 0) (.bool false) Nl Nl Nl (.bool false) y.v Nl (.int .i64 0);have H8:=I (HG2.fr_at F8 N_t);obtain⟨d0,d1,d2,d3,d4,d5,d6,d7,d8,d9,d10,d11⟩:=B8.c12;clear B8 F8 T5 HG2 DX;go_wp2;generalize (((((((((((w3.setCell ⟨t,0,none⟩ (.int .i64 1)).setCell ⟨t,1,none⟩ Nl).setCell ⟨t,2,none⟩ (.int .i64 0)).setCell ⟨t,3,none⟩ (.int .i64 0)).setCell ⟨t,4,none⟩ (.bool false)).setCell ⟨t,5,none⟩ Nl).setCell ⟨t,6,none⟩ Nl).setCell ⟨t,7,none⟩ Nl).setCell ⟨t,8,none⟩ (.bool false)).setCell ⟨t,9,none⟩ y.v).setCell ⟨t,10,none⟩ Nl).setCell ⟨t,11,none⟩ (.int .i64 0)=w8 at*;refine pex ?_;refine bodyPost_ret (by simp[results,Tryz.results16,go_sem,d0,d1,d2,d3,d4,d5,d6,d7,d8,d9,d10,d11];try rfl) rfl ?_;exact⟨y,rfl,H8.out⟩
end
def exX (c:Int):Qr:=⟨⟨1,[],[varR 0]⟩,⟨[Q.zero],[ofQ 1],[]⟩,Fm.addR (varR 0) (numR (ofQ c))⟩
def exL:List Mm:=[(⟨1,0,0,0⟩,ofQ 1)]
theorem p_ex {c:Int} (h1:-1000000000≤c) (h2:c≤1000000000) (hs:(ofQ c).S 1):PCalls Tryz.prog TF 23 [iP c] (.tup [qyP (exX c),.agg (ndX (lfN exL))]):=by
 refine pcA [39,46,27,39] Tryz.func23 (fun D=>?_);refine ac (c:=a4k 0) ?_;refine ac (c:=r_of 1 dx dx) ?_;refine ac (c:=a4k 0) ?_;refine ac (c:=r_of c h1 h2) ?_;refine ac (c:=a2q) ?_;refine ac (c:=a2r (fk 0) (dm hs) dx dx) ?_;refine ac (c:=r_of 1 dx dx) ?_;exact ar (c:=rfl)
def exG (q:Q):Fm:=⟨[(0,Q.one)],q⟩
def exY (q:Q):Qr:=⟨⟨1,[],[varR 0]⟩,⟨[Q.zero],[Q.one],[]⟩,exG q⟩
theorem ajk:exX 1=exY Q.one:=by unfold exX exY;rw[show Fm.addR (varR 0) (numR (ofQ 1))=exG Q.one from by decide,show ofQ 1=Q.one from by decide]
theorem afd:exX (-1)=exY Q.mone:=by unfold exX exY;rw[show Fm.addR (varR 0) (numR (ofQ (-1)))=exG Q.mone from by decide,show ofQ 1=Q.one from by decide]
theorem ajl {q:Q} (h:q.S 1):(exG q).S 1 1:=⟨⟨(fk 0).cn.srt,(fk 0).cn.nz,h.ok⟩,(fk 0).each,h,nr _⟩
theorem amz {q:Q} (h:q.Ok):(exG q).Ok 1:=⟨fun i s t hs ht=>by simp[exG] at ht,fun t ht=>by rw[mj ht];exact⟨by decide,by decide,by decide,by decide⟩,h⟩
theorem ah3 {q:Q} (h:q.S 1):(exY q).Va 1:=by
 have hv:(varR 0).Ok 1:=amz (by decide:Q.zero.Ok);refine⟨⟨nr _,by show 1≤256;decide,by show 0≤1024;decide,by show 1≤1;decide,by show 1≤256;decide,fun j f hf=>by simp[exY] at hf,fun f hf=>by rw[mj hf];exact (fk 0).fsm dx hv⟩,fun f hf=>(by cases hf),⟨nr _,by show 1≤256;decide,rfl,rfl,fun q hq=>by rw[mj hq];exact sz_zero,fun q hq=>by rw[mj hq];exact sz_one,fun i a b ha hb=>?_,by show 0≤256;decide,fun f hf=>(by cases hf),by decide⟩,amz h.ok,(ajl h).up dx (nr _)⟩;cases i with
 | zero=>
  simp only[exY,List.getElem?_cons_zero,oq] at ha hb;subst ha hb
  decide
 | succ i=>simp[exY] at ha
theorem an0:PfOk exL:=⟨fun m hm=>by rw[mj hm];exact ((show ofQ 1=Q.one from by decide)▸sz_one:(ofQ 1).S 1).up dx,by decide⟩
theorem ajj:EnOk (en0 exL):=⟨fun m hm=>(by cases hm),an0⟩
theorem amy:du (en0 exL)=en0 exL:=rfl
theorem amx {q:Q} (h:q.S 1):((en0 exL).sc (exY q)).Va 1 1:=⟨ah3 h,fun d hd=>(by cases hd),by show 0≤1000;decide,fun m hm=>(by cases hm),by show 0≤1000;decide,by decide,by decide,by decide,by show 1+0≤8;decide⟩
theorem ac4 {q:Q} (h:q.S 1):PCallsG Tryz.prog TE 12 [qyP (exY q),.agg (ndX (lfN exL))] (.tup [ensP (gk (exY q) [en0 exL]),iP 0]):=
 a2x (k:=0) (n:=lfN exL) ⟨rfl,rfl⟩ ⟨by decide,by decide⟩ dx (ah3 h) (by show 1+0≤8;decide) ((ajl h).up dx dx) fun x hx=>by
  rw[show x=en0 exL from mj hx,amy];exact⟨ajj,by show 0≤1000;decide,ajj,amx h⟩
theorem af3:gk (exY Q.one) [en0 exL]=[en0 exL]:=by kernel_rfl
theorem abl:gk (exY Q.mone) [en0 exL]=[]:=by kernel_rfl
theorem aoo:Lf (exY Q.one) exL:=⟨⟨1,1,amx sz_one⟩,ajj,(ajl sz_one).up dx dx,by kernel_rfl,by show 1+0≤8;decide,by decide,fun m hm=>by rw[mj hm];decide⟩
theorem ex_ents1:PCallsG Tryz.prog TE 12 [qyP (exY Q.one),.agg (ndX (lfN exL))] (.tup [ensP [en0 exL],iP 0]):=by
 have:=ac4 sz_one;rwa [af3] at this
theorem ex_ents2:PCallsG Tryz.prog TE 12 [qyP (exY Q.mone),.agg (ndX (lfN exL))] (.tup [ensP [],iP 0]):=by
 have:=ac4 ez;rwa [abl] at this
theorem p_ex1:PCalls Tryz.prog TF 23 [iP 1] (.tup [qyP (exY Q.one),.agg (ndX (lfN exL))]):=by
 have:=p_ex (c:=1) dx dx ((show ofQ 1=Q.one from by decide)▸sz_one);rwa [ajk] at this
theorem p_ex2:PCalls Tryz.prog TF 23 [iP (-1)] (.tup [qyP (exY Q.mone),.agg (ndX (lfN exL))]):=by
 have:=p_ex (c:=-1) dx dx ((show ofQ (-1)=Q.mone from by decide)▸ez);rwa [afd] at this
section
attribute [local go_sem] Oper.semAt_some
theorem amw {w:World} {x:Qr} {l:List Mm} {v:Value} (h:(PV.tup [qyP x,.agg (ndX (lfN l))]).Rep w NoX v):∃(q:Qs) (n:Ns),v=.tuple #[.agg #[.int .i64 q.i,.slice q.a.A q.a.n q.a.c,.slice q.b.A q.b.n q.b.c,.slice q.c.A q.c.n q.c.c,.slice q.d.A q.d.n q.d.c,.slice q.e.A q.e.n q.e.c,.slice q.f.A q.f.n q.f.c,.bool q.s,.slice q.h.A q.h.n q.h.c,.slice q.k.A q.k.n q.k.c],.agg #[.slice n.a.A n.a.n n.a.c,.int .i64 0,.int .i64 0,.bool false,.slice n.b.A n.b.n n.b.c,.slice n.c.A n.c.n n.c.c,.slice n.d.A n.d.n n.d.c,.bool false,.slice n.f.A n.f.n n.f.c]]∧Qi w x q∧Ni w l n:=by
 obtain⟨u1,u2,rfl,h1,h2⟩:=a0g h;obtain⟨q,rfl,hq⟩:=ao2 h1;obtain⟨n,rfl,hn⟩:=aog h2;exact⟨q,n,rfl,hq,hn⟩
theorem akl {w:World} {v:Value} (h:(PV.tup [ensP [],iP 0]).Rep w NoX v):∃z:Sv,v=.tuple #[z.v,.int .i64 0]∧0=z.n:=by
 obtain⟨u1,u2,rfl,h1,h2⟩:=a0g h;obtain rfl:=gn h2;obtain⟨z,rfl,hz⟩:=f4 h1;exact⟨z,rfl,hz.symm⟩
theorem ann (w:World) (hw:LaidG w):
  Calls Tryz.prog 8 #[] w fun e w'=>e=.returned (.bool true)∧Gr w w':=by
 go_enter Tryz.func8,Tryz.ntmps8;go_wp2_with fail;refine cm2 (p_ex1.raw (PV.RepL.cons (c:=iP 1) (u:=.int .i64 1) (nc _) PV.RepL.nil)) fun vv w1 hvv G=>?_
 obtain⟨q,n,rfl,hq,hp⟩:=amw hvv;have HW:=I hw;clear hvv hw;have HQ:=I hq;have HP:=I hp;have HG:=I G;clear hq hp;go_upto_region 2 with fail;refine nw2 fun w2 GB D1 D2=>?_
 replace HQ:=I (HQ.gr GB);replace HP:=I (HP.gr GB);replace HG:=HG.tr GB;clear GB;generalize w1.heap.size+1=b at*;generalize w1.heap.size=a at*;go_wp2_with fail;refine cm2 (p_ex2.raw (PV.RepL.cons (c:=iP (-1)) (u:=.int .i64 (-1)) (nc _) PV.RepL.nil)) fun vv w3 hvv G=>?_
 obtain⟨qq,n2,rfl,hq2,hp2⟩:=amw hvv;clear hvv;obtain⟨B3,B4,GB⟩:=a1c w3 39 46 #[.int .i64 qq.i,qq.a.v,qq.b.v,qq.c.v,qq.d.v,qq.e.v,qq.f.v,.bool qq.s,qq.h.v,qq.k.v] #[n2.a.v,.int .i64 0,.int .i64 0,.bool false,n2.b.v,n2.c.v,n2.d.v,.bool false,n2.f.v];have GG:=G.trans GB;replace HQ:=I (HQ.gr GG);replace HP:=I (HP.gr GG);replace HG:=HG.tr GG;replace D1:=GG.hb D1;replace D2:=GG.hb D2;have HQ2:=I (hq2.gr GB);have D3:=I B3;clear B3 B4 GB GG hq2 hp2;go_upto_region 3 with fail;generalize (w3.alloc (.cells #[.int .i64 qq.i,qq.a.v,qq.b.v,qq.c.v,qq.d.v,qq.e.v,qq.f.v,.bool qq.s,qq.h.v,qq.k.v] 39)).alloc (.cells #[n2.a.v,.int .i64 0,.int .i64 0,.bool false,n2.b.v,n2.c.v,n2.d.v,.bool false,n2.f.v] 46)=w4 at*;generalize w3.heap.size+1=d at*;generalize w3.heap.size=c at*;have q0_:=D1.c10;have a0_:=D2.c9;go_wp2_with fail;refine cm2 (ex_ents1.raw (HW.gr HG) (PV.RepL.cons (lx HQ) (PV.RepL.cons (lx HP) PV.RepL.nil))) fun vv w5 hvv G=>?_
 obtain⟨z,rfl,hz⟩:=agb hvv;clear hvv;have hzn:1=z.n:=hz.len;obtain⟨zA,zn,zc⟩:=z;simp only at hzn;subst hzn;replace HQ:=I (HQ.gr G);replace HP:=I (HP.gr G);replace HG:=HG.tr G;replace D1:=G.hb D1;replace D2:=G.hb D2;replace D3:=G.hb D3;replace HQ2:=I (HQ2.gr G);clear hz q0_ a0_;have q0_:=D3.c10;have a0_:=D2.c9;simp only[Sv.v];go_wp2_with fail;refine cm2 (ex_ents2.raw (HW.gr HG) (PV.RepL.cons (lx HQ2) (PV.RepL.cons (lx HP) PV.RepL.nil))) fun vv w6 hvv G=>?_
 obtain⟨z2,rfl,hz⟩:=akl hvv;have hzn:=hz;clear hvv;obtain⟨yA,yn,yc⟩:=z2;simp only at hzn;subst hzn;replace HQ:=I (HQ.gr G);replace HP:=I (HP.gr G);replace HG:=HG.tr G;replace D1:=G.hb D1;replace D2:=G.hb D2;clear hz q0_ a0_ D3 HQ2;have q0_:=D1.c10;have a0_:=D2.c9;simp only[Sv.v];go_wp2_with fail;refine (akj w6 q (exY Q.one) exL n (HW.gr HG) HQ aoo ex_ents1 HP).mono ?_;rintro e w7 ⟨y,rfl,G⟩;obtain⟨B5,GB⟩:=abd w7 61 #[.int .i64 1,Nl,.int .i64 0,.int .i64 0,.bool false,Nl,Nl,Nl,.bool false,y.v,Nl,.int .i64 0];replace HG:=I ((HG.trans G).trans GB);have u0:=B5.c12.1;clear B5 GB G q0_ a0_ D1 D2 HQ HP;go_wp2;go_ret;exact⟨rfl,HG.out⟩
end
def eqL {α:Type} [Inhabited α] (f:α→α→Bool) (a b:List α):Bool:=a.length == b.length&&(List.range a.length).all fun i=>f (atZ a (i:Int)) (atZ b (i:Int))
section
variable {α:Type} [Inhabited α] {f:α→α→Bool} {a b:List α} {i:Nat}
theorem a3u (h:a.length≠b.length):eqL f a b=false:=by
 unfold eqL;rw[beq_false_of_ne h];rfl
theorem ka (hi:i < a.length) (h:f (atZ a (i:Int)) (atZ b (i:Int))=false):eqL f a b=false:=by
 unfold eqL;rw[Bool.and_eq_false_iff,List.all_eq_false];exact .inr ⟨i,List.mem_range.2 hi,by rw[h];exact Bool.false_ne_true⟩
theorem a3t (hl:a.length=b.length) (hi:a.length≤i) (h:∀j,j < i→f (atZ a (j:Int)) (atZ b (j:Int))=true):eqL f a b=true:=by
 unfold eqL;rw[hl,beq_self_eq_true,Bool.true_and,List.all_eq_true];exact fun j hj=>h j (by have:=List.mem_range.1 hj;omega)
theorem my {p:Nat→Prop} (h:∀j,j < i→p j) (h1:p i):∀j,j < i+1→p j:=fun j hj=>(Nat.lt_succ_iff_lt_or_eq.1 hj).elim (h j) fun e=>e▸h1
omit [Inhabited α] in
theorem a3k {β:Type} {g:α→β} (h:(((a.map g).length:Int) != ((b.map g).length:Int))=true):a.length≠b.length:=by
 intro e;rw[List.length_map,List.length_map,e] at h;simp at h
omit [Inhabited α] in
theorem a3l {β:Type} {g:α→β} (h:(((a.map g).length:Int) != ((b.map g).length:Int))=false):a.length=b.length:=by
 rw[List.length_map,List.length_map,bne_eq_false_iff_eq] at h;omega
end
def mmEq (x y:Mm):Bool:=jl x.1 y.1&&decide (x.2=y.2)
def lmEq (x y:Lm):Bool:=x.unit == y.unit&&(x.upper == y.upper&&(decide (x.value=y.value)&&eqL mmEq x.proof y.proof))
def enEq (x y:En):Bool:=eqL dcEq x.path y.path&&((x.empty == y.empty)&&(eqL lmEq x.lems y.lems&&eqL mmEq x.proof y.proof))
theorem a63 (a b:List Mm) (h9:a.length≤1000000):PCalls Tryz.prog [] 97 [mmsP a,mmsP b] (bP (eqL mmEq a b)):=by
 refine pcA [] Tryz.func97 (fun D=>?_);refine a2 (fun e10=>?_) (fun e10=>?_)
 ·have hn:=a3k e10;exact ar (c:=congrArg bP (a3u hn).symm)
 ·have hl:=a3l e10;refine au ?_;refine pl (ι:={i:Nat // i≤a.length∧∀j,j < i→mmEq (atZ a (j:Int)) (atZ b (j:Int))=true}) (fun i=>[(0,.pv (mmsP a)),(1,.pv (mmsP b)),(5,.pv (iP (i.1:Int)))]) (fun i=>[]) [] (fun i=>a.length - i.1) ⟨0,nq _,fun j hj=>absurd hj (Nat.not_lt_zero j)⟩ (ai Y (ai Y (ai Y trivial))) trivial (fun _=>rfl) ?_;intro ⟨i,hi0,hg⟩;refine a2 (fun e14=>?_) (fun e14=>?_)
  ·have hi:i < a.length:=db e14;have hib:i < b.length:=hl▸hi;refine ax (c:=(aj (ah hi))) ?_;refine ax (c:=(aj (ah hib))) ?_;refine au ?_;refine rr0 (!jl (atZ a (i:Int)).1 (atZ b (i:Int)).1) Y Y Y Y Y Y Y Y Y (.inr ⟨rfl,rfl⟩) ?_;refine a2 (fun e28=>?_) (fun e28=>?_)
   ·exact ar (c:=congrArg bP (ka hi (by simp_all [mmEq])).symm)
   ·refine ax (c:=(aj (ah hi))) ?_;refine ax (c:=(aj (ah hib))) ?_;refine ac (c:=uq) ?_;refine a2 (fun e41=>?_) (fun e41=>?_)
    ·exact ar (c:=congrArg bP (ka hi (by simp_all [mmEq])).symm)
    ·refine aa (c:=ae (by show i≤_;omega)) ?_;refine au ?_;exact pe ⟨i+1,hi,my (p:=fun j=>mmEq (atZ a (j:Int)) (atZ b (j:Int))=true) hg (by simp_all [mmEq])⟩ (ai Y (ai Y (ai Y trivial))) trivial Y (by show a.length - (i+1) < a.length - i;omega)
  ·have hj:a.length≤i:=dw e14;exact ar (c:=congrArg bP (a3t hl hj hg).symm)
theorem a9n (a b:List Lm) (h9:a.length≤1000000) (ha:∀m∈a,m.proof.length≤1000000):PCalls Tryz.prog [] 96 [lmsP a,lmsP b] (bP (eqL lmEq a b)):=by
 refine pcA [] Tryz.func96 (fun D=>?_);refine a2 (fun e10=>?_) (fun e10=>?_)
 ·have hn:=a3k e10;exact ar (c:=congrArg bP (a3u hn).symm)
 ·have hl:=a3l e10;refine au ?_;refine pl (ι:={i:Nat // i≤a.length∧∀j,j < i→lmEq (atZ a (j:Int)) (atZ b (j:Int))=true}) (fun i=>[(0,.pv (lmsP a)),(1,.pv (lmsP b)),(5,.pv (iP (i.1:Int)))]) (fun i=>[]) [] (fun i=>a.length - i.1) ⟨0,nq _,fun j hj=>absurd hj (Nat.not_lt_zero j)⟩ (ai Y (ai Y (ai Y trivial))) trivial (fun _=>rfl) ?_;intro ⟨i,hi0,hg⟩;refine a2 (fun e14=>?_) (fun e14=>?_)
  ·have hi:i < a.length:=db e14;have hib:i < b.length:=hl▸hi;refine ax (c:=(aj (ah hi))) ?_;refine ax (c:=(aj (ah hib))) ?_;refine a2 (fun e28=>?_) (fun e28=>?_)
   ·exact ar (c:=congrArg bP (ka hi (by simp_all [lmEq])).symm)
   ·refine ax (c:=(aj (ah hi))) ?_;refine ax (c:=(aj (ah hib))) ?_;refine au ?_;refine re0 (((atZ a (i:Int)).upper != (atZ b (i:Int)).upper)) Y Y Y Y Y Y (.inr ⟨rfl,rfl⟩) ?_;refine a2 (fun e41=>?_) (fun e41=>?_)
    ·exact ar (c:=congrArg bP (ka hi (by simp_all [lmEq])).symm)
    ·refine ax (c:=(aj (ah hi))) ?_;refine ax (c:=(aj (ah hib))) ?_;refine ac (c:=uq) ?_;refine a2 (fun e55=>?_) (fun e55=>?_)
     ·exact ar (c:=congrArg bP (ka hi (by simp_all [lmEq])).symm)
     ·refine ax (c:=(aj (ah hi))) ?_;refine ax (c:=(aj (ah hib))) ?_;refine ac (c:=a63 _ _ (ha _ (mg (ah hi)))) ?_;refine a2 (fun e68=>?_) (fun e68=>?_)
      ·exact ar (c:=congrArg bP (ka hi (by simp_all [lmEq])).symm)
      ·refine aa (c:=ae (by show i≤_;omega)) ?_;refine au ?_;exact pe ⟨i+1,hi,my (p:=fun j=>lmEq (atZ a (j:Int)) (atZ b (j:Int))=true) hg (by simp_all [lmEq])⟩ (ai Y (ai Y (ai Y trivial))) trivial Y (by show a.length - (i+1) < a.length - i;omega)
  ·have hj:a.length≤i:=dw e14;exact ar (c:=congrArg bP (a3t hl hj hg).symm)
theorem a0t (x y:Dc):PCalls Tryz.prog [] 95 [dcP x,dcP y] (bP (dcEq x y)):=by
 refine pcA [42] Tryz.func95 (fun D=>?_);refine a2 (fun e10=>?_) (fun e10=>?_)
 ·refine a2 (fun e17=>?_) (fun e17=>?_)
  ·refine ac (c:=uq) ?_;exact ar (c:=by (try simp only[List.length_map] at *);simp only[dcEq,e10,e17,sb]<;>rfl)
  ·exact ar (c:=by (try simp only[List.length_map] at *);simp only[dcEq,e10,e17,sb]<;>rfl)
 ·exact ar (c:=by (try simp only[List.length_map] at *);simp only[dcEq,e10,sb]<;>rfl)
theorem a7v (a b:List Dc) (h9:a.length≤1000000):PCalls Tryz.prog [] 45 [dcsP a,dcsP b] (bP (eqL dcEq a b)):=by
 refine pcA [] Tryz.func45 (fun D=>?_);refine a2 (fun e10=>?_) (fun e10=>?_)
 ·have hn:=a3k e10;exact ar (c:=congrArg bP (a3u hn).symm)
 ·have hl:=a3l e10;refine au ?_;refine pl (ι:={i:Nat // i≤a.length∧∀j,j < i→dcEq (atZ a (j:Int)) (atZ b (j:Int))=true}) (fun i=>[(0,.pv (dcsP a)),(1,.pv (dcsP b)),(5,.pv (iP (i.1:Int)))]) (fun i=>[]) [] (fun i=>a.length - i.1) ⟨0,nq _,fun j hj=>absurd hj (Nat.not_lt_zero j)⟩ (ai Y (ai Y (ai Y trivial))) trivial (fun _=>rfl) ?_;intro ⟨i,hi0,hg⟩;refine a2 (fun e14=>?_) (fun e14=>?_)
  ·have hi:i < a.length:=db e14;have hib:i < b.length:=hl▸hi;refine ax (c:=(aj (ah hi))) ?_;refine ax (c:=(aj (ah hib))) ?_;refine ac (c:=a0t _ _) ?_;refine a2 (fun e26=>?_) (fun e26=>?_)
   ·replace e26:=gq e26;exact ar (c:=congrArg bP (ka hi (by simp_all [dcEq])).symm)
   ·replace e26:=i7 e26;refine aa (c:=ae (by show i≤_;omega)) ?_;refine au ?_;exact pe ⟨i+1,hi,my (p:=fun j=>dcEq (atZ a (j:Int)) (atZ b (j:Int))=true) hg (by simp_all [dcEq])⟩ (ai Y (ai Y (ai Y trivial))) trivial Y (by show a.length - (i+1) < a.length - i;omega)
  ·have hj:a.length≤i:=dw e14;exact ar (c:=congrArg bP (a3t hl hj hg).symm)
theorem a7w (a b:List Lm) (e f:Bool) (p q:List Mm) (h9:a.length≤1000000) (ha:∀m∈a,m.proof.length≤1000000) (hp:p.length≤1000000):PCalls Tryz.prog [] 46 [.agg [lmsP a,iP 0,iP 0,bP false,.nat 0,.nat 0,.rows 46 9 ndT [],bP e,mmsP p],.agg [lmsP b,iP 0,iP 0,bP false,.nat 0,.nat 0,.rows 46 9 ndT [],bP f,mmsP q],iP 1] (bP ((e == f)&&(eqL lmEq a b&&eqL mmEq p q))):=by
 refine pcA [46] Tryz.func46 (fun D=>?_);refine akF (c:=by exact (show _=false from rfl)) ?_;refine au ?_;refine re0 ((e != f)) Y Y Y Y Y Y (.inr ⟨rfl,rfl⟩) ?_;refine a2 (fun e17=>?_) (fun e17=>?_)
 ·exact ar (c:=congrArg bP (by simp_all))
 ·refine akF (c:=by exact (show _=false from rfl)) ?_;refine ac (c:=a0t dc0 dc0) ?_;refine ac (c:=a9n a b h9 ha) ?_;refine a2 (fun e42=>?_) (fun e42=>?_)
  ·exact ar (c:=congrArg bP (by simp_all))
  ·refine ac (c:=a63 p q hp) ?_;refine a2 (fun e49=>?_) (fun e49=>?_)
   ·exact ar (c:=congrArg bP (by simp_all))
   ·refine au ?_;refine pl (ι:=Unit) (fun _=>[(2,.pv (iP 1)),(3,.box 3 0),(4,.box 4 0),(7,.pv (iP 0))]) (fun _=>[(3,.box 46 [.pv (lmsP a),.pv (iP 0),.pv (iP 0),.pv (bP false),.pv (.nat 0),.pv (.nat 0),.pv (.rows 46 9 ndT []),.pv (bP e),.pv (mmsP p)]),(4,.box 46 [.pv (lmsP b),.pv (iP 0),.pv (iP 0),.pv (bP false),.pv (.nat 0),.pv (.nat 0),.pv (.rows 46 9 ndT []),.pv (bP f),.pv (mmsP q)])]) [46] (fun _=>0) () (ai Y (ai Y (ai Y (ai Y trivial)))) (ai Y (ai Y trivial)) (fun _=>rfl) ?_;intro _;refine akF (c:=by exact (show _=false from rfl)) ?_;exact ar (c:=congrArg bP (by simp_all))
theorem a9o (a b:List En) (h9:a.length≤1000000) (ha:∀x∈a,x.path.length≤1000000∧x.lems.length≤1000000∧(∀m∈x.lems,m.proof.length≤1000000)∧x.proof.length≤1000000):PCalls Tryz.prog [] 14 [ensP a,ensP b] (bP (eqL enEq a b)):=by
 refine pcA [] Tryz.func14 (fun D=>?_);refine a2 (fun e10=>?_) (fun e10=>?_)
 ·have hn:=a3k e10;exact ar (c:=congrArg bP (a3u hn).symm)
 ·have hl:=a3l e10;refine au ?_;refine pl (ι:={i:Nat // i≤a.length∧∀j,j < i→enEq (atZ a (j:Int)) (atZ b (j:Int))=true}) (fun i=>[(0,.pv (ensP a)),(1,.pv (ensP b)),(5,.pv (iP (i.1:Int)))]) (fun i=>[]) [] (fun i=>a.length - i.1) ⟨0,nq _,fun j hj=>absurd hj (Nat.not_lt_zero j)⟩ (ai Y (ai Y (ai Y trivial))) trivial (fun _=>rfl) ?_;intro ⟨i,hi0,hg⟩;refine a2 (fun e14=>?_) (fun e14=>?_)
  ·have hi:i < a.length:=db e14;have hib:i < b.length:=hl▸hi;have hx:=ha _ (mg (ah hi));refine ax (c:=(aj (ah hi))) ?_;refine ax (c:=(aj (ah hib))) ?_;refine ac (c:=a7v _ _ hx.1) ?_;refine a2 (fun e29=>?_) (fun e29=>?_)
   ·replace e29:=gq e29;exact ar (c:=congrArg bP (ka hi (by simp only[enEq,e10,e14,e29,sb])).symm)
   ·replace e29:=i7 e29;refine ax (c:=(aj (ah hi))) ?_;refine ax (c:=(aj (ah hib))) ?_;refine ac (c:=a7w _ _ _ _ _ _ hx.2.1 hx.2.2.1 hx.2.2.2) ?_;refine a2 (fun e42=>?_) (fun e42=>?_)
    ·exact ar (c:=congrArg bP (ka hi (by simp only[Bool.not_eq_true',Bool.not_eq_false'] at e42;simp only[enEq,e10,e14,e29,e42,sb])).symm)
    ·refine aa (c:=ae (by show i≤_;omega)) ?_;refine au ?_;exact pe ⟨i+1,hi,my (p:=fun j=>enEq (atZ a (j:Int)) (atZ b (j:Int))=true) hg (by simp only[Bool.not_eq_true',Bool.not_eq_false'] at e42;simp only[enEq,e10,e14,e29,e42,sb])⟩ (ai Y (ai Y (ai Y trivial))) trivial Y (by show a.length - (i+1) < a.length - i;omega)
  ·have hj:a.length≤i:=dw e14;exact ar (c:=congrArg bP (a3t hl hj hg).symm)
end Go.Proofs.YtbhbainhmfjpdaaGreatDoor
