/- Walks of the search and of what it calls, part 8. -/
import Derived.Test.YtmhphnljfcncpaaGreatDoorMg
import Derived.Deep.MidRow
set_option linter.unusedVariables false
set_option linter.unusedSimpArgs false
set_option maxRecDepth 100000
set_option maxHeartbeats 8000000
namespace Go.Proofs.YtmhphnljfcncpaaGreatDoor
open Go.RowKit
section
attribute [local go_sem] Oper.semAt_some
theorem Mv.of_eq {m n:Mv} (h:(Value.agg #[.int .i64 m.row.kind,.int .i64 m.row.index,.int .i64 m.row.lo,.int .i64 m.row.hi,.bool m.coef.neg,.slice m.coef.num.A m.coef.num.n m.coef.num.c,.slice m.coef.den.A m.coef.den.n m.coef.den.c])=.agg #[.int .i64 n.row.kind,.int .i64 n.row.index,.int .i64 n.row.lo,.int .i64 n.row.hi,.bool n.coef.neg,.slice n.coef.num.A n.coef.num.n n.coef.num.c,.slice n.coef.den.A n.coef.den.n n.coef.den.c]):n=m:=by
 obtain⟨⟨a,b,c,d⟩,⟨e,⟨f1,f2,f3⟩,⟨g1,g2,g3⟩⟩⟩:=m;obtain⟨⟨a',b',c',d'⟩,⟨e',⟨f1',f2',f3'⟩,⟨g1',g2',g3'⟩⟩⟩:=n;simp only[Value.agg.injEq,Array.mk.injEq,List.cons.injEq,Value.int.injEq,Value.bool.injEq,Value.slice.injEq,true_and,and_true] at h;obtain⟨rfl,rfl,rfl,rfl,rfl,⟨rfl,rfl,rfl⟩,rfl,rfl,rfl⟩:=h;rfl
theorem Mv.Is.stB {w w':World} {p t:Nat} {us:Array Value} {m:Mv} {x:Mm} (h:m.Is w x) (F:Fr (fun b=>b=p) w w') (hb:Bk w p t us) (h2:t≠300:=by decide):m.Is w' x:=⟨h.row,h.coef.tf' F hb h2⟩
theorem Mults.stB {w w':World} {p t:Nat} {us:Array Value} {x:Sv} {l:List Mm} (h:Mults w x l) (F:Fr (fun b=>b=p) w w') (hb:Bk w p t us) (h1:t≠310:=by decide) (h2:t≠300:=by decide):Mults w' x l:=
 Rows.tf h F (fun b cs fr e hh=>Bk.not_ty hb h1 cs fr (e▸hh)) fun f a hf=>⟨hf.row,hf.coef.tf' F hb h2⟩
theorem binput1_any (w:World) (q:Qv) (x:Qm) (z:Sv) (v i:Nat) (a al:Q) (hq:q.Is w x) (hv:Bk w v 547 (q.qb z)) (ha:x.lo[i]?=some a) (hl:x.lo[i]?=some al) (hi:i < 1000):
  Calls Tryz.prog 483 #[.pointer (some ⟨v,0,none⟩),.int .i64 (i:Int),.bool false] w fun e w'=>∃(r:Rv) (y:Sv),e=.returned (.tuple #[r.v,y.v,.bool true])∧r.Is w' a∧Mults w' y [(⟨1,(i:Int),0,0⟩,Q.one)]∧Gr w w':=by
 obtain⟨⟨gi,gu,qo⟩,⟨loA,lon,loc⟩,⟨hiA,hin,hic⟩,qr,qg⟩:=q;have hil:i < lon:=by have h1:x.lo.length=lon:=hq.lo.len;rw[← h1];exact (gs hl).1
 have hih:i < lon:=by have h1:x.lo.length=lon:=hq.lo.len;rw[← h1];exact (gs ha).1
 (try simp only at hv)
 change Hid _ at hq ha hl;have HVW:=I hv;clear hv;go_enter Tryz.func483,Tryz.ntmps483;go_upto_region 1 with fail;refine nw1h fun W HG D_r=>?_
 have N_r:=dnl (w.heap.size) (w.heap.size);have v_3:W.cell? ⟨v,3,none⟩=some (.slice loA lon loc):=(HG.bk HVW).cell 3;have v_4:W.cell? ⟨v,4,none⟩=some (.slice hiA hin hic):=(HG.bk HVW).cell 4;have v_5:W.cell? ⟨v,5,none⟩=some Nl:=(HG.bk HVW).cell 5;go_upto_region 2 with fail;clear v_3 v_4 v_5;refine nw1 fun w1 GB D_g0=>?_
 replace D_r:=GB.hb D_r;replace HG:=HG.tr GB;clear GB;generalize W.heap.size=g0 at*;obtain⟨t,ad,ht,hA,d0,d1,d2⟩:=(hq.lo.gr HG).at hl;(try simp only at hA)
 subst hA;have HT:=I ht;clear ht;have g0_:=D_g0.c3;have HS9:=HG.size;have L9_r:=D_r.lt;have L9_g0:=D_g0.lt;have X_r_b0:Hid (¬w.heap.size=w1.heap.size):=(fun e=>by have h3:w.heap.size=w1.heap.size:=e;omega);have X_b0_r:=X_r_b0.sy;have X_r_w0:Hid (¬w.heap.size=w1.heap.size+1):=(fun e=>by have h3:w.heap.size=w1.heap.size+1:=e;omega);have X_w0_r:=X_r_w0.sy;clear HS9 L9_r L9_g0;go_upto_region 3 with fail;clear g0_;refine nw2 fun w2 GB D_b0 D_w0=>?_
 obtain⟨HT,D_r,HG⟩:=GB.u3 HT D_r HG;clear GB;generalize w1.heap.size+1=w0 at*;generalize w1.heap.size=b0 at*;clear d0 d1 d2;have v_10:w2.cell? ⟨v,10,none⟩=some Nl:=(HG.bk HVW).cell 10;go_wp2_with fail;refine wp_loop_rounds 1 ?_;rw[rounds_succ];go_upto_region 11 with fail;clear v_10;have b0_:=D_b0.c3;have w0_:=D_w0.c4;clear b0_ w0_;refine wp_region_E (fun W'=>W'.cell? ⟨b0,0,none⟩=some (.bool t.neg)∧W'.cell? ⟨b0,1,none⟩=some t.num.v∧W'.cell? ⟨b0,2,none⟩=some t.den.v∧W'.cell? ⟨w0,0,none⟩=some (.int .i64 1)∧W'.cell? ⟨w0,1,none⟩=some (.int .i64 (i:Int))∧W'.cell? ⟨w0,2,none⟩=some (.int .i64 0)∧W'.cell? ⟨w0,3,none⟩=some (.int .i64 0)) (by kernel_rfl) ?_;show anyE _ _ _ _ 8 _ _ _;have GD:=(Gr.refl w2).drew;obtain⟨HT,D_r,D_b0,D_w0,HG⟩:=GD.u5 HT D_r D_b0 D_w0 HG;clear GD;generalize w2.drew=e0 at*;refine anyE.tk 0 ⟨D_b0.c3.1,D_b0.c3.2.1,D_b0.c3.2.2,D_w0.c4⟩ ?_;refine anyE.tk 1 ⟨D_b0.c3.1,D_b0.c3.2.1,D_b0.c3.2.2,D_w0.c4⟩ ?_;have OF:=rof_any e0 1 (by decide) (by decide);rw[ofQ_one] at OF;refine anyE.k 2 fun K hK=>?_
 refine doesAt_wp (K:=fun v W=>∃ov:Rv,v=ov.v∧ov.Is W Q.one∧Gr e0 W) (doesAt_enter (f:=144) (args:=#[.int .i64 1]) (by go_simp;try (first | with_reducible rfl | rfl)) ((OF).mono ?_)) ?_
 ·rintro e w' ⟨ov,rfl,hx,G⟩;exact⟨_,rfl,ov,rfl,hx,G⟩
 rintro v e1 ⟨ov,rfl,hx,G⟩;obtain⟨HT,D_r,D_b0,D_w0,HG⟩:=G.u5 HT D_r D_b0 D_w0 HG;have HOV:=I hx;clear hx G;refine hK.out _ _ ⟨Or.inl (⟨D_b0.c3.1,D_b0.c3.2.1,D_b0.c3.2.2,D_w0.c4⟩),?_⟩;clear hK K;refine ptt ?_;clear OF;refine anyE.k 3 fun K hK=>?_
 refine doesAt_wp (K:=fun v W=>∃m:Mv,v=.agg m.ar∧m.Is W (⟨1,(i:Int),0,0⟩,Q.one)∧Gr e1 W) (doesAt_enter (f:=482) (args:=#[.agg #[.int .i64 1,.int .i64 (i:Int),.int .i64 0,.int .i64 0],ov.v]) (by go_simp;try (first | with_reducible rfl | rfl)) ((bmult_any e1 ⟨1,(i:Int),0,0⟩ ov Q.one HOV).mono ?_)) ?_
 ·rintro e w' ⟨m,rfl,hx,G⟩;exact⟨_,rfl,m,rfl,hx,G⟩
 rintro v e2 ⟨m,rfl,hx,G⟩;obtain⟨HT,D_r,D_b0,D_w0,HG⟩:=G.u5 HT D_r D_b0 D_w0 HG;have HM:=I hx;clear hx G;refine hK.out _ _ ⟨Or.inl (⟨D_b0.c3.1,D_b0.c3.2.1,D_b0.c3.2.2,D_w0.c4⟩),?_⟩;clear hK K;refine ptt ?_;refine anyE.two 4 5 rfl rfl (by kernel_rfl) (by rfl) (by rfl) (fun K hK=>?_) (fun K hK=>?_)
 ·obtain⟨BM,GM⟩:=made1 e2 310 m.ar;have HYM:Hid (Mults (e2.alloc (.cells m.ar 310)) ⟨some ⟨e2.heap.size,0,none⟩,1,1⟩ [(⟨1,(i:Int),0,0⟩,Q.one)]):=I (rows_single (cs:=Mv.cs) (t:=m) BM rfl (HM.gr GM));obtain⟨HT,HM,D_r,D_b0,D_w0,HG⟩:=GM.u6 HT HM D_r D_b0 D_w0 HG;clear BM GM;go_simp;refine hK.out _ _ ⟨Or.inl (⟨D_b0.c3.1,D_b0.c3.2.1,D_b0.c3.2.2,D_w0.c4⟩),?_⟩;clear hK K;refine ptt ?_;generalize e2.heap.size=mb at*;generalize e2.alloc (.cells m.ar 310)=f0 at*;refine anyE.k 5 fun K hK=>?_
  have fz5:=D_r.frozen;have r_:=D_r.c3;have r5:=D_r.out;go_simp;refine ks D_r fun w3 B5 F5=>?_
  replace HT:=I (HT.tf' F5 D_r);replace HM:=I (HM.stB F5 D_r);replace HYM:=I (HYM.stB F5 D_r);replace HG:=HG.fa F5 N_r;replace D_b0:=F5.hb D_b0 X_b0_r;replace D_w0:=F5.hb D_w0 X_w0_r;replace D_r:=B5;clear B5 F5;refine hK.out _ _ ⟨Or.inl (⟨D_b0.c3.1,D_b0.c3.2.1,D_b0.c3.2.2,D_w0.c4⟩),?_⟩;clear hK K r_ fz5 r5;refine ptt ?_;refine anyE.k 6 fun K hK=>?_
  go_simp;refine hK.out _ _ ⟨Or.inl (⟨D_b0.c3.1,D_b0.c3.2.1,D_b0.c3.2.2,D_w0.c4⟩),?_⟩;clear hK K;refine ptt ?_;refine anyE.k 7 fun K hK=>?_
  go_simp;refine hK.out _ _ ⟨Or.inl (⟨D_b0.c3.1,D_b0.c3.2.1,D_b0.c3.2.2,D_w0.c4⟩),?_⟩;clear hK K;refine ptt ?_;refine anyE.done (by kernel_rfl) ?_;have r_:=D_r.c3;have hae:al=a:=Option.some.inj (hl.symm.trans ha);subst hae;go_wp2;refine pex ?_;refine bret Tryz.results483 ?_;exact⟨t,⟨some ⟨mb,0,none⟩,1,1⟩,rfl,HT.out,HYM.out,HG.out⟩
 ·have fz5:=D_r.frozen;have r_:=D_r.c3;have r5:=D_r.out;go_simp;refine ks D_r fun w3 B5 F5=>?_
  replace HT:=I (HT.tf' F5 D_r);replace HM:=I (HM.stB F5 D_r);replace HG:=HG.fa F5 N_r;replace D_b0:=F5.hb D_b0 X_b0_r;replace D_w0:=F5.hb D_w0 X_w0_r;replace D_r:=B5;clear B5 F5;refine hK.out _ _ ⟨Or.inl (⟨D_b0.c3.1,D_b0.c3.2.1,D_b0.c3.2.2,D_w0.c4⟩),?_⟩;clear hK K r_ fz5 r5;refine ptt ?_;refine anyE.k 4 fun K hK=>?_
  obtain⟨BM,GM⟩:=made1 w3 310 m.ar;have HYM:Hid (Mults (w3.alloc (.cells m.ar 310)) ⟨some ⟨w3.heap.size,0,none⟩,1,1⟩ [(⟨1,(i:Int),0,0⟩,Q.one)]):=I (rows_single (cs:=Mv.cs) (t:=m) BM rfl (HM.gr GM));obtain⟨HT,D_r,D_b0,D_w0,HG⟩:=GM.u5 HT D_r D_b0 D_w0 HG;clear BM GM;go_simp;refine hK.out _ _ ⟨Or.inl (⟨D_b0.c3.1,D_b0.c3.2.1,D_b0.c3.2.2,D_w0.c4⟩),?_⟩;clear hK K;refine ptt ?_;generalize w3.heap.size=mb at*;generalize w3.alloc (.cells m.ar 310)=f1 at*;refine anyE.k 6 fun K hK=>?_
  go_simp;refine hK.out _ _ ⟨Or.inl (⟨D_b0.c3.1,D_b0.c3.2.1,D_b0.c3.2.2,D_w0.c4⟩),?_⟩;clear hK K;refine ptt ?_;refine anyE.k 7 fun K hK=>?_
  go_simp;refine hK.out _ _ ⟨Or.inl (⟨D_b0.c3.1,D_b0.c3.2.1,D_b0.c3.2.2,D_w0.c4⟩),?_⟩;clear hK K;refine ptt ?_;refine anyE.done (by kernel_rfl) ?_;have r_:=D_r.c3;have hae:al=a:=Option.some.inj (hl.symm.trans ha);subst hae;go_wp2;refine pex ?_;refine bret Tryz.results483 ?_;exact⟨t,⟨some ⟨mb,0,none⟩,1,1⟩,rfl,HT.out,HYM.out,HG.out⟩
theorem binput2_any (w:World) (q:Qv) (x:Qm) (z:Sv) (v i:Nat) (a al:Q) (hq:q.Is w x) (hv:Bk w v 547 (q.qb z)) (ha:x.hi[i]?=some a) (hl:x.lo[i]?=some al) (hi:i < 1000):
  Calls Tryz.prog 483 #[.pointer (some ⟨v,0,none⟩),.int .i64 (i:Int),.bool true] w fun e w'=>∃(r:Rv) (y:Sv),e=.returned (.tuple #[r.v,y.v,.bool true])∧r.Is w' a∧Mults w' y [(⟨2,(i:Int),0,0⟩,Q.one)]∧Gr w w':=by
 obtain⟨⟨gi,gu,qo⟩,⟨loA,lon,loc⟩,⟨hiA,hin,hic⟩,qr,qg⟩:=q;have hil:i < lon:=by have h1:x.lo.length=lon:=hq.lo.len;rw[← h1];exact (gs hl).1
 have hih:i < hin:=by have h1:x.hi.length=hin:=hq.hi.len;rw[← h1];exact (gs ha).1
 (try simp only at hv)
 change Hid _ at hq ha hl;have HVW:=I hv;clear hv;go_enter Tryz.func483,Tryz.ntmps483;go_upto_region 1 with fail;refine nw1h fun W HG D_r=>?_
 have N_r:=dnl (w.heap.size) (w.heap.size);have v_3:W.cell? ⟨v,3,none⟩=some (.slice loA lon loc):=(HG.bk HVW).cell 3;have v_4:W.cell? ⟨v,4,none⟩=some (.slice hiA hin hic):=(HG.bk HVW).cell 4;have v_5:W.cell? ⟨v,5,none⟩=some Nl:=(HG.bk HVW).cell 5;have HS9:=HG.size;clear HS9;go_upto_region 2 with fail;clear v_3 v_4 v_5;refine nw1 fun w1 GB D_g0=>?_
 replace D_r:=GB.hb D_r;replace HG:=HG.tr GB;clear GB;generalize W.heap.size=g0 at*;obtain⟨t,ad,ht,hA,d0,d1,d2⟩:=(hq.lo.gr HG).at hl;(try simp only at hA)
 subst hA;clear ht;have g0_:=D_g0.c3;have HS9:=HG.size;have L9_r:=D_r.lt;have L9_g0:=D_g0.lt;have N_b0:=HG.hs;have N_w0:Hid (w.heap.size≤w1.heap.size+1):=I (Nat.le_succ_of_le HS9);have X_r_b0:Hid (¬w.heap.size=w1.heap.size):=(fun e=>by have h3:w.heap.size=w1.heap.size:=e;omega);have X_b0_r:=X_r_b0.sy;have X_r_w0:Hid (¬w.heap.size=w1.heap.size+1):=(fun e=>by have h3:w.heap.size=w1.heap.size+1:=e;omega);have X_w0_r:=X_r_w0.sy;have X_b0_w0:=dnx (w1.heap.size) (w1.heap.size+1);have X_w0_b0:=dnx (w1.heap.size+1) (w1.heap.size);clear HS9 L9_r L9_g0;go_upto_region 3 with fail;clear g0_;refine nw2 fun w2 GB D_b0 D_w0=>?_
 obtain⟨D_r,D_g0,HG⟩:=GB.u3 D_r D_g0 HG;clear GB;generalize w1.heap.size+1=w0 at*;generalize w1.heap.size=b0 at*;clear d0 d1 d2;obtain⟨t2,ad2,ht,hA,d0,d1,d2⟩:=(hq.hi.gr HG).at ha;(try simp only at hA)
 subst hA;have HT2:=I ht;clear ht;have g0_:=D_g0.c3;have b0_:=D_b0.c3;have w0_:=D_w0.c4;have fzb:=D_b0.frozen;have fzw:=D_w0.frozen;have ne9:=X_w0_b0.out;have ne8:=X_b0_w0.out;go_upto_region 5 with fail;clear fzb fzw d0 d1 d2 ne9 ne8;have B5:Bk (((w2.setCell ⟨b0,0,none⟩ (.bool t2.neg)).setCell ⟨b0,1,none⟩ t2.num.v).setCell ⟨b0,2,none⟩ t2.den.v) b0 38 t2.ar:=by have:=(((D_b0.put 0 (.bool t2.neg)).put 1 t2.num.v).put 2 t2.den.v);simpa using this
 have F5:Fr (fun b=>b=b0) w2 (((w2.setCell ⟨b0,0,none⟩ (.bool t2.neg)).setCell ⟨b0,1,none⟩ t2.num.v).setCell ⟨b0,2,none⟩ t2.den.v):=(((Fr.set w2 ⟨b0,0,none⟩ (.bool t2.neg) rfl:Fr (fun b=>b=b0) _ _).trans (Fr.set (w2.setCell ⟨b0,0,none⟩ (.bool t2.neg)) ⟨b0,1,none⟩ t2.num.v rfl:Fr (fun b=>b=b0) _ _)).trans (Fr.set ((w2.setCell ⟨b0,0,none⟩ (.bool t2.neg)).setCell ⟨b0,1,none⟩ t2.num.v) ⟨b0,2,none⟩ t2.den.v rfl:Fr (fun b=>b=b0) _ _));replace HT2:=I (HT2.tf' F5 D_b0);replace HG:=HG.fa F5 N_b0;replace D_r:=F5.hb D_r X_r_b0;replace D_w0:=F5.hb D_w0 X_w0_b0;replace D_b0:=I B5;clear B5 F5 g0_ b0_ w0_;generalize ((w2.setCell ⟨b0,0,none⟩ (.bool t2.neg)).setCell ⟨b0,1,none⟩ t2.num.v).setCell ⟨b0,2,none⟩ t2.den.v=w3 at*;refine ks D_w0 fun w4 B5 F5=>?_
 replace HT2:=I (HT2.tf' F5 D_w0);replace HG:=HG.fa F5 N_w0;replace D_r:=F5.hb D_r X_r_w0;replace D_b0:=F5.hb D_b0 X_b0_w0;replace D_w0:=B5;clear B5 F5;have v_10:w4.cell? ⟨v,10,none⟩=some Nl:=(HG.bk HVW).cell 10;go_wp2_with fail;refine wp_loop_rounds 1 ?_;rw[rounds_succ];go_upto_region 11 with fail;clear v_10;have b0_:=D_b0.c3;have w0_:=D_w0.c4;clear b0_ w0_;refine wp_region_E (fun W'=>W'.cell? ⟨b0,0,none⟩=some (.bool t2.neg)∧W'.cell? ⟨b0,1,none⟩=some t2.num.v∧W'.cell? ⟨b0,2,none⟩=some t2.den.v∧W'.cell? ⟨w0,0,none⟩=some (.int .i64 2)∧W'.cell? ⟨w0,1,none⟩=some (.int .i64 (i:Int))∧W'.cell? ⟨w0,2,none⟩=some (.int .i64 0)∧W'.cell? ⟨w0,3,none⟩=some (.int .i64 0)) (by kernel_rfl) ?_;show anyE _ _ _ _ 8 _ _ _;have GD:=(Gr.refl w4).drew;obtain⟨HT2,D_r,D_b0,D_w0,HG⟩:=GD.u5 HT2 D_r D_b0 D_w0 HG;clear GD;generalize w4.drew=e0 at*;refine anyE.tk 0 ⟨D_b0.c3.1,D_b0.c3.2.1,D_b0.c3.2.2,D_w0.c4⟩ ?_;refine anyE.tk 1 ⟨D_b0.c3.1,D_b0.c3.2.1,D_b0.c3.2.2,D_w0.c4⟩ ?_;have OF:=rof_any e0 1 (by decide) (by decide);rw[ofQ_one] at OF;refine anyE.k 2 fun K hK=>?_
 refine doesAt_wp (K:=fun v W=>∃ov:Rv,v=ov.v∧ov.Is W Q.one∧Gr e0 W) (doesAt_enter (f:=144) (args:=#[.int .i64 1]) (by go_simp;try (first | with_reducible rfl | rfl)) ((OF).mono ?_)) ?_
 ·rintro e w' ⟨ov,rfl,hx,G⟩;exact⟨_,rfl,ov,rfl,hx,G⟩
 rintro v e1 ⟨ov,rfl,hx,G⟩;obtain⟨HT2,D_r,D_b0,D_w0,HG⟩:=G.u5 HT2 D_r D_b0 D_w0 HG;have HOV:=I hx;clear hx G;refine hK.out _ _ ⟨Or.inl (⟨D_b0.c3.1,D_b0.c3.2.1,D_b0.c3.2.2,D_w0.c4⟩),?_⟩;clear hK K;refine ptt ?_;clear OF;refine anyE.k 3 fun K hK=>?_
 refine doesAt_wp (K:=fun v W=>∃m:Mv,v=.agg m.ar∧m.Is W (⟨2,(i:Int),0,0⟩,Q.one)∧Gr e1 W) (doesAt_enter (f:=482) (args:=#[.agg #[.int .i64 2,.int .i64 (i:Int),.int .i64 0,.int .i64 0],ov.v]) (by go_simp;try (first | with_reducible rfl | rfl)) ((bmult_any e1 ⟨2,(i:Int),0,0⟩ ov Q.one HOV).mono ?_)) ?_
 ·rintro e w' ⟨m,rfl,hx,G⟩;exact⟨_,rfl,m,rfl,hx,G⟩
 rintro v e2 ⟨m,rfl,hx,G⟩;obtain⟨HT2,D_r,D_b0,D_w0,HG⟩:=G.u5 HT2 D_r D_b0 D_w0 HG;have HM:=I hx;clear hx G;refine hK.out _ _ ⟨Or.inl (⟨D_b0.c3.1,D_b0.c3.2.1,D_b0.c3.2.2,D_w0.c4⟩),?_⟩;clear hK K;refine ptt ?_;refine anyE.two 4 5 rfl rfl (by kernel_rfl) (by rfl) (by rfl) (fun K hK=>?_) (fun K hK=>?_)
 ·obtain⟨BM,GM⟩:=made1 e2 310 m.ar;have HYM:Hid (Mults (e2.alloc (.cells m.ar 310)) ⟨some ⟨e2.heap.size,0,none⟩,1,1⟩ [(⟨2,(i:Int),0,0⟩,Q.one)]):=I (rows_single (cs:=Mv.cs) (t:=m) BM rfl (HM.gr GM));obtain⟨HT2,HM,D_r,D_b0,D_w0,HG⟩:=GM.u6 HT2 HM D_r D_b0 D_w0 HG;clear BM GM;go_simp;refine hK.out _ _ ⟨Or.inl (⟨D_b0.c3.1,D_b0.c3.2.1,D_b0.c3.2.2,D_w0.c4⟩),?_⟩;clear hK K;refine ptt ?_;generalize e2.heap.size=mb at*;generalize e2.alloc (.cells m.ar 310)=f0 at*;refine anyE.k 5 fun K hK=>?_
  have fz5:=D_r.frozen;have r_:=D_r.c3;have r5:=D_r.out;go_simp;refine ks D_r fun w5 B5 F5=>?_
  replace HT2:=I (HT2.tf' F5 D_r);replace HM:=I (HM.stB F5 D_r);replace HYM:=I (HYM.stB F5 D_r);replace HG:=HG.fa F5 N_r;replace D_b0:=F5.hb D_b0 X_b0_r;replace D_w0:=F5.hb D_w0 X_w0_r;replace D_r:=B5;clear B5 F5;refine hK.out _ _ ⟨Or.inl (⟨D_b0.c3.1,D_b0.c3.2.1,D_b0.c3.2.2,D_w0.c4⟩),?_⟩;clear hK K r_ fz5 r5;refine ptt ?_;refine anyE.k 6 fun K hK=>?_
  go_simp;refine hK.out _ _ ⟨Or.inl (⟨D_b0.c3.1,D_b0.c3.2.1,D_b0.c3.2.2,D_w0.c4⟩),?_⟩;clear hK K;refine ptt ?_;refine anyE.k 7 fun K hK=>?_
  go_simp;refine hK.out _ _ ⟨Or.inl (⟨D_b0.c3.1,D_b0.c3.2.1,D_b0.c3.2.2,D_w0.c4⟩),?_⟩;clear hK K;refine ptt ?_;refine anyE.done (by kernel_rfl) ?_;have r_:=D_r.c3;go_wp2;refine pex ?_;refine bret Tryz.results483 ?_;exact⟨t2,⟨some ⟨mb,0,none⟩,1,1⟩,rfl,HT2.out,HYM.out,HG.out⟩
 ·have fz5:=D_r.frozen;have r_:=D_r.c3;have r5:=D_r.out;go_simp;refine ks D_r fun w5 B5 F5=>?_
  replace HT2:=I (HT2.tf' F5 D_r);replace HM:=I (HM.stB F5 D_r);replace HG:=HG.fa F5 N_r;replace D_b0:=F5.hb D_b0 X_b0_r;replace D_w0:=F5.hb D_w0 X_w0_r;replace D_r:=B5;clear B5 F5;refine hK.out _ _ ⟨Or.inl (⟨D_b0.c3.1,D_b0.c3.2.1,D_b0.c3.2.2,D_w0.c4⟩),?_⟩;clear hK K r_ fz5 r5;refine ptt ?_;refine anyE.k 4 fun K hK=>?_
  obtain⟨BM,GM⟩:=made1 w5 310 m.ar;have HYM:Hid (Mults (w5.alloc (.cells m.ar 310)) ⟨some ⟨w5.heap.size,0,none⟩,1,1⟩ [(⟨2,(i:Int),0,0⟩,Q.one)]):=I (rows_single (cs:=Mv.cs) (t:=m) BM rfl (HM.gr GM));obtain⟨HT2,D_r,D_b0,D_w0,HG⟩:=GM.u5 HT2 D_r D_b0 D_w0 HG;clear BM GM;go_simp;refine hK.out _ _ ⟨Or.inl (⟨D_b0.c3.1,D_b0.c3.2.1,D_b0.c3.2.2,D_w0.c4⟩),?_⟩;clear hK K;refine ptt ?_;generalize w5.heap.size=mb at*;generalize w5.alloc (.cells m.ar 310)=f1 at*;refine anyE.k 6 fun K hK=>?_
  go_simp;refine hK.out _ _ ⟨Or.inl (⟨D_b0.c3.1,D_b0.c3.2.1,D_b0.c3.2.2,D_w0.c4⟩),?_⟩;clear hK K;refine ptt ?_;refine anyE.k 7 fun K hK=>?_
  go_simp;refine hK.out _ _ ⟨Or.inl (⟨D_b0.c3.1,D_b0.c3.2.1,D_b0.c3.2.2,D_w0.c4⟩),?_⟩;clear hK K;refine ptt ?_;refine anyE.done (by kernel_rfl) ?_;have r_:=D_r.c3;go_wp2;refine pex ?_;refine bret Tryz.results483 ?_;exact⟨t2,⟨some ⟨mb,0,none⟩,1,1⟩,rfl,HT2.out,HYM.out,HG.out⟩
end
theorem over_step {α:Type} (xs:List α) (o:Nat) (v:α) (r:List α) (h:o < xs.length):(xs.set o v).take (o+1)++r++(xs.set o v).drop (o+1+r.length)=xs.take o++(v::r)++xs.drop (o+(v::r).length):=by
 have h1:(xs.set o v).take (o+1)=xs.take o++[v]:=by
  rw[List.set_eq_take_append_cons_drop,if_pos h,List.take_append,List.length_take,Nat.min_eq_left (Nat.le_of_lt h)];have h2:(xs.take o).take (o+1)=xs.take o:=List.take_of_length_le (by rw[List.length_take];omega);rw[h2,show o+1 - o=1 from by omega];rfl
 have h2:(xs.set o v).drop (o+1+r.length)=xs.drop (o+(v::r).length):=by
  rw[List.drop_set,if_pos (by omega),List.length_cons,show o+1+r.length=o+(r.length+1) from by omega]
 rw[h1,h2];simp
theorem setCells_own {B e k g n c:Nat}:∀(vs:List Value) (o:Nat) {w:World} {xs:List Value},w.ownsRow B e k (.slice (some ⟨g,0,none⟩) n c) n xs→o+vs.length≤n*k→(w.setCells g o vs).ownsRow B e k (.slice (some ⟨g,0,none⟩) n c) n (xs.take o++vs++xs.drop (o+vs.length))∧Fr (fun b=>b=g) w (w.setCells g o vs)
 | [],o,w,xs,h,hl=>⟨by simpa [World.setCells] using h,Fr.refl _ _⟩
 | v::r,o,w,xs,h,hl=>by
  rw[List.length_cons] at hl;have h1:(w.setCell ⟨g,o,none⟩ v).ownsRow B e k (.slice (some ⟨g,0,none⟩) n c) n (xs.set o v):=by
   obtain⟨hl,h0 | ⟨g',cap,cur,hv,hb,hh,h1,h2,h3,ht⟩⟩:=h
   ·cases h0.1
   ·have hv':=hv;injection hv with hv hvn hvc;injection hv with hv;injection hv with hv;subst hv;subst hvc;refine⟨by rw[List.length_set];exact hl,.inr ⟨g,c,_,rfl,hb,Bk.put hh _ v,h1,h2,by simpa using h3,?_⟩⟩;rw[Array.toList_setIfInBounds,List.take_set,ht]
  obtain⟨h2,F2⟩:=setCells_own r (o+1) h1 (by omega);rw[over_step xs o v r (by rw[h.1];omega)] at h2;exact⟨h2,(Fr.set w ⟨g,o,none⟩ v rfl:Fr (fun b=>b=g) w _).trans F2⟩
section
variable {α:Type} {F:α→List Value} {k:Nat}
theorem flat_over (hF:∀a,(F a).length=k):∀{l:List α} {i:Nat} {a b:α},l[i]?=some a→(l.flatMap F).take (i*k)++F b++(l.flatMap F).drop (i*k+(F b).length)=(l.set i b).flatMap F
 | [],i,a,b,h=>by simp at h
 | c::l,0,a,b,h=>by
  rw[Nat.zero_mul,Nat.zero_add,List.take_zero,List.nil_append,List.flatMap_cons,hF b,List.drop_append_of_le_length (by rw[hF];exact nr _),List.drop_of_length_le (by rw[hF];exact nr _),List.nil_append];rfl
 | c::l,i+1,a,b,h=>by
  simp at h;have e1:(i+1)*k=(F c).length+i*k:=by rw[hF,Nat.add_mul,Nat.one_mul,Nat.add_comm]
  rw[List.flatMap_cons,e1,Nat.add_assoc,List.take_length_add_append,List.drop_append,List.drop_of_length_le (by omega),List.nil_append,show (F c).length+(i*k+(F b).length) - (F c).length=i*k+(F b).length from by omega,List.append_assoc,List.append_assoc,← List.append_assoc _ (F b),flat_over hF h];rfl
end
section
variable {α β:Type} {cs:β→List Value} {Is:World→β→α→Prop} {e k:Nat} {w:World} {B g n c:Nat} {xs:List α}
theorem Own.setEl (hk:∀b,(cs b).length=k) (h:Own cs Is e k w B ⟨some ⟨g,0,none⟩,n,c⟩ xs) {i:Nat} {a0:α} (hi:xs[i]?=some a0) (b:β) (u:α) (hb:Is w b u) (hI:∀W',Fr (fun x=>x=g) w W'→∀p a,Is w p a→Is W' p a):
  w.there g (i*k) (cs b).toArray.size∧Own cs Is e k (w.setCells g (i*k) (cs b).toArray.toList) B ⟨some ⟨g,0,none⟩,n,c⟩ (xs.set i u)∧Fr (fun x=>x=g) w (w.setCells g (i*k) (cs b).toArray.toList):=by
 obtain⟨ts,t1,rfl,t3⟩:=h;rw[List.getElem?_map] at hi;obtain⟨p0,hp0,rfl⟩:=Option.map_eq_some_iff.1 hi;have hF:∀p:β×α,(cs p.1).length=k:=fun p=>hk p.1
 have hil:i < ts.length:=(gs hp0).1;have hlen:=t1.1;rw[flat_len (F:=fun p:β×α=>cs p.1) hF] at hlen;have h1:(i+1)*k≤ts.length*k:=Nat.mul_le_mul_right k hil;rw[Nat.add_mul,Nat.one_mul] at h1;obtain⟨h2,F2⟩:=setCells_own (cs b) (i*k) t1 (by rw[hk];omega);have e1:=flat_over (F:=fun p:β×α=>cs p.1) (b:=(b,u)) hF hp0;simp only at e1 h2;rw[e1] at h2;obtain⟨bs,hbs⟩:=rw_bk t1 g rfl;refine⟨fun j hj=>?_,⟨ts.set i (b,u),h2,by rw[List.map_set],fun p hp=>?_⟩,F2⟩
 ·have hj':j < k:=by rw[← hk b];simpa using hj
  have hc:=row_cell (F:=fun p:β×α=>cs p.1) hF t1 hp0 hj';refine⟨by rw[hc];exact Option.isSome_iff_exists.2 ⟨_,ge (by rw[hk];exact hj')⟩,hbs.frozen _⟩
 ·rcases List.mem_or_eq_of_mem_set hp with h | h
  ·exact hI _ F2 _ _ (t3 p h)
  ·rw[h];exact hI _ F2 _ _ hb
theorem doesAt_el {P:Program} {o:Oper} {a:Act} {ty:TypeId} {x v:Operand} {K:Value→World→Prop} (ho:o.op=.store ty x v) (hk:∀b,(cs b).length=k) (h:Own cs Is e k w B ⟨some ⟨g,0,none⟩,n,c⟩ xs) (i:Nat) {a0:α} (hi:xs[i]?=some a0) (b:β) (u:α) (hx:a.eval x=.pointer (some ⟨g,i*k,none⟩)) (hv:a.eval v=.agg (cs b).toArray)
  (hb:Is w b u) (hI:∀W',Fr (fun x=>x=g) w W'→∀p a,Is w p a→Is W' p a) (hsz:(P.info? ty).map (·.size)=some k) (h1:∀y∈cs b,y.oneCell'=true)
  (hK:∀W',Own cs Is e k W' B ⟨some ⟨g,0,none⟩,n,c⟩ (xs.set i u)→Fr (fun x=>x=g) w W'→K undef W'):doesAt P o a w K:=by
 obtain⟨k1,k2,k3⟩:=Own.setEl hk h hi b u hb hI;have hr:=run_storeAt_mid (P:=P) w g (i*k) ty (cs b).toArray k1 (by rw[hsz];simp[hk]) (all_oneCell_toArray h1);unfold doesAt execOp;simp only[ho,hx,hv,Sem.run_bind,hr,Result.andThen_ok,Sem.run_pure];exact hK _ k2 k3
theorem own_head {w:World} {B e k n:Nat} {v:Value} {xs:List Value} (h:w.ownsRow B e k v n xs) (hn:0 < n):∃g c,v=.slice (some ⟨g,0,none⟩) n c:=by
 obtain⟨_,⟨rfl,rfl⟩ | ⟨g,cap,cur,rfl,_⟩⟩:=h
 ·exact absurd hn (by decide)
 ·exact⟨g,cap,rfl⟩
theorem Own.form {x:Sv} (h:Own cs Is e k w B x xs) (hk:∀b,(cs b).length=k) (h0:0 < k) {i:Nat} {a:α} (hi:xs[i]?=some a):∃g c,x=⟨some ⟨g,0,none⟩,xs.length,c⟩∧B≤g:=by
 have hl:=Own.len h hk h0;have hlt:=h.lt;obtain⟨ts,t1,rfl,t3⟩:=h;have hil:=(gs hi).1;obtain⟨g,c,e1⟩:=own_head t1 (by omega);obtain⟨xA,xn,xc⟩:=x;simp only[Value.slice.injEq] at e1 hl;obtain⟨rfl,_,rfl⟩:=e1;exact⟨g,xc,by rw[hl],(hlt g rfl).1⟩
end
section
variable {ops:Array Oper} {P:Program} {Q:Exit→Act→World→Prop}
end
section
variable {α β:Type} {cs:β→List Value} {Is:World→β→α→Prop} {e k:Nat} {w:World} {B g n c:Nat} {xs:List α}
theorem doesAt_elA {P:Program} {o:Oper} {a:Act} {ty:TypeId} {x v:Operand} {ad:Addr} {K:Value→World→Prop} (ho:o.op=.store ty x v) (hk:∀b,(cs b).length=k) (had:ad=⟨g,0,none⟩) (h:Own cs Is e k w B ⟨some ad,n,c⟩ xs) (i:Nat) {a0:α} (hi:xs[i]?=some a0) (b:β) (u:α) (hx:a.eval x=.pointer (some (ad.add (i*k)))) (hv:a.eval v=.agg (cs b).toArray)
  (hb:Is w b u) (hI:∀W',Fr (fun x=>x=g) w W'→∀p a,Is w p a→Is W' p a) (hsz:(P.info? ty).map (·.size)=some k) (h1:∀y∈cs b,y.oneCell'=true)
  (hK:∀W',Own cs Is e k W' B ⟨some ad,n,c⟩ (xs.set i u)→Fr (fun x=>x=g) w W'→K undef W'):doesAt P o a w K:=by
 subst had;rw[Addr.add_mid,Nat.zero_add] at hx;exact doesAt_el ho hk h i hi b u hx hv hb hI hsz h1 hK
end
section
variable {T:List Nat} {P:Program} {Q:Exit→Act→World→Prop} {S0 S1:World→Prop}
end
def Q.abs (q:Q):Q:=⟨false,q.num,q.den⟩
def boxQ:Nat→List Nat→(List Q×List Q)×List Nat
 | 0,r=>(([],[]),r)
 | n+1,r=>(((numQ r).1::(boxQ n (numQ (numQ r).2).2).1.1,Q.add (numQ r).1 (numQ (numQ r).2).1.abs::(boxQ n (numQ (numQ r).2).2).1.2),(boxQ n (numQ (numQ r).2).2).2)
theorem boxQ_succ (n:Nat) (r:List Nat):boxQ (n+1) r=(((numQ r).1::(boxQ n (numQ (numQ r).2).2).1.1,Q.add (numQ r).1 (numQ (numQ r).2).1.abs::(boxQ n (numQ (numQ r).2).2).1.2),(boxQ n (numQ (numQ r).2).2).2):=rfl
structure Rgm where
 lo:List Q
 hi:List Q
 rows:List Fm
def regionQ (n:Nat) (r:List Nat):Rgm×List Nat:=
 (⟨(boxQ n r).1.1,(boxQ n r).1.2,(outsQ (nx 3 (boxQ n r).2).1 n (nx 3 (boxQ n r).2).2).1⟩,(outsQ (nx 3 (boxQ n r).2).1 n (nx 3 (boxQ n r).2).2).2)
structure Qr where
 g:Gm
 rg:Rgm
 goal:Fm
def queryQ (r:List Nat):Qr×List Nat:=
 (⟨(graphQ r).1,(regionQ (graphQ r).1.inputs (graphQ r).2).1,(formQ ((graphQ r).1.inputs+(graphQ r).1.units.length) (regionQ (graphQ r).1.inputs (graphQ r).2).2).1⟩,(formQ ((graphQ r).1.inputs+(graphQ r).1.units.length) (regionQ (graphQ r).1.inputs (graphQ r).2).2).2)
structure Q.Dy (q:Q) (m:Nat):Prop where
 ok:q.Ok
 un:q.un ∣ 16
 num:q.num*16≤m*q.un
theorem quot_dy (s:Bool) {n d k m:Nat} (hd:0 < d) (h:n*16=d*k) (hk:k≤m):(quot s n d).Dy m:=by
 refine⟨quot_ok s n hd,?_,?_⟩
 ·unfold quot;split
  ·exact⟨16,by decide⟩
  ·rename_i h0
   have hg:=Nat.gcd_pos_of_pos_left d (Nat.pos_of_ne_zero h0);have hd2:0 < d / Nat.gcd n d:=Nat.div_pos (Nat.le_of_dvd hd (Nat.gcd_dvd_right ..)) hg;rw[den0_un _ _ _ hd2];have hc:Nat.Coprime (d / Nat.gcd n d) (n / Nat.gcd n d):=(Nat.gcd_div_gcd_div_gcd_of_pos_left (Nat.pos_of_ne_zero h0):Nat.gcd _ _=1) |> fun e=>by unfold Nat.Coprime;rw[Nat.gcd_comm];exact e
   refine hc.dvd_of_dvd_mul_left ⟨k,?_⟩
   apply Nat.eq_of_mul_eq_mul_left hg
   rw[← Nat.mul_assoc,← Nat.mul_assoc,Nat.mul_div_cancel' (Nat.gcd_dvd_left ..),Nat.mul_div_cancel' (Nat.gcd_dvd_right ..)];exact h
 ·unfold quot;split
  ·exact nq _
  ·rename_i h0
   have hg:=Nat.gcd_pos_of_pos_left d (Nat.pos_of_ne_zero h0);have hd2:0 < d / Nat.gcd n d:=Nat.div_pos (Nat.le_of_dvd hd (Nat.gcd_dvd_right ..)) hg;rw[den0_un _ _ _ hd2];have e:n / Nat.gcd n d*16=d / Nat.gcd n d*k:=by
    apply Nat.eq_of_mul_eq_mul_left hg
    rw[← Nat.mul_assoc,← Nat.mul_assoc,Nat.mul_div_cancel' (Nat.gcd_dvd_left ..),Nat.mul_div_cancel' (Nat.gcd_dvd_right ..)];exact h
   show n / Nat.gcd n d*16≤_;rw[e,Nat.mul_comm];exact Nat.mul_le_mul_right _ hk
theorem Q.Dy.add {a b:Q} {m n:Nat} (ha:a.Dy m) (hb:b.Dy n):(Q.add a b).Dy (m+n):=by
 obtain⟨α,hα⟩:=ha.un;obtain⟨β,hβ⟩:=hb.un;have h1:a.num*α≤m:=by
  have:=ha.num;rw[hα,Nat.mul_comm a.un α,← Nat.mul_assoc] at this;exact Nat.le_of_mul_le_mul_right this a.un_pos
 have h2:b.num*β≤n:=by
  have:=hb.num;rw[hβ,Nat.mul_comm b.un β,← Nat.mul_assoc] at this;exact Nat.le_of_mul_le_mul_right this b.un_pos
 have e1:a.num*b.un*16=a.un*b.un*(a.num*α):=by
  rw[hα];simp only[Nat.mul_comm,Nat.mul_left_comm,Nat.mul_assoc]
 have e2:b.num*a.un*16=a.un*b.un*(b.num*β):=by
  rw[hβ];simp only[Nat.mul_comm,Nat.mul_left_comm,Nat.mul_assoc]
 have hd:0 < a.un*b.un:=Nat.mul_pos a.un_pos b.un_pos;unfold Q.add sadd;simp only;generalize a.num*b.un=X at*;generalize b.num*a.un=Y at*;generalize a.num*α=A at*;generalize b.num*β=B at*;split
 ·exact quot_dy _ hd (k:=A+B) (by simp only;rw[Nat.add_mul,Nat.mul_add,e1,e2]) (by omega)
 ·split
  ·exact quot_dy _ hd (k:=B - A) (by simp only;rw[Nat.sub_mul,Nat.mul_sub,e1,e2]) (by omega)
  ·exact quot_dy _ hd (k:=A - B) (by simp only;rw[Nat.sub_mul,Nat.mul_sub,e1,e2]) (by omega)
structure Q.Qt (q:Q):Prop where
 ok:q.Ok
 un:q.un ∣ 4
 num:q.num≤4
theorem frac_qt:∀a,a < 9→∀b,b < 4→(fracQ ((a:Nat) - 4) (denN b)).Ok∧4 % (fracQ ((a:Nat) - 4) (denN b)).un=0∧(fracQ ((a:Nat) - 4) (denN b)).num≤4:=by decide
theorem numQ_qt (r:List Nat):(numQ r).1.Qt:=by
 obtain⟨h1,h2,h3⟩:=frac_qt _ (nx_lt (n:=9) (by decide) r) _ (nx_lt (n:=4) (by decide) (nx 9 r).2);exact⟨h1,Nat.dvd_of_mod_eq_zero h2,h3⟩
theorem Q.Qt.dy {q:Q} (h:q.Qt):q.Dy 64:=⟨h.ok,Nat.dvd_trans h.un ⟨4,by decide⟩,by have:=h.num;have:=q.un_pos;omega⟩
theorem Q.Dy.sm {q:Q} {m:Nat} (h:q.Dy m) (hm:m < 1000000):q.Sm:=by
 have h1:q.un≤16:=Nat.le_of_dvd (by decide) h.un;refine⟨?_,?_⟩
 ·have h2:=h.num;have:m*q.un≤m*16:=Nat.mul_le_mul_left _ h1;omega
 ·have:q.den≤q.un:=by unfold Q.un;split<;>omega
  omega
structure Fm.Qt (f:Fm) (vars:Nat):Prop where
 len:f.terms.length≤vars
 each:∀t∈f.terms,t.2.Qt
 const:f.const.Qt
theorem queryQ_ok (r:List Nat):(queryQ r).1.g.Ok:=graphQ_ok r
section
attribute [local go_sem] Oper.semAt_some
theorem elemR:ElemS Tryz.prog 31 38 3 56:=elem_of (z:=.agg #[.bool false,.slice none 0 0,.slice none 0 0]) (by kernel_rfl) (by kernel_rfl) rfl (by decide)
abbrev OwnR (w:World) (B:Nat) (x:Sv) (l:List Q):Prop:=Own Rv.cs (fun w r q=>r.Is w q) 38 3 w B x l
theorem OwnR.step {w w':World} {B:Nat} {x:Sv} {l:List Q} (h:OwnR w B x l) (F:Fr (fun b=>(Value.slice x.A x.n x.c).ownBlock=some b) w w'):∀(p:Rv) (a:Q),p.Is w a→p.Is w' a:=fun p a hp=>by
 obtain⟨ts,t1,_⟩:=h;exact hp.own t1 (by decide) F
theorem OwnR.up {w w':World} {B:Nat} {x:Sv} {l:List Q} (h:OwnR w B x l) (G:Gr w w'):OwnR w' B x l:=Own.gr h (fun _ _ ha=>ha.gr G) G
theorem OwnR.rats {w:World} {B:Nat} {x:Sv} {l:List Q} (h:OwnR w B x l):Rats w x l:=h.rows (by decide)
theorem OwnR.st {w w':World} {B p t:Nat} {x:Sv} {l:List Q} {us:Array Value} (h:OwnR w B x l) (F:Fr (fun b=>b=p) w w') (hb:Bk w p t us) (h0:t≠38:=by decide) (h2:t≠300:=by decide):OwnR w' B x l:=
 Own.go h (fun f a ha=>ha.tf' F hb h2) fun b hb'=>F.keep b (h.lt b hb').2 fun e=>h.ne hb h0 (e▸hb')
theorem OwnR.other {w w':World} {B B':Nat} {x y:Sv} {l m:List Q} (h:OwnR w B x l) (ho:OwnR w B' y m) (F:Fr (fun b=>(Value.slice y.A y.n y.c).ownBlock=some b) w w') (hd:∀b,(Value.slice x.A x.n x.c).ownBlock=some b→(Value.slice y.A y.n y.c).ownBlock≠some b):OwnR w' B x l:=
 Own.go h (ho.step F) fun b hb'=>F.keep b (h.lt b hb').2 (hd b hb')
theorem OwnR.fp {w w':World} {p B:Nat} {r:List Nat} {x:Sv} {l:List Q} (h:OwnR w B x l) (F:Fp p w w') (hd:Fd w p r):OwnR w' B x l:=by
 obtain⟨cs,hc⟩:=hd.bk;exact h.st F hc
theorem Fd.ownR {w w':World} {p B:Nat} {r:List Nat} {x:Sv} {l:List Q} (h:Fd w p r) (ho:OwnR w B x l) (F:Fr (fun b=>(Value.slice x.A x.n x.c).ownBlock=some b) w w'):Fd w' p r:=by
 obtain⟨cs,hc⟩:=h.bk;refine h.fr F (fun e=>ho.ne hc (by decide) e) fun b cs fr e hh=>?_
 obtain⟨ts,t1,_⟩:=ho;obtain⟨cur,hc'⟩:=rw_bk t1 b e;exact Bk.not_ty hc' (by decide) _ _ hh
theorem Rats.stR {w w':World} {p t:Nat} {us:Array Value} {x:Sv} {l:List Q} (h:Rats w x l) (F:Fr (fun b=>b=p) w w') (hb:Bk w p t us) (h0:t≠38:=by decide) (h2:t≠300:=by decide):Rats w' x l:=
 Rows.tf h F (fun b cs fr e hh=>Bk.not_ty hb h0 cs fr (e▸hh)) fun f a hf=>hf.tf' F hb h2
theorem Rats.fp {w w':World} {p:Nat} {r:List Nat} {x:Sv} {l:List Q} (h:Rats w x l) (F:Fp p w w') (hd:Fd w p r):Rats w' x l:=by
 obtain⟨cs,hc⟩:=hd.bk;exact h.stR F hc
theorem Rats.ownF {w w':World} {B:Nat} {x y:Sv} {l:List Q} {m:List Fm} (h:Rats w x l) (ho:OwnF w B y m) (F:Fr (fun b=>(Value.slice y.A y.n y.c).ownBlock=some b) w w'):Rats w' x l:=by
 obtain⟨ts,t1,_⟩:=ho;refine Rows.tf h F (fun b cs fr e hh=>?_) fun f a hf=>hf.own t1 (by decide) F
 obtain⟨cur,hc'⟩:=rw_bk t1 b e;exact Bk.not_ty hc' (by decide) _ _ hh
theorem Own.app2 {α β:Type} {cs:β→List Value} {Is:World→β→α→Prop} {e k:Nat} {w:World} {B:Nat} {x:Sv} {xs:List α} {P:Program} {t bytes:Nat} (h:ElemS P t e k bytes) {o:Oper} {a:Act} {K:Act→World→Prop} {Q:Exit→Act→World→Prop} (s xo:Operand) (ho:o.op=.call { callee:=.builtin .append,args:=#[s,xo],argTypes:=#[t,t] }) (hs:a.eval s=x.v) (hz:Own cs Is e k w B x xs) (ad:Addr) (c:Nat) (b:β) (u:α)
  (hx:a.eval xo=.slice (some ad) 1 c) (hb:Is w b u) (hlen:(cs b).length=k) (hcell:∀j v,(cs b)[j]?=some v→w.cell? (ad.add j)=some v) (h1:∀v∈cs b,v.oneCell'=true) (h63:x.n+1≤maxLen) (hbytes:(x.n+1)*bytes≤140737488355328) (hB:B≤w.heap.size) (hI:∀w',Fr (fun b=>(x.v).ownBlock=some b) w w'→∀p a,Is w p a→Is w' p a)
  (hK:∀(y:Sv) (w':World),y.n=x.n+1→Own cs Is e k w' B y (xs++[u])→Fr (fun b=>(x.v).ownBlock=some b) w w'→(y.v.ownBlock=x.v.ownBlock∨(y.v).ownBlock=some w.heap.size)→K (a.put o.dst y.v) w'):o.wp P a w K Q:=by
 obtain⟨i,z,hi,hzz,hsz,hby,hzs⟩:=h.hi;have hz':=hz;obtain⟨ts,t1,t2,t3⟩:=hz';obtain⟨v',w',hrun,h2,h3,_,h5⟩:=run_append_own_at (P:=P) w B t o.type e i z k bytes h.ht hi hzz hsz hby hzs h.pos _ x.n _ t1 ad 1 c (cs b) (by rw[hlen,Nat.one_mul]) hcell h1 h63 hbytes hB;have F:=fr_own0 h3;obtain⟨y,rfl,hyn,hy⟩:=hz.push ts t2 t3 hb h2 (hI w' F);unfold Oper.wp execOp;simp only[ho,resolve,invoke,builtin,Sem.run_bind,Sem.run_pure,Result.andThen_ok,List.map_toArray,List.map_cons,List.map_nil,hs,hx,hrun];exact hK y w' hyn hy F h5
structure Rgv where
 lo:Sv
 hi:Sv
 rows:Sv
abbrev Rgv.v (g:Rgv):Value:=.agg #[.slice g.lo.A g.lo.n g.lo.c,.slice g.hi.A g.hi.n g.hi.c,.slice g.rows.A g.rows.n g.rows.c]
structure Rgv.Is (w:World) (g:Rgv) (x:Rgm):Prop where
 lo:Rats w g.lo x.lo
 hi:Rats w g.hi x.hi
 rows:Forms w g.rows x.rows
theorem Rgv.Is.gr {w w':World} {g:Rgv} {x:Rgm} (h:g.Is w x) (G:Gr w w'):g.Is w' x:=⟨h.lo.gr G,h.hi.gr G,h.rows.gr G⟩
instance kpRg {x:Rgv} {q} {w w'}:Kp (x.Is w q) w w' (x.Is w' q):=⟨fun G h=>h.gr G⟩
theorem Rgv.Is.st {w w':World} {p t:Nat} {us:Array Value} {g:Rgv} {x:Rgm} (h:g.Is w x) (F:Fr (fun b=>b=p) w w') (hb:Bk w p t us) (h0:t≠38:=by decide) (h1:t≠40:=by decide) (h2:t≠108:=by decide) (h3:t≠300:=by decide):g.Is w' x:=
 ⟨h.lo.stR F hb h0 h3,h.hi.stR F hb h0 h3,h.rows.st F hb h1 h2 h3⟩
theorem Forms.fp {w w':World} {p:Nat} {r:List Nat} {x:Sv} {l:List Fm} (h:Forms w x l) (F:Fp p w w') (hd:Fd w p r):Forms w' x l:=by
 obtain⟨cs,hc⟩:=hd.bk;exact h.st F hc
theorem Rgv.Is.fp {w w':World} {p:Nat} {r:List Nat} {g:Rgv} {x:Rgm} (h:g.Is w x) (F:Fp p w w') (hd:Fd w p r):g.Is w' x:=⟨h.lo.fp F hd,h.hi.fp F hd,h.rows.fp F hd⟩
theorem Gv.Is.fp {w w':World} {p:Nat} {r:List Nat} {g:Gv} {x:Gm} (h:g.Is w x) (F:Fp p w w') (hd:Fd w p r):g.Is w' x:=⟨h.inputs,h.units.fp F hd,h.outs.fp F hd⟩
theorem Gv.Is.st {w w':World} {p t:Nat} {us:Array Value} {g:Gv} {x:Gm} (h:g.Is w x) (F:Fr (fun b=>b=p) w w') (hb:Bk w p t us) (h1:t≠40:=by decide) (h2:t≠108:=by decide) (h3:t≠300:=by decide):g.Is w' x:=⟨h.inputs,h.units.st F hb h1 h2 h3,h.outs.st F hb h1 h2 h3⟩
theorem abs_ok {q:Q} (h:q.Ok):q.abs.Ok:=⟨h.one,h.cop,fun h0=>⟨rfl,(h.pos h0).2⟩⟩
theorem region_any (w:World) (p n:Nat) (r:List Nat) (hf:Fd w p r) (hn:n≤100):
  Calls Tryz.prog 35 #[.pointer (some ⟨p,0,none⟩),.int .i64 n] w fun e w'=>∃g:Rgv,e=.returned g.v∧g.Is w' (regionQ n r).1∧Fd w' p (regionQ n r).2∧Fp p w w':=by
 have HFD:=I hf;clear hf;have hgr:Hid (¬w.heap.size+1=w.heap.size):=(fun e=>by omega);go_enter Tryz.func35,Tryz.ntmps35;go_wp2_with fail;refine nw2h fun W HG D_r D_g=>?_
 have N_g:=dnl (w.heap.size) (w.heap.size+1);generalize w.heap.size+1=g at*;have HPW:Hid (Fp p w W):=I HG.fp;go_loopw [6] (fun i wr=>∃(j:Nat) (zl zh:Sv) (L H:List Q) (rr:List Nat),i=.int .i64 j∧j≤n∧Hid (OwnR wr W.heap.size zl L)∧Hid (OwnR wr W.heap.size zh H)∧Hid (∀b,zl.v.ownBlock=some b→(zh.v).ownBlock≠some b)∧Hid (L++(boxQ (n - j) rr).1.1=(boxQ n r).1.1)∧Hid (H++(boxQ (n - j) rr).1.2=(boxQ n r).1.2)∧Hid ((boxQ (n - j) rr).2=(boxQ n r).2)∧Hid (L.length=j)∧Hid (H.length=j)∧Hid (Fd wr p rr)∧Hid (Fr (fun b=>b=p∨b=g) W wr)∧Hid (Bk wr g 33 #[zl.v,zh.v,Nl])∧Hid (Bk wr w.heap.size 33 #[Nl,Nl,Nl])) (fun i _=>n - (intOf i).toNat)
 case atStart=>exact⟨0,Sv.none,Sv.none,[],[],r,rfl,nq _,Own.nil _ _,Own.nil _ _,(fun b h=>by cases h),rfl,rfl,rfl,rfl,rfl,I (HFD.gr HG),Fr.refl _ _,D_g,D_r⟩
 case round=>
  obtain⟨j,zl,zh,L,H,rr,rfl,hj,HA,HC,HDI,HE1,HE2,HE3,HAL,HBL,HD9,HP9,HG9,HR9⟩:=hrel;clear D_g D_r;by_cases hju:j < n
  ·have HJ:Hid (n - j=n - j - 1+1):=(show n - j=n - j - 1+1 from by omega);have hj9:j < 100:=by omega
   go_wp2_with fail;refine (number_any wr p rr HD9).mono ?_;rintro e w1 ⟨q1,rfl,hq1,hd1,hp1⟩;have A_:=I (HA.fp hp1 HD9);have C_:=I (HC.fp hp1 HD9);have P_:=I (HP9.ext hp1 (fun i _ e=>.inl (.inl e)));have G_:=I (HG9.fp hp1 HD9 (by decide));have R_:=I (HR9.fp hp1 HD9 (by decide));have D_:=I hd1;have X_:=I hq1;clear HA HC HP9 HG9 HR9 HD9 hd1 hp1 hq1;go_wp2_with fail;refine (number_any w1 p _ D_).mono ?_;rintro e w2 ⟨q2,rfl,hq2,hd1,hp1⟩;obtain⟨B1,B2,GB⟩:=made2 w2 38 38 q1.ar q2.ar;have A9:=I ((A_.fp hp1 D_).up GB);have C9:=I ((C_.fp hp1 D_).up GB);have P9:=I ((P_.ext hp1 (fun i _ e=>.inl (.inl e))).ext GB.fr (fun _ _ h=>h.elim));have G9:=I (GB.bk (G_.fp hp1 D_ (by decide)));have R9:=I (GB.bk (R_.fp hp1 D_ (by decide)));have X9:=I ((X_.fp hp1 D_).gr GB);have D9:=I (hd1.gr GB);have Y9:=I (hq2.gr GB);have T9:=I B1;have U9:=I B2;have HLL:Hid (∀b,zl.v.ownBlock=some b→b < w2.heap.size∧b < w2.heap.size+1):=fun b h=>by
    have:=((A_.fp hp1 D_).lt b h).2;exact⟨this,Nat.lt_succ_of_lt this⟩
   have HLL2:Hid (∀b,zh.v.ownBlock=some b→b < w2.heap.size∧b < w2.heap.size+1):=fun b h=>by
    have:=((C_.fp hp1 D_).lt b h).2;exact⟨this,Nat.lt_succ_of_lt this⟩
   have HTH:Hid (W.heap.size≤w2.heap.size+1):=Nat.le_succ_of_le ((P_.ext hp1 (fun i _ e=>.inl (.inl e))).size);have HNE:Hid (¬w2.heap.size=w2.heap.size+1):=(fun e=>by omega);have HTG:Hid (w2.heap.size≠g):=fun e=>Bk.ne B1 G9 (by decide) e
   have HUG:Hid (w2.heap.size+1≠g):=fun e=>Bk.ne B2 G9 (by decide) e
   have HQ1:=I (numQ_tiny rr);have HQ3:=I (numQ_tiny (numQ rr).2);have HQ2:Hid ((numQ (numQ rr).2).1.abs.Ok):=abs_ok (numQ_tiny (numQ rr).2).ok;have t0_:=B1.c3;have u0_:=B2.c3;have fz:=B2.frozen;clear A_ C_ P_ G_ R_ X_ D_ hp1 hd1 hq2 B1 B2 GB;go_upto_region 6 with fail;generalize (w2.alloc (.cells q1.ar 38)).alloc (.cells q2.ar 38)=W5 at*;generalize w2.heap.size+1=th at*;generalize w2.heap.size=tl at*;have F0:=(Fr.set W5 ⟨th,0,none⟩ (.bool false) rfl:Fr (fun b=>b=th) W5 _);have B0:=U9.put 0 (.bool false);simp only[Array.setIfInBounds,List.size_toArray,List.length_cons,List.length_nil] at B0;have hA8:OwnR _ _ zl L:=Own.go A9 (fun q a h=>h.tf' F0 U9) fun b hb=>F0.keep b (A9.lt b hb).2 (fun e=>ni _ (e▸(HLL.out b hb).2))
   have hC8:OwnR _ _ zh H:=Own.go C9 (fun q a h=>h.tf' F0 U9) fun b hb=>F0.keep b (C9.lt b hb).2 (fun e=>ni _ (e▸(HLL2.out b hb).2))
   have A8:=I hA8;have C8:=I hC8;have P8:=I (P9.ext F0 (fun i _ e=>.inr (by rw[e];exact HTH.out)));have G8:=I (F0.bk G9 (fun e=>HUG.out e.symm));have R8:=I (F0.bk R9 (fun e=>Bk.ne R9 U9 (by decide) e));have T8:=I (F0.bk T9 (fun e=>HNE.out e));have D8:=I (D9.st F0 U9);have X8:=I (X9.tf' F0 U9);have Y8:Hid (Rv.Is _ ⟨false,q2.num,q2.den⟩ (numQ (numQ rr).2).1.abs):=⟨rfl,(Y9.tf' F0 U9).num,(Y9.tf' F0 U9).den⟩;have U8:=I B0;clear hA8 hC8 F0 B0 A9 C9 P9 G9 R9 X9 D9 Y9 T9 U9;go_upto_region 7 with fail;generalize W5.setCell ⟨th,0,none⟩ (.bool false)=W6 at*;have GD:=(Gr.refl W6).drew;have A0:=I (A8.up GD);have C0:=I (C8.up GD);have D0:=I (D8.gr GD);have P0:=I (P8.ext GD.fr (fun _ _ h=>h.elim));have G0:=I (GD.bk G8);have R0:=I (GD.bk R8);have T0:=I (GD.bk T8);have U0:=I (GD.bk U8);have X0:=I (X8.gr GD);have Y0:=I (Y8.gr GD);clear A8 C8 D8 P8 G8 R8 T8 U8 X8 Y8 GD t0_ u0_ fz;have hS0:(fun W=>W.cell? ⟨tl,0,none⟩=some (.bool q1.neg)∧W.cell? ⟨tl,1,none⟩=some q1.num.v∧W.cell? ⟨tl,2,none⟩=some q1.den.v∧W.cell? ⟨th,0,none⟩=some (.bool false)∧W.cell? ⟨th,1,none⟩=some q2.num.v∧W.cell? ⟨th,2,none⟩=some q2.den.v) W6.drew:=⟨T0.c3.1,T0.c3.2.1,T0.c3.2.2,U0.c3.1,U0.c3.2.1,U0.c3.2.2⟩;have hS1:(fun W=>W.cell? ⟨g,0,none⟩=some zl.v∧W.cell? ⟨g,1,none⟩=some zh.v∧W.cell? ⟨g,2,none⟩=some Nl) W6.drew:=G0.c3;refine wp_region_T [1,6] (fun W=>W.cell? ⟨tl,0,none⟩=some (.bool q1.neg)∧W.cell? ⟨tl,1,none⟩=some q1.num.v∧W.cell? ⟨tl,2,none⟩=some q1.den.v∧W.cell? ⟨th,0,none⟩=some (.bool false)∧W.cell? ⟨th,1,none⟩=some q2.num.v∧W.cell? ⟨th,2,none⟩=some q2.den.v) (fun W=>W.cell? ⟨g,0,none⟩=some zl.v∧W.cell? ⟨g,1,none⟩=some zh.v∧W.cell? ⟨g,2,none⟩=some Nl) (by kernel_rfl) ?_;show anyT [1,6] _ _ _ _ _ 16 _ _ _;generalize W6.drew=v0 at*;refine anyT.tk 0 hS0 ?_;refine anyT.tt 1 ⟨hS0,hS1⟩ ?_;refine anyT.tk 2 hS0 ?_;refine anyT.tk 5 hS0 ?_;refine anyT.tt 6 ⟨hS0,hS1⟩ ?_;refine anyT.tk 7 hS0 ?_;refine anyT.tk 8 hS0 ?_;obtain⟨B1,GB⟩:=made1 v0 38 q1.ar;have A1:=I (A0.up GB);have C1:=I (C0.up GB);have D1:=I (D0.gr GB);have P1:=I (P0.ext GB.fr (fun _ _ h=>h.elim));have G1:=I (GB.bk G0);have R1:=I (GB.bk R0);have T1:=I (GB.bk T0);have U1:=I (GB.bk U0);have X1:=I (X0.gr GB);have Y1:=I (Y0.gr GB);have BC:=I (bk_cells B1);clear A0 C0 D0 P0 G0 R0 T0 U0 X0 Y0 GB B1 hS0 hS1;refine anyT.k 3 fun K hK=>?_
   go_simp;refine hK.out _ _ ⟨⟨⟨T1.c3.1,T1.c3.2.1,T1.c3.2.2,U1.c3.1,U1.c3.2.1,U1.c3.2.2⟩,fun _=>Or.inl (G1.c3)⟩,?_⟩;clear hK K;refine ptt ?_;generalize hw1:v0.alloc (.cells q1.ar 38)=v1 at*;clear hw1;generalize v0.heap.size=nb at*;have LB:=I P1.size;have LZ:Hid (zl.n=j):=by rw[← HAL.out];exact (A1.len Rv.len (by decide)).symm
   refine anyT.k 4 fun K hK=>?_
   refine Own.app2 elemR _ _ (by rfl) (by rfl) A1.out ⟨nb,0,none⟩ 1 q1 _ (by rfl) X1.out rfl BC.out (Rv.one q1) (by unfold maxLen;have:=LZ.out;omega) (by have:=LZ.out;omega) LB.out (fun w' F=>A1.step F) (fun y v2 hyn hy hF hob=>?_);have A2:Hid (OwnR v2 W.heap.size y (L++[(numQ rr).1])):=I hy;have C2:=I (C1.other A1 hF (fun b h e=>HDI.out b e h));have HDI2:Hid (∀b,y.v.ownBlock=some b→(zh.v).ownBlock≠some b):=fun b h e=>by rcases hob with o | o;exact HDI.out b (o▸h) e;rw[h] at o;injection o with o;exact ni _ (o▸(C1.lt b e).2)
   have D2:=I (D1.ownR A1 hF);have P2:=I (P1.ext hF (fun i _ e=>.inr (A1.lt i e).1));have G2:=I (hF.bk G1 (fun e=>A1.ne G1 (by decide) e));have R2:=I (hF.bk R1 (fun e=>A1.ne R1 (by decide) e));have T2:=I (hF.bk T1 (fun e=>ni _ (HLL.out tl e).1));have U2:=I (hF.bk U1 (fun e=>ni _ (HLL.out th e).2));have X2:=I (A1.step hF _ _ X1);have Y2:=I (A1.step hF _ _ Y1);clear A1 C1 D1 P1 G1 R1 T1 U1 X1 Y1 hy hF hyn hob BC LB LZ HLL HDI;refine hK.out _ _ ⟨⟨⟨T2.c3.1,T2.c3.2.1,T2.c3.2.2,U2.c3.1,U2.c3.2.1,U2.c3.2.2⟩,fun _=>Or.inl (G2.c3)⟩,?_⟩;clear hK K;refine ptt ?_;refine anyT.tk 12 ⟨T2.c3.1,T2.c3.2.1,T2.c3.2.2,U2.c3.1,U2.c3.2.1,U2.c3.2.2⟩ ?_;refine anyT.k 9 fun K hK=>?_
   refine doesAt_wp (K:=fun v W=>∃s:Rv,v=s.v∧s.Is W (Q.add (numQ rr).1 (numQ (numQ rr).2).1.abs)∧Gr v2 W) (doesAt_enter (f:=75) (args:=#[q1.v,(⟨false,q2.num,q2.den⟩:Rv).v]) (by go_simp;try (first | with_reducible rfl | rfl)) ((r3add_any _ q1 ⟨false,q2.num,q2.den⟩ _ _ X2 Y2 HQ1.ok HQ2 (nj HQ1.num (by decide)) (nj HQ3.num (by decide)) (nj HQ1.den (by decide)) (nj HQ3.den (by decide))).mono ?_)) ?_
   ·rintro e w' ⟨s,rfl,hs,G⟩;exact⟨_,rfl,s,rfl,hs,G⟩
   rintro v v3 ⟨s,rfl,hs,G⟩;have S3:=I hs;have A3:=I (A2.up G);have C3:=I (C2.up G);have D3:=I (D2.gr G);have P3:=I (P2.ext G.fr (fun _ _ h=>h.elim));have G3:=I (G.bk G2);have R3:=I (G.bk R2);have T3:=I (G.bk T2);have U3:=I (G.bk U2);have X3:=I (X2.gr G);have Y3:=I (Y2.gr G);clear A2 C2 D2 P2 G2 R2 T2 U2 X2 Y2 hs G;refine hK.out _ _ ⟨⟨⟨T3.c3.1,T3.c3.2.1,T3.c3.2.2,U3.c3.1,U3.c3.2.1,U3.c3.2.2⟩,fun _=>Or.inl (G3.c3)⟩,?_⟩;clear hK K;refine ptt ?_;obtain⟨B1,GB⟩:=made1 v3 38 s.ar;have A4:=I (A3.up GB);have C4:=I (C3.up GB);have D4:=I (D3.gr GB);have P4:=I (P3.ext GB.fr (fun _ _ h=>h.elim));have G4:=I (GB.bk G3);have R4:=I (GB.bk R3);have T4:=I (GB.bk T3);have U4:=I (GB.bk U3);have X4:=I (X3.gr GB);have Y4:=I (Y3.gr GB);have S4:=I (S3.gr GB);have BC:=I (bk_cells B1);have HLH:Hid (∀b,zh.v.ownBlock=some b→b < tl∧b < th):=HLL2;clear A3 C3 D3 P3 G3 R3 T3 U3 X3 Y3 S3 GB B1 HLL2;refine anyT.k 10 fun K hK=>?_
   go_simp;refine hK.out _ _ ⟨⟨⟨T4.c3.1,T4.c3.2.1,T4.c3.2.2,U4.c3.1,U4.c3.2.1,U4.c3.2.2⟩,fun _=>Or.inl (G4.c3)⟩,?_⟩;clear hK K;refine ptt ?_;generalize hw1:v3.alloc (.cells s.ar 38)=v4 at*;clear hw1;generalize v3.heap.size=nb2 at*;have LB:=I P4.size;have LZ:Hid (zh.n=j):=by rw[← HBL.out];exact (C4.len Rv.len (by decide)).symm
   refine anyT.k 11 fun K hK=>?_
   refine Own.app2 elemR _ _ (by rfl) (by rfl) C4.out ⟨nb2,0,none⟩ 1 s _ (by rfl) S4.out rfl BC.out (Rv.one s) (by unfold maxLen;have:=LZ.out;omega) (by have:=LZ.out;omega) LB.out (fun w' F=>C4.step F) (fun x v5 hyn hy hF hob=>?_);have C5:Hid (OwnR v5 W.heap.size x (H++[Q.add (numQ rr).1 (numQ (numQ rr).2).1.abs])):=I hy;have A5:=I (A4.other C4 hF HDI2);have HDI3:Hid (∀b,y.v.ownBlock=some b→(x.v).ownBlock≠some b):=fun b h e=>by rcases hob with o | o;exact HDI2.out b h (o▸e);rw[e] at o;injection o with o;exact ni _ (o▸(A4.lt b h).2)
   have D5:=I (D4.ownR C4 hF);have P5:=I (P4.ext hF (fun i _ e=>.inr (C4.lt i e).1));have G5:=I (hF.bk G4 (fun e=>C4.ne G4 (by decide) e));have R5:=I (hF.bk R4 (fun e=>C4.ne R4 (by decide) e));have T5:=I (hF.bk T4 (fun e=>ni _ (HLH.out tl e).1));have U5:=I (hF.bk U4 (fun e=>ni _ (HLH.out th e).2));clear A4 C4 D4 P4 G4 R4 T4 U4 X4 Y4 hy hF hyn hob BC LB LZ HLH S4 HDI2;refine hK.out _ _ ⟨⟨⟨T5.c3.1,T5.c3.2.1,T5.c3.2.2,U5.c3.1,U5.c3.2.1,U5.c3.2.2⟩,fun _=>Or.inl (G5.c3)⟩,?_⟩;clear hK K;refine ptt ?_;have F6:=(Fr.set v5 ⟨g,0,none⟩ y.v rfl:Fr (fun b=>b=g) v5 _);have B6:=G5.put 0 y.v;simp only[Array.setIfInBounds,List.size_toArray,List.length_cons,List.length_nil] at B6;refine anyT.k 13 fun K hK=>?_
   have fz3:=G5.frozen;have g0:=G5.c3.1;go_simp;refine hK.out _ _ ⟨⟨⟨(F6.bk T5 (fun e=>HTG.out e)).c3.1,(F6.bk T5 (fun e=>HTG.out e)).c3.2.1,(F6.bk T5 (fun e=>HTG.out e)).c3.2.2,(F6.bk U5 (fun e=>HUG.out e)).c3.1,(F6.bk U5 (fun e=>HUG.out e)).c3.2.1,(F6.bk U5 (fun e=>HUG.out e)).c3.2.2⟩,fun _=>Or.inr (by kernel_rfl)⟩,?_⟩;clear hK K;refine ptt ?_;have A6:=I (A5.st F6 G5);have C6:=I (C5.st F6 G5);have D6:=I (D5.st F6 G5);have P6:=I (P5.ext F6 (fun i _ e=>.inl (.inr e)));have R6:=I (F6.bk R5 (fun e=>hgr.out e.symm));have T6:=I (F6.bk T5 (fun e=>HTG.out e));have U6:=I (F6.bk U5 (fun e=>HUG.out e));have G6:Hid (Bk (v5.setCell ⟨g,0,none⟩ y.v) g 33 #[y.v,zh.v,Nl]):=I B6;clear F6 B6 fz3 g0 A5 C5 D5 P5 R5 T5 U5 G5;generalize v5.setCell ⟨g,0,none⟩ y.v=v6 at*;refine anyT.tk 14 ⟨T6.c3.1,T6.c3.2.1,T6.c3.2.2,U6.c3.1,U6.c3.2.1,U6.c3.2.2⟩ ?_;have F7:=(Fr.set v6 ⟨g,1,none⟩ x.v rfl:Fr (fun b=>b=g) v6 _);have B7:=G6.put 1 x.v;simp only[Array.setIfInBounds,List.size_toArray,List.length_cons,List.length_nil] at B7;refine anyT.k 15 fun K hK=>?_
   have fz3:=G6.frozen;have g0:=G6.c3.2.1;go_simp;refine hK.out _ _ ⟨⟨⟨(F7.bk T6 (fun e=>HTG.out e)).c3.1,(F7.bk T6 (fun e=>HTG.out e)).c3.2.1,(F7.bk T6 (fun e=>HTG.out e)).c3.2.2,(F7.bk U6 (fun e=>HUG.out e)).c3.1,(F7.bk U6 (fun e=>HUG.out e)).c3.2.1,(F7.bk U6 (fun e=>HUG.out e)).c3.2.2⟩,fun _=>Or.inr (by kernel_rfl)⟩,?_⟩;clear hK K;refine ptt ?_;refine anyT.done (by kernel_rfl) ?_;have A7:=I (A6.st F7 G6);have C7:=I (C6.st F7 G6);have D7:=I (D6.st F7 G6);have P7:=I (P6.ext F7 (fun i _ e=>.inl (.inr e)));have R7:=I (F7.bk R6 (fun e=>hgr.out e.symm));have G7:Hid (Bk (v6.setCell ⟨g,1,none⟩ x.v) g 33 #[y.v,x.v,Nl]):=I B7;clear F7 B7 fz3 g0 A6 C6 D6 P6 R6 T6 U6 G6;generalize v6.setCell ⟨g,1,none⟩ x.v=v7 at*;go_wp2;go_roundw
   ·refine⟨j+1,y,x,L++[(numQ rr).1],H++[Q.add (numQ rr).1 (numQ (numQ rr).2).1.abs],(numQ (numQ rr).2).2,by go_num,by omega,A7,C7,HDI3,?_,?_,?_,I (by have:=HAL.out;rw[List.length_append,this];rfl),I (by have:=HBL.out;rw[List.length_append,this];rfl),D7,P7,G7,R7⟩
    ·show _++(boxQ (n - (j+1)) _).1.1=_;rw[← HE1.out,HJ.out,boxQ_succ,show n - (j+1)=n - j - 1 from by omega,List.append_assoc];exact rfl
    ·show _++(boxQ (n - (j+1)) _).1.2=_;rw[← HE2.out,HJ.out,boxQ_succ,show n - (j+1)=n - j - 1 from by omega,List.append_assoc];exact rfl
    ·show (boxQ (n - (j+1)) _).2=_;rw[← HE3.out,HJ.out,boxQ_succ,show n - (j+1)=n - j - 1 from by omega]
   ·simp[intOf];omega
  ·obtain rfl:n=j:=by omega
   have HL1:Hid (L=(boxQ n r).1.1):=by rw[← HE1.out,Nat.sub_self];exact (List.append_nil _).symm
   have HH1:Hid (H=(boxQ n r).1.2):=by rw[← HE2.out,Nat.sub_self];exact (List.append_nil _).symm
   have HR1:Hid (rr=(boxQ n r).2):=by rw[← HE3.out,Nat.sub_self];exact rfl
   have HLR:=I HA.rats;have HHR:=I HC.rats;clear HE1 HE2 HE3 HDI HAL HBL HA HC;go_wp2_with fail;refine (next_any wr p 3 rr HD9 (by decide) (by decide)).mono ?_;rintro e w4 ⟨rfl,hd1,hp1⟩;have hm9:=nx_lt (n:=3) (by decide) rr;generalize hx:(nx 3 rr).1=m at*;have HX:=I hx;generalize hy5:(nx 3 rr).2=r5 at*;have HY5:=I hy5;have L9:=I (HLR.fp hp1 HD9);have M9:=I (HHR.fp hp1 HD9);have P9:=I (HP9.ext hp1 (fun i _ e=>.inl (.inl e)));have G9:=I (HG9.fp hp1 HD9 (by decide));have R9:=I (HR9.fp hp1 HD9 (by decide));have D9:=I hd1;clear hx hy5 hd1 hp1 HLR HHR HP9 HG9 HR9 HD9;go_wp2_with fail;go_loopw [9] (fun i wr=>∃(k:Nat) (z:Sv) (acc:List Fm) (rr:List Nat),i=.int .i64 k∧k≤m∧Hid (OwnF wr W.heap.size z acc)∧Hid (acc++(outsQ k n rr).1=(outsQ m n r5).1)∧Hid ((outsQ k n rr).2=(outsQ m n r5).2)∧Hid (acc.length+k=m)∧Hid (Rats wr zl L)∧Hid (Rats wr zh H)∧Hid (Fd wr p rr)∧Hid (Fr (fun b=>b=p∨b=g) W wr)∧Hid (Bk wr g 33 #[zl.v,zh.v,z.v])∧Hid (Bk wr w.heap.size 33 #[Nl,Nl,Nl])) (fun i _=>(intOf i).toNat)
   case atStart=>exact⟨m,Sv.none,[],r5,rfl,nr _,Own.nil _ _,rfl,rfl,I (by simp),L9,M9,D9,P9,G9,R9⟩
   case round=>
    obtain⟨k,z,acc,rr2,rfl,hk,HA,HE1,HE2,HAL,HL,HM,HD9,HP9,HG9,HR9⟩:=hrel;clear L9 M9 P9 G9 R9 D9;by_cases hk0:0 < k
    ·have HJ:Hid (k=k - 1+1):=(show k=k - 1+1 from by omega);have hx1:decide ((0:Int) < (k:Int))=true:=by simp;omega
     have hw1:IntKind.i64.wrap ((k:Int) - 1)=((k - 1:Nat):Int):=by rw[wi _ (by omega)];omega
     have D0:=I (HD9.gr (Gr.refl wr).drew);have A0:=I (HA.up (Gr.refl wr).drew);have L0:=I (HL.gr (Gr.refl wr).drew);have M0:=I (HM.gr (Gr.refl wr).drew);have P0:=I (HP9.ext (Gr.refl wr).drew.fr (fun _ _ h=>h.elim));have G0:=I ((Gr.refl wr).drew.bk HG9);have R0:=I ((Gr.refl wr).drew.bk HR9);clear HA HD9 HP9 HG9 HR9 HL HM;go_wp2_with fail;go_upto_region 11 with fail;have hS0:(fun W=>W.cell? ⟨g,0,none⟩=some zl.v∧W.cell? ⟨g,1,none⟩=some zh.v∧W.cell? ⟨g,2,none⟩=some z.v) wr.drew:=G0.c3;refine wp_region_E (fun W=>W.cell? ⟨g,0,none⟩=some zl.v∧W.cell? ⟨g,1,none⟩=some zh.v∧W.cell? ⟨g,2,none⟩=some z.v) (by kernel_rfl) ?_;show anyE _ _ _ _ 9 _ _ _;generalize wr.drew=v0 at*;refine anyE.tk 0 hS0 ?_;refine anyE.tk 1 hS0 ?_;refine anyE.tk 2 hS0 ?_;refine anyE.tk 3 hS0 ?_;refine anyE.k 4 fun K hK=>?_
     refine doesAt_wp (K:=fun v W=>∃f:Fv,v=f.v∧f.Is W (formQ n rr2).1∧Fd W p (formQ n rr2).2∧Fp p v0 W) (doesAt_enter (f:=36) (args:=#[.pointer (some ⟨p,0,none⟩),.int .i64 (n:Int)]) (by go_simp;try (first | with_reducible rfl | rfl)) ((form_any _ p n _ D0 (by omega)).mono ?_)) ?_
     ·rintro e w' ⟨f,rfl,hf,hd,hp⟩;exact⟨_,rfl,f,rfl,hf,hd,hp⟩
     rintro v w5 ⟨f,rfl,hf,hd,hp⟩;have F1:=I hf;have D1:=I hd;have A1:=I (A0.fp hp D0);have L1:=I (L0.fp hp D0);have M1:=I (M0.fp hp D0);have P1:=I (P0.ext hp (fun i _ e=>.inl (.inl e)));have G1:=I (G0.fp hp D0 (by decide));have R1:=I (R0.fp hp D0 (by decide));clear A0 L0 M0 D0 P0 G0 R0 hf hd hp hS0;refine hK.out _ _ ⟨Or.inl (G1.c3),?_⟩;clear hK K;refine ptt ?_;obtain⟨B1,GB⟩:=made1 w5 40 f.ar;have F2:=I (F1.gr GB);have A2:=I (A1.up GB);have L2:=I (L1.gr GB);have M2:=I (M1.gr GB);have D2:=I (D1.gr GB);have P2:=I (P1.ext GB.fr (fun _ _ h=>h.elim));have G2:=I (GB.bk G1);have R2:=I (GB.bk R1);have BC:=I (bk_cells B1);clear A1 L1 M1 D1 P1 G1 R1 GB B1 F1;refine anyE.k 5 fun K hK=>?_
     go_simp;refine hK.out _ _ ⟨Or.inl (G2.c3),?_⟩;clear hK K;refine ptt ?_;generalize hw6:w5.alloc (.cells f.ar 40)=w6 at*;clear hw6;generalize w5.heap.size=nb at*;have LB:=I P2.size;have LZ:Hid (z.n≤m):=by have:=HAL.out;have h9:acc.length=z.n:=A2.len Fv.len (by decide);exact (by omega:z.n≤m)
     refine anyE.k 6 fun K hK=>?_
     refine Own.app1 elemF _ _ (by rfl) (by rfl) A2.out ⟨nb,0,none⟩ 1 f _ (by rfl) F2.out rfl BC.out (Fv.one f) (by unfold maxLen;have:=LZ.out;omega) (by have:=LZ.out;omega) LB.out (fun w' F=>A2.step F) (fun y w7 hyn hy hF=>?_);have A3:Hid (OwnF w7 W.heap.size y (acc++[(formQ n rr2).1])):=I hy;have L3:=I (L2.ownF A2 hF);have M3:=I (M2.ownF A2 hF);have D3:=I (D2.own A2 hF);have P3:=I (P2.ext hF (fun i _ e=>.inr (A2.lt i e).1));have G3:=I (hF.bk G2 (fun e=>A2.ne G2 (by decide) e));have R3:=I (hF.bk R2 (fun e=>A2.ne R2 (by decide) e));clear A2 L2 M2 D2 P2 G2 R2 hy hF hyn F2 BC LB LZ;refine hK.out _ _ ⟨Or.inl (G3.c3),?_⟩;clear hK K;refine ptt ?_;have hS3:=G3.c3;refine anyE.tk 7 hS3 ?_;clear hS3;refine anyE.k 8 fun K hK=>?_
     have fz3:=G3.frozen;have g2:=G3.c3.2.2;go_simp;refine hK.out _ _ ⟨Or.inr (by kernel_rfl),?_⟩;clear hK K;refine ptt ?_;refine anyE.done (by kernel_rfl) ?_;have F4:=(Fr.set w7 ⟨g,2,none⟩ y.v rfl:Fr (fun b=>b=g) w7 _);have B4:=G3.put 2 y.v;have D4:=I (D3.st F4 G3);have A4:=I (OwnF.st A3 F4 G3);have L4:=I (L3.stR F4 G3);have M4:=I (M3.stR F4 G3);have P4:=I (P3.ext F4 (fun i _ e=>.inl (.inr e)));have R4:=I (F4.bk R3 (fun e=>hgr.out e.symm));have G4:=I B4;simp only[Array.setIfInBounds,List.size_toArray,List.length_cons,List.length_nil] at G4;clear F4 B4 g2 fz3;generalize w7.setCell ⟨g,2,none⟩ y.v=w8 at*;go_wp2;go_roundw
     ·refine⟨k - 1,y,acc++[(formQ n rr2).1],(formQ n rr2).2,by go_num,by omega,A4,?_,?_,I (by have:=HAL.out;rw[List.length_append];simp only[List.length_cons,List.length_nil];omega),L4,M4,D4,P4,G4,R4⟩
      ·show _++(outsQ (k - 1) n _).1=_;rw[← HE1.out,HJ.out,outsQ_succ,Nat.add_sub_cancel,List.append_assoc];exact rfl
      ·show (outsQ (k - 1) n _).2=_;rw[← HE2.out,HJ.out,outsQ_succ,Nat.add_sub_cancel]
     ·simp[intOf];omega
    ·obtain rfl:k=0:=by omega
     have HO1:Hid (acc=(outsQ m n r5).1):=by rw[← HE1.out];exact (List.append_nil _).symm
     have HO2:Hid (rr2=(outsQ m n r5).2):=by rw[← HE2.out];exact rfl
     have HOF:=I HA.forms;clear HA HE1 HE2 HAL;obtain⟨g0,g1,g2⟩:=HG9.c3;have z0_:=HR9.c3;have fz:=HR9.frozen;go_wp2;refine pex ?_;refine ks HR9 fun W5 B5 F5=>?_
     have d_:=B5.c3;refine bret Tryz.results35 ?_;have HQ:regionQ n r=(⟨L,H,acc⟩,rr2):=by
      unfold regionQ;rw[← HR1.out,HX.out,HY5.out,← HL1.out,← HH1.out,← HO1.out,← HO2.out]
     rw[HQ];exact⟨⟨zl,zh,z⟩,rfl,⟨HL.stR F5 HR9,HM.stR F5 HR9,HOF.st F5 HR9⟩,HD9.st F5 HR9,(HPW.ext HP9 (fun i hi e=>e.elim (fun e=>.inl e) (fun e=>.inr (by rw[e];exact N_g.out)))).ext F5 (fun i _ e=>.inr (by rw[e];exact nr _))⟩
end
def smB (q:Q):Bool:=decide (q.num < 1000000)&&decide (q.den < 1000)
theorem smB.sm {q:Q} (h:smB q=true):q.Sm:=by
 simp only[smB,be,de] at h;exact⟨h.1,h.2⟩
abbrev ncs (n:Nat):List Value:=[iv n]
abbrev scs (s:Sv):List Value:=[.slice s.A s.n s.c]
abbrev OwnN (w:World) (B:Nat) (x:Sv) (l:List Nat):Prop:=Own ncs (fun _ p a=>p=a) 3 1 w B x l
abbrev OwnS (w:World) (B:Nat) (x:Sv) (l:List Sv):Prop:=Own scs (fun _ p a=>p=a) 31 1 w B x l
def Sv.on (x:Sv) (b:Nat):Prop:=(Value.slice x.A x.n x.c).ownBlock=some b
section
variable {α β α' β':Type} {cs:β→List Value} {cs':β'→List Value} {Is:World→β→α→Prop} {Is':World→β'→α'→Prop} {e e' k k':Nat} {w w':World} {B B':Nat} {x y:Sv} {xs:List α} {ys:List α'}
theorem Own.bk (h:Own cs Is e k w B x xs) {b:Nat} (hb:x.on b):∃cur,Bk w b e cur:=by
 obtain⟨ts,t1,_⟩:=h;exact rw_bk t1 b hb
theorem Own.far (h:Own cs Is e k w B x xs) (h':Own cs' Is' e' k' w B' y ys) (he:e≠e') {b:Nat} (hb:x.on b):¬y.on b:=fun hy=>by
 obtain⟨cur,hc⟩:=h.bk hb;exact h'.ne hc he hy
theorem Own.at1 {cs:β→List Value} {h1:∀b,(cs b).length=1} {Is:World→β→β→Prop} (hI:∀w p a,Is w p a→p=a) {xs:List β} {B:Nat} {x:Sv} (h:Own cs Is e 1 w B x xs) {i:Nat} {a:β} {u:Value} (ha:xs[i]?=some a) (hu:cs a=[u]):∃ad,x.A=some ad∧w.cell? (ad.add i)=some u∧i < x.n:=by
 obtain⟨b,hb,hc⟩:=Rows.at h1 (h.rows (by decide)) ha;have hba:=hI _ _ _ hb;subst hba;obtain⟨ad,hA,_,c0⟩:=hc 0 u (by rw[hu];rfl);rw[Nat.mul_one,Nat.add_zero] at c0;exact⟨ad,hA,c0,by have:=Own.len h h1 (by decide);have:=(gs ha).1;omega⟩
end
theorem OwnN.at {w:World} {B:Nat} {x:Sv} {l:List Nat} (h:OwnN w B x l) {i v:Nat} (hi:l[i]?=some v):∃ad,x.A=some ad∧w.cell? (ad.add i)=some (iv v)∧i < x.n:=
 Own.at1 (h1:=fun _=>rfl) (fun _ _ _ e=>e) h hi rfl
theorem OwnS.at {w:World} {B:Nat} {x:Sv} {l:List Sv} (h:OwnS w B x l) {i:Nat} {s:Sv} (hi:l[i]?=some s):∃ad,x.A=some ad∧w.cell? (ad.add i)=some (.slice s.A s.n s.c)∧i < x.n:=
 Own.at1 (h1:=fun _=>rfl) (fun _ _ _ e=>e) h hi rfl
theorem OwnR.stx {w w':World} {B p ty:Nat} {x:Sv} {l:List Q} {us:Array Value} (h:OwnR w B x l) (F:Fr (fun b=>b=p) w w') (hb:Bk w p ty us) (hu:ty≠300) (hx:¬x.on p):OwnR w' B x l:=
 Own.go h (fun _ _ hr=>hr.tf' F hb hu) fun b hb'=>F.keep b (h.lt b hb').2 fun e=>hx (e▸hb')
structure Gx (X:Nat→Prop) (w w':World):Prop where
 fr:Fr X w w'
section
variable {X:Nat→Prop} {w w' w'':World}
theorem Gx.trans (h:Gx X w w') (G:Gr w' w''):Gx X w w'':=⟨h.fr.trans G.fr.none⟩
theorem Gx.fr_at {p:Nat} (h:Gx X w w') (F:Fr (fun b=>b=p) w' w'') (hp:w.heap.size≤p):Gx X w w'':=⟨h.fr.ext F fun i _ e=>.inr (e▸hp)⟩
theorem Gx.in (h:Gx X w w') {Y:Nat→Prop} (F:Fr Y w' w'') (hY:∀k,Y k→X k∨w.heap.size≤k):Gx X w w'':=⟨h.fr.ext F fun i _ e=>hY i e⟩
theorem Gx.size (h:Gx X w w'):w.heap.size≤w'.heap.size:=h.fr.size
theorem Gx.of (h:Gr w w'):Gx X w w':=⟨h.fr.none⟩
end
structure Ts where
 sb:Sv
 sn:Sv
 sf:Sv
 so:Sv
 fs:List Sv
structure Tb where
 vars:Nat
 rows:Nat
 basic:List Nat
 nonb:List Nat
 forms:List (List Q)
 obj:List Q
 piv:Nat
abbrev Tb.cells (T:Tb) (S:Ts):Array Value:=#[iv T.vars,iv T.rows,.slice S.sb.A S.sb.n S.sb.c,.slice S.sn.A S.sn.n S.sn.c,.slice S.sf.A S.sf.n S.sf.c,.slice S.so.A S.so.n S.so.c,iv T.piv]
def Ts.X (S:Ts) (t k:Nat):Prop:=k=t∨S.sb.on k∨S.sn.on k∨S.sf.on k∨S.so.on k∨∃s∈S.fs,s.on k
structure TabIs (w:World) (B t:Nat) (S:Ts) (T:Tb):Prop where
 base:B≤t
 cell:Bk w t 420 (T.cells S)
 b:OwnN w B S.sb T.basic
 n:OwnN w B S.sn T.nonb
 f:OwnS w B S.sf S.fs
 o:OwnR w B S.so T.obj
 len:S.fs.length=T.forms.length
 row:∀(i:Nat) (s:Sv) (l:List Q),S.fs[i]?=some s→T.forms[i]?=some l→OwnR w B s l
 bn:∀(k:Nat),S.sb.on k→¬S.sn.on k
 apart:∀(i j:Nat) (si sj:Sv) (k:Nat),S.fs[i]?=some si→S.fs[j]?=some sj→si.on k→sj.on k→i=j
 fo:∀(s:Sv) (k:Nat),s∈S.fs→s.on k→¬S.so.on k
section
variable {w w':World} {B t:Nat} {S:Ts} {T:Tb}
theorem TabIs.rowm (h:TabIs w B t S T) {s:Sv} (hs:s∈S.fs):∃(i:Nat) (l:List Q),S.fs[i]?=some s∧T.forms[i]?=some l∧OwnR w B s l:=by
 obtain⟨i,hi,e⟩:=List.getElem_of_mem hs;have h1:S.fs[i]?=some s:=by rw[ge hi,e]
 have hi2:i < T.forms.length:=by have:=h.len;omega
 have h2:T.forms[i]?=some T.forms[i]:=ge hi2;exact⟨i,_,h1,h2,h.row _ _ _ h1 h2⟩
theorem TabIs.lt (h:TabIs w B t S T) {k:Nat} (hk:S.X t k):B≤k∧k < w.heap.size:=by
 rcases hk with rfl | hk | hk | hk | hk | ⟨s,hs,hk⟩
 ·exact⟨h.base,h.cell.lt⟩
 ·exact h.b.lt k hk
 ·exact h.n.lt k hk
 ·exact h.f.lt k hk
 ·exact h.o.lt k hk
 ·obtain⟨_,_,_,_,ho⟩:=h.rowm hs;exact ho.lt k hk
theorem TabIs.bk (h:TabIs w B t S T) {k:Nat} (hk:S.X t k):∃ty cur,Bk w k ty cur∧(ty=420∨ty=3∨ty=31∨ty=38):=by
 rcases hk with rfl | hk | hk | hk | hk | ⟨s,hs,hk⟩
 ·exact⟨_,_,h.cell,.inl rfl⟩
 ·obtain⟨c,hc⟩:=h.b.bk hk;exact⟨_,_,hc,.inr (.inl rfl)⟩
 ·obtain⟨c,hc⟩:=h.n.bk hk;exact⟨_,_,hc,.inr (.inl rfl)⟩
 ·obtain⟨c,hc⟩:=h.f.bk hk;exact⟨_,_,hc,.inr (.inr (.inl rfl))⟩
 ·obtain⟨c,hc⟩:=h.o.bk hk;exact⟨_,_,hc,.inr (.inr (.inr rfl))⟩
 ·obtain⟨_,_,_,_,ho⟩:=h.rowm hs;obtain⟨c,hc⟩:=ho.bk hk;exact⟨_,_,hc,.inr (.inr (.inr rfl))⟩
theorem TabIs.rv (h:TabIs w B t S T) (F:Fr (S.X t) w w'):∀(r:Rv) (q:Q),r.Is w q→r.Is w' q:=fun r q hr=>hr.tf F fun b cs fr hb hh=>by
 obtain⟨ty,cur,hc,e⟩:=h.bk hb;refine Bk.not_ty hc ?_ _ _ hh;rcases e with rfl | rfl | rfl | rfl<;>decide
theorem TabIs.go (h:TabIs w B t S T) (hI:∀(r:Rv) (q:Q),r.Is w q→r.Is w' q) (hk:∀k,S.X t k→w'.heap[k]?=w.heap[k]?):TabIs w' B t S T where
 base:=h.base
 cell:=Bk.keep h.cell (hk t (.inl rfl))
 b:=Own.go h.b (fun _ _ e=>e) fun b hb=>hk b (.inr (.inl hb))
 n:=Own.go h.n (fun _ _ e=>e) fun b hb=>hk b (.inr (.inr (.inl hb)))
 f:=Own.go h.f (fun _ _ e=>e) fun b hb=>hk b (.inr (.inr (.inr (.inl hb))))
 o:=Own.go h.o hI fun b hb=>hk b (.inr (.inr (.inr (.inr (.inl hb)))))
 len:=h.len
 row:=fun i s l h1 h2=>Own.go (h.row i s l h1 h2) hI fun b hb=>hk b (.inr (.inr (.inr (.inr (.inr ⟨s,mg h1,hb⟩)))))
 bn:=h.bn
 apart:=h.apart
 fo:=h.fo
theorem TabIs.gr (h:TabIs w B t S T) (G:Gr w w'):TabIs w' B t S T:=h.go (fun _ _ hr=>hr.gr G) fun k hk=>G.below.block k (h.lt hk).2
instance kpTab {B t S T} {w w'}:Kp (TabIs w B t S T) w w' (TabIs w' B t S T):=⟨fun G h=>h.gr G⟩
theorem TabIs.st (h:TabIs w B t S T) {p ty:Nat} {us:Array Value} (F:Fr (fun b=>b=p) w w') (hb:Bk w p ty us) (hu:ty≠300) (hp:¬S.X t p):TabIs w' B t S T:=
 h.go (fun _ _ hr=>hr.tf' F hb hu) fun k hk=>F.keep k (h.lt hk).2 fun e=>hp (e▸hk)
theorem TabIs.inX {s:Sv} (hs:s∈S.fs) {k:Nat} (hk:s.on k):S.X t k:=.inr (.inr (.inr (.inr (.inr ⟨s,hs,hk⟩))))
theorem TabIs.setRow (h:TabIs w B t S T) {i:Nat} {s:Sv} {l l':List Q} (hs:S.fs[i]?=some s) (hl:T.forms[i]?=some l) (ho:OwnR w' B s l') (F:Fr (fun b=>s.on b) w w'):TabIs w' B t S { T with forms:=T.forms.set i l' }:=by
 have hm:=mg hs;have ho0:=h.row i s l hs hl;have F':Fr (S.X t) w w':=F.wide fun b _ hb=>TabIs.inX hm hb
 have hI:=h.rv F';refine⟨h.base,F.bk h.cell (fun e=>ho0.ne h.cell (by decide) e),Own.go h.b (fun _ _ e=>e) fun b hb=>F.keep b (h.b.lt b hb).2 (h.b.far ho0 (by decide) hb),Own.go h.n (fun _ _ e=>e) fun b hb=>F.keep b (h.n.lt b hb).2 (h.n.far ho0 (by decide) hb),Own.go h.f (fun _ _ e=>e) fun b hb=>F.keep b (h.f.lt b hb).2 (h.f.far ho0 (by decide) hb),
  Own.go h.o hI fun b hb=>F.keep b (h.o.lt b hb).2 (fun e=>h.fo s b hm e hb),by rw[List.length_set];exact h.len,fun j sj lj h1 h2=>?_,h.bn,h.apart,h.fo⟩
 rcases Nat.decEq i j with hij | rfl
 ·rw[List.getElem?_set_ne hij] at h2;have hj:=h.row j sj lj h1 h2;exact Own.go hj hI fun b hb=>F.keep b (hj.lt b hb).2 (fun e=>hij (h.apart i j s sj b hs h1 e hb))
 ·rw[hs] at h1;injection h1 with h1;subst h1;rw[List.getElem?_set_self (gs hl).1] at h2;injection h2 with h2;exact h2▸ho
theorem TabIs.setObj (h:TabIs w B t S T) {l':List Q} (ho:OwnR w' B S.so l') (F:Fr (fun b=>S.so.on b) w w'):TabIs w' B t S { T with obj:=l' }:=by
 have F':Fr (S.X t) w w':=F.wide fun b _ hb=>.inr (.inr (.inr (.inr (.inl hb))))
 have hI:=h.rv F';refine⟨h.base,F.bk h.cell (fun e=>h.o.ne h.cell (by decide) e),Own.go h.b (fun _ _ e=>e) fun b hb=>F.keep b (h.b.lt b hb).2 (h.b.far h.o (by decide) hb),Own.go h.n (fun _ _ e=>e) fun b hb=>F.keep b (h.n.lt b hb).2 (h.n.far h.o (by decide) hb),Own.go h.f (fun _ _ e=>e) fun b hb=>F.keep b (h.f.lt b hb).2 (h.f.far h.o (by decide) hb),
  ho,h.len,fun j sj lj h1 h2=>?_,h.bn,h.apart,h.fo⟩
 have hj:=h.row j sj lj h1 h2;exact Own.go hj hI fun b hb=>F.keep b (hj.lt b hb).2 (fun e=>h.fo sj b (mg h1) hb e)
theorem TabIs.setB (h:TabIs w B t S T) {l':List Nat} (ho:OwnN w' B S.sb l') (F:Fr (fun b=>S.sb.on b) w w'):TabIs w' B t S { T with basic:=l' }:=by
 have F':Fr (S.X t) w w':=F.wide fun b _ hb=>.inr (.inl hb)
 have hI:=h.rv F';refine⟨h.base,F.bk h.cell (fun e=>h.b.ne h.cell (by decide) e),ho,Own.go h.n (fun _ _ e=>e) fun b hb=>F.keep b (h.n.lt b hb).2 (fun e=>h.bn b e hb),Own.go h.f (fun _ _ e=>e) fun b hb=>F.keep b (h.f.lt b hb).2 (h.f.far h.b (by decide) hb),
  Own.go h.o hI fun b hb=>F.keep b (h.o.lt b hb).2 (h.o.far h.b (by decide) hb),h.len,fun j sj lj h1 h2=>?_,h.bn,h.apart,h.fo⟩
 have hj:=h.row j sj lj h1 h2;exact Own.go hj hI fun b hb=>F.keep b (hj.lt b hb).2 (hj.far h.b (by decide) hb)
theorem TabIs.setN (h:TabIs w B t S T) {l':List Nat} (ho:OwnN w' B S.sn l') (F:Fr (fun b=>S.sn.on b) w w'):TabIs w' B t S { T with nonb:=l' }:=by
 have F':Fr (S.X t) w w':=F.wide fun b _ hb=>.inr (.inr (.inl hb))
 have hI:=h.rv F';refine⟨h.base,F.bk h.cell (fun e=>h.n.ne h.cell (by decide) e),Own.go h.b (fun _ _ e=>e) fun b hb=>F.keep b (h.b.lt b hb).2 (h.bn b hb),ho,Own.go h.f (fun _ _ e=>e) fun b hb=>F.keep b (h.f.lt b hb).2 (h.f.far h.n (by decide) hb),
  Own.go h.o hI fun b hb=>F.keep b (h.o.lt b hb).2 (h.o.far h.n (by decide) hb),h.len,fun j sj lj h1 h2=>?_,h.bn,h.apart,h.fo⟩
 have hj:=h.row j sj lj h1 h2;exact Own.go hj hI fun b hb=>F.keep b (hj.lt b hb).2 (hj.far h.n (by decide) hb)
theorem TabIs.setF (h:TabIs w B t S T) {i:Nat} {s:Sv} {l:List Q} (hi:i < T.forms.length) (hf:OwnS w' B S.sf (S.fs.set i s)) (F:Fr (fun b=>S.sf.on b) w w') (ho:OwnR w B s l) (hx:∀k,s.on k→¬S.X t k):TabIs w' B t { S with fs:=S.fs.set i s } { T with forms:=T.forms.set i l }:=by
 have F':Fr (S.X t) w w':=F.wide fun b _ hb=>.inr (.inr (.inr (.inl hb)))
 have hI:=h.rv F';have hin:i < S.fs.length:=by rw[h.len];exact hi
 refine⟨h.base,F.bk h.cell (fun e=>h.f.ne h.cell (by decide) e),Own.go h.b (fun _ _ e=>e) fun b hb=>F.keep b (h.b.lt b hb).2 (h.b.far h.f (by decide) hb),Own.go h.n (fun _ _ e=>e) fun b hb=>F.keep b (h.n.lt b hb).2 (h.n.far h.f (by decide) hb),hf,
  Own.go h.o hI fun b hb=>F.keep b (h.o.lt b hb).2 (h.o.far h.f (by decide) hb),by rw[List.length_set,List.length_set];exact h.len,fun j sj lj h1 h2=>?_,h.bn,fun a b sa sb k ha hb ka kb=>?_,fun sk k hsk hk=>?_⟩
 ·rcases Nat.decEq i j with hij | rfl
  ·rw[List.getElem?_set_ne hij] at h1 h2;have hj:=h.row j sj lj h1 h2;exact Own.go hj hI fun b hb=>F.keep b (hj.lt b hb).2 (hj.far h.f (by decide) hb)
  ·rw[List.getElem?_set_self hi] at h2;rw[List.getElem?_set_self hin] at h1;injection h1 with h1;injection h2 with h2;subst h1 h2;exact Own.go ho hI fun b hb=>F.keep b (ho.lt b hb).2 (ho.far h.f (by decide) hb)
 ·rcases Nat.decEq i a with hia | rfl
  ·rw[List.getElem?_set_ne hia] at ha;rcases Nat.decEq i b with hib | rfl
   ·rw[List.getElem?_set_ne hib] at hb;exact h.apart a b sa sb k ha hb ka kb
   ·rw[List.getElem?_set_self hin] at hb;injection hb with hb;subst hb;exact absurd (TabIs.inX (mg ha) ka) (hx k kb)
  ·rw[List.getElem?_set_self hin] at ha;injection ha with ha;subst ha;rcases Nat.decEq i b with hib | rfl
   ·rw[List.getElem?_set_ne hib] at hb;exact absurd (TabIs.inX (mg hb) kb) (hx k ka)
   ·rfl
 ·rcases List.mem_or_eq_of_mem_set hsk with hm | rfl
  ·exact h.fo sk k hm hk
  ·exact fun e=>hx k hk (.inr (.inr (.inr (.inr (.inl e)))))
theorem TabIs.setC (h:TabIs w B t S T) {p:Nat} (F:Fr (fun b=>b=t) w w') (hc:Bk w' t 420 ({ T with piv:=p }.cells S)):TabIs w' B t S { T with piv:=p }:=by
 have F':Fr (S.X t) w w':=F.wide fun b _ hb=>.inl hb
 have hI:=h.rv F';have hn:∀{ty:Nat} {cs:Array Value} {k:Nat},Bk w k ty cs→ty≠420→¬k=t:=fun hk ht e=>Bk.ne hk h.cell ht e
 refine⟨h.base,hc,Own.go h.b (fun _ _ e=>e) fun b hb=>F.keep b (h.b.lt b hb).2 ?_,Own.go h.n (fun _ _ e=>e) fun b hb=>F.keep b (h.n.lt b hb).2 ?_,Own.go h.f (fun _ _ e=>e) fun b hb=>F.keep b (h.f.lt b hb).2 ?_,
  Own.go h.o hI fun b hb=>F.keep b (h.o.lt b hb).2 ?_,h.len,fun j sj lj h1 h2=>Own.go (h.row j sj lj h1 h2) hI fun b hb=>F.keep b ((h.row j sj lj h1 h2).lt b hb).2 ?_,h.bn,h.apart,h.fo⟩
 ·obtain⟨c,hc⟩:=h.b.bk hb;exact hn hc (by decide)
 ·obtain⟨c,hc⟩:=h.n.bk hb;exact hn hc (by decide)
 ·obtain⟨c,hc⟩:=h.f.bk hb;exact hn hc (by decide)
 ·obtain⟨c,hc⟩:=h.o.bk hb;exact hn hc (by decide)
 ·obtain⟨c,hc⟩:=(h.row j sj lj h1 h2).bk hb;exact hn hc (by decide)
end
section
attribute [local go_sem] Oper.semAt_some
theorem Q.Sm.r31 {q:Q} (h:q.Sm):q.num < 2147483648∧q.den < 2147483648:=⟨nm h.num (by decide),nm h.den (by decide)⟩
theorem Q.Sm.r64 {q:Q} (h:q.Sm):q.num < 18446744073709551616∧q.den < 18446744073709551616:=⟨nm h.num (by decide),nm h.den (by decide)⟩
theorem Q.Sm.l6 {q:Q} (h:q.Sm):(limbs q.num).length≤1000000:=nt (un_len1 (nm h.num (by decide))) (by decide)
def cmpR (x y:Q):Int:=isg (Q.add x y.neg').neg (Q.add x y.neg').num
theorem r3neg_any (w:World) (a:Rv) (x:Q) (ha:a.Is w x) (hs:x.Sm):
  Calls Tryz.prog 185 #[a.v] w fun e w'=>∃r:Rv,e=.returned r.v∧r.Is w' x.neg'∧Gr w w':=by
 have X_r_p:=dnx (w.heap.size+1) (w.heap.size);simp only[Rv.v] at*;go_enter Tryz.func185,Tryz.ntmps185;go_upto_region 1 with fail;refine nw2h fun W HG D_p D_r=>?_
 have HA:=I ((ha).gr HG);clear ha;have p_:=D_p.c3;have N_p:=dnl (w.heap.size) (w.heap.size);have N_r:=dnl (w.heap.size) (w.heap.size+1);generalize w.heap.size+1=r at*;have fz_p:=D_p.frozen;go_upto_region 2 with fail;refine ks D_p fun w1 B5 F5=>?_
 replace HA:=I (HA.tf' F5 D_p);replace HG:=HG.fa F5 N_p;replace D_r:=F5.hb D_r X_r_p;replace D_p:=B5;clear B5 F5 p_ fz_p;have p_:=D_p.c3;go_wp2_with fail;have HA2:Hid (Rv.Is w1 ⟨!a.neg,a.num,a.den⟩ x.flip):=I ⟨by show (!a.neg)=!x.neg;rw[HA.neg],HA.num,HA.den⟩;refine cm1 (rcanon_any w1 ⟨!a.neg,a.num,a.den⟩ x.flip HA2 hs.r64.1 hs.r64.2) fun c w2 HC G=>?_
 replace D_r:=G.hb D_r;replace HG:=HG.tr G;clear p_ HA2;simp only[Rv.v];have z0_:=D_r.c3;have fz:=D_r.frozen;go_wp2;refine pex ?_;refine ks D_r fun W5 B5 F5=>?_
 have d_:=B5.c3;refine bret Tryz.results185 ?_;exact⟨c,rfl,HC.tf' F5 D_r,HG.fr_at F5 N_r⟩
theorem r3sub_any (w:World) (a b:Rv) (x y:Q) (ha:a.Is w x) (hb:b.Is w y) (hx:x.Ok) (hs:x.Sm) (ht:y.Sm) (hn:y.neg'.Sm):
  Calls Tryz.prog 126 #[a.v,b.v] w fun e w'=>∃r:Rv,e=.returned r.v∧r.Is w' (Q.add x y.neg')∧Gr w w':=by
 simp only[Rv.v] at*;go_enter Tryz.func126,Tryz.ntmps126;go_upto_region 1 with fail;refine nw3h fun W HG D_p D_q D_r=>?_
 have HA:=I ((ha).gr HG);have HB:=I ((hb).gr HG);clear ha hb;have p_:=D_p.c3;have q_:=D_q.c3;have N_r:=dnl (w.heap.size) (w.heap.size+1+1);generalize w.heap.size+1+1=r at*;generalize w.heap.size+1=q at*;refine wpr ?_;have kc:=I fun W' (G:Gr W.drew W')=>ai (G.kb D_p).c3 <| (G.kb D_q).c3
 refine wg 1 (tf 4 1) [0,1,2,3] [(2,Rv.At (y.neg')),(3,Rv.At (Q.add x y.neg'))] ?_;iterate 2 refine .tk ?_
 refine .dk (fun W1 G1 F1=>r3neg_any W1 b y (HB.gr G1.od) ht) ?_;rintro _ ⟨_,-,-,⟨n1,rfl,-⟩⟩;refine .dk (fun W1 G1 F1=>by have hn1:=lk F1 0;have hn1:=Rv.At.is hn1;exact r3add_any W1 a n1 x y.neg' (HA.gr G1.od) hn1 hx (quot_ok _ _ (Q.un_pos _)) hs.r31.1 hn.r31.1 hs.r31.2 hn.r31.2) ?_;rintro _ ⟨_,-,-,⟨c,rfl,-⟩⟩;refine .done fun W1 G1 F1=>?_
 have hn1:=lh F1 0;have hadd:=lh F1 1;replace kc:=kc.out W1 G1;clear F1 p_ q_;have GB:=G1.od;replace D_r:=GB.hb D_r;replace HG:=HG.tr GB;have HC:=I (hadd.is);clear GB G1 hn1 hadd kc;have fz5:=D_r.frozen;have r_:=D_r.c3;refine wo 4 ?_;refine wpe ?_;clear fz5;refine ks D_r fun w1 B5 F5=>?_
 replace HC:=I (HC.tf' F5 D_r);replace HG:=HG.fa F5 N_r;replace D_r:=B5;clear B5 F5 r_;have r_:=D_r.c3;go_wp2;refine pex ?_;refine bret Tryz.results126 ?_;exact⟨c,rfl,HC.out,HG.out⟩
theorem r3cmp_any (w:World) (a b:Rv) (x y:Q) (ha:a.Is w x) (hb:b.Is w y) (hx:x.Ok) (hs:x.Sm) (ht:y.Sm) (hn:y.neg'.Sm) (hd:(Q.add x y.neg').Sm):
  Calls Tryz.prog 74 #[a.v,b.v] w fun e w'=>e=.returned (.int .i64 (cmpR x y))∧Gr w w':=by
 simp only[Rv.v] at*;go_enter Tryz.func74,Tryz.ntmps74;go_upto_region 1 with fail;refine nw2h fun W HG D_p D_q=>?_
 have HA:=I ((ha).gr HG);have HB:=I ((hb).gr HG);clear ha hb;have p_:=D_p.c3;have q_:=D_q.c3;generalize w.heap.size+1=q at*;go_wp2_with fail;refine cm1 (r3sub_any W a b x y HA HB hx hs ht hn) fun c w1 HC G=>?_
 replace HG:=HG.tr G;clear p_ q_;simp only[Rv.v];go_wp2_with fail;refine cm0 (rsign_any w1 c _ HC hd.l6) fun w2 G=>?_
 replace HG:=HG.tr G

 go_wp2;go_ret;exact⟨rfl,HG.out⟩
theorem r3max_hi (w:World) (a b:Rv) (x y:Q) (ha:a.Is w x) (hb:b.Is w y) (hx:x.Ok) (hs:x.Sm) (ht:y.Sm) (hn:y.neg'.Sm) (hd:(Q.add x y.neg').Sm) (hc:0≤cmpR x y):
  Calls Tryz.prog 72 #[a.v,b.v] w fun e w'=>∃r:Rv,e=.returned r.v∧r.Is w' (canonQ x)∧Gr w w':=by
 simp only[Rv.v] at*;go_enter Tryz.func72,Tryz.ntmps72;go_upto_region 1 with fail;refine nw3h fun W HG D_p D_q D_r=>?_
 have HA:=I ((ha).gr HG);have HB:=I ((hb).gr HG);clear ha hb;have p_:=D_p.c3;have q_:=D_q.c3;have N_r:=dnl (w.heap.size) (w.heap.size+1+1);generalize w.heap.size+1+1=r at*;generalize w.heap.size+1=q at*;go_wp2_with fail;refine cm0 (r3cmp_any W a b x y HA HB hx hs ht hn hd) fun w1 G=>?_
 obtain⟨HA,D_p,D_q,D_r,HG⟩:=G.u5 HA D_p D_q D_r HG;clear p_ q_;have p_:=D_p.c3;have q_:=D_q.c3;have d1:decide ((0:Int)≤cmpR x y)=true:=dt hc;go_wp2_with fail;refine cm1 (rcanon_any w1 a x HA hs.r64.1 hs.r64.2) fun c w2 HC G=>?_
 replace D_r:=G.hb D_r;replace HG:=HG.tr G;clear p_ q_ d1;simp only[Rv.v];have z0_:=D_r.c3;have fz:=D_r.frozen;go_wp2;refine pex ?_;refine ks D_r fun W5 B5 F5=>?_
 have d_:=B5.c3;refine bret Tryz.results72 ?_;exact⟨c,rfl,HC.tf' F5 D_r,HG.fr_at F5 N_r⟩
theorem r3max_lo (w:World) (a b:Rv) (x y:Q) (ha:a.Is w x) (hb:b.Is w y) (hx:x.Ok) (hs:x.Sm) (ht:y.Sm) (hn:y.neg'.Sm) (hd:(Q.add x y.neg').Sm) (hc:cmpR x y < 0):
  Calls Tryz.prog 72 #[a.v,b.v] w fun e w'=>∃r:Rv,e=.returned r.v∧r.Is w' (canonQ y)∧Gr w w':=by
 simp only[Rv.v] at*;go_enter Tryz.func72,Tryz.ntmps72;go_upto_region 1 with fail;refine nw3h fun W HG D_p D_q D_r=>?_
 have HA:=I ((ha).gr HG);have HB:=I ((hb).gr HG);clear ha hb;have p_:=D_p.c3;have q_:=D_q.c3;have N_r:=dnl (w.heap.size) (w.heap.size+1+1);generalize w.heap.size+1+1=r at*;generalize w.heap.size+1=q at*;go_wp2_with fail;refine cm0 (r3cmp_any W a b x y HA HB hx hs ht hn hd) fun w1 G=>?_
 obtain⟨HB,D_p,D_q,D_r,HG⟩:=G.u5 HB D_p D_q D_r HG;clear p_ q_;have p_:=D_p.c3;have q_:=D_q.c3;have d1:decide ((0:Int)≤cmpR x y)=false:=df (by omega);go_wp2_with fail;refine cm1 (rcanon_any w1 b y HB ht.r64.1 ht.r64.2) fun c w2 HC G=>?_
 replace D_r:=G.hb D_r;replace HG:=HG.tr G;clear p_ q_ d1;simp only[Rv.v];have z0_:=D_r.c3;have fz:=D_r.frozen;go_wp2;refine pex ?_;refine ks D_r fun W5 B5 F5=>?_
 have d_:=B5.c3;refine bret Tryz.results72 ?_;exact⟨c,rfl,HC.tf' F5 D_r,HG.fr_at F5 N_r⟩
def maxR (x y:Q):Q:=if 0≤cmpR x y then canonQ x else canonQ y
theorem r3max_any (w:World) (a b:Rv) (x y:Q) (ha:a.Is w x) (hb:b.Is w y) (hx:x.Ok) (hs:x.Sm) (ht:y.Sm) (hn:y.neg'.Sm) (hd:(Q.add x y.neg').Sm):
  Calls Tryz.prog 72 #[a.v,b.v] w fun e w'=>∃r:Rv,e=.returned r.v∧r.Is w' (maxR x y)∧Gr w w':=by
 unfold maxR;by_cases h:0≤cmpR x y
 ·rw[if_pos h];exact r3max_hi w a b x y ha hb hx hs ht hn hd h
 ·rw[if_neg h];exact r3max_lo w a b x y ha hb hx hs ht hn hd (by omega)
theorem r3vall_any (w:World) (z:Sv) (l:List Q) (hz:Rats w z l) (hl:l.length≤1000) (hs:∀q∈l,q.Sm∧q.Ok):
  Calls Tryz.prog 124 #[.slice z.A z.n z.c] w fun e w'=>e=.returned (.bool true)∧Gr w w':=by
 obtain⟨zA,zn,zc⟩:=z;have hzn:l.length=zn:=hz.len;have HG:=I (Gr.refl w);have HZ:=I hz;have HS:=I hs;have HZN:=I hzn;clear hz hs hzn;go_enter Tryz.func124,Tryz.ntmps124;go_upto_region 1 with fail;have hz9:zn≤1000:=by have:=HZN.out;omega
 go_wp2_with fail;go_loopw [3] (fun s0 wr=>∃(j:Nat),s0=.int .i64 j∧j≤zn∧Hid (Gr w wr)) (fun j _=>zn - (intOf j).toNat)
 case atStart=>exact⟨0,rfl,nq _,HG⟩
 case round=>
  clear HG;obtain⟨j,rfl,hr1,HG⟩:=hrel;by_cases hin:j < zn
  ·obtain⟨q,hq⟩:∃q,l[j]?=some q:=⟨_,ge (by rw[HZN.out];exact hin)⟩;have HQ:=I (HS.out q (mg hq));obtain⟨a,ad,ha,hA,a0,a1,a2⟩:=Rats.at (Rows.gr (fun h G=>h.gr G) HZ HG) hq;simp only at hA;subst hA;have HA:=I ha;have hj9:j < 1000:=by omega
   clear ha hq;go_wp2_with fail;refine cm0 (r3valid_any wr a q HA HQ.2 HQ.1.r64.1 HQ.1.r64.2) fun w1 G=>?_
   replace HG:=HG.tr G;clear a0 a1 a2 HA HQ;go_wp2;go_roundw
   ·exact⟨j+1,by go_num,by omega,HG⟩
   ·simp[intOf];omega
  ·obtain rfl:j=zn:=by omega
   go_wp2;go_ret;exact⟨rfl,HG.out⟩
def coefT:List Tm→Int→Q
 | [],_=>Q.zero
 | t::r,v=>if t.1=v then t.2 else coefT r v
theorem lcopied_any (w:World) (a:Rv) (q:Q) (ha:a.Is w q) (h1:q.Sm):
  Calls Tryz.prog 494 #[a.v] w fun e w'=>∃r:Rv,e=.returned r.v∧r.Is w' q∧Gr w w':=by
 have L1:=I (nt h1.len (by decide:100000≤1000000));have L2:=I (nt (den_len h1.ul) (by decide:1≤1000000));clear h1;simp only[Rv.v,Fv.v] at*;go_enter Tryz.func494,Tryz.ntmps494;go_upto_region 1 with fail;refine nw2h fun W HG D_p D_r=>?_
 have HA:=I ((ha).gr HG);clear ha;have p_:=D_p.c3;have N_r:=dnl (w.heap.size) (w.heap.size+1);generalize w.heap.size+1=r at*;have M_m:Hid (∀W2,Gr W W2→Calls Tryz.prog 274 #[a.num.v] W2 fun e w'=>∃z:Sv,e=.returned z.v∧z.Num w' (limbs q.num)∧Gr W2 w'):=fun W2 G=>by
  have:=make_any W2 a.num _ (HA.num.gr G) L1;rw[vl] at this;exact this
 have M_n:Hid (∀W2,Gr W W2→Calls Tryz.prog 274 #[a.den.v] W2 fun e w'=>∃z:Sv,e=.returned z.v∧z.Num w' (limbs q.den)∧Gr W2 w'):=fun W2 G=>by
  have:=make_any W2 a.den _ (HA.den.gr G) L2;rw[vl] at this;exact this
 refine wpr ?_;have kc:=I fun W' (G:Gr W.drew W')=>(G.kb D_p).c3
 refine wg 1 (tf 9 1) [0,1,2,3,4,5,6,7,8] [(4,fun v W'=>∃z:Sv,v=z.v∧z.Num W' (limbs (q.num))),(7,fun v W'=>∃z:Sv,v=z.v∧z.Num W' (limbs (q.den)))] ?_;iterate 4 refine .tk ?_
 refine .dk (fun W1 G1 F1=>M_m.out W1 G1.od) ?_;rintro _ ⟨_,-,-,⟨m,rfl,-⟩⟩;iterate 2 refine .tk ?_
 refine .dk (fun W1 G1 F1=>M_n.out W1 G1.od) ?_;rintro _ ⟨_,-,-,⟨n,rfl,-⟩⟩;refine .tk ?_;refine .done fun W1 G1 F1=>?_
 have hm:=lh F1 0;have hn:=lh F1 1;replace kc:=kc.out W1 G1;clear F1 p_;have fm:=num_at hm;have fn:=num_at hn;have GB:=I G1.od;have HGG:=I (HG.trans GB);have HNG:=I HA.neg;have DR:=I (GB.bk D_r);clear HA HG D_r D_p M_m M_n kc;have hR5:=DR.out;refine wpAny_k 9 fun K hK=>?_
 have fz5:=hR5.frozen;have z50_:=hR5.c3;go_simp;refine hK.out _ _ ?_;clear hK K;refine ptt ?_;refine wpe ?_;obtain⟨B5,F5⟩:=hR5.put3 (.bool a.neg) m.v n.v;have H5:=I F5;have D5:=I B5;obtain⟨d0,d1,d2⟩:=B5.c3;clear F5 B5;generalize ((W1.setCell ⟨r,0,none⟩ (.bool a.neg)).setCell ⟨r,1,none⟩ m.v).setCell ⟨r,2,none⟩ n.v=W5 at*;go_wp2;refine pex ?_;refine bodyPost_ret (by simp[results,Tryz.results494,go_sem,d0,d1,d2];try rfl) rfl ?_;exact⟨⟨a.neg,m,n⟩,rfl,⟨HNG.out,fm.fr H5 DR (noLimb_rat _ _ _ _ _ _ _),fn.fr H5 DR (noLimb_rat _ _ _ _ _ _ _)⟩,HGG.fr_at H5 N_r⟩
theorem coef_any (w:World) (f:Fv) (x:Fm) (v:Int) (hf:f.Is w x) (hx:∀t∈x.terms,t.2.Sm):
  Calls Tryz.prog 491 #[f.v,.int .i64 v] w fun e w'=>∃r:Rv,e=.returned r.v∧r.Is w' (coefT x.terms v)∧Gr w w':=by
 obtain⟨⟨xA,xn,xc⟩,fc⟩:=f;have hxn:x.terms.length=xn:=hf.terms.len;have hm:xn≤9223372036854775807:=(by obtain⟨_,h1,_⟩:=hf.terms;exact nt h1.cap h1.max);have LX:=I hx;have HXN:=I hxn;have HM:=I hm;clear hx hxn hm;simp only[Rv.v,Fv.v] at*;go_enter Tryz.func491,Tryz.ntmps491;go_wp2_with fail;refine nw2h fun W HG D_p D_r=>?_
 have HF:=I ((hf.terms).gr HG);clear hf;have p_:=D_p.c4;have N_r:=dnl (w.heap.size) (w.heap.size+1);generalize w.heap.size+1=r at*;go_loopw [10] (fun s0 wr=>∃(k:Nat),s0=.int .i64 k∧k≤xn∧Hid (coefT (x.terms.drop k) v=coefT x.terms v)∧Hid (Terms wr ⟨xA,xn,xc⟩ x.terms)∧Hid (Gr w wr)∧Hid (Bk wr w.heap.size 40 #[.slice xA xn xc,.bool fc.neg,fc.num.v,fc.den.v])∧Hid (Bk wr r 38 Rl)) (fun i _=>xn - (intOf i).toNat)
 case atStart=>exact⟨0,rfl,nq _,rfl,HF,HG,D_p,D_r⟩
 case round=>
  clear HF HG D_p D_r p_;obtain⟨k,rfl,hr1,HC,HF,HG,D_p,D_r⟩:=hrel;by_cases hkn:k < xn
  ·obtain⟨s,hs⟩:∃s,x.terms[k]?=some s:=⟨_,ge (by rw[HXN.out];exact hkn)⟩;obtain⟨t,ad,ht,hA,d0,d1,d2,d3⟩:=HF.at hs;simp only at hA;subst hA;have hm9:k < 9223372036854775807:=nk hkn HM;have HSG:=I (LX.out s (mg hs));have HDR:Hid (x.terms.drop k=s::x.terms.drop (k+1)):=by rw[List.drop_eq_getElem?_toList_append,hs];exact rfl
   rw[HDR.out,coefT] at HC;have hvar:=ht.var;have HT:=I ht;clear hs ht;by_cases hv:s.1=v
   ·have e1:(t.var == v)=true:=by rw[hvar,hv];simp
    rw[if_pos hv] at HC;clear hvar hv HDR;go_upto_region 5 with fail;refine nw1 fun w1 GB D_tb=>?_
    obtain⟨HF,HT,D_p,D_r,HG⟩:=GB.u5 HF HT D_p D_r HG;clear GB;generalize wr.heap.size=tb at*;have tb_:=D_tb.c4;go_wp2_with fail;refine cm1 (lcopied_any w1 t.coef s.2 HT.coef HSG) fun i w2 HI G=>?_
    obtain⟨HF,D_p,D_r,D_tb,HG⟩:=G.u5 HF D_p D_r D_tb HG;clear tb_;have z0_:=D_r.c3;have fz:=D_r.frozen;go_wp2;refine pex ?_;refine ks D_r fun W5 B5 F5=>?_
    have d_:=B5.c3;refine bret Tryz.results491 ?_;exact⟨i,rfl,by rw[← HC.out];exact HI.tf' F5 D_r,HG.fr_at F5 N_r⟩
   ·have e1:(t.var == v)=false:=by rw[hvar];simpa using hv
    rw[if_neg hv] at HC;clear hvar hv HDR;go_upto_region 4 with fail;refine nw1 fun w1 GB D_tb=>?_
    obtain⟨HF,D_p,D_r,HG⟩:=GB.u4 HF D_p D_r HG;clear GB;generalize wr.heap.size=tb at*;have tb_:=D_tb.c4;go_wp2;go_roundw
    ·exact⟨k+1,by go_num,by omega,HC,HF,HG,D_p,D_r⟩
    ·simp[intOf];omega
  ·obtain rfl:k=xn:=by omega
   rw[List.drop_eq_nil_of_le (by rw[HXN.out];exact nr _)] at HC;have z0_:=D_r.c3;have fz:=D_r.frozen;go_wp2;refine pex ?_;refine ks D_r fun W5 B5 F5=>?_
   have d_:=B5.c3;refine bret Tryz.results491 ?_;exact⟨Rv.nil,rfl,by rw[← HC.out];exact Rv.Is.zero _,HG.fr_at F5 N_r⟩
def evalT (xs:List Q):Q→List Tm→Q
 | y,[]=>y
 | y,t::r=>evalT xs (Q.add y (Q.mul t.2 (xs.getD t.1.toNat Q.zero))) r
def EvalOk (xs:List Q):Q→List Tm→Prop
 | y,[]=>y.Sm
 | y,t::r=>y.Sm∧t.2.Sm∧0≤t.1∧t.1.toNat < xs.length∧(xs.getD t.1.toNat Q.zero).Sm∧(Q.mul t.2 (xs.getD t.1.toNat Q.zero)).Sm∧EvalOk xs (Q.add y (Q.mul t.2 (xs.getD t.1.toNat Q.zero))) r
theorem eval_any (w:World) (f:Fv) (x:Fm) (z:Sv) (xs:List Q) (hf:f.Is w x) (hz:Rats w z xs) (hx:EvalOk xs x.const x.terms):
  Calls Tryz.prog 159 #[f.v,z.v] w fun e w'=>∃r:Rv,e=.returned (.tuple #[r.v,.int .i64 0])∧r.Is w' (canonQ (evalT xs x.const x.terms))∧Gr w w':=by
 obtain⟨⟨xA,xn,xc⟩,fc⟩:=f;obtain⟨zA,zn,zc⟩:=z;have hxn:x.terms.length=xn:=hf.terms.len;have hm:xn≤9223372036854775807:=(by obtain⟨_,h1,_⟩:=hf.terms;exact nt h1.cap h1.max);have hzn:xs.length=zn:=hz.len;have HF:=I (hf.terms);have HZ:=I hz;have LX:=I hx;have HXN:=I hxn;have HM:=I hm;have HZN:=I hzn;clear hz hx hxn hm hzn;simp only[Rv.v,Fv.v] at*;go_enter Tryz.func159,Tryz.ntmps159;go_upto_region 1 with fail;refine nw2h fun W HG D_p D_r=>?_
 have HK:=I ((hf.const).gr HG);clear hf;have p_:=D_p.c4;have N_r:=dnl (w.heap.size) (w.heap.size+1);generalize w.heap.size+1=r at*;clear p_;have p_:=D_p.c4;have N_y:=HG.hs;have X_p_y:=D_p.nn;have X_r_y:=D_r.nn;go_upto_region 2 with fail;clear p_;refine nw1 fun w1 GB D_y=>?_
 obtain⟨HK,D_p,D_r,HG⟩:=GB.u4 HK D_p D_r HG;clear GB;generalize W.heap.size=y at*;have p_:=D_p.c4;go_wp2_with fail;go_loopw [5,14] (fun s0 s1 wr=>∃(k:Nat) (yv:Rv) (yq:Q),s0=.int .i64 0∧s1=.int .i64 k∧k≤xn∧Hid (evalT xs yq (x.terms.drop k)=evalT xs x.const x.terms)∧Hid (EvalOk xs yq (x.terms.drop k))∧Hid (yv.Is wr yq)∧Hid (Gr w wr)∧Hid (Bk wr w.heap.size 40 #[.slice xA xn xc,.bool fc.neg,fc.num.v,fc.den.v])∧Hid (Bk wr r 38 Rl)∧Hid (Bk wr y 38 yv.ar)) (fun _ i _=>xn - (intOf i).toNat)
 case atStart=>exact⟨0,fc,x.const,rfl,rfl,nq _,rfl,LX,HK,HG,D_p,D_r,D_y⟩
 case round=>
  clear HK HG D_p D_r D_y p_;obtain⟨k,yv,yq,rfl,rfl,hr2,HC,HO,HK,HG,D_p,D_r,D_y⟩:=hrel;by_cases hkn:k < xn
  ·obtain⟨s,hs⟩:∃s,x.terms[k]?=some s:=⟨_,ge (by rw[HXN.out];exact hkn)⟩;obtain⟨t,ad,ht,hA,d0,d1,d2,d3⟩:=(HF.gr HG).at hs;simp only at hA;subst hA;have hm9:k < 9223372036854775807:=nk hkn HM;rw[show x.terms.drop k=s::x.terms.drop (k+1) from by rw[List.drop_eq_getElem?_toList_append,hs];rfl,evalT] at HC;rw[show x.terms.drop k=s::x.terms.drop (k+1) from by rw[List.drop_eq_getElem?_toList_append,hs];rfl,EvalOk] at HO;obtain⟨o1,o2,o3,o4,o5,o6,o7⟩:=HO.out;obtain⟨q,hq⟩:∃q,xs[s.1.toNat]?=some q:=⟨_,ge o4⟩;rw[show xs.getD s.1.toNat Q.zero=q from by rw[List.getD_eq_getElem?_getD,hq];rfl] at*;have hvar:=ht.var;have O1:=I o1;have O2:=I o2;have O5:=I o5;have O6:=I o6;have O7:=I o7;obtain⟨j,hj⟩:∃j:Nat,(j:Int)=s.1:=⟨s.1.toNat,Int.toNat_of_nonneg o3⟩;rw[← hj] at hvar hq o4;rw[Int.toNat_natCast] at hq o4;have HQQ:=I hq;have hjn:j < zn:=by rw[← HZN.out];exact o4
   have HT:=I ht.coef;obtain⟨⟨tv,tc⟩,rfl⟩:∃t':Tv,t'=t:=⟨t,rfl⟩;simp only at hvar HT d0 d1 d2 d3;subst hvar;have e1:decide ((j:Int) < 0)=false:=by simp
   have e2:decide ((zn:Int)≤(j:Int))=false:=by simp;omega
   clear hs ht o1 o2 o3 o4 o5 o6 o7 hj hq HO;go_upto_region 5 with fail;refine nw1 fun w2 GB D_tb=>?_
   obtain⟨HK,HT,D_p,D_r,D_y,HG⟩:=GB.u6 HK HT D_p D_r D_y HG;clear GB;generalize wr.heap.size=tb at*;have tb_:=D_tb.c4;go_upto_region 7 with fail;obtain⟨g,ad2,hg,hA2,g0,g1,g2⟩:=(HZ.gr HG).at HQQ;simp only at hA2;subst hA2;have HGQ:=I hg;clear hg;clear tb_;have y_:=D_y.c3;have tb_:=D_tb.c4;refine wpr ?_;have kc:=I fun W' (G:Gr w2.drew W')=>ai (G.kb D_y).c3 <| ai (G.kb D_tb).c4 <| G.kk g0 <| G.kk g1 <| G.keep g2
   refine wg 1 (tf 10 1) [0,1,2,3,4,5,6,7,8,9] [(8,Rv.At (Q.mul s.2 q)),(9,Rv.At (Q.add yq (Q.mul s.2 q)))] ?_;iterate 8 refine .tk ?_
   refine .dk (fun W1 G1 F1=>rmul_any W1 tc g s.2 q (HT.gr G1.od) (HGQ.gr G1.od) O2.len O5.len (O2.two O5)) ?_;rintro _ ⟨_,-,-,⟨m,rfl,-⟩⟩;refine .dk (fun W1 G1 F1=>by have fm:=lk F1 0;exact radd_any W1 yv m yq (Q.mul s.2 q) (HK.gr G1.od) fm.is O1.len O6.len (O1.two O6)) ?_;rintro _ ⟨_,-,-,⟨n,rfl,-⟩⟩;refine .done fun W1 G1 F1=>?_
   have hm:=lh F1 0;have hn:=lh F1 1;replace kc:=kc.out W1 G1;clear F1 y_ tb_ g0 g1 g2;have GB:=G1.od;obtain⟨HK,D_p,D_r,D_y,HG⟩:=GB.u5 HK D_p D_r D_y HG;have HN:=I (hn.is);clear GB G1 hm hn kc;have fz5:=D_y.frozen;have y_:=D_y.c3;refine wo 10 ?_;refine wpe ?_;clear fz5;refine ks D_y fun w3 B5 F5=>?_
   replace HK:=I (HK.tf' F5 D_y);replace HN:=I (HN.tf' F5 D_y);replace HG:=HG.fa F5 N_y;replace D_p:=F5.hb D_p X_p_y;replace D_r:=F5.hb D_r X_r_y;replace D_y:=B5;clear B5 F5 y_;clear HT;clear HGQ;clear HK;go_wp2;go_roundw
   ·exact⟨k+1,n,Q.add yq (Q.mul s.2 q),rfl,by go_num,by omega,HC,O7,HN,HG,D_p,D_r,D_y⟩
   ·simp[intOf];omega
  ·obtain rfl:k=xn:=by omega
   rw[List.drop_eq_nil_of_le (by rw[HXN.out];exact nr _)] at HC HO;have O1:Hid yq.Sm:=HO.out;have HE:Hid (yq=evalT xs x.const x.terms):=HC.out;clear HC HO;have y_:=D_y.c3;go_wp2_with fail;refine cm1 (canon9_any wr yv yq HK O1) fun i w2 HI G=>?_
   replace D_r:=G.hb D_r;replace HG:=HG.tr G;clear y_;have z0_:=D_r.c3;have fz:=D_r.frozen;go_wp2;refine pex ?_;refine ks D_r fun W5 B5 F5=>?_
   have d_:=B5.c3;refine bret Tryz.results159 ?_;exact⟨i,rfl,by rw[← HE.out];exact HI.tf' F5 D_r,HG.fr_at F5 N_r⟩
end
end Go.Proofs.YtmhphnljfcncpaaGreatDoor
