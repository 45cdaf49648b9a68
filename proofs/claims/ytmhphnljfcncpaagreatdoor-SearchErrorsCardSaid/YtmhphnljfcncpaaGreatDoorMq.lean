/- Walks of the search and of what it calls, part 17. -/
import Derived.Test.YtmhphnljfcncpaaGreatDoorMp
set_option linter.unusedVariables false
set_option linter.unusedSimpArgs false
set_option maxRecDepth 100000
set_option maxHeartbeats 8000000
namespace Go.Proofs.YtmhphnljfcncpaaGreatDoor
open Go.RowKit
section
attribute [local go_sem] Oper.semAt_some
theorem sbegin1 (w:World) (q:Qv) (x:Qm) (hq:q.Is w x) (hx:x.Va):
  Calls Tryz.prog 16 #[.agg q.qs,.agg #[.int .i64 1,.int .i64 0,.bool false,.bool false,.int .i64 0,.int .i64 200,.int .i64 0]] w fun e w'=>∃r v:Nat,e=.returned (.tuple #[.pointer (some ⟨r,0,none⟩),.int .i64 0])∧w.heap.size≤r∧w.heap.size≤v∧Bk w' r 103 #[.int .i64 q.g.inputs,.slice q.g.units.A q.g.units.n q.g.units.c,.slice q.g.outs.A q.g.outs.n q.g.outs.c,.slice q.lo.A q.lo.n q.lo.c,.slice q.hi.A q.hi.n q.hi.c,.slice none 0 0,.slice q.goal.terms.A q.goal.terms.n q.goal.terms.c,.bool q.goal.const.neg,.slice q.goal.const.num.A q.goal.const.num.n q.goal.const.num.c,.slice q.goal.const.den.A q.goal.const.den.n q.goal.const.den.c,.int .i64 1,.int .i64 0,.bool false,.bool false,.int .i64 0,.int .i64 200,.int .i64 0,.iface 195 (.agg #[]),.pointer (some ⟨v,0,none⟩),.slice none 0 0,.pointer none,.int .i64 0,.int .i64 0,.int .i64 0,.pointer none]∧Bk w' v 129 #[.slice none 0 0,.int .i64 0,.int .i64 0,.bool false,.slice none 0 0,.slice none 0 0,.slice none 0 0,.bool false,.slice none 0 0,.slice none 0 0]∧Gr w w':=by
 change Hid _ at hq hx;go_enter Tryz.func16,Tryz.ntmps16;go_wp2_with fail;refine nw2hc fun W HG D_p0 D_o0=>?_
 have q0_:=D_p0.c10;obtain⟨o0,o1,o2,o3,o4,o5,o6⟩:=D_o0.c7;generalize w.heap.size+1=o0 at*;refine cm0 (get1_any W) fun w1 G1=>?_
 obtain⟨HG,D_p0,D_o0⟩:=G1.u3 HG D_p0 D_o0;clear q0_ o0 o1 o2 o3 o4 o5 o6;have q0_:=D_p0.c10;obtain⟨o0,o1,o2,o3,o4,o5,o6⟩:=D_o0.c7;go_wp2_with fail;refine cm0 (qvalid_any w1 ⟨q.g,q.lo,q.hi,Sv.none,q.goal⟩ x (hq.gr HG).nil hx) fun w2 G1=>?_
 obtain⟨HG,D_p0,D_o0⟩:=G1.u3 HG D_p0 D_o0;clear q0_ o0 o1 o2 o3 o4 o5 o6;have q0_:=D_p0.c10;obtain⟨o0,o1,o2,o3,o4,o5,o6⟩:=D_o0.c7;go_wp2;refine bret Tryz.results16 ?_;obtain⟨B1,B2,GB⟩:=made2 w2 129 103 #[Nl,.int .i64 0,.int .i64 0,.bool false,Nl,Nl,Nl,.bool false,Nl,Nl] #[.int .i64 q.g.inputs,q.g.units.v,q.g.outs.v,q.lo.v,q.hi.v,Nl,q.goal.terms.v,.bool q.goal.const.neg,q.goal.const.num.v,q.goal.const.den.v,.int .i64 1,.int .i64 0,.bool false,.bool false,.int .i64 0,.int .i64 200,.int .i64 0,.iface 195 (.agg #[]),.pointer (some ⟨w2.heap.size,0,none⟩),Nl,.pointer none,.int .i64 0,.int .i64 0,.int .i64 0,.pointer none];exact⟨w2.heap.size+1,w2.heap.size,rfl,Nat.le_succ_of_le HG.size,HG.size,B2,B1,HG.trans GB⟩
theorem sreverse0 (w:World):
  Calls Tryz.prog 41 #[Nl] w fun e w'=>e=.returned (.tuple #[])∧Gr w w':=by
 go_enter Tryz.func41,Tryz.ntmps41;go_wp2_with fail;refine wp_loop_rounds 1 ?_;rw[rounds_succ];go_wp2;refine pex ?_
 first | (refine bodyPost_ret (results_none rfl _ _ _) rfl ?_) | (refine bodyPost_end (results_none rfl _ _ _) rfl ?_)
 exact⟨rfl,Gr.refl w⟩
theorem sdepth1 (w W0:World) (q:Qv) (r v:Nat) (hq:q.Is w (exX Q.one)) (hn:q.g.units.n≤1024) (hg:Gr w W0) (hr:Bk W0 r 103 (q.sr v 0 0 (.pointer none))) (hrn:w.heap.size≤r) (hv:Bk W0 v 129 #[Nl,.int .i64 0,.int .i64 0,.bool false,Nl,Nl,Nl,.bool false,Nl,Nl]) (hvn:w.heap.size≤v):
  Calls Tryz.prog 17 #[.pointer (some ⟨r,0,none⟩)] W0 fun e w'=>∃z y:Sv,e=.returned (.tuple #[])∧Bk w' r 103 #[.int .i64 q.g.inputs,.slice q.g.units.A q.g.units.n q.g.units.c,.slice q.g.outs.A q.g.outs.n q.g.outs.c,.slice q.lo.A q.lo.n q.lo.c,.slice q.hi.A q.hi.n q.hi.c,.slice none 0 0,.slice q.goal.terms.A q.goal.terms.n q.goal.terms.c,.bool q.goal.const.neg,.slice q.goal.const.num.A q.goal.const.num.n q.goal.const.num.c,.slice q.goal.const.den.A q.goal.const.den.n q.goal.const.den.c,.int .i64 1,.int .i64 0,.bool false,.bool false,.int .i64 0,.int .i64 200,.int .i64 0,.iface 195 (.agg #[]),.pointer (some ⟨v,0,none⟩),.slice none 0 0,.pointer none,.int .i64 1,.int .i64 0,.int .i64 0,.pointer none]∧Bk w' v 129 #[.slice z.A z.n z.c,.int .i64 0,.int .i64 0,.bool false,.slice none 0 0,.slice none 0 0,.slice none 0 0,.bool false,.slice y.A y.n y.c,.slice none 0 0]∧Lems w' z exL∧Mults w' y exN∧Gr w w':=by
 have HG:=I hg;have HQ:=I hq;clear hq;go_enter Tryz.func17,Tryz.ntmps17;go_wp2_with fail;have D_r:=I hr;have N_r:=I hrn;have D_v:=I hv;have N_v:=I hvn;clear hg hr hrn hv hvn;have HS0:=I HG.size;refine (swhole0 W0 q r v D_r).mono ?_;rintro e w1 ⟨p,rfl,hpn,hp,G⟩;obtain⟨D_r,D_v,HG⟩:=G.u3 D_r D_v HG;clear G;have D_p:=I hp;have N_p:Hid (w.heap.size≤p):=I (nt HS0 hpn);clear hp hpn;obtain⟨B1,GB⟩:=made1 w1 72 #[.pointer (some ⟨p,0,none⟩)];have HS9:=HG.size;obtain⟨D_r,D_v,D_p,HG⟩:=GB.u4 D_r D_v D_p HG;have N_k:Hid (w.heap.size≤w1.heap.size):=I HS9;have D_k:=I B1;clear B1 GB HS9;go_wp2_with fail;refine wp_loop_rounds 2 ?_;rw[rounds_succ];generalize w1.alloc (.cells #[.pointer (some ⟨p,0,none⟩)] 72)=w9 at*;generalize w1.heap.size=k at*;have k_0:=D_k.c1;go_wp2_with fail;refine cm0 (sended0 w9 r (D_r.cell 22) (D_r.cell 23)) fun w3 G=>?_
 obtain⟨D_r,D_v,D_p,D_k,HG⟩:=G.u5 D_r D_v D_p D_k HG;clear k_0;have k_0:=D_k.c1;go_wp2_with fail;refine (streat1 w w3 q r p v k HQ hn HG D_r N_r D_v N_v D_p N_p D_k N_k).mono ?_;rintro e u1 ⟨z,y,rfl,h1,h2,h3,h4,h5,h6⟩;replace HG:=I h6;replace D_r:=I h1;replace D_k:=I h5;replace D_v:=I h2;have HZ:=I h3;have HY:=I h4;clear D_p h1 h2 h3 h4 h5 h6 k_0;have k_0:=D_k.c1;go_wp2_with fail;refine cm0 (sreverse0 u1) fun w4 G=>?_
 obtain⟨HZ,HY,D_r,D_v,D_k,HG⟩:=G.u6 HZ HY D_r D_v D_k HG;clear k_0;have k_0:=D_k.c1;go_wp2;rw[rounds_succ];go_wp2;refine pex ?_
 first | (refine bodyPost_ret (results_none rfl _ _ _) rfl ?_) | (refine bodyPost_end (results_none rfl _ _ _) rfl ?_)
 exact⟨z,y,rfl,D_r.out,D_v.out,HZ.out,HY.out,HG.out⟩
theorem sdepth2 (w W0:World) (q:Qv) (r v:Nat) (hq:q.Is w (exX exK)) (hn:q.g.units.n≤1024) (hg:Gr w W0) (hr:Bk W0 r 103 (q.sr v 0 0 (.pointer none))) (hrn:w.heap.size≤r) (hv:Bk W0 v 129 #[Nl,.int .i64 0,.int .i64 0,.bool false,Nl,Nl,Nl,.bool false,Nl,Nl]) (hvn:w.heap.size≤v):
  Calls Tryz.prog 17 #[.pointer (some ⟨r,0,none⟩)] W0 fun e w'=>∃(ib:Nat) (y:Sv),e=.returned (.tuple #[])∧Bk w' r 103 #[.int .i64 q.g.inputs,.slice q.g.units.A q.g.units.n q.g.units.c,.slice q.g.outs.A q.g.outs.n q.g.outs.c,.slice q.lo.A q.lo.n q.lo.c,.slice q.hi.A q.hi.n q.hi.c,.slice none 0 0,.slice q.goal.terms.A q.goal.terms.n q.goal.terms.c,.bool q.goal.const.neg,.slice q.goal.const.num.A q.goal.const.num.n q.goal.const.num.c,.slice q.goal.const.den.A q.goal.const.den.n q.goal.const.den.c,.int .i64 1,.int .i64 0,.bool false,.bool false,.int .i64 0,.int .i64 200,.int .i64 0,.iface 195 (.agg #[]),.pointer (some ⟨v,0,none⟩),.slice none 0 0,.pointer none,.int .i64 1,.int .i64 2,.int .i64 0,.pointer (some ⟨ib,0,none⟩)]∧Bk w' ib 31 #[.slice y.A y.n y.c]∧Rats w' y [ofQ (-1)]∧Gr w w':=by
 have HG:=I hg;have HQ:=I hq;clear hq;go_enter Tryz.func17,Tryz.ntmps17;go_wp2_with fail;have D_r:=I hr;have N_r:=I hrn;have D_v:=I hv;have N_v:=I hvn;clear hg hr hrn hv hvn;have HS0:=I HG.size;refine (swhole0 W0 q r v D_r).mono ?_;rintro e w1 ⟨p,rfl,hpn,hp,G⟩;obtain⟨D_r,D_v,HG⟩:=G.u3 D_r D_v HG;clear G;have D_p:=I hp;have N_p:Hid (w.heap.size≤p):=I (nt HS0 hpn);clear hp hpn;obtain⟨B1,GB⟩:=made1 w1 72 #[.pointer (some ⟨p,0,none⟩)];have HS9:=HG.size;obtain⟨D_r,D_v,D_p,HG⟩:=GB.u4 D_r D_v D_p HG;have N_k:Hid (w.heap.size≤w1.heap.size):=I HS9;have D_k:=I B1;clear B1 GB HS9;go_wp2_with fail;refine wp_loop_rounds 2 ?_;rw[rounds_succ];generalize w1.alloc (.cells #[.pointer (some ⟨p,0,none⟩)] 72)=w9 at*;generalize w1.heap.size=k at*;have k_0:=D_k.c1;go_wp2_with fail;refine cm0 (sended0 w9 r (D_r.cell 22) (D_r.cell 23)) fun w3 G=>?_
 obtain⟨D_r,D_v,D_p,D_k,HG⟩:=G.u5 D_r D_v D_p D_k HG;clear k_0;have k_0:=D_k.c1;go_wp2_with fail;refine (streat2 w w3 q r p v k HQ hn HG D_r N_r D_v N_v D_p N_p D_k N_k).mono ?_;rintro e u1 ⟨ib,y,rfl,h1,h2,h3,h4,h5⟩;replace HG:=I h5;replace D_r:=I h1;replace D_k:=I h4;have D_ib:=I h2;have HY:=I h3;clear D_v;clear D_p h1 h2 h3 h4 h5 k_0;have k_0:=D_k.c1;go_wp2_with fail;refine cm0 (sreverse0 u1) fun w4 G=>?_
 obtain⟨HY,D_r,D_ib,D_k,HG⟩:=G.u5 HY D_r D_ib D_k HG;clear k_0;have k_0:=D_k.c1;go_wp2;rw[rounds_succ];go_wp2;refine pex ?_
 first | (refine bodyPost_ret (results_none rfl _ _ _) rfl ?_) | (refine bodyPost_end (results_none rfl _ _ _) rfl ?_)
 exact⟨ib,y,rfl,D_r.out,D_ib.out,HY.out,HG.out⟩
theorem stree0 (w:World) (v:Nat) (z y:Sv) (hv:Bk w v 129 #[z.v,.int .i64 0,.int .i64 0,.bool false,Nl,Nl,Nl,.bool false,y.v,Nl]):
  Calls Tryz.prog 43 #[.pointer (some ⟨v,0,none⟩)] w fun e w'=>e=.returned (.agg #[.slice z.A z.n z.c,.int .i64 0,.int .i64 0,.bool false,.slice none 0 0,.slice none 0 0,.slice none 0 0,.bool false,.slice y.A y.n y.c])∧Gr w w':=by
 go_enter Tryz.func43,Tryz.ntmps43;go_upto_region 1 with fail;refine nw1h fun W HG D_t=>?_
 have HV:=I (HG.bk hv);clear hv;have N_t:=dnl (w.heap.size) (w.heap.size);obtain⟨B1,GB⟩:=made1 W 50 #[z.v,.int .i64 0,.int .i64 0,.bool false,Nl,Nl,Nl,.bool false,y.v];have n0_:=B1.c9;obtain⟨v0,v1,v2,v3,v4,v5,v6,v7,v8,v9⟩:=HV.c10;have w9:=GB.keep v9;have DT:=I (GB.bk D_t);have HG2:=I (HG.trans GB);have fz:=DT.frozen;have t9:=DT.c9;obtain⟨B5,F5⟩:=DT.put9 z.v (.int .i64 0) (.int .i64 0) (.bool false) Nl Nl Nl (.bool false) y.v;have H5:=I F5;obtain⟨d0,d1,d2,d3,d4,d5,d6,d7,d8⟩:=B5.c9;have hne:¬W.heap.size=w.heap.size:=fun e=>ni _ (e▸D_t.lt)
 clear F5 B5 B1 GB;go_wp2_with fail;refine wp_loop_rounds 1 ?_;rw[rounds_succ];obtain⟨t0,t1,t2,t3,t4,t5,t6,t7,t8⟩:=t9;go_wp2;generalize (((((((((W.alloc (.cells #[z.v,.int .i64 0,.int .i64 0,.bool false,Nl,Nl,Nl,.bool false,y.v] 50)).setCell ⟨w.heap.size,0,none⟩ z.v).setCell ⟨w.heap.size,1,none⟩ (.int .i64 0)).setCell ⟨w.heap.size,2,none⟩ (.int .i64 0)).setCell ⟨w.heap.size,3,none⟩ (.bool false)).setCell ⟨w.heap.size,4,none⟩ Nl).setCell ⟨w.heap.size,5,none⟩ Nl).setCell ⟨w.heap.size,6,none⟩ Nl).setCell ⟨w.heap.size,7,none⟩ (.bool false)).setCell ⟨w.heap.size,8,none⟩ y.v=W5 at*;refine pex ?_;refine bodyPost_ret (by simp[results,Tryz.results43,go_sem,d0,d1,d2,d3,d4,d5,d6,d7,d8];try rfl) rfl ?_;exact⟨rfl,HG2.fr_at H5 N_t⟩
theorem soutcome1 (w:World) (q:Qv) (r v ib:Nat) (z y:Sv) (hr:Bk w r 103 (q.sr v 1 0 (.pointer none))) (hv:Bk w v 129 #[z.v,.int .i64 0,.int .i64 0,.bool false,Nl,Nl,Nl,.bool false,y.v,Nl]):
  Calls Tryz.prog 18 #[.pointer (some ⟨r,0,none⟩)] w fun e w'=>e=.returned (.tuple #[.agg #[.int .i64 1,.slice z.A z.n z.c,.int .i64 0,.int .i64 0,.bool false,.slice none 0 0,.slice none 0 0,.slice none 0 0,.bool false,.slice y.A y.n y.c,.slice none 0 0,.int .i64 1],.int .i64 0])∧Gr w w':=by
 have HR:=I hr;have HV:=I hv;clear hr hv;go_enter Tryz.func18,Tryz.ntmps18;go_wp2_with fail;refine nw1hc fun W HG D_t=>?_
 have N_t:=dnl (w.heap.size) (w.heap.size);refine cm0 (ald_any W r 23 0 ((HG.bk HR).cell 23)) fun w1 G=>?_
 replace D_t:=G.hb D_t;replace HG:=HG.tr G

 go_upto_region 4 with fail;have HS9:=I HG.size;have L9_t:=I D_t.lt;refine wpr ?_;show wpAny _ _ _ _ 11 _ _ _;refine wg 1 (tf 10 1) [0,1,2,3,4,5,6,7,8,9] [(3,fun v _=>v=.int .i64 0),(7,fun v _=>v=.int .i64 1),(9,NewAt 52 #[.int .i64 0,Nl,.int .i64 0,.int .i64 0,.bool false,Nl,Nl,Nl,.bool false,Nl,Nl,.int .i64 0] w1.heap.size)] ?_;iterate 3 refine .tk ?_
 refine .dk (fun W1 G1 F1=>ald_any W1 r 22 0 ((G1.od.bk (HG.bk HR)).cell 22)) ?_;rintro _ ⟨_,-,-,rfl⟩;iterate 3 refine .tk ?_
 refine .dk (fun W1 G1 F1=>ald_any W1 r 21 1 ((G1.od.bk (HG.bk HR)).cell 21)) ?_;rintro _ ⟨_,-,-,rfl⟩;refine .tk ?_;refine .da ?_;rintro _ ⟨_,-,-,⟨ob,rfl,-,-⟩⟩;refine .done fun W1 G1 F1=>?_
 have hob:=lh F1 2;clear F1;have GB:=G1.od;replace D_t:=GB.hb D_t;replace HG:=HG.tr GB;have HAB9:=I (hob.is);clear GB G1 hob;obtain⟨hx1,hx2⟩:=HAB9.out;have D_ob:=I hx1;have N_ob:=I (nt HS9 hx2);have X_t_ob:=L9_t.nb hx2;clear hx1 hx2 HAB9 HS9 L9_t;refine wpAny_sw 10 D_ob fun w2 B5 F5=>?_
 refine wpe ?_;replace HG:=HG.fa F5 N_ob;replace D_t:=F5.hb D_t X_t_ob;replace D_ob:=B5;clear B5 F5;obtain⟨u1,hW9⟩:∃x,x=w2:=⟨_,rfl⟩;subst hW9;have ob_:=D_ob.c12;have r_18:u1.cell? ⟨r,18,none⟩=some (.pointer (some ⟨v,0,none⟩)):=(HG.bk HR).cell 18;go_wp2_with fail;refine cm0 (stree0 u1 v z y (HG.bk HV)) fun w3 G=>?_
 obtain⟨D_t,D_ob,HG⟩:=G.u3 D_t D_ob HG;clear ob_ r_18;have ob_:=D_ob.c12;have fz_ob:=D_ob.frozen;go_upto_region 10 with fail;refine ks D_ob fun w4 B5 F5=>?_
 replace HG:=HG.fa F5 N_ob;replace D_t:=F5.hb D_t X_t_ob;replace D_ob:=B5;clear B5 F5 ob_ fz_ob;have ob_:=D_ob.c12
 (repeat ((fail_if_success refine wpList_sw D_t ?_);go_step))
 refine wpList_sw D_t fun w5 B5 F5=>?_
 replace HG:=I (HG.fr_at F5 N_t);replace D_t:=B5;clear F5 ob_;have t_0:=D_t.ce 0;have t_1:=D_t.ce 1;have t_2:=D_t.ce 2;have t_3:=D_t.ce 3;have t_4:=D_t.ce 4;have t_5:=D_t.ce 5;have t_6:=D_t.ce 6;have t_7:=D_t.ce 7;have t_8:=D_t.ce 8;have t_9:=D_t.ce 9;have t_10:=D_t.ce 10;have t_11:=D_t.ce 11
 (repeat ((fail_if_success refine wp_ret ?_);go_step))
 refine wp_ret ?_;refine pex ?_;refine bodyPost_ret (by simp[results,Tryz.results18,go_sem,t_0,t_1,t_2,t_3,t_4,t_5,t_6,t_7,t_8,t_9,t_10,t_11];try rfl) rfl ?_;exact⟨rfl,HG.out⟩
theorem soutcome2 (w:World) (q:Qv) (r v ib:Nat) (z y:Sv) (hr:Bk w r 103 (q.sr v 1 2 (.pointer (some ⟨ib,0,none⟩)))) (hi:Bk w ib 31 #[y.v]):
  Calls Tryz.prog 18 #[.pointer (some ⟨r,0,none⟩)] w fun e w'=>e=.returned (.tuple #[.agg #[.int .i64 2,.slice none 0 0,.int .i64 0,.int .i64 0,.bool false,.slice none 0 0,.slice none 0 0,.slice none 0 0,.bool false,.slice none 0 0,.slice y.A y.n y.c,.int .i64 1],.int .i64 0])∧Gr w w':=by
 have HR:=I hr;have HI:=I hi;clear hr hi;go_enter Tryz.func18,Tryz.ntmps18;go_wp2_with fail;refine nw1hc fun W HG D_t=>?_
 have N_t:=dnl (w.heap.size) (w.heap.size);refine cm0 (ald_any W r 23 0 ((HG.bk HR).cell 23)) fun w1 G=>?_
 replace D_t:=G.hb D_t;replace HG:=HG.tr G

 go_upto_region 4 with fail;have HS9:=I HG.size;have L9_t:=I D_t.lt;refine wpr ?_;show wpAny _ _ _ _ 11 _ _ _;refine wg 1 (tf 10 1) [0,1,2,3,4,5,6,7,8,9] [(3,fun v _=>v=.int .i64 2),(7,fun v _=>v=.int .i64 1),(9,NewAt 52 #[.int .i64 0,Nl,.int .i64 0,.int .i64 0,.bool false,Nl,Nl,Nl,.bool false,Nl,Nl,.int .i64 0] w1.heap.size)] ?_;iterate 3 refine .tk ?_
 refine .dk (fun W1 G1 F1=>ald_any W1 r 22 2 ((G1.od.bk (HG.bk HR)).cell 22)) ?_;rintro _ ⟨_,-,-,rfl⟩;iterate 3 refine .tk ?_
 refine .dk (fun W1 G1 F1=>ald_any W1 r 21 1 ((G1.od.bk (HG.bk HR)).cell 21)) ?_;rintro _ ⟨_,-,-,rfl⟩;refine .tk ?_;refine .da ?_;rintro _ ⟨_,-,-,⟨ob,rfl,-,-⟩⟩;refine .done fun W1 G1 F1=>?_
 have hob:=lh F1 2;clear F1;have GB:=G1.od;replace D_t:=GB.hb D_t;replace HG:=HG.tr GB;have HAB9:=I (hob.is);clear GB G1 hob;obtain⟨hx1,hx2⟩:=HAB9.out;have D_ob:=I hx1;have N_ob:=I (nt HS9 hx2);have X_t_ob:=L9_t.nb hx2;clear hx1 hx2 HAB9 HS9 L9_t;refine wpAny_sw 10 D_ob fun w2 B5 F5=>?_
 refine wpe ?_;replace HG:=HG.fa F5 N_ob;replace D_t:=F5.hb D_t X_t_ob;replace D_ob:=B5;clear B5 F5;obtain⟨u1,hW9⟩:∃x,x=w2:=⟨_,rfl⟩;subst hW9;have ob_:=D_ob.c12;go_wp2_with fail;refine cm0 (pld_any u1 r 24 ib _ ((HG.bk HR).cell 24) (HG.bk HI)) fun w3 G=>?_
 obtain⟨D_t,D_ob,HG⟩:=G.u3 D_t D_ob HG;clear ob_;have ob_:=D_ob.c12;have i_0:=(HG.bk HI).c1;have fz_ob:=D_ob.frozen;go_upto_region 10 with fail;refine ks D_ob fun w4 B5 F5=>?_
 replace HG:=HG.fa F5 N_ob;replace D_t:=F5.hb D_t X_t_ob;replace D_ob:=B5;clear B5 F5 ob_ i_0 fz_ob;have ob_:=D_ob.c12
 (repeat ((fail_if_success refine wpList_sw D_t ?_);go_step))
 refine wpList_sw D_t fun w5 B5 F5=>?_
 replace HG:=I (HG.fr_at F5 N_t);replace D_t:=B5;clear F5 ob_;have t_0:=D_t.ce 0;have t_1:=D_t.ce 1;have t_2:=D_t.ce 2;have t_3:=D_t.ce 3;have t_4:=D_t.ce 4;have t_5:=D_t.ce 5;have t_6:=D_t.ce 6;have t_7:=D_t.ce 7;have t_8:=D_t.ce 8;have t_9:=D_t.ce 9;have t_10:=D_t.ce 10;have t_11:=D_t.ce 11
 (repeat ((fail_if_success refine wp_ret ?_);go_step))
 refine wp_ret ?_;refine pex ?_;refine bodyPost_ret (by simp[results,Tryz.results18,go_sem,t_0,t_1,t_2,t_3,t_4,t_5,t_6,t_7,t_8,t_9,t_10,t_11];try rfl) rfl ?_;exact⟨rfl,HG.out⟩
theorem search1 (w:World) (q:Qv) (hq:q.Is w (exX Q.one)):
  Calls Tryz.prog 8 #[.agg q.qs,.agg #[.int .i64 1,.int .i64 0,.bool false,.bool false,.int .i64 0,.int .i64 200,.int .i64 0]] w fun e w'=>∃z y:Sv,e=.returned (.tuple #[.agg #[.int .i64 1,.slice z.A z.n z.c,.int .i64 0,.int .i64 0,.bool false,.slice none 0 0,.slice none 0 0,.slice none 0 0,.bool false,.slice y.A y.n y.c,.slice none 0 0,.int .i64 1],.int .i64 0])∧Lems w' z exL∧Mults w' y exN∧Gr w w':=by
 have HQ:=I hq;clear hq;go_enter Tryz.func8,Tryz.ntmps8;go_wp2_with fail;refine nw3hc fun W HG D_p0 D_o0 D_t=>?_
 have p0_:=D_p0.c10;have o0_:=D_o0.c7;have N_t:=dnl (w.heap.size) (w.heap.size+1+1);generalize w.heap.size+1+1=t at*;generalize w.heap.size+1=o0 at*;have HX:=I (exX_va (k:=Q.one) (by kernel_rfl) (by decide));have HN:Hid (q.g.units.n≤1024):=I (by have h9:2=q.g.units.n:=HQ.g.units.len;omega);have HG0:=HG;have DT0:=D_t;refine (sbegin1 W q (exX Q.one) (HQ.gr HG) HX).mono ?_;rintro e w1 ⟨r,v,rfl,hr1,hv1,hr,hv,G⟩;replace D_t:=G.hb D_t;replace HG:=HG.tr G;have HR:=I hr;have HR1:=I hr1;have HV:=I hv;have HV1:=I hv1;have HB:=I G;clear G p0_ o0_ hr hv hr1 hv1;clear D_p0 D_o0;go_wp2_with fail;refine (sdepth1 W w1 q r v (HQ.gr HG0) HN HB HR HR1 HV HV1).mono ?_;rintro e u1 ⟨z,y,rfl,h1,h2,h3,h4,G⟩;replace HG:=I (HG0.trans G);replace D_t:=I (G.bk DT0);replace HR:=I h1;replace HV:=I h2;have HZ:=I h3;have HY:=I h4;clear h1 h2 h3 h4 G HB HR1 HV1 HG0 DT0;go_wp2_with fail;refine cm0 (soutcome1 u1 q r v 0 z y HR HV) fun w2 G=>?_
 obtain⟨HZ,HY,D_t,HG⟩:=G.u4 HZ HY D_t HG

 go_wp2_with (refine wpList_storeW rfl rfl rfl (b:=t) (c':=#[.int .i64 1,z.v,.int .i64 0,.int .i64 0,.bool false,Nl,Nl,Nl,.bool false,y.v,Nl,.int .i64 1]) rfl rfl D_t.out (by kernel_rfl) rfl (by simp[Value.oneCell']) ?_;intro w3 b5 f5;have B5:=I b5;have F5:=I f5;clear b5 f5);replace HZ:=I (HZ.stL F5 D_t);replace HY:=I (HY.stB F5 D_t);replace HG:=I (HG.fr_at F5 N_t);replace D_t:=B5;clear F5;have t_0:=D_t.ce 0;have t_1:=D_t.ce 1;have t_2:=D_t.ce 2;have t_3:=D_t.ce 3;have t_4:=D_t.ce 4;have t_5:=D_t.ce 5;have t_6:=D_t.ce 6;have t_7:=D_t.ce 7;have t_8:=D_t.ce 8;have t_9:=D_t.ce 9;have t_10:=D_t.ce 10;have t_11:=D_t.ce 11;go_wp2;refine pex ?_;refine bodyPost_ret (by simp[results,Tryz.results8,go_sem,t_0,t_1,t_2,t_3,t_4,t_5,t_6,t_7,t_8,t_9,t_10,t_11];try rfl) rfl ?_;exact⟨z,y,rfl,HZ.out,HY.out,HG.out⟩
theorem search2 (w:World) (q:Qv) (hq:q.Is w (exX exK)):
  Calls Tryz.prog 8 #[.agg q.qs,.agg #[.int .i64 1,.int .i64 0,.bool false,.bool false,.int .i64 0,.int .i64 200,.int .i64 0]] w fun e w'=>∃y:Sv,e=.returned (.tuple #[.agg #[.int .i64 2,.slice none 0 0,.int .i64 0,.int .i64 0,.bool false,.slice none 0 0,.slice none 0 0,.slice none 0 0,.bool false,.slice none 0 0,.slice y.A y.n y.c,.int .i64 1],.int .i64 0])∧Rats w' y [ofQ (-1)]∧Gr w w':=by
 have HQ:=I hq;clear hq;go_enter Tryz.func8,Tryz.ntmps8;go_wp2_with fail;refine nw3hc fun W HG D_p0 D_o0 D_t=>?_
 have p0_:=D_p0.c10;have o0_:=D_o0.c7;have N_t:=dnl (w.heap.size) (w.heap.size+1+1);generalize w.heap.size+1+1=t at*;generalize w.heap.size+1=o0 at*;have HX:=I (exX_va (k:=exK) (by kernel_rfl) (by decide));have HN:Hid (q.g.units.n≤1024):=I (by have h9:2=q.g.units.n:=HQ.g.units.len;omega);have HG0:=HG;have DT0:=D_t;refine (sbegin1 W q (exX exK) (HQ.gr HG) HX).mono ?_;rintro e w1 ⟨r,v,rfl,hr1,hv1,hr,hv,G⟩;replace D_t:=G.hb D_t;replace HG:=HG.tr G;have HR:=I hr;have HR1:=I hr1;have HV:=I hv;have HV1:=I hv1;have HB:=I G;clear G p0_ o0_ hr hv hr1 hv1;clear D_p0 D_o0;go_wp2_with fail;refine (sdepth2 W w1 q r v (HQ.gr HG0) HN HB HR HR1 HV HV1).mono ?_;rintro e u1 ⟨ib,y,rfl,h1,h2,h3,G⟩;replace HG:=I (HG0.trans G);replace D_t:=I (G.bk DT0);replace HR:=I h1;have HI:=I h2;have HY:=I h3;clear h1 h2 h3 G HB HR1 HV1 HG0 DT0 HV;go_wp2_with fail;refine cm0 (soutcome2 u1 q r v ib Sv.none y HR HI) fun w2 G=>?_
 obtain⟨HY,D_t,HG⟩:=G.u3 HY D_t HG

 go_wp2_with (refine wpList_storeW rfl rfl rfl (b:=t) (c':=#[.int .i64 2,Nl,.int .i64 0,.int .i64 0,.bool false,Nl,Nl,Nl,.bool false,Nl,y.v,.int .i64 1]) rfl rfl D_t.out (by kernel_rfl) rfl (by simp[Value.oneCell']) ?_;intro w3 b5 f5;have B5:=I b5;have F5:=I f5;clear b5 f5);replace HY:=I (HY.stR F5 D_t);replace HG:=I (HG.fr_at F5 N_t);replace D_t:=B5;clear F5;have t_0:=D_t.ce 0;have t_1:=D_t.ce 1;have t_2:=D_t.ce 2;have t_3:=D_t.ce 3;have t_4:=D_t.ce 4;have t_5:=D_t.ce 5;have t_6:=D_t.ce 6;have t_7:=D_t.ce 7;have t_8:=D_t.ce 8;have t_9:=D_t.ce 9;have t_10:=D_t.ce 10;have t_11:=D_t.ce 11;go_wp2;refine pex ?_;refine bodyPost_ret (by simp[results,Tryz.results8,go_sem,t_0,t_1,t_2,t_3,t_4,t_5,t_6,t_7,t_8,t_9,t_10,t_11];try rfl) rfl ?_;exact⟨y,rfl,HY.out,HG.out⟩
structure Qv.Iq (w:World) (q:Qv) (x:Qr):Prop where
 g:q.g.Is w x.g
 rg:Rgv.Is w ⟨q.lo,q.hi,q.rows⟩ x.rg
 goal:q.goal.Is w x.goal
theorem Qv.Iq.gr {w w':World} {q:Qv} {x:Qr} (h:q.Iq w x) (G:Gr w w'):q.Iq w' x:=⟨h.g.gr G,h.rg.gr G,h.goal.gr G⟩
theorem Qv.Iq.st {w w':World} {p t:Nat} {us:Array Value} {q:Qv} {x:Qr} (h:q.Iq w x) (F:Fr (fun b=>b=p) w w') (hb:Bk w p t us) (h0:t≠38:=by decide) (h1:t≠40:=by decide) (h2:t≠108:=by decide) (h3:t≠300:=by decide):q.Iq w' x:=
 ⟨h.g.st F hb h1 h2 h3,h.rg.st F hb h0 h1 h2 h3,h.goal.tf' F hb h2 h3⟩
theorem query_any (w:World) (p:Nat) (r:List Nat) (hf:Fd w p r):
  Calls Tryz.prog 14 #[.pointer (some ⟨p,0,none⟩)] w fun e w'=>∃q:Qv,e=.returned q.v∧q.Iq w' (queryQ r).1∧Fd w' p (queryQ r).2∧Fp p w w':=by
 have hok:=graphQ_ok r;have hn9:=hok.i9;have hu9:=hok.u9;clear hok;obtain⟨B1,G⟩:=made1 w 42 (#[.int .i64 0,Nl,Nl,Nl,Nl,Nl,Nl,.bool false,Nl,Nl]);have HG:=I G;have D_r:=I B1;clear G B1;have HFD:=I hf;clear hf;go_enter Tryz.func14,Tryz.ntmps14;go_wp2_with fail;generalize hW:w.alloc (.cells #[.int .i64 0,Nl,Nl,Nl,Nl,Nl,Nl,.bool false,Nl,Nl] 42)=W at*;clear hW;refine (graph_any W p r (HFD.gr HG)).mono ?_;rintro e w1 ⟨⟨gi,zu,zo⟩,rfl,hg,hd,hp⟩;have hgi:gi=((graphQ r).1.inputs:Int):=hg.inputs;subst hgi;have hzu:(graphQ r).1.units.length=zu.n:=hg.units.len;generalize hn0:(graphQ r).1.inputs=n at*;have HN0:=I hn0;have HZU:=I hzu;have hw:IntKind.i64.wrap ((n:Int)+(zu.n:Int))=((n+zu.n:Nat):Int):=by rw[wi _ (by omega)];omega
 have hv9:n+zu.n≤100:=by omega
 obtain⟨B1,GB⟩:=made1 w1 30 #[.int .i64 (n:Int),zu.v,zo.v];have GM1:=I (hg.gr GB);have D1:=I (hd.gr GB);have P1:=I ((HG.fp.trans hp).stp GB.fr (fun _ _ h=>h.elim));have R1:=I (GB.bk (D_r.fp hp (HFD.gr HG) (by decide)));have T1:=I B1;have a0_:=B1.c3;clear hg hd hp GB B1 D_r HFD HG hn0 hzu;simp only[Gv.v];go_upto_region 2 with fail;generalize w1.alloc (.cells #[.int .i64 (n:Int),zu.v,zo.v] 30)=W2 at*;generalize w1.heap.size=tg at*;generalize hrr:(graphQ r).2=r1 at*;have HR1:=I hrr;clear hrr;go_wp2_with fail;refine (region_any W2 p n r1 D1 (by omega)).mono ?_;rintro e w3 ⟨⟨zl,zh,zr⟩,rfl,hg,hd,hp⟩;obtain⟨B1,GB⟩:=made1 w3 33 #[zl.v,zh.v,zr.v];have RM0:=I ((hg.gr GB).gr (Gr.refl _).drew);have GM0:=I (((GM1.fp hp D1).gr GB).gr (Gr.refl _).drew);have D0:=I ((hd.gr GB).gr (Gr.refl _).drew);have P0:=I (((P1.trans hp).stp GB.fr (fun _ _ h=>h.elim)).stp (Gr.refl _).drew.fr (fun _ _ h=>h.elim));have R0:=I ((Gr.refl _).drew.bk (GB.bk (R1.fp hp D1 (by decide))));have T0:=I ((Gr.refl _).drew.bk (GB.bk (T1.fp hp D1 (by decide))));have U0:=I ((Gr.refl _).drew.bk B1);clear hg hd hp GB B1 a0_ GM1 D1 P1 R1 T1;simp only[Rgv.v];go_upto_region 3 with fail;generalize w3.alloc (.cells #[zl.v,zh.v,zr.v] 33)=W4 at*;generalize w3.heap.size=tr at*;generalize hrr:(regionQ n r1).2=rr at*;have HR2:=I hrr;clear hrr;have hS0:(fun W=>W.cell? ⟨tg,0,none⟩=some (.int .i64 (n:Int))∧W.cell? ⟨tg,1,none⟩=some zu.v∧W.cell? ⟨tg,2,none⟩=some zo.v∧W.cell? ⟨tr,0,none⟩=some zl.v∧W.cell? ⟨tr,1,none⟩=some zh.v∧W.cell? ⟨tr,2,none⟩=some zr.v) W4.drew:=⟨T0.c3.1,T0.c3.2.1,T0.c3.2.2,U0.c3.1,U0.c3.2.1,U0.c3.2.2⟩;refine wp_region_E (fun W=>W.cell? ⟨tg,0,none⟩=some (.int .i64 (n:Int))∧W.cell? ⟨tg,1,none⟩=some zu.v∧W.cell? ⟨tg,2,none⟩=some zo.v∧W.cell? ⟨tr,0,none⟩=some zl.v∧W.cell? ⟨tr,1,none⟩=some zh.v∧W.cell? ⟨tr,2,none⟩=some zr.v) (by kernel_rfl) ?_;show anyE _ _ _ _ 12 _ _ _;generalize W4.drew=v0 at*;refine anyE.tk 0 hS0 ?_;refine anyE.tk 1 hS0 ?_;refine anyE.tk 2 hS0 ?_;refine anyE.tk 3 hS0 ?_;refine anyE.tk 4 hS0 ?_;refine anyE.tk 5 hS0 ?_;refine anyE.tk 6 hS0 ?_;refine anyE.tk 7 hS0 ?_;refine anyE.tk 8 hS0 ?_;refine anyE.k 9 fun K hK=>?_
 refine doesAt_wp (K:=fun v W=>∃f:Fv,v=f.v∧f.Is W (formQ (n+zu.n) rr).1∧Fd W p (formQ (n+zu.n) rr).2∧Fp p v0 W) (doesAt_enter (f:=36) (args:=#[.pointer (some ⟨p,0,none⟩),.int .i64 ((n+zu.n:Nat):Int)]) (by go_simp;try (first | with_reducible rfl | rfl)) ((form_any _ p (n+zu.n) _ D0 (by omega)).mono ?_)) ?_
 ·rintro e w' ⟨f,rfl,hf,hd,hp⟩;exact⟨_,rfl,f,rfl,hf,hd,hp⟩
 rintro v v1 ⟨f,rfl,hf,hd,hp⟩;have F1:=I hf;have D1:=I hd;have GM1:=I (GM0.fp hp D0);have RM1:=I (RM0.fp hp D0);have P1:=I (P0.trans hp);have R1:=I (R0.fp hp D0 (by decide));have T1:=I (T0.fp hp D0 (by decide));have U1:=I (U0.fp hp D0 (by decide));clear hf hd hp D0 GM0 RM0 P0 R0 T0 U0 hS0;refine hK.out _ _ ⟨Or.inl (⟨T1.c3.1,T1.c3.2.1,T1.c3.2.2,U1.c3.1,U1.c3.2.1,U1.c3.2.2⟩),?_⟩;clear hK K;refine ptt ?_;have hS1:(fun W=>W.cell? ⟨tg,0,none⟩=some (.int .i64 (n:Int))∧W.cell? ⟨tg,1,none⟩=some zu.v∧W.cell? ⟨tg,2,none⟩=some zo.v∧W.cell? ⟨tr,0,none⟩=some zl.v∧W.cell? ⟨tr,1,none⟩=some zh.v∧W.cell? ⟨tr,2,none⟩=some zr.v) v1:=⟨T1.c3.1,T1.c3.2.1,T1.c3.2.2,U1.c3.1,U1.c3.2.1,U1.c3.2.2⟩;refine anyE.tk 10 hS1 ?_;clear hS1;refine anyE.k 11 fun K hK=>?_
 have fz5:=R1.frozen;have z50_:=R1.c10;go_simp;refine hK.out _ _ ⟨Or.inr (by kernel_rfl),?_⟩;clear hK K;refine ptt ?_;refine anyE.done (by kernel_rfl) ?_;clear fz5 z50_;refine ks R1 fun W5 B5 F5=>?_
 have H5:=I F5;have D5:=B5;obtain⟨d0,d1,d2,d3,d4,d5,d6,d7,d8,d9⟩:=B5.c10;clear F5 B5;go_wp2;refine pex ?_;refine bodyPost_ret (by simp[results,Tryz.results14,go_sem,d0,d1,d2,d3,d4,d5,d6,d7,d8,d9];try rfl) rfl ?_;have HQ:queryQ r=(⟨(graphQ r).1,(regionQ n r1).1,(formQ (n+zu.n) rr).1⟩,(formQ (n+zu.n) rr).2):=by
  unfold queryQ;rw[HN0.out,HZU.out,HR1.out,HR2.out]
 rw[HQ];exact⟨⟨⟨n,zu,zo⟩,zl,zh,zr,f⟩,rfl,⟨GM1.st H5 R1,RM1.st H5 R1,F1.tf' H5 R1⟩,D1.st H5 R1,P1.stp H5 (fun b _ e=>Or.inr (by rw[e];exact nr _))⟩
theorem instance_any (w:World) (x:Sv) (L:List Nat) (hx:x.Is w 1 (L.map bv)) (hl:∀y∈L,y < 256) (hn:x.n≤1000):
  Calls Tryz.prog 7 #[x.v] w fun e w'=>∃q:Qv,e=.returned q.v∧q.Iq w' (queryQ L).1∧Gr w w':=by
 change Hid _ at hx hl;go_enter Tryz.func7,Tryz.ntmps7;go_wp2_with fail;refine nw1hc fun W HG D_r=>?_
 have N_r:=dnl (w.heap.size) (w.heap.size);refine (new_any W x L (hx.gr HG) hl hn).mono ?_;rintro e w1 ⟨p,rfl,hp,hd,G1⟩;have HD:=I hd;have DR:=I (G1.bk D_r);have HG1:=I (HG.trans G1);have HPO:=I (nt HG.size hp);clear hp hd G1;go_wp2_with fail;refine (query_any w1 p L HD).mono ?_;rintro e w2 ⟨q,rfl,hg,hd,hp⟩;have DR2:=I (DR.fp hp HD (by decide));have HGG:=I (HG1.step hp (fun b _ e=>by rw[e];exact HPO.out));have HV:=I hg;clear hg hd hp;have z0_:=DR2.c10;have fz:=DR2.frozen;go_wp2;refine pex ?_;refine ks DR2 fun W5 B5 F5=>?_
 have d_:=B5.c10;refine bret Tryz.results7 ?_;exact⟨q,rfl,HV.st F5 DR2,HGG.fr_at F5 N_r⟩
theorem wclo_any (w:World) (f:Fv) (x:Fm) (vars:Nat) (b:Nat) (hf:f.Is w x) (hx:x.Sm vars) (hb:Bk w b 3 #[.int .i64 vars]):
  Calls Tryz.prog 135 #[f.v,.pointer (some ⟨b,0,none⟩)] w fun e w'=>e=.returned (.bool false)∧Gr w w':=by
 obtain⟨B1,G⟩:=made1 w 40 (f.ar);have HG:=I G;have D_p:=I B1;clear G B1;change Hid _ at hf hx;have v0:=(HG.bk hb).cell 0;have a0_:=D_p.c4;clear hb;simp only[Fv.v] at*;go_enter Tryz.func135,Tryz.ntmps135;go_wp2_with fail;generalize hW:w.alloc (.cells f.ar 40)=W at*;clear hW;go_at_call 86
 refine cm0 (lvalid_any W f x vars (hf.gr HG) hx.ok (fun t ht=>(hx.num t ht).lo) hx.const.lo) fun w1 G1=>?_
 replace HG:=HG.tr G1

 go_wp2;go_ret;exact⟨rfl,HG.out⟩
theorem widx_any (w:World) (l:Sv) (xs:List Fm) (vars:Nat) (b:Nat) (hl:Forms w l xs) (hx:∀x∈xs,x.Sm vars) (hb:Bk w b 3 #[.int .i64 vars]):
  Calls Tryz.prog 195 #[.slice l.A l.n l.c,.func (.func 135) #[] #[.pointer (some ⟨b,0,none⟩)]] w fun e w'=>e=.returned (.int .i64 (-1))∧Gr w w':=by
 obtain⟨A,n,c⟩:=l;have hn:xs.length=n:=hl.len;have hm:n≤9223372036854775807:=(by obtain⟨_,h1,_⟩:=hl;exact nt h1.cap h1.max);have HL:=I hl;have HX:=I hx;have HB:=I hb;have HN:=I hn;have HM:=I hm;clear hl hx hb hn hm;go_enter Tryz.func195,Tryz.ntmps195;go_wp2_with fail;go_loopw [8] (fun i wr=>∃k:Nat,i=.int .i64 k∧k≤n∧Hid (Gr w wr)) (fun i _=>n - (intOf i).toNat)
 case atStart=>exact⟨0,rfl,nq _,Gr.refl w⟩
 case round=>
  obtain⟨k,rfl,hk,HG⟩:=hrel;by_cases hkn:k < n
  ·obtain⟨q,hq⟩:∃q,xs[k]?=some q:=⟨_,ge (by rw[HN.out];exact hkn)⟩;obtain⟨f,ad,hf,hA,d0,d1,d2,d3⟩:=(HL.gr HG).at hq;simp only at hA;subst hA;have hm9:k < 9223372036854775807:=nk hkn HM;have HC:=I (wclo_any wr f q vars b hf (HX.out q (mg hq)) (HG.bk HB));clear hq hf;simp only[Fv.v] at HC;go_wp2_with fail;refine cm0 HC fun w1 G1=>?_
   have HG1:=I (HG.trans G1);clear HC;go_wp2;go_roundw
   ·exact⟨k+1,by go_num,by omega,HG1⟩
   ·simp[intOf];omega
  ·obtain rfl:k=n:=by omega
   go_wp2;go_ret;exact⟨rfl,HG.out⟩
theorem wcon_any (w:World) (l:Sv) (xs:List Fm) (vars:Nat) (b:Nat) (hl:Forms w l xs) (hx:∀x∈xs,x.Sm vars) (hb:Bk w b 3 #[.int .i64 vars]):
  Calls Tryz.prog 134 #[l.v,.func (.func 135) #[] #[.pointer (some ⟨b,0,none⟩)]] w fun e w'=>e=.returned (.bool false)∧Gr w w':=by
 have H1:=I (widx_any w l xs vars b hl hx hb);clear hl hx hb;go_enter Tryz.func134,Tryz.ntmps134;go_wp2_with fail;refine cm0 H1 fun w1 G1=>?_
 have HG:=I G1;clear H1;go_wp2;go_ret;exact⟨rfl,HG.out⟩
structure Qr.Va (x:Qr):Prop where
 g:x.g.Va
 lo:x.rg.lo.length=x.g.inputs
 hi:x.rg.hi.length=x.g.inputs
 los:∀q∈x.rg.lo,q.Sm∧q.Ok
 his:∀q∈x.rg.hi,q.Sm∧q.Ok
 rows:∀f∈x.rg.rows,f.Sm x.g.inputs
 rn:x.rg.rows.length≤256
 goal:x.goal.Sm (x.g.inputs+x.g.units.length)
theorem abs_qt {q:Q} (h:q.Qt):q.abs.Dy 64:=by
 have hd:=h.dy;exact⟨⟨hd.ok.one,hd.ok.cop,fun h0=>⟨rfl,(hd.ok.pos h0).2⟩⟩,hd.un,hd.num⟩
theorem boxQ_va:∀(n:Nat) (r:List Nat),(boxQ n r).1.1.length=n∧(boxQ n r).1.2.length=n∧(∀q∈(boxQ n r).1.1,q.Sm∧q.Ok)∧(∀q∈(boxQ n r).1.2,q.Sm∧q.Ok)
 | 0,r=>⟨rfl,rfl,(fun q h=>by cases h),(fun q h=>by cases h)⟩
 | n+1,r=>by
  rw[boxQ_succ];obtain⟨h1,h2,h3,h4⟩:=boxQ_va n (numQ (numQ r).2).2;have ha:=(numQ_qt r).dy;have hb:=abs_qt (numQ_qt (numQ r).2);have hs:=ha.add hb;refine⟨by simp[h1],by simp[h2],fun q hq=>?_,fun q hq=>?_⟩
  ·rcases List.mem_cons.1 hq with rfl | h
   ·exact⟨ha.sm (by decide),ha.ok⟩
   ·exact h3 q h
  ·rcases List.mem_cons.1 hq with rfl | h
   ·exact⟨hs.sm (by decide),hs.ok⟩
   ·exact h4 q h
theorem outsQ_va (v:Nat):∀(n:Nat) (r:List Nat),(outsQ n v r).1.length=n∧∀f∈(outsQ n v r).1,f.Sm v
 | 0,r=>⟨rfl,fun f h=>by cases h⟩
 | n+1,r=>by
  obtain⟨h1,h2⟩:=outsQ_va v n (formQ v r).2;refine⟨by show (outsQ n v (formQ v r).2).1.length+1=n+1;rw[h1],fun f hf=>?_⟩;rcases List.mem_cons.1 (show f∈(formQ v r).1::(outsQ n v (formQ v r).2).1 from hf) with rfl | h
  ·exact (formQ_small v r).sm
  ·exact h2 f h
theorem nx3_lt (r:List Nat):(nx 3 r).1≤2:=by
 unfold nx;split
 ·simp
 ·simp;omega
theorem queryQ_va (r:List Nat):(queryQ r).1.Va:=by
 have hg:=(queryQ_ok r).va;obtain⟨h1,h2,h3,h4⟩:=boxQ_va (graphQ r).1.inputs (graphQ r).2;have h5:=outsQ_va (graphQ r).1.inputs (nx 3 (boxQ (graphQ r).1.inputs (graphQ r).2).2).1 (nx 3 (boxQ (graphQ r).1.inputs (graphQ r).2).2).2;have h6:=nx3_lt (boxQ (graphQ r).1.inputs (graphQ r).2).2;exact⟨hg,h1,h2,h3,h4,h5.2,by show (outsQ _ _ _).1.length≤256;rw[h5.1];omega,(formQ_small _ _).sm⟩
theorem rgw_any (w:World) (lo hi rw9:Sv) (l h:List Q) (rs:List Fm) (n:Nat) (hl:Rats w lo l) (hh:Rats w hi h) (hr:Forms w rw9 rs) (h1:1≤n) (h2:n≤256) (hln:l.length=n) (hhn:h.length=n) (hls:∀q∈l,q.Sm∧q.Ok) (hhs:∀q∈h,q.Sm∧q.Ok) (hrs:∀f∈rs,f.Sm n) (hrn:rs.length≤256):
  Calls Tryz.prog 85 #[.agg #[lo.v,hi.v,rw9.v],.int .i64 n] w fun e w'=>∃b:Bool,e=.returned (.bool b)∧Gr w w':=by
 have e1:=Rats.len hl;have e2:=Rats.len hh;have e3:rs.length=rw9.n:=hr.len;obtain⟨lA,ln,lc⟩:=lo;obtain⟨hA,hn,hc⟩:=hi;obtain⟨zA,zn,zc⟩:=rw9;simp only at e1 e2 e3;obtain rfl:ln=n:=by omega
 obtain rfl:hn=ln:=by omega
 have n0:decide ((hn:Int) < 1)=false:=df (by omega);have n1:decide ((256:Int) < (hn:Int))=false:=df (by omega);have n4:decide ((256:Int) < (zn:Int))=false:=df (by omega);have n5:decide (256 < zn)=false:=df (by omega);have m0:decide (hn < 1)=false:=df (by omega);have m1:decide (256 < hn)=false:=df (by omega);clear e1 e2 e3;have HL:=I hl;have HH:=I hh;have HR:=I hr;change Hid _ at hln hhn hls hhs hrs;clear hl hh hr hrn;go_enter Tryz.func85,Tryz.ntmps85;go_upto_region 1 with fail;refine nw2h fun W HG D_a D_ib=>?_
 have a_:=D_a.c3;have ib_0:=D_ib.c1;generalize w.heap.size+1=ib at*;have a_:=D_a.c3;have ib_0:=D_ib.c1;go_wp2_with fail;go_loopw [36] (fun s0 wr=>∃(k:Nat),s0=.int .i64 k∧k≤hn∧Hid (Gr w wr)∧Hid (Bk wr w.heap.size 33 #[.slice lA hn lc,.slice hA hn hc,.slice zA zn zc])∧Hid (Bk wr ib 3 #[.int .i64 hn])) (fun k _=>hn - (intOf k).toNat)
 case atStart=>exact⟨0,rfl,nq _,HG,D_a,D_ib⟩
 case round=>
  clear HG D_a D_ib a_ ib_0;obtain⟨k,rfl,hr1,HG,D_a,D_ib⟩:=hrel;by_cases hkn:k < hn
  ·obtain⟨x,hx⟩:∃x,l[k]?=some x:=⟨_,ge (by rw[hln.out];exact hkn)⟩;obtain⟨y,hy⟩:∃y,h[k]?=some y:=⟨_,ge (by rw[hhn.out];exact hkn)⟩;have HYY:=I hy;obtain⟨t,ad,ht,hA1,d0,d1,d2⟩:=(HL.gr HG).at hx;simp only at hA1;subst hA1;have HT:=I ht;have HX:=I (hls.out x (mg hx));have HY:=I (hhs.out y (mg hy));have hm9:k < 9223372036854775807:=by omega
   clear hx hy ht;go_upto_region 6 with fail;clear d0 d1 d2;refine nw1 fun w1 GB D_vb=>?_
   obtain⟨HT,D_a,D_ib,HG⟩:=GB.u4 HT D_a D_ib HG;clear GB;generalize wr.heap.size=vb at*;obtain⟨s,bd,hs,hA2,e0,e1,e2⟩:=(HH.gr HG).at HYY;simp only at hA2;subst hA2;have HS:=I hs;clear hs;have vb_:=D_vb.c3;have a_:=D_a.c3;refine wpr ?_;have kc:=I fun W' (G:Gr w1.drew W')=>ai (G.kb D_vb).c3 <| ai (G.kb D_a).c3 <| G.kk e0 <| G.kk e1 <| G.keep e2
   refine wg 0 (tf 22 0) [0,1,2,3,4,5,6,7,8,9,10,11,12,13,14,15,16,17,18,19,20,21] [(1,fun v _=>v=.bool true),(9,fun v _=>v=.bool true),(19,fun v _=>v=.int .i64 (Q.cmpQ x y))] ?_;refine .tk ?_;refine .dk (fun W1 G1 F1=>rvalid_any W1 t x (HT.gr G1.od) HX.2 (nt HX.1.lo.num (by decide)) (nj HX.1.lo.den (by decide))) ?_;rintro _ ⟨_,-,-,rfl⟩;iterate 7 refine .tk ?_
   refine .dk (fun W1 G1 F1=>rvalid_any W1 s y (HS.gr G1.od) HY.2 (nt HY.1.lo.num (by decide)) (nj HY.1.lo.den (by decide))) ?_;rintro _ ⟨_,-,-,rfl⟩;iterate 9 refine .tk ?_
   refine .dk (fun W1 G1 F1=>rcmp3_any W1 t s x y (HT.gr G1.od) (HS.gr G1.od) (nt HX.1.lo.num (by decide)) (nt HY.1.lo.num (by decide)) (nj HX.1.lo.den (by decide)) (nj HY.1.lo.den (by decide))) ?_;rintro _ ⟨_,-,-,rfl⟩;iterate 2 refine .tk ?_
   refine .done fun W1 G1 F1=>?_
   clear F1;refine wpe ?_;have GB:=G1.od;obtain⟨D_a,D_ib,HG⟩:=GB.u3 D_a D_ib HG;clear GB G1 kc vb_ a_ e0 e1 e2;clear HT;clear HS;cases hcb:decide (0 < Q.cmpQ x y) with
   | true=>
    go_wp2;go_ret;exact⟨false,rfl,HG.out⟩
   | false=>
    go_wp2;go_roundw
    ·exact⟨k+1,by go_num,by omega,HG,D_a,D_ib⟩
    ·simp[intOf];omega
  ·obtain rfl:k=hn:=by omega
   have a_:=D_a.c3;go_wp2_with fail;refine cm0 (wcon_any wr ⟨zA,zn,zc⟩ rs k ib (Forms.gr HR HG) hrs D_ib) fun w1 G=>?_
   replace HG:=HG.tr G;clear a_;go_wp2;go_ret;exact⟨true,rfl,HG.out⟩
theorem qvalidw_any (w:World) (q:Qv) (x:Qr) (hq:q.Iq w x) (hx:x.Va):
  Calls Tryz.prog 38 #[q.v] w fun e w'=>∃b:Bool,e=.returned (.bool b)∧Gr w w':=by
 have hin:=hq.g.inputs;have hun:=hq.g.units.len;obtain⟨⟨gi,gu,go_⟩,lo,hi,rw9,goal⟩:=q;simp only at hin hun;subst hin;change Hid _ at hq hx;have HUN:=I hun;clear hun;go_enter Tryz.func38,Tryz.ntmps38;go_upto_region 1 with fail;refine nw1h fun W HG D_a=>?_
 have a_:=D_a.c10;have a_:=D_a.c10;go_wp2_with fail;refine cm0 (gvalid_any W ⟨x.g.inputs,gu,go_⟩ x.g (hq.gr HG).g hx.g) fun w1 G=>?_
 replace D_a:=G.hb D_a;replace HG:=HG.tr G;clear a_;have a_:=D_a.c10;go_wp2_with fail;refine (rgw_any w1 lo hi rw9 x.rg.lo x.rg.hi x.rg.rows x.g.inputs (hq.gr HG).rg.lo (hq.gr HG).rg.hi (hq.gr HG).rg.rows hx.g.i0 hx.g.i9 hx.lo hx.hi hx.los hx.his hx.rows hx.rn).mono ?_;rintro e w2 ⟨b9,rfl,G⟩;replace D_a:=G.hb D_a;replace HG:=HG.tr G;clear G a_;have a_:=D_a.c10;obtain⟨vs,hvs⟩:∃vs:Nat,vs=x.g.inputs+gu.n:=⟨_,rfl⟩;have hw:IntKind.i64.wrap ((x.g.inputs:Int)+(gu.n:Int))=(vs:Int):=by have h1:=hx.g.i9;have h2:=hx.g.u9;rw[HUN.out] at h2;rw[wi _ (by omega)];omega
 have HV:Hid (vs=x.g.inputs+x.g.units.length):=by rw[HUN.out];exact hvs
 clear hvs;cases b9 with
 | false=>
  go_wp2;go_ret;exact⟨false,rfl,HG.out⟩
 | true=>
  go_wp2_with fail;refine cm0 (lvalid_any w2 goal x.goal vs (hq.gr HG).goal (by rw[HV.out];exact hx.goal.ok) (fun t ht=>(hx.goal.num t ht).lo) hx.goal.const.lo) fun w3 G=>?_
  replace HG:=HG.tr G;clear a_;go_wp2;go_ret;exact⟨true,rfl,HG.out⟩
def OptOk (d r b n k:Int):Prop:=0≤d∧d≤2∧0≤r∧r≤3∧0≤b∧b≤4096∧1≤n∧n≤65536∧0≤k∧k≤16
theorem sboth (w:World):
  Calls Tryz.prog 83 #[.iface 193 (.agg #[]),.iface 195 (.agg #[])] w fun e w'=>∃v,e=.returned v∧Gr w w':=by
 go_enter Tryz.func83,Tryz.ntmps83;go_wp2;refine pex ?_;refine bret Tryz.results83 ?_;exact⟨_,rfl,Gr.refl w⟩
theorem sgetok (w:World) (d:Int) (h0:0≤d) (h2:d≤2):
  Calls Tryz.prog 37 #[.int .i64 d] w fun e w'=>∃v,e=.returned (.tuple #[v,.bool true])∧Gr w w':=by
 have h9:d=0∨d=1∨d=2:=by omega
 clear h0 h2;rcases h9 with rfl | rfl | rfl
 ·go_enter Tryz.func37,Tryz.ntmps37;go_wp2;refine bret Tryz.results37 ?_;exact⟨_,rfl,Gr.refl w⟩
 ·go_enter Tryz.func37,Tryz.ntmps37;go_wp2;refine bret Tryz.results37 ?_;exact⟨_,rfl,Gr.refl w⟩
 ·go_enter Tryz.func37,Tryz.ntmps37;go_wp2_with fail;refine (sboth w).mono ?_;rintro e w1 ⟨v,rfl,G⟩;have HG:=I G;clear G;go_wp2;refine bret Tryz.results37 ?_;exact⟨_,rfl,HG.out⟩
theorem sgetno (w:World) (d:Int) (h:¬(0≤d∧d≤2)):
  Calls Tryz.prog 37 #[.int .i64 d] w fun e w'=>e=.returned (.tuple #[.nilIface,.bool false])∧Gr w w':=by
 have k0:(d == 0)=false:=beq_eq_false_iff_ne.2 (by omega);have k1:(d == 1)=false:=beq_eq_false_iff_ne.2 (by omega);have k2:(d == 2)=false:=beq_eq_false_iff_ne.2 (by omega);have n0:¬d=0:=by omega
 have n1:¬d=1:=by omega
 have n2:¬d=2:=by omega
 clear h;go_enter Tryz.func37,Tryz.ntmps37;go_wp2;refine bret Tryz.results37 ?_;exact⟨rfl,Gr.refl w⟩
theorem sbegin_err (w:World) (q:Qv) (d r:Int) (c l:Bool) (b n k:Int) (ho:¬OptOk d r b n k) (hval:∀W,Gr w W→Calls Tryz.prog 38 #[q.v] W fun e w'=>∃b:Bool,e=.returned (.bool b)∧Gr W w'):
  Calls Tryz.prog 16 #[q.v,.agg #[.int .i64 d,.int .i64 r,.bool c,.bool l,.int .i64 b,.int .i64 n,.int .i64 k]] w fun e w'=>e=.returned (.tuple #[.pointer none,.int .i64 1])∧Gr w w':=by
 have HV:=I hval;have HO:=I ho;clear hval ho;go_enter Tryz.func16,Tryz.ntmps16;go_wp2_with fail;refine nw2hc fun W HG D_p0 D_o0=>?_
 have p0_:=D_p0.c10;have o0_:=D_o0.c7;generalize w.heap.size+1=o0 at*;by_cases hd:0≤d∧d≤2
 ·have HD:=I hd;clear hd;refine (sgetok W d HD.1 HD.2).mono ?_;rintro e w1 ⟨gv,rfl,G⟩;obtain⟨D_p0,D_o0,HG⟩:=G.u3 D_p0 D_o0 HG;clear G p0_ o0_;have p0_:=D_p0.c10;have o0_:=D_o0.c7;go_wp2_with fail;refine (HV.out w1 HG).mono ?_;rintro e w2 ⟨b9,rfl,G⟩;obtain⟨D_p0,D_o0,HG⟩:=G.u3 D_p0 D_o0 HG;clear G p0_ o0_ HV;have p0_:=D_p0.c10;have o0_:=D_o0.c7;cases b9 with
  | false=>
   go_wp2;refine pex ?_;refine bret Tryz.results16 ?_;exact⟨rfl,HG.out⟩
  | true=>
   have hbad:(r < 0)∨(¬(r < 0)∧3 < r)∨(¬(r < 0)∧¬(3 < r)∧b < 0)∨(¬(r < 0)∧¬(3 < r)∧¬(b < 0)∧4096 < b)∨(¬(r < 0)∧¬(3 < r)∧¬(b < 0)∧¬(4096 < b)∧n < 1)∨(¬(r < 0)∧¬(3 < r)∧¬(b < 0)∧¬(4096 < b)∧¬(n < 1)∧65536 < n)∨(¬(r < 0)∧¬(3 < r)∧¬(b < 0)∧¬(4096 < b)∧¬(n < 1)∧¬(65536 < n)∧k < 0)∨(¬(r < 0)∧¬(3 < r)∧¬(b < 0)∧¬(4096 < b)∧¬(n < 1)∧¬(65536 < n)∧¬(k < 0)∧16 < k):=by
    have h1:=HD.out;have h2:=HO.out;unfold OptOk at h2;omega
   clear HO HD;rcases hbad with hc | hc | hc | hc | hc | hc | hc | hc
   ·have f0:decide (r < 0)=true:=dt (by omega);clear hc;go_wp2;refine pex ?_;refine bret Tryz.results16 ?_;exact⟨rfl,HG.out⟩
   ·have f0:decide (r < 0)=false:=df (by omega);have f1:decide (3 < r)=true:=dt (by omega);clear hc;go_wp2;refine pex ?_;refine bret Tryz.results16 ?_;exact⟨rfl,HG.out⟩
   ·have f0:decide (r < 0)=false:=df (by omega);have f1:decide (3 < r)=false:=df (by omega);have f2:decide (b < 0)=true:=dt (by omega);clear hc;go_wp2;refine pex ?_;refine bret Tryz.results16 ?_;exact⟨rfl,HG.out⟩
   ·have f0:decide (r < 0)=false:=df (by omega);have f1:decide (3 < r)=false:=df (by omega);have f2:decide (b < 0)=false:=df (by omega);have f3:decide (4096 < b)=true:=dt (by omega);clear hc;go_wp2;refine pex ?_;refine bret Tryz.results16 ?_;exact⟨rfl,HG.out⟩
   ·have f0:decide (r < 0)=false:=df (by omega);have f1:decide (3 < r)=false:=df (by omega);have f2:decide (b < 0)=false:=df (by omega);have f3:decide (4096 < b)=false:=df (by omega);have f4:decide (n < 1)=true:=dt (by omega);clear hc;go_wp2;refine pex ?_;refine bret Tryz.results16 ?_;exact⟨rfl,HG.out⟩
   ·have f0:decide (r < 0)=false:=df (by omega);have f1:decide (3 < r)=false:=df (by omega);have f2:decide (b < 0)=false:=df (by omega);have f3:decide (4096 < b)=false:=df (by omega);have f4:decide (n < 1)=false:=df (by omega);have f5:decide (65536 < n)=true:=dt (by omega);clear hc;go_wp2;refine pex ?_;refine bret Tryz.results16 ?_;exact⟨rfl,HG.out⟩
   ·have f0:decide (r < 0)=false:=df (by omega);have f1:decide (3 < r)=false:=df (by omega);have f2:decide (b < 0)=false:=df (by omega);have f3:decide (4096 < b)=false:=df (by omega);have f4:decide (n < 1)=false:=df (by omega);have f5:decide (65536 < n)=false:=df (by omega);have f6:decide (k < 0)=true:=dt (by omega);clear hc;go_wp2;refine pex ?_;refine bret Tryz.results16 ?_;exact⟨rfl,HG.out⟩
   ·have f0:decide (r < 0)=false:=df (by omega);have f1:decide (3 < r)=false:=df (by omega);have f2:decide (b < 0)=false:=df (by omega);have f3:decide (4096 < b)=false:=df (by omega);have f4:decide (n < 1)=false:=df (by omega);have f5:decide (65536 < n)=false:=df (by omega);have f6:decide (k < 0)=false:=df (by omega);have f7:decide (16 < k)=true:=dt (by omega);clear hc;go_wp2;refine pex ?_;refine bret Tryz.results16 ?_;exact⟨rfl,HG.out⟩
 ·have HD:=I hd;clear hd HO HV;refine cm0 (sgetno W d HD) fun w1 G=>?_
  obtain⟨D_p0,D_o0,HG⟩:=G.u3 D_p0 D_o0 HG;clear p0_ o0_;have p0_:=D_p0.c10;have o0_:=D_o0.c7;go_wp2;refine pex ?_;refine bret Tryz.results16 ?_;exact⟨rfl,HG.out⟩
theorem qvalidz (w:World):
  Calls Tryz.prog 38 #[.agg #[.int .i64 0,Nl,Nl,Nl,Nl,Nl,Nl,.bool false,Nl,Nl]] w fun e w'=>e=.returned (.bool false)∧Gr w w':=by
 go_enter Tryz.func38,Tryz.ntmps38;go_upto_region 1 with fail;refine nw1h fun W HG D_a=>?_
 have a_:=D_a.c10;have a_:=D_a.c10;go_wp2_with fail;refine cm0 (gvalid0 W) fun w1 G=>?_
 replace HG:=HG.tr G;clear a_;go_wp2;go_ret;exact⟨rfl,HG.out⟩
theorem sbegin_zero (w:World):
  Calls Tryz.prog 16 #[.agg #[.int .i64 0,Nl,Nl,Nl,Nl,Nl,Nl,.bool false,Nl,Nl],.agg #[.int .i64 0,.int .i64 0,.bool false,.bool false,.int .i64 0,.int .i64 10,.int .i64 0]] w fun e w'=>e=.returned (.tuple #[.pointer none,.int .i64 1])∧Gr w w':=by
 go_enter Tryz.func16,Tryz.ntmps16;go_wp2_with fail;refine nw2hc fun W HG D_p0 D_o0=>?_
 have p0_:=D_p0.c10;have o0_:=D_o0.c7;generalize w.heap.size+1=o0 at*;refine (sgetok W 0 (by decide) (by decide)).mono ?_;rintro e w1 ⟨gv,rfl,G⟩;obtain⟨D_p0,D_o0,HG⟩:=G.u3 D_p0 D_o0 HG;clear G p0_ o0_;have p0_:=D_p0.c10;have o0_:=D_o0.c7;go_wp2_with fail;refine cm0 (qvalidz w1) fun w2 G=>?_
 obtain⟨D_p0,D_o0,HG⟩:=G.u3 D_p0 D_o0 HG;clear p0_ o0_;have p0_:=D_p0.c10;have o0_:=D_o0.c7;go_wp2;refine pex ?_;refine bret Tryz.results16 ?_;exact⟨rfl,HG.out⟩
theorem ssearch_err (w:World) (q:Qv) (d r:Int) (c l:Bool) (b n k:Int) (hb:∀W,Gr w W→Calls Tryz.prog 16 #[q.v,.agg #[.int .i64 d,.int .i64 r,.bool c,.bool l,.int .i64 b,.int .i64 n,.int .i64 k]] W fun e w'=>e=.returned (.tuple #[.pointer none,.int .i64 1])∧Gr W w'):
  Calls Tryz.prog 8 #[q.v,.agg #[.int .i64 d,.int .i64 r,.bool c,.bool l,.int .i64 b,.int .i64 n,.int .i64 k]] w fun e w'=>e=.returned (.tuple #[.agg #[.int .i64 0,.slice none 0 0,.int .i64 0,.int .i64 0,.bool false,.slice none 0 0,.slice none 0 0,.slice none 0 0,.bool false,.slice none 0 0,.slice none 0 0,.int .i64 0],.int .i64 1])∧Gr w w':=by
 have HB:=I hb;clear hb;go_enter Tryz.func8,Tryz.ntmps8;go_wp2_with fail;refine nw3hc fun W HG D_p0 D_o0 D_t=>?_
 have p0_:=D_p0.c10;have o0_:=D_o0.c7;have N_t:=dnl (w.heap.size) (w.heap.size+1+1);generalize w.heap.size+1+1=t at*;generalize w.heap.size+1=o0 at*;refine cm0 (HB.out W HG) fun w1 G=>?_
 replace D_t:=G.hb D_t;replace HG:=HG.tr G;clear p0_ o0_ HB;go_upto_region 3 with fail
 (repeat ((fail_if_success refine wpList_sw D_t ?_);go_step))
 refine wpList_sw D_t fun w2 B5 F5=>?_
 replace HG:=I (HG.fr_at F5 N_t);replace D_t:=B5;clear F5;have t_0:=D_t.ce 0;have t_1:=D_t.ce 1;have t_2:=D_t.ce 2;have t_3:=D_t.ce 3;have t_4:=D_t.ce 4;have t_5:=D_t.ce 5;have t_6:=D_t.ce 6;have t_7:=D_t.ce 7;have t_8:=D_t.ce 8;have t_9:=D_t.ce 9;have t_10:=D_t.ce 10;have t_11:=D_t.ce 11
 (repeat ((fail_if_success refine wp_ret ?_);go_step))
 refine wp_ret ?_;refine pex ?_;refine bodyPost_ret (by simp[results,Tryz.results8,go_sem,t_0,t_1,t_2,t_3,t_4,t_5,t_6,t_7,t_8,t_9,t_10,t_11];try rfl) rfl ?_;exact⟨rfl,HG.out⟩
theorem spar_err (w:World) (q:Qv) (d r:Int) (c l:Bool) (b n k:Int) (hb:∀W,Gr w W→Calls Tryz.prog 16 #[q.v,.agg #[.int .i64 d,.int .i64 r,.bool c,.bool l,.int .i64 b,.int .i64 n,.int .i64 k]] W fun e w'=>e=.returned (.tuple #[.pointer none,.int .i64 1])∧Gr W w'):
  Calls Tryz.prog 9 #[q.v,.agg #[.int .i64 d,.int .i64 r,.bool c,.bool l,.int .i64 b,.int .i64 n,.int .i64 k],Nl] w fun e w'=>e=.returned (.tuple #[.agg #[.int .i64 0,.slice none 0 0,.int .i64 0,.int .i64 0,.bool false,.slice none 0 0,.slice none 0 0,.slice none 0 0,.bool false,.slice none 0 0,.slice none 0 0,.int .i64 0],.int .i64 1])∧Gr w w':=by
 have HB:=I hb;clear hb;go_enter Tryz.func9,Tryz.ntmps9;go_wp2_with fail;refine nw3hc fun W HG D_p0 D_o0 D_t=>?_
 have p0_:=D_p0.c10;have o0_:=D_o0.c7;have N_t:=dnl (w.heap.size) (w.heap.size+1+1);generalize w.heap.size+1+1=t at*;generalize w.heap.size+1=o0 at*;refine cm0 (HB.out W HG) fun w1 G=>?_
 replace D_t:=G.hb D_t;replace HG:=HG.tr G;clear p0_ o0_ HB;go_upto_region 3 with fail
 (repeat ((fail_if_success refine wpList_sw D_t ?_);go_step))
 refine wpList_sw D_t fun w2 B5 F5=>?_
 replace HG:=I (HG.fr_at F5 N_t);replace D_t:=B5;clear F5;have t_0:=D_t.ce 0;have t_1:=D_t.ce 1;have t_2:=D_t.ce 2;have t_3:=D_t.ce 3;have t_4:=D_t.ce 4;have t_5:=D_t.ce 5;have t_6:=D_t.ce 6;have t_7:=D_t.ce 7;have t_8:=D_t.ce 8;have t_9:=D_t.ce 9;have t_10:=D_t.ce 10;have t_11:=D_t.ce 11
 (repeat ((fail_if_success refine wp_ret ?_);go_step))
 refine wp_ret ?_;refine pex ?_;refine bodyPost_ret (by simp[results,Tryz.results9,go_sem,t_0,t_1,t_2,t_3,t_4,t_5,t_6,t_7,t_8,t_9,t_10,t_11];try rfl) rfl ?_;exact⟨rfl,HG.out⟩
theorem sresm_err (w:World) (q:Qv) (d r:Int) (c l:Bool) (b n k:Int) (hb:∀W,Gr w W→Calls Tryz.prog 16 #[q.v,.agg #[.int .i64 d,.int .i64 r,.bool c,.bool l,.int .i64 b,.int .i64 n,.int .i64 k]] W fun e w'=>e=.returned (.tuple #[.pointer none,.int .i64 1])∧Gr W w'):
  Calls Tryz.prog 10 #[q.v,.agg #[.int .i64 d,.int .i64 r,.bool c,.bool l,.int .i64 b,.int .i64 n,.int .i64 k],Nl] w fun e w'=>e=.returned (.tuple #[.agg #[.int .i64 0,.slice none 0 0,.int .i64 0,.int .i64 0,.bool false,.slice none 0 0,.slice none 0 0,.slice none 0 0,.bool false,.slice none 0 0,.slice none 0 0,.int .i64 0],.int .i64 1])∧Gr w w':=by
 have HB:=I hb;clear hb;go_enter Tryz.func10,Tryz.ntmps10;go_wp2_with fail;refine nw3hc fun W HG D_p0 D_o0 D_t=>?_
 have p0_:=D_p0.c10;have o0_:=D_o0.c7;have N_t:=dnl (w.heap.size) (w.heap.size+1+1);generalize w.heap.size+1+1=t at*;generalize w.heap.size+1=o0 at*;refine cm0 (HB.out W HG) fun w1 G=>?_
 replace D_t:=G.hb D_t;replace HG:=HG.tr G;clear p0_ o0_ HB;go_upto_region 3 with fail
 (repeat ((fail_if_success refine wpList_sw D_t ?_);go_step))
 refine wpList_sw D_t fun w2 B5 F5=>?_
 replace HG:=I (HG.fr_at F5 N_t);replace D_t:=B5;clear F5;have t_0:=D_t.ce 0;have t_1:=D_t.ce 1;have t_2:=D_t.ce 2;have t_3:=D_t.ce 3;have t_4:=D_t.ce 4;have t_5:=D_t.ce 5;have t_6:=D_t.ce 6;have t_7:=D_t.ce 7;have t_8:=D_t.ce 8;have t_9:=D_t.ce 9;have t_10:=D_t.ce 10;have t_11:=D_t.ce 11
 (repeat ((fail_if_success refine wp_ret ?_);go_step))
 refine wp_ret ?_;refine pex ?_;refine bodyPost_ret (by simp[results,Tryz.results10,go_sem,t_0,t_1,t_2,t_3,t_4,t_5,t_6,t_7,t_8,t_9,t_10,t_11];try rfl) rfl ?_;exact⟨rfl,HG.out⟩
theorem r42opt_any (w:World) (d r:Int) (c l:Bool) (b n k:Int):
  Calls Tryz.prog 6 #[.agg #[.int .i64 d,.int .i64 r,.bool c,.bool l,.int .i64 b,.int .i64 n,.int .i64 k]] w fun e w'=>∃t:Bool,e=.returned (.bool t)∧(t=false→¬OptOk d r b n k)∧Gr w w':=by
 go_enter Tryz.func6,Tryz.ntmps6;go_upto_region 1 with fail;refine nw1h fun W HG D_o0=>?_
 have o0_:=D_o0.c7;by_cases q0:¬(0≤d)
 ·have f0:decide (0≤d)=false:=df q0;have HC:=I q0;clear q0;go_wp2;refine pex ?_;refine bret Tryz.results6 ?_;exact .inl ⟨rfl,(fun h=>by have h1:=HC.out;unfold OptOk at h;omega),HG.out⟩
 have f0:decide (0≤d)=true:=dt (Decidable.of_not_not q0);clear q0;by_cases q1:¬(d≤2)
 ·have f1:decide (d≤2)=false:=df q1;have HC:=I q1;clear q1;go_wp2;refine pex ?_;refine bret Tryz.results6 ?_;exact .inl ⟨rfl,(fun h=>by have h1:=HC.out;unfold OptOk at h;omega),HG.out⟩
 have f1:decide (d≤2)=true:=dt (Decidable.of_not_not q1);clear q1;by_cases q2:¬(0≤r)
 ·have f2:decide (0≤r)=false:=df q2;have HC:=I q2;clear q2;go_wp2;refine pex ?_;refine bret Tryz.results6 ?_;exact .inl ⟨rfl,(fun h=>by have h1:=HC.out;unfold OptOk at h;omega),HG.out⟩
 have f2:decide (0≤r)=true:=dt (Decidable.of_not_not q2);clear q2;by_cases q3:¬(r≤3)
 ·have f3:decide (r≤3)=false:=df q3;have HC:=I q3;clear q3;go_wp2;refine pex ?_;refine bret Tryz.results6 ?_;exact .inl ⟨rfl,(fun h=>by have h1:=HC.out;unfold OptOk at h;omega),HG.out⟩
 have f3:decide (r≤3)=true:=dt (Decidable.of_not_not q3);clear q3;by_cases q4:¬(0≤b)
 ·have f4:decide (0≤b)=false:=df q4;have HC:=I q4;clear q4;go_wp2;refine pex ?_;refine bret Tryz.results6 ?_;exact .inl ⟨rfl,(fun h=>by have h1:=HC.out;unfold OptOk at h;omega),HG.out⟩
 have f4:decide (0≤b)=true:=dt (Decidable.of_not_not q4);clear q4;by_cases q5:¬(b≤4096)
 ·have f5:decide (b≤4096)=false:=df q5;have HC:=I q5;clear q5;go_wp2;refine pex ?_;refine bret Tryz.results6 ?_;exact .inl ⟨rfl,(fun h=>by have h1:=HC.out;unfold OptOk at h;omega),HG.out⟩
 have f5:decide (b≤4096)=true:=dt (Decidable.of_not_not q5);clear q5;by_cases q6:¬(1≤n)
 ·have f6:decide (1≤n)=false:=df q6;have HC:=I q6;clear q6;go_wp2;refine pex ?_;refine bret Tryz.results6 ?_;exact .inl ⟨rfl,(fun h=>by have h1:=HC.out;unfold OptOk at h;omega),HG.out⟩
 have f6:decide (1≤n)=true:=dt (Decidable.of_not_not q6);clear q6;by_cases q7:¬(n≤65536)
 ·have f7:decide (n≤65536)=false:=df q7;have HC:=I q7;clear q7;go_wp2;refine pex ?_;refine bret Tryz.results6 ?_;exact .inl ⟨rfl,(fun h=>by have h1:=HC.out;unfold OptOk at h;omega),HG.out⟩
 have f7:decide (n≤65536)=true:=dt (Decidable.of_not_not q7);clear q7;by_cases q8:¬(0≤k)
 ·have f8:decide (0≤k)=false:=df q8;have HC:=I q8;clear q8;go_wp2;refine pex ?_;refine bret Tryz.results6 ?_;exact .inl ⟨rfl,(fun h=>by have h1:=HC.out;unfold OptOk at h;omega),HG.out⟩
 have f8:decide (0≤k)=true:=dt (Decidable.of_not_not q8);clear q8;by_cases q9:¬(k≤16)
 ·have f9:decide (k≤16)=false:=df q9;have HC:=I q9;clear q9;go_wp2;refine pex ?_;refine bret Tryz.results6 ?_;exact .inl ⟨rfl,(fun h=>by have h1:=HC.out;unfold OptOk at h;omega),HG.out⟩
 have f9:decide (k≤16)=true:=dt (Decidable.of_not_not q9);clear q9;go_wp2;refine pex ?_;refine bret Tryz.results6 ?_
 first | exact .inr ⟨rfl,HG.out⟩ | exact⟨true,rfl,(fun e=>by cases e),HG.out⟩
end
section
variable {P:Program} {t e size bytes:Nat}
theorem ownsRow_low {w:World} {B B' k n:Nat} {v:Value} {xs:List Value} (h:w.ownsRow B' e k v n xs) (hB:B≤B'):w.ownsRow B e k v n xs:=by
 obtain⟨hl,h | ⟨g,cap,cur,rfl,hb,hh,hc,hx,hs,ht⟩⟩:=h
 ·exact⟨hl,.inl h⟩
 ·exact⟨hl,.inr ⟨g,cap,cur,rfl,nt hB hb,hh,hc,hx,hs,ht⟩⟩
theorem app1_run (h:ElemS P t e size bytes) (ty:TypeId) (w:World) (b B:Nat) (x:Sv) (ds:List Value) (hx:x.Is w size ds) (h1:∀u∈ds,u.oneCell'=true) (h63:x.n≤maxLen) (hbytes:x.n*bytes≤140737488355328) (hb:Bk w b e #[]) (hB:B≤b) (hBw:B≤w.heap.size):
  ∃(y:Sv) (w':World),(Builtin.append_ #[t,t] ty #[.slice (some ⟨b,0,none⟩) 0 0,x.v]).run P w=.ok y.v w'∧w'.ownsRow B e size (.slice y.A y.n y.c) y.n ds∧Gr w w':=by
 obtain⟨i,z,hi,hz,hsz,hby,hzs⟩:=h.hi;have ht:=h.ht;obtain⟨A,n,c⟩:=x;have hlen:=hx.len;simp only at hlen h63 hbytes;have hno:∀(l:List Value),l=[]→w.ownsRow B e size (.slice (some ⟨b,0,none⟩) 0 0) 0 l:=fun l e=>by
  subst e;exact⟨by simp,.inr ⟨b,0,#[],rfl,hB,hb,nr _,nq _,by simp,by simp⟩⟩
 rcases A with _ | ad
 ·obtain⟨h9,rfl⟩:=hx.mk0 rfl;injection h9 with _ h8 h7;subst h8 h7;refine⟨⟨some ⟨b,0,none⟩,0,0⟩,w,?_,hno _ rfl,Gr.refl w⟩;simp[Builtin.append_,run_underlying ht,sizeOf,typeInfo,hi,Builtin.lenOf,Builtin.firstCells,storeCells]
 ·by_cases h0:n=0
  ·subst h0;rw[Nat.zero_mul] at hlen;obtain rfl:=List.length_eq_zero_iff.1 hlen;refine⟨⟨some ⟨b,0,none⟩,0,0⟩,w,?_,hno _ rfl,Gr.refl w⟩;have hf:=run_firstCells_some (P:=P) w i.size 0 ad 0 c [] (by simp) (by simp);simp[Builtin.append_,run_underlying ht,sizeOf,typeInfo,hi,Builtin.lenOf,hf,storeCells]
  ·have hc:=hx.cells rfl;obtain⟨v',w',hr,ho,hg⟩:=run_append_arg_grows (P:=P) w t ty e i z size bytes ht hi hz hsz hby hzs h.pos ⟨b,0,none⟩ 0 0 [] (by simp) (by simp) ad n c ds hlen hc (by omega) (by omega) (by rw[Nat.zero_add];exact hbytes);rw[Nat.zero_add,List.nil_append] at ho;obtain⟨y,rfl,hyn,hy,hty⟩:=Sv.of_row ho h.pos;refine⟨y,w',hr,?_,Gr.of ((Below.refl _ w).grown hg (nr _) (fun k e=>by cases e))⟩;rw[hyn];have h9:=ownsRow_low ho hBw;unfold Sv.v at h9;rw[hyn] at h9;exact h9
theorem Own.app1e {α β:Type} {cs:β→List Value} {Is:World→β→α→Prop} {k:Nat} (h:ElemS P t e k bytes) {o:Oper} {a:Act} {w:World} {K:Value→World→Prop} (s x:Operand) (ho:o.op=.call { callee:=.builtin .append,args:=#[s,x],argTypes:=#[t,t] }) (b B:Nat) (xv:Sv) (xs:List α) (hs:a.eval s=.slice (some ⟨b,0,none⟩) 0 0) (hxe:a.eval x=xv.v)
  (hx:Rows cs Is e k w xv xs) (hI:∀{w w':World} {b:β} {a:α},Is w b a→Gr w w'→Is w' b a) (h1:∀b,∀u∈cs b,u.oneCell'=true) (h63:xv.n≤maxLen) (hbytes:xv.n*bytes≤140737488355328) (hb:Bk w b e #[]) (hB:B≤b) (hBw:B≤w.heap.size)
  (hK:∀(y:Sv) (w':World),Own cs Is e k w' B y xs→Gr w w'→K y.v w'):doesAt P o a w K:=by
 obtain⟨ts,t1,t2,t3,t4⟩:=hx;obtain⟨y,w',hr,hown,hg⟩:=app1_run (P:=P) h o.type w b B xv _ t1 (fun u hu=>by obtain⟨p,_,hp⟩:=List.mem_flatMap.1 hu;exact h1 _ u hp) h63 hbytes hb hB hBw;refine doesAt_value (v:=y.v) (W':=w') ?_ (hK y w' ⟨ts,hown,t2,fun p hp=>hI (t3 p hp) hg⟩ hg);unfold execOp;simp only[ho,resolve,invoke,builtin,Sem.run_bind,Sem.run_pure,Result.andThen_ok,List.map_toArray,List.map_cons,List.map_nil,hs,hxe,hr]
end
def NewRow (e N:Nat) (v:Value) (W:World):Prop:=∃b:Nat,v=.slice (some ⟨b,0,none⟩) 0 0∧Bk W b e #[]∧N≤b
theorem NewRow.gr {e N:Nat} {v:Value} {W W':World} (h:NewRow e N v W) (G:Gr W W'):NewRow e N v W':=by
 obtain⟨b,e,h1,h2⟩:=h;exact⟨b,e,G.bk h1,h2⟩
theorem NewRow.is {e N b:Nat} {W:World} (h:NewRow e N (.slice (some ⟨b,0,none⟩) 0 0) W):Bk W b e #[]∧N≤b:=by
 obtain⟨b',e,h1,h2⟩:=h;simp at e;subst e;exact⟨h1,h2⟩
def LitRow (e:Nat) (cs:Array Value) (v:Value) (W:World):Prop:=∃b:Nat,v=.slice (some ⟨b,0,none⟩) 1 1∧Bk W b e cs
theorem LitRow.gr {e:Nat} {cs:Array Value} {v:Value} {W W':World} (h:LitRow e cs v W) (G:Gr W W'):LitRow e cs v W':=by
 obtain⟨b,e,h1⟩:=h;exact⟨b,e,G.bk h1⟩
theorem LitRow.is {e b:Nat} {cs:Array Value} {W:World} (h:LitRow e cs (.slice (some ⟨b,0,none⟩) 1 1) W):Bk W b e cs:=by
 obtain⟨b',e,h1⟩:=h;simp at e;subst e;exact h1
section
attribute [local go_sem] Oper.semAt_some
theorem r21lemma_any (w:World) (q:Qv) (z:Sv) (ls:List Lm) (lo n:Nat) (m:Lm) (hlo:lo=n+1) (hz:Lems w z ls) (hm:ls[n]?=some m) (hs:m.value.Sm) (hn:ls.length≤1000):
  Calls Tryz.prog 329 #[scL q z,.int .i64 (lo:Int),.int .i64 (m.unit:Int),.bool m.upper] w fun e w'=>∃r:Rv,e=.returned (.tuple #[r.v,.bool true])∧r.Is w' (canonQ m.value)∧Gr w w':=by
 obtain⟨zA,zn,zc⟩:=z;have hln:ls.length=zn:=hz.len;have hz9:zn≤1000:=by omega
 have hnz:n < zn:=by rw[← hln];exact (gs hm).1
 have HZ:=I hz;change Hid _ at hs hm;clear hz hln hn;simp only[scL] at*;go_enter Tryz.func329,Tryz.ntmps329;go_upto_region 1 with fail;refine nw2h fun W HG D_p D_r=>?_
 have p_:=D_p.c12;have N_r:=dnl (w.heap.size) (w.heap.size+1);generalize w.heap.size+1=r at*;obtain⟨t,ad,ht,hA,d0,d1,d2,d3,d4,d5⟩:=(HZ.gr HG).at hm;simp only at hA;subst hA;have HT:=I ht.value;clear ht;have e1:decide ((lo:Int) < 1)=false:=by simp;omega
 have e1n:decide (lo < 1)=false:=by simp;omega
 have e2:decide ((zn:Int) < (lo:Int))=false:=by simp;omega
 have e2n:decide (zn < lo)=false:=by simp;omega
 have hw2:IntKind.i64.wrap ((lo:Int) - 1)=(n:Int):=by rw[wi _ (by omega)];omega
 have hw3:IntKind.i64.wrap (n:Int)=(n:Int):=wi _ (by omega);clear hlo;generalize m.unit=mu at*;generalize m.upper=mp at*;go_wp2_with fail;refine cm1 (rcanon_any W t.value m.value HT hs.r64.1 hs.r64.2) fun i w1 HI G=>?_
 replace D_r:=G.hb D_r;replace HG:=HG.tr G;clear p_ d0 d1 d2 d3 d4 d5;simp only[Rv.v];have z0_:=D_r.c3;have fz:=D_r.frozen;go_wp2;refine pex ?_;refine ks D_r fun W5 B5 F5=>?_
 have d_:=B5.c3;refine bret Tryz.results329 ?_;exact⟨i,rfl,HI.tf' F5 D_r,HG.fr_at F5 N_r⟩
theorem r34same0 (w:World):
  Calls Tryz.prog 61 #[.agg #[.int .i64 0,.int .i64 0,.bool false,Nl,Nl],.agg #[.int .i64 0,.int .i64 0,.bool false,Nl,Nl]] w fun e w'=>e=.returned (.bool true)∧Gr w w':=by
 go_enter Tryz.func61,Tryz.ntmps61;go_upto_region 1 with fail;refine nw2h fun W HG D_a D_b=>?_
 have a_:=D_a.c5;have b_:=D_b.c5;generalize w.heap.size+1=b at*;have a_:=D_a.c5;have b_:=D_b.c5;go_wp2_with fail;refine cm0 (rsame_any W Rv.nil Rv.nil Q.zero Q.zero (Rv.Is.zero _) (Rv.Is.zero _)) fun w1 G=>?_
 replace HG:=HG.tr G;clear a_ b_;go_wp2;go_ret;exact⟨rfl,HG.out⟩
theorem r22less0 (w:World):
  Calls Tryz.prog 257 #[.agg #[.int .i64 13,.int .i64 0,.int .i64 1,.int .i64 2],.agg #[.int .i64 13,.int .i64 1,.int .i64 3,.int .i64 4]] w fun e w'=>e=.returned (.bool true)∧Gr w w':=by
 go_enter Tryz.func257,Tryz.ntmps257;go_upto_region 1 with fail;refine nw2h fun W HG D_a D_b=>?_
 have a_:=D_a.c4;have b_:=D_b.c4;generalize w.heap.size+1=b at*;have a_:=D_a.c4;have b_:=D_b.c4;go_wp2;go_ret;exact⟨rfl,HG.out⟩
theorem r22canon_any (w:World) (z:Sv) (l:List Mm) (hz:Mults w z l) (hn:l.length≤100) (hs:∀m∈l,m.2.Sm∧m.2.Ok∧0 < isg m.2.neg m.2.num) (hless:∀(i:Nat) (a b:Mm),l[i]?=some a→l[i+1]?=some b→∀W,Gr w W→Calls Tryz.prog 257 #[.agg #[.int .i64 a.1.kind,.int .i64 a.1.index,.int .i64 a.1.lo,.int .i64 a.1.hi],.agg #[.int .i64 b.1.kind,.int .i64 b.1.index,.int .i64 b.1.lo,.int .i64 b.1.hi]] W fun e w'=>e=.returned (.bool true)∧Gr W w'):
  Calls Tryz.prog 182 #[z.v] w fun e w'=>e=.returned (.bool true)∧Gr w w':=by
 obtain⟨zA,zn,zc⟩:=z;have hzn:l.length=zn:=hz.len;have hz9:zn≤100:=by omega
 have HG:=I (Gr.refl w);have HZ:=I hz;change Hid _ at hs hless;have HZN:=I hzn;clear hz hzn hn;go_enter Tryz.func182,Tryz.ntmps182;go_upto_region 1 with fail;go_wp2_with fail;go_loopw [3] (fun s0 wr=>∃(j:Nat),s0=.int .i64 j∧j≤zn∧Hid (Gr w wr)) (fun j _=>zn - (intOf j).toNat)
 case atStart=>exact⟨0,rfl,nq _,HG⟩
 case round=>
  clear HG;obtain⟨j,rfl,hr1,HG⟩:=hrel;by_cases hin:j < zn
  ·obtain⟨m,hm⟩:∃q,l[j]?=some q:=⟨_,ge (by rw[HZN.out];exact hin)⟩;have HQ:=I (hs.out m (mg hm));have HM:=I hm;obtain⟨t,ad,ht,hA,d0,d1,d2,d3,d4,d5,d6⟩:=(HZ.gr HG).at hm;simp only at hA;subst hA;have HT:=I ht.coef;have hj9:j < 100:=by omega
   clear ht hm;go_upto_region 4 with fail;have k1:¬(isg m.2.neg m.2.num≤0):=by have:=HQ.2.2;omega
   have k2:decide (isg m.2.neg m.2.num≤0)=false:=df k1;by_cases hj0:j=0
   ·have k3:decide ((0:Int) < (j:Int))=false:=df (by omega);have k3n:decide (0 < j)=false:=df (by omega);clear hj0;refine wpr ?_;have kc:=I fun W' (G:Gr wr.drew W')=>G.kk d0 <| G.kk d1 <| G.kk d2 <| G.kk d3 <| G.kk d4 <| ai (G.keep d5) (G.keep d6)
    refine wg 0 (tf 35 0) [0,1,2,3,4,5,6,7,8,9,10,11,12,13,14,15,16,17,18,19,20,21,22,23,24,25,26,27,28,29,30,31,32,33,34] [(5,fun v _=>v=.bool true),(13,fun v _=>v=.int .i64 (isg m.2.neg m.2.num))] ?_;iterate 5 refine .tk ?_
    refine .dk (fun W1 G1 F1=>r3valid_any W1 t.coef m.2 (HT.gr G1.od) HQ.2.1 HQ.1.r64.1 HQ.1.r64.2) ?_;rintro _ ⟨_,-,-,rfl⟩;iterate 7 refine .tk ?_
    refine .dk (fun W1 G1 F1=>rsign_any W1 t.coef m.2 (HT.gr G1.od) HQ.1.l6) ?_;rintro _ ⟨_,-,-,rfl⟩;iterate 21 refine .tk ?_
    refine .done fun W1 G1 F1=>?_
    clear F1;refine wpe ?_;have GB:=G1.od;replace HT:=I (HT.gr GB);replace HG:=HG.tr GB;clear GB G1 kc d0 d1 d2 d3 d4 d5 d6;clear HT;go_wp2;go_roundw
    ·exact⟨j+1,by go_num,by omega,HG⟩
    ·simp[intOf];omega
   ·obtain⟨i,hi⟩:∃i,j=i+1:=⟨j - 1,by omega⟩;have k3:decide ((0:Int) < (j:Int))=true:=dt (by omega);have k3n:decide (0 < j)=true:=dt (by omega);have hw2:IntKind.i64.wrap ((j:Int) - 1)=(i:Int):=by rw[wi _ (by omega)];omega
    have hw3:IntKind.i64.wrap (i:Int)=(i:Int):=wi _ (by omega);obtain⟨m0,hm0⟩:∃q,l[i]?=some q:=⟨_,ge (by rw[HZN.out];omega)⟩;have hi9:i < 100:=by omega
    have hi8:i < zn:=by omega
    obtain⟨t0,ad0,-,hA,e0,e1,e2,e3,-,-,-⟩:=(HZ.gr HG).at hm0;simp only[oq] at hA;subst hA;have HL9:=I (hless.out i m0 m hm0 (hi▸HM.out));clear hm0 t0 hj0 hi;refine wpr ?_;have kc:=I fun W' (G:Gr wr.drew W')=>G.kk d0 <| G.kk d1 <| G.kk d2 <| G.kk d3 <| G.kk d4 <| G.kk d5 <| G.kk d6 <| G.kk e0 <| G.kk e1 <| ai (G.keep e2) (G.keep e3)
    refine wg 0 (tf 35 0) [0,1,2,3,4,5,6,7,8,9,10,11,12,13,14,15,16,17,18,19,20,21,22,23,24,25,26,27,28,29,30,31,32,33,34] [(5,fun v _=>v=.bool true),(13,fun v _=>v=.int .i64 (isg m.2.neg m.2.num)),(31,fun v _=>v=.bool true)] ?_;iterate 5 refine .tk ?_
    refine .dk (fun W1 G1 F1=>r3valid_any W1 t.coef m.2 (HT.gr G1.od) HQ.2.1 HQ.1.r64.1 HQ.1.r64.2) ?_;rintro _ ⟨_,-,-,rfl⟩;iterate 7 refine .tk ?_
    refine .dk (fun W1 G1 F1=>rsign_any W1 t.coef m.2 (HT.gr G1.od) HQ.1.l6) ?_;rintro _ ⟨_,-,-,rfl⟩;iterate 17 refine .tk ?_
    refine .dk (fun W1 G1 F1=>HL9.out W1 (HG.trans G1.od)) ?_;rintro _ ⟨_,-,-,rfl⟩;iterate 3 refine .tk ?_
    refine .done fun W1 G1 F1=>?_
    clear F1;refine wpe ?_;have GB:=G1.od;replace HG:=HG.tr GB;clear GB G1 kc d0 d1 d2 d3 d4 d5 d6 e0 e1 e2 e3;clear HT;go_wp2;go_roundw
    ·exact⟨j+1,by go_num,by omega,HG⟩
    ·simp[intOf];omega
  ·obtain rfl:j=zn:=by omega
   go_wp2;go_ret;exact⟨rfl,HG.out⟩
end
section
variable {P:Program} {ops:Array Oper} {R:World→World→Prop} {W0:World} {Φ:Nat→Option (Value→World→Prop)} {D:Nat→List Nat} {Q:Act→World→Prop}
end
theorem anyE.three {P:Program} {Q:Exit→Act→World→Prop} {S:World→Prop} {n:Nat} {listed:Array Bool} {a:Act} {w:World} {l:List Oper} (k k' k2:Nat) {o o' o2:Oper} (ho:l[k]?=some o) (ho':l[k']?=some o') (ho2:l[k2]?=some o2) (hr:Region.ready .any l.toArray listed=[k,k',k2]) (hw:Region.wanted o (yielded l.toArray a.tmps)=true) (hw':Region.wanted o' (yielded l.toArray a.tmps)=true) (hw2:Region.wanted o2 (yielded l.toArray a.tmps)=true)
  (h:∀K:Act→World→Prop,Shut (∀a w,(S w∨waitsAll l.toArray k=true)∧anyE P l.toArray Q S n (listed.setIfInBounds k true) a w→K a w)→o.wp P a w K Q)
  (h':∀K:Act→World→Prop,Shut (∀a w,(S w∨waitsAll l.toArray k'=true)∧anyE P l.toArray Q S n (listed.setIfInBounds k' true) a w→K a w)→o'.wp P a w K Q)
  (h2:∀K:Act→World→Prop,Shut (∀a w,(S w∨waitsAll l.toArray k2=true)∧anyE P l.toArray Q S n (listed.setIfInBounds k2 true) a w→K a w)→o2.wp P a w K Q):anyE P l.toArray Q S (n+1) listed a w:=
 ⟨fun h0=>by (rw[hr] at h0;cases h0),fun i hi=>by
  rw[hr] at hi;rcases List.mem_cons.1 hi with e | hi
  ·subst e;unfold wpOp;rw[List.getElem?_toArray,ho];simp only[hw,if_true];exact .inl (h _ fun _ _ h=>h)
  ·rcases List.mem_cons.1 hi with e | hi
   ·subst e;unfold wpOp;rw[List.getElem?_toArray,ho'];simp only[hw',if_true];exact .inl (h' _ fun _ _ h=>h)
   ·obtain rfl:=mj hi;unfold wpOp;rw[List.getElem?_toArray,ho2];simp only[hw2,if_true];exact .inl (h2 _ fun _ _ h=>h)⟩
end Go.Proofs.YtmhphnljfcncpaaGreatDoor
