/- Walks of the search and of what it calls, part 15. -/
import Derived.Test.YtmhphnljfcncpaaGreatDoorMn
set_option linter.unusedVariables false
set_option linter.unusedSimpArgs false
set_option maxRecDepth 100000
set_option maxHeartbeats 8000000
namespace Go.Proofs.YtmhphnljfcncpaaGreatDoor
open Go.RowKit
section
attribute [local go_sem] Oper.semAt_some
def mulZ (rs:List Rw) (ds:List Q):List Mm:=List.zip rs ds
theorem mulZ_take {rs:List Rw} {ds:List Q} {j:Nat} {r:Rw} {d:Q} (hr:rs[j]?=some r) (hd:ds[j]?=some d):(mulZ rs ds).take (j+1)=(mulZ rs ds).take j++[(r,d)]:=by
 rw[List.take_add_one]
 congr 1
 unfold mulZ;rw[(List.getElem?_zip_eq_some (z:=(r,d))).2 ⟨hr,hd⟩];rfl
theorem nsolve_any (w:World) (q:Qv) (z:Sv) (f:Fv) (xf:Fm) (V pv:Nat) (fs:List Fm) (rs:List Rw) (vq:Q) (ps ds:List Q) (hprog:∀W,Gr w W→Calls Tryz.prog 224 #[.agg (q.qz z),f.v] W fun e w'=>∃y zr:Sv,e=.returned (.tuple #[.agg #[iv V,.slice zr.A zr.n zr.c,.slice f.terms.A f.terms.n f.terms.c,.bool f.const.neg,.slice f.const.num.A f.const.num.n f.const.num.c,.slice f.const.den.A f.const.den.n f.const.den.c],.slice y.A y.n y.c,.int .i64 0])∧Forms w' zr fs∧RwL w' y rs∧f.Is w' xf∧Gr W w') (hsol:∀(W:World) (zr:Sv),Gr w W→Forms W zr fs→f.Is W xf→Calls Tryz.prog 234 #[.agg #[iv V,.slice zr.A zr.n zr.c,.slice f.terms.A f.terms.n f.terms.c,.bool f.const.neg,.slice f.const.num.A f.const.num.n f.const.num.c,.slice f.const.den.A f.const.den.n f.const.den.c]] W fun e w'=>∃(v:Rv) (p d b:Sv),e=.returned (.tuple #[.agg #[.int .i64 1,.bool v.neg,.slice v.num.A v.num.n v.num.c,.slice v.den.A v.den.n v.den.c,.slice p.A p.n p.c,.slice d.A d.n d.c,.slice none 0 0,.slice b.A b.n b.c,iv pv],.int .i64 0])∧v.Is w' vq∧Rats w' p ps∧Rats w' d ds∧Gr W w') (hlen:ds.length≤rs.length) (hn:ds.length < 1000) (col:ColOk (mulZ rs ds)):
  Calls Tryz.prog 156 #[.agg (q.qz z),f.v] w fun e w'=>∃(v:Rv) (pt pr:Sv),e=.returned (.tuple #[.agg #[.int .i64 1,.bool v.neg,.slice v.num.A v.num.n v.num.c,.slice v.den.A v.den.n v.den.c,.slice pt.A pt.n pt.c,.slice pr.A pr.n pr.c],.int .i64 0])∧v.Is w' vq∧Rats w' pt ps∧Mults w' pr (colM (mulZ rs ds))∧Gr w w':=by
 change Hid _ at hprog hsol col;have HLE:=I hlen;clear hlen;simp only[Fv.v] at*;go_enter Tryz.func156,Tryz.ntmps156;go_upto_region 1 with fail;refine nw3h fun W HG D_s D_fb D_r=>?_
 have s_:=D_s.c12;have fb_:=D_fb.c4;have N_r:=dnl (w.heap.size) (w.heap.size+1+1);generalize w.heap.size+1+1=r at*;generalize w.heap.size+1=fb at*;go_wp2_with fail;refine (hprog.out W HG).mono ?_;rintro e w1 ⟨y,zr,rfl,hzr,hy,hf,G⟩;replace D_s:=G.hb D_s;replace D_fb:=G.hb D_fb;replace D_r:=G.hb D_r;replace HG:=HG.tr G;have HZR:=I hzr;have HYR:=I hy;have HFX:=I hf;clear G hzr hy hf s_ fb_;go_upto_region 2 with fail;refine nw1 fun w2 GB D_pb=>?_
 replace HZR:=I (HZR.gr GB);replace HYR:=I (HYR.gr GB);replace HFX:=I (HFX.gr GB);replace D_s:=GB.hb D_s;replace D_fb:=GB.hb D_fb;replace D_r:=GB.hb D_r;replace HG:=HG.tr GB;clear GB;generalize w1.heap.size=pb at*;have pb_:=D_pb.c6;go_wp2_with fail;refine (hsol.out w2 zr HG HZR HFX).mono ?_;rintro e w3 ⟨v,p,d,b,rfl,hv,hp,hd,G⟩;replace HYR:=I (HYR.gr G);replace D_s:=G.hb D_s;replace D_fb:=G.hb D_fb;replace D_r:=G.hb D_r;replace HG:=HG.tr G;have HVQ:=I hv;have HPT:=I hp;have HD:=I hd;clear G hv hp hd pb_;clear HZR;clear HFX;clear D_pb;obtain⟨dA,dn,dc⟩:=d;obtain⟨yA,yn,yc⟩:=y;have hdn:ds.length=dn:=HD.len;have hyn:rs.length=yn:=HYR.len;have HDN:=I hdn;have HYN:=I hyn;have hdn9:dn < 1000:=by omega
 have hdy:dn≤yn:=by have:=HLE.out;omega
 clear hdn hyn;simp only at*;go_upto_region 5 with fail;refine nw1 fun w4 GB D_xb=>?_
 replace HYR:=I (HYR.gr GB);replace HVQ:=I (HVQ.gr GB);replace HPT:=I (HPT.gr GB);replace HD:=I (HD.gr GB);replace D_s:=GB.hb D_s;replace D_fb:=GB.hb D_fb;replace D_r:=GB.hb D_r;replace HG:=HG.tr GB;clear GB;generalize w3.heap.size=xb at*;have xb_:=D_xb.c9;go_wp2_with fail;have HM:Hid (OwnM w4 w.heap.size Sv.none []):=I (Own.nil _ _);go_loopw [10,34] (fun s0 s1 wr=>∃(j:Nat) (y:Sv),s0=.slice y.A y.n y.c∧s1=.int .i64 j∧j≤dn∧Hid (RwL wr ⟨yA,yn,yc⟩ rs)∧Hid (v.Is wr vq)∧Hid (Rats wr p ps)∧Hid (Rats wr ⟨dA,dn,dc⟩ ds)∧Hid (OwnM wr w.heap.size y ((mulZ rs ds).take j))∧Hid (Gr w wr)∧Hid (Bk wr w.heap.size 113 (q.qz z))∧Hid (Bk wr fb 40 f.ar)∧Hid (Bk wr r 205 #[.int .i64 0,.bool false,Nl,Nl,Nl,Nl])∧Hid (Bk wr xb 360 #[.int .i64 1,.bool v.neg,v.num.v,v.den.v,p.v,.slice dA dn dc,Nl,b.v,iv pv])) (fun _ j _=>dn - (intOf j).toNat)
 case atStart=>exact⟨0,Sv.none,rfl,rfl,nq _,HYR,HVQ,HPT,HD,HM,HG,D_s,D_fb,D_r,D_xb⟩
 case round=>
  clear HYR HVQ HPT HD HM HG D_s D_fb D_r D_xb xb_;obtain⟨j,y,rfl,rfl,hr2,HYR,HVQ,HPT,HD,HM,HG,D_s,D_fb,D_r,D_xb⟩:=hrel;by_cases hin:j < dn
  ·have hj9:j < 1000:=by omega
   have hjy:j < yn:=by omega
   obtain⟨r0,hr0⟩:∃q,rs[j]?=some q:=⟨_,ge (by rw[HYN.out];exact hjy)⟩;obtain⟨q0,hq0⟩:∃q,ds[j]?=some q:=⟨_,ge (by rw[HDN.out];exact hin)⟩;obtain⟨ady,hA,a0,a1,a2,a3⟩:=HYR.at hr0;simp only at hA;subst hA;obtain⟨dv,add,hdv,hA,b0,b1,b2⟩:=HD.at hq0;simp only at hA;subst hA;have HDV:=I hdv;have HTK:=I (mulZ_take hr0 hq0);clear hdv hr0 hq0;have xb_:=D_xb.c9;go_upto_region 11 with fail;refine wpr ?_;have kc:=I fun W' (G:Gr wr.drew W')=>G.kk a0 <| G.kk a1 <| G.kk a2 <| G.kk a3 <| G.kk b0 <| G.kk b1 <| G.kk b2 <| (G.kb D_xb).c9
   refine wpAny_take (i:=0) (v:=?wv1) rfl (by kernel_rfl) (by kernel_rfl) (by kernel_rfl) (fun _ _ _ h=>h) (Or.inl ⟨by rfl,?wy1⟩) ?wr1;case wy1=>(intro w';go_simp;try with_reducible rfl)
   refine ptt ?_;refine wg 3 (tf 11 3) [1,2,3,4,5,6,7,8,9,10] [] ?_;iterate 10 refine .tk ?_
   refine .done fun W1 G1 F1=>?_
   replace kc:=kc.out W1 G1;clear F1 a0 a1 a2 a3 b0 b1 b2 xb_;have GB:=G1.od;replace HYR:=I (HYR.gr GB);replace HVQ:=I (HVQ.gr GB);replace HPT:=I (HPT.gr GB);replace HD:=I (HD.gr GB);replace HM:=I (OwnM.up HM GB);replace HDV:=I (HDV.gr GB);replace D_s:=GB.hb D_s;replace D_fb:=GB.hb D_fb;replace D_r:=GB.hb D_r;replace D_xb:=GB.hb D_xb;replace HG:=HG.tr GB;clear GB G1 kc;obtain⟨B1,GB⟩:=made1 W1 310 #[.int .i64 r0.kind,.int .i64 r0.index,.int .i64 r0.lo,.int .i64 r0.hi,.bool dv.neg,dv.num.v,dv.den.v];replace HYR:=I (HYR.gr GB);replace HVQ:=I (HVQ.gr GB);replace HPT:=I (HPT.gr GB);replace HD:=I (HD.gr GB);replace HM:=I (OwnM.up HM GB);replace HDV:=I (HDV.gr GB);replace D_s:=GB.hb D_s;replace D_fb:=GB.hb D_fb;replace D_r:=GB.hb D_r;replace D_xb:=GB.hb D_xb;replace HG:=HG.tr GB;have BC:=I B1;clear GB B1;refine wo 11 ?_;generalize W1.alloc (.cells #[.int .i64 r0.kind,.int .i64 r0.index,.int .i64 r0.lo,.int .i64 r0.hi,.bool dv.neg,dv.num.v,dv.den.v] 310)=w5 at*;generalize W1.heap.size=nb at*;have HMV:Hid (Mv.Is w5 ⟨r0,dv⟩ (r0,q0)):=I ⟨rfl,HDV.out⟩;have HYL:Hid (y.n≤1000):=I (by have h9:=HM.len Mv.len (by decide);rw[← h9,List.length_take];omega);have HSZ9:Hid (w.heap.size≤w5.heap.size):=I HG.size;refine wpAny_k 12 fun K hK=>?_
   refine Own.app3 elemM _ _ (by rfl) (by rfl) HM.out ⟨nb,0,none⟩ 1 (⟨r0,dv⟩:Mv) (r0,q0) (by rfl) HMV.out rfl (bk_cells BC) (Mv.one _) (by unfold maxLen;have:=HYL.out;omega) (by have:=HYL.out;omega) HSZ9.out (fun w' F p a hp=>⟨hp.row,hp.coef.tf F (fun b cs fr e hh=>by obtain⟨cur,hc⟩:=Own.bk HM e;exact Bk.not_ty hc (by decide) _ _ hh)⟩) (fun y2 w6 hyn hO hF hY=>?_);have HF5:=I hF;have HYO:=I hO;clear hyn hO hF hY HSZ9;refine hK.out _ _ ?_;clear hK K;refine ptt ?_;replace HYR:=I (HYR.tf HF5 (fun b cs fr e hh=>by obtain⟨cur,hc⟩:=Own.bk HM e;exact Bk.not_ty hc (by decide) _ _ hh));replace HVQ:=I (HVQ.tf HF5 (fun b cs fr e hh=>by obtain⟨cur,hc⟩:=Own.bk HM e;exact Bk.not_ty hc (by decide) _ _ hh));replace HPT:=I (Rows.tf HPT HF5 (fun b cs fr e hh=>by obtain⟨cur,hc⟩:=Own.bk HM e;exact Bk.not_ty hc (by decide) _ _ hh) (fun p a hp=>hp.tf HF5 (fun b cs fr e hh=>by obtain⟨cur,hc⟩:=Own.bk HM e;exact Bk.not_ty hc (by decide) _ _ hh)));replace HD:=I (Rows.tf HD HF5 (fun b cs fr e hh=>by obtain⟨cur,hc⟩:=Own.bk HM e;exact Bk.not_ty hc (by decide) _ _ hh) (fun p a hp=>hp.tf HF5 (fun b cs fr e hh=>by obtain⟨cur,hc⟩:=Own.bk HM e;exact Bk.not_ty hc (by decide) _ _ hh)));replace D_s:=I (HF5.bk D_s (fun e=>HM.ne D_s (by decide) e));replace D_fb:=I (HF5.bk D_fb (fun e=>HM.ne D_fb (by decide) e));replace D_r:=I (HF5.bk D_r (fun e=>HM.ne D_r (by decide) e));replace D_xb:=I (HF5.bk D_xb (fun e=>HM.ne D_xb (by decide) e));replace HG:=I (HG.step HF5 (fun b _ e=>nt (nr _) (HM.lt b e).1));replace HM:=HYO;clear HYO HF5 BC;refine wo 13 ?_;refine wpe ?_;rw[← HTK.out] at HM;clear HTK HMV;clear HDV;go_wp2;go_roundw
   ·exact⟨j+1,y2,by go_num,by go_num,by omega,HYR,HVQ,HPT,HD,HM,HG,D_s,D_fb,D_r,D_xb⟩
   ·simp[intOf];omega
  ·obtain rfl:j=dn:=by omega
   rw[List.take_of_length_le (by unfold mulZ;rw[List.length_zip,HDN.out];exact Nat.min_le_right _ _)] at HM;have HMM:=I HM.mults;clear HM;go_wp2_with fail;refine cm1 (col.go HMM) fun pr w5 HPR G=>?_
   replace HVQ:=I (HVQ.gr G);replace HPT:=I (HPT.gr G);replace D_r:=G.hb D_r;replace D_xb:=G.hb D_xb;replace HG:=HG.tr G

   have xb_:=D_xb.c9;clear HYR;clear HD;clear HMM;simp only[Sv.v];have z0_:=D_r.c6;have fz:=D_r.frozen;go_wp2;refine ks D_r fun w6 B5 F5=>?_
   replace HVQ:=I (HVQ.tf' F5 D_r);replace HPT:=I (HPT.stR F5 D_r);replace HPR:=I (HPR.stB F5 D_r);replace HG:=HG.fa F5 N_r;replace D_r:=B5;clear B5 F5 xb_ z0_;have r_:=D_r.c6;clear fz;refine pex ?_;refine bret Tryz.results156 ?_;exact⟨v,p,pr,rfl,HVQ.out,HPT.out,HPR.out,HG.out⟩
theorem elemLm:ElemS Tryz.prog 44 173 6 96:=elem_of (z:=.agg #[.int .i64 0,.bool false,.bool false,.slice none 0 0,.slice none 0 0,.slice none 0 0]) (by kernel_rfl) (by kernel_rfl) rfl (by decide)
abbrev OwnL (w:World) (B:Nat) (x:Sv) (l:List Lm):Prop:=Own Lv.cs Lv.Is 173 6 w B x l
structure SideE (w:World) (B pb db sb jb bb j:Nat) (p:Fv) (pu:Fm) (q:Qv) (x:Qm) (z:Sv) (ls:List Lm):Prop where
 bp:Bk w pb 40 #[.slice p.terms.A p.terms.n p.terms.c,.bool p.const.neg,.slice p.const.num.A p.const.num.n p.const.num.c,.slice p.const.den.A p.const.den.n p.const.den.c]
 hp:p.Is w pu
 bd:Bk w db 89 #[.iface 195 (.agg #[])]
 bs:Bk w sb 113 #[.int .i64 q.g.inputs,.slice q.g.units.A q.g.units.n q.g.units.c,.slice q.g.outs.A q.g.outs.n q.g.outs.c,.slice q.lo.A q.lo.n q.lo.c,.slice q.hi.A q.hi.n q.hi.c,.slice none 0 0,.slice q.goal.terms.A q.goal.terms.n q.goal.terms.c,.bool q.goal.const.neg,.slice q.goal.const.num.A q.goal.const.num.n q.goal.const.num.c,.slice q.goal.const.den.A q.goal.const.den.n q.goal.const.den.c,.slice none 0 0,.slice z.A z.n z.c]
 hq:q.Is w x
 hz:OwnL w B z ls
 hB:B≤w.heap.size
 bj:Bk w jb 3 #[.int .i64 (j:Int)]
 bb:Bk w bb 3 #[.int .i64 0]
theorem side_lo (w:World) (B pb db sb jb bb j V:Nat) (p:Fv) (pu:Fm) (q:Qv) (x:Qm) (z:Sv) (ls:List Lm) (fz:Fm) (lz:List Mm) (hE:SideE w B pb db sb jb bb j p pu q x z ls) (hV:x.g.inputs+x.g.units.length=V) (hx:x.Va) (hu9:x.g.units.length < 1000) (hpu:∀t∈pu.terms,t.2.Lo) (hpc:pu.const.Lo) (hpn:pu.terms.length≤1000) (hfo:FmP V pu) (hls:∀m∈ls,m.value.Sm) (hn:ls.length≤900) (hj:j < 1000) (ok:SLowOk x ls V pu fz lz) (hb0:(bestL ls j).1=0):
  Calls Tryz.prog 142 #[.bool false,.pointer (some ⟨pb,0,none⟩),.pointer (some ⟨db,0,none⟩),.pointer (some ⟨sb,0,none⟩),.pointer (some ⟨jb,0,none⟩),.pointer (some ⟨bb,0,none⟩)] w fun e w'=>e=.returned (.tuple #[])∧(∃z':Sv,Bk w' sb 113 #[.int .i64 q.g.inputs,.slice q.g.units.A q.g.units.n q.g.units.c,.slice q.g.outs.A q.g.outs.n q.g.outs.c,.slice q.lo.A q.lo.n q.lo.c,.slice q.hi.A q.hi.n q.hi.c,.slice none 0 0,.slice q.goal.terms.A q.goal.terms.n q.goal.terms.c,.bool q.goal.const.neg,.slice q.goal.const.num.A q.goal.const.num.n q.goal.const.num.c,.slice q.goal.const.den.A q.goal.const.den.n q.goal.const.den.c,.slice none 0 0,.slice z'.A z'.n z'.c]∧OwnL w' B z' (ls++[⟨j,false,lowS x fz.const fz.terms,colM (colM lz++colM (lowM fz.terms))⟩]))∧Fr (fun k=>k=sb∨z.on k) w w':=by
 have HG:=I (Gr.refl w);change Hid _ at hE hV hx hfo hls ok hb0;clear hpu hpc;go_enter Tryz.func142,Tryz.ntmps142;go_upto_region 0 with fail;obtain⟨p_0,p_1,p_2,p_3⟩:=(HG.bk hE.bp).c4;go_upto_region 3 with fail;clear p_0 p_1 p_2 p_3;refine nw1 fun w1 GB D_fb=>?_
 replace HG:=HG.tr GB;clear GB;generalize w.heap.size=fb at*;have HF:=I (hE.hp.gr HG);have d_0:=(HG.bk hE.bd).c1;obtain⟨s_0,s_1,s_2,s_3,s_4,s_5,s_6,s_7,s_8,s_9,s_10,s_11⟩:=(HG.bk hE.bs).c12;have fb_:=D_fb.c4;go_wp2_with fail;refine (slower_any w1 q x z ls p pu fz lz V hV (hE.hq.gr HG) hx (Lems.gr (hE.hz.rows (by decide)) HG) HF hfo hls (by omega) hu9 ok).mono ?_;rintro e w2 ⟨r1,y1,rfl,hr,hy,G⟩;replace HG:=HG.tr G;have HR1:=I hr;have HY1:=I hy;clear G hr hy d_0 s_0 s_1 s_2 s_3 s_4 s_5 s_6 s_7 s_8 s_9 s_10 s_11 fb_;replace HY1:=I HY1.mults;clear HF;simp only[Rv.v,Sv.v];have N_xb:=HG.hs;go_upto_region 5 with fail;refine nw1 fun w3 GB D_xb=>?_
 obtain⟨HR1,HY1,HG⟩:=GB.u3 HR1 HY1 HG;clear GB;generalize w2.heap.size=xb at*;obtain⟨s_0,s_1,s_2,s_3,s_4,s_5,s_6,s_7,s_8,s_9,s_10,s_11⟩:=(HG.bk hE.bs).c12;have j_0:=(HG.bk hE.bj).c1;go_wp2_with fail;have HBC:=I (best_any w3 q z ls j (Lems.gr (hE.hz.rows (by decide)) HG) hls (by omega));refine cm0 (HBC.out) fun w4 G=>?_
 obtain⟨HR1,HY1,D_xb,HG⟩:=G.u4 HR1 HY1 D_xb HG;clear s_0 s_1 s_2 s_3 s_4 s_5 s_6 s_7 s_8 s_9 s_10 s_11 j_0 HBC;obtain⟨b1,hb1⟩:∃b1,(bestL ls j).1=b1:=⟨_,rfl⟩;obtain⟨b2,hb2⟩:∃b2,(bestL ls j).2=b2:=⟨_,rfl⟩;have hb9:=hb0.out;rw[hb1] at hb9;rw[hb1,hb2];subst hb9;clear hb1 hb2;have xb_:=D_xb.c3;have b_0:=(HG.bk hE.bb).c1;go_wp2_with fail;refine cm1 (dround_any w4 r1 _ false HR1) fun r3 w5 HR3 G=>?_
 obtain⟨HY1,D_xb,HG⟩:=G.u3 HY1 D_xb HG;clear xb_ b_0;have xb_:=D_xb.c3;clear HR1;simp only[Rv.v];have fz_xb:=D_xb.frozen;go_upto_region 10 with fail;refine ks D_xb fun w6 B5 F5=>?_
 replace HY1:=I (HY1.stB F5 D_xb);replace HR3:=I (HR3.tf' F5 D_xb);replace HG:=HG.fa F5 N_xb;replace D_xb:=B5;clear B5 F5 xb_ fz_xb;refine wpr ?_;show wpAny _ _ _ _ 15 _ _ _;refine wg 0 (tf 15 0) [0,1,2,3,4,5,6,7,8,9,10,11,12,13,14] [] ?_;iterate 15 refine .tk ?_
 refine .done fun W1 G1 F1=>?_
 clear F1;refine wpe ?_;have GB:=G1.od;obtain⟨HY1,HR3,D_xb,HG⟩:=GB.u4 HY1 HR3 D_xb HG;clear GB G1;obtain⟨u5,hW9⟩:∃x,x=W1:=⟨_,rfl⟩;subst hW9;obtain⟨s_0,s_1,s_2,s_3,s_4,s_5,s_6,s_7,s_8,s_9,s_10,s_11⟩:=(HG.bk hE.bs).c12;have j_0:=(HG.bk hE.bj).c1;have xb_:=D_xb.c3;obtain⟨B1,GB⟩:=made1 u5 173 #[.int .i64 (j:Int),.bool false,.bool r3.neg,r3.num.v,r3.den.v,y1.v];have HZ9:Hid (OwnL (u5.alloc (.cells #[.int .i64 (j:Int),.bool false,.bool r3.neg,r3.num.v,r3.den.v,y1.v] 173)) B z ls):=I (Own.gr hE.hz (fun _ _ ha=>ha.gr (HG.trans GB)) (HG.trans GB));have BC:=I (bk_cells B1);have HNW:Hid (Lv.Is (u5.alloc (.cells #[.int .i64 (j:Int),.bool false,.bool r3.neg,r3.num.v,r3.den.v,y1.v] 173)) ⟨(j:Int),false,r3,y1⟩ ⟨j,false,lowS x fz.const fz.terms,colM (colM lz++colM (lowM fz.terms))⟩):=I ⟨rfl,rfl,HR3.gr GB,HY1.gr GB⟩;have HBW:Hid (B≤(u5.alloc (.cells #[.int .i64 (j:Int),.bool false,.bool r3.neg,r3.num.v,r3.den.v,y1.v] 173)).heap.size):=I (nt hE.hB (HG.trans GB).size);have HSB:=I (GB.bk (HG.bk hE.bs));have HGW:=I (HG.trans GB);have HZL:Hid (z.n≤1000):=I (by have h9:=hE.hz.len Lv.len (by decide);omega);clear B1 GB;go_wp2_with (at_builtin;go_loud (refine wpList_app3 elemLm rfl _ _ (by rfl) (by rfl) HZ9.out ⟨u5.heap.size,0,none⟩ 1 (⟨(j:Int),false,r3,y1⟩:Lv) ⟨j,false,lowS x fz.const fz.terms,colM (colM lz++colM (lowM fz.terms))⟩ (by rfl) HNW.out rfl BC.out (Lv.one _) (by unfold maxLen;have:=HZL.out;omega) (by have:=HZL.out;omega) HBW.out (fun W' F p a hp=>⟨hp.unit,hp.upper,hp.value.tf F (fun b cs fr e hh=>by obtain⟨cur,hc⟩:=Own.bk HZ9 e;exact Bk.not_ty hc (by decide) _ _ hh),Mults.tf hp.proof F (fun b cs fr e hh=>by obtain⟨cur,hc⟩:=Own.bk HZ9 e;exact Bk.not_ty hc (by decide) _ _ hh) (fun b cs fr e hh=>by obtain⟨cur,hc⟩:=Own.bk HZ9 e;exact Bk.not_ty hc (by decide) _ _ hh)⟩) ?_);intro y w5 hyn hO hF hY;have HYO:=I hO;have HF5:=I hF;have D5:=I (hF.bk HSB (fun e=>HZ9.ne HSB (by decide) e));have fz9:=D5.frozen;have o9:=D5.cell 11;clear hyn hO hF hY);clear fz9 o9;have F2:Fr (fun k=>k=sb) w5 (w5.setCell ⟨sb,11,none⟩ y.v):=Fr.set w5 ⟨sb,11,none⟩ _ rfl;have B5:=D5.put 11 y.v;have HO9:=Own.go HYO (fun p a hp=>⟨hp.unit,hp.upper,hp.value.tf' F2 D5,Mults.st hp.proof F2 D5⟩) (fun k hk=>F2.keep k (HYO.lt k hk).2 (fun e=>HYO.ne D5 (by decide) (e▸hk)));have HFR:=Gr.fr_ext HGW (Fr.trans (HF5.wide (Y:=fun k=>k=sb∨z.on k) fun k _ h=>.inr h) (F2.wide (Y:=fun k=>k=sb∨z.on k) fun k _ h=>.inl h));have HB9:Bk (w5.setCell ⟨sb,11,none⟩ y.v) sb 113 (q.qz y):=by simpa using B5
 generalize w5.setCell ⟨sb,11,none⟩ y.v=w9 at*;refine pex ?_
 first | (refine bodyPost_ret (results_none rfl _ _ _) rfl ?_) | (refine bodyPost_end (results_none rfl _ _ _) rfl ?_)
 exact⟨rfl,⟨y,HB9,HO9⟩,HFR⟩
theorem side_up (w:World) (B pb db sb jb bb j V:Nat) (p:Fv) (pu:Fm) (q:Qv) (x:Qm) (z:Sv) (ls:List Lm) (fz:Fm) (lz:List Mm) (hE:SideE w B pb db sb jb bb j p pu q x z ls) (hV:x.g.inputs+x.g.units.length=V) (hx:x.Va) (hu9:x.g.units.length < 1000) (hpu:∀t∈pu.terms,t.2.Lo) (hpc:pu.const.Lo) (hpn:pu.terms.length≤1000) (hfo:FmP V (mrg Fm.zero pu (ofQ (-1)))) (hls:∀m∈ls,m.value.Sm) (hn:ls.length≤900) (hj:j < 1000) (ok:SLowOk x ls V (mrg Fm.zero pu (ofQ (-1))) fz lz) (hb0:(bestL ls j).2=0):
  Calls Tryz.prog 142 #[.bool true,.pointer (some ⟨pb,0,none⟩),.pointer (some ⟨db,0,none⟩),.pointer (some ⟨sb,0,none⟩),.pointer (some ⟨jb,0,none⟩),.pointer (some ⟨bb,0,none⟩)] w fun e w'=>e=.returned (.tuple #[])∧(∃z':Sv,Bk w' sb 113 #[.int .i64 q.g.inputs,.slice q.g.units.A q.g.units.n q.g.units.c,.slice q.g.outs.A q.g.outs.n q.g.outs.c,.slice q.lo.A q.lo.n q.lo.c,.slice q.hi.A q.hi.n q.hi.c,.slice none 0 0,.slice q.goal.terms.A q.goal.terms.n q.goal.terms.c,.bool q.goal.const.neg,.slice q.goal.const.num.A q.goal.const.num.n q.goal.const.num.c,.slice q.goal.const.den.A q.goal.const.den.n q.goal.const.den.c,.slice none 0 0,.slice z'.A z'.n z'.c]∧OwnL w' B z' (ls++[⟨j,true,(lowS x fz.const fz.terms).neg',colM (colM lz++colM (lowM fz.terms))⟩]))∧Fr (fun k=>k=sb∨z.on k) w w':=by
 have HG:=I (Gr.refl w);change Hid _ at hE hV hx hpu hpc hfo hls ok hb0;go_enter Tryz.func142,Tryz.ntmps142;go_upto_region 0 with fail;obtain⟨p_0,p_1,p_2,p_3⟩:=(HG.bk hE.bp).c4;have HNF:Hid (nsz w≤w.heap.size):=I (nr _);have N_fb:=HG.hs;go_upto_region 2 with fail;clear p_0 p_1 p_2 p_3;refine nw1 fun w1 GB D_fb=>?_
 replace HG:=HG.tr GB;clear GB;generalize w.heap.size=fb at*;replace N_fb:Hid (w.heap.size≤fb):=I HNF.out;clear HNF;have HPW:=I (hE.hp.gr HG);obtain⟨p_0,p_1,p_2,p_3⟩:=(HG.bk hE.bp).c4;refine wpr ?_;have kc:=I fun W' (G:Gr w1.drew W')=>G.kk p_0 <| G.kk p_1 <| G.kk p_2 <| G.keep p_3
 refine wg 1 (tf 3 1) [0,1,2] [(1,Rv.At (ofQ (-1))),(2,Fv.At (mrg Fm.zero pu (ofQ (-1))))] ?_;refine .tk ?_;refine .dk (fun W1 G1 F1=>rof_any W1 (-1) (by decide) (by decide)) ?_;rintro _ ⟨_,-,-,⟨ov,rfl,-⟩⟩;refine .dk (fun W1 G1 F1=>by have fm:=lk F1 0;exact lscale_any W1 p ov pu (ofQ (-1)) (HPW.gr G1.od) fm.is hpu hpc (by rw[show ofQ (-1)=Q.mone from rfl];exact mone_lo) (nt hpn (by decide))) ?_;rintro _ ⟨_,-,-,⟨g,rfl,-⟩⟩;refine .done fun W1 G1 F1=>?_
 have hof:=lh F1 0;have hsc:=lh F1 1;replace kc:=kc.out W1 G1;clear F1 p_0 p_1 p_2 p_3;have GB:=G1.od;replace D_fb:=GB.hb D_fb;replace HG:=HG.tr GB;have HF:=I (hsc.is);clear GB G1 hof hsc kc;have fz5:=D_fb.frozen;have fb_:=D_fb.c4;refine wo 3 ?_;refine wpe ?_;clear fz5;refine ks D_fb fun w2 B5 F5=>?_
 replace HF:=I (HF.tf' F5 D_fb);replace HG:=HG.fa F5 N_fb;replace D_fb:=B5;clear B5 F5 fb_;clear HPW;obtain⟨u1,hW9⟩:∃x,x=w2:=⟨_,rfl⟩;subst hW9;have d_0:=(HG.bk hE.bd).c1;obtain⟨s_0,s_1,s_2,s_3,s_4,s_5,s_6,s_7,s_8,s_9,s_10,s_11⟩:=(HG.bk hE.bs).c12;have fb_:=D_fb.c4;go_wp2_with fail;refine (slower_any u1 q x z ls g (mrg Fm.zero pu (ofQ (-1))) fz lz V hV (hE.hq.gr HG) hx (Lems.gr (hE.hz.rows (by decide)) HG) HF hfo hls (by omega) hu9 ok).mono ?_;rintro e w3 ⟨r1,y1,rfl,hr,hy,G⟩;replace HG:=HG.tr G;have HR1:=I hr;have HY1:=I hy;clear G hr hy d_0 s_0 s_1 s_2 s_3 s_4 s_5 s_6 s_7 s_8 s_9 s_10 s_11 fb_;replace HY1:=I HY1.mults;clear HF;simp only[Rv.v,Sv.v];have N_xb:=HG.hs;go_upto_region 5 with fail;refine nw1 fun w4 GB D_xb=>?_
 obtain⟨HR1,HY1,HG⟩:=GB.u3 HR1 HY1 HG;clear GB;generalize w3.heap.size=xb at*;obtain⟨s_0,s_1,s_2,s_3,s_4,s_5,s_6,s_7,s_8,s_9,s_10,s_11⟩:=(HG.bk hE.bs).c12;have j_0:=(HG.bk hE.bj).c1;go_wp2_with fail;have HBC:=I (best_any w4 q z ls j (Lems.gr (hE.hz.rows (by decide)) HG) hls (by omega));refine cm0 (HBC.out) fun w5 G=>?_
 obtain⟨HR1,HY1,D_xb,HG⟩:=G.u4 HR1 HY1 D_xb HG;clear s_0 s_1 s_2 s_3 s_4 s_5 s_6 s_7 s_8 s_9 s_10 s_11 j_0 HBC;obtain⟨b1,hb1⟩:∃b1,(bestL ls j).1=b1:=⟨_,rfl⟩;obtain⟨b2,hb2⟩:∃b2,(bestL ls j).2=b2:=⟨_,rfl⟩;have hb9:=hb0.out;rw[hb2] at hb9;rw[hb1,hb2];subst hb9;clear hb1 hb2;have xb_:=D_xb.c3;go_wp2_with fail;refine cm1 (qneg_any w5 r1 _ HR1 (nt ok.s.len (by decide)) ok.s.ul) fun r2 w6 HR2 G=>?_
 obtain⟨HY1,D_xb,HG⟩:=G.u3 HY1 D_xb HG;clear xb_;have xb_:=D_xb.c3;clear HR1;simp only[Rv.v];have b_0:=(HG.bk hE.bb).c1;have fz_xb:=D_xb.frozen;go_upto_region 9 with fail;refine ks D_xb fun w7 B5 F5=>?_
 replace HY1:=I (HY1.stB F5 D_xb);replace HR2:=I (HR2.tf' F5 D_xb);replace HG:=HG.fa F5 N_xb;replace D_xb:=B5;clear B5 F5 xb_ b_0 fz_xb;have xb_:=D_xb.c3;have b_0:=(HG.bk hE.bb).c1;go_wp2_with fail;refine cm1 (dround_any w7 r2 _ true HR2) fun r3 w8 HR3 G=>?_
 obtain⟨HY1,D_xb,HG⟩:=G.u3 HY1 D_xb HG;clear xb_ b_0;have xb_:=D_xb.c3;clear HR2;simp only[Rv.v];have fz_xb:=D_xb.frozen;go_upto_region 10 with fail;refine ks D_xb fun w9 B5 F5=>?_
 replace HY1:=I (HY1.stB F5 D_xb);replace HR3:=I (HR3.tf' F5 D_xb);replace HG:=HG.fa F5 N_xb;replace D_xb:=B5;clear B5 F5 xb_ fz_xb;refine wpr ?_;show wpAny _ _ _ _ 15 _ _ _;refine wg 0 (tf 15 0) [0,1,2,3,4,5,6,7,8,9,10,11,12,13,14] [] ?_;iterate 15 refine .tk ?_
 refine .done fun W1 G1 F1=>?_
 clear F1;refine wpe ?_;have GB:=G1.od;obtain⟨HY1,HR3,D_xb,HG⟩:=GB.u4 HY1 HR3 D_xb HG;clear GB G1;obtain⟨u5,hW9⟩:∃x,x=W1:=⟨_,rfl⟩;subst hW9;obtain⟨s_0,s_1,s_2,s_3,s_4,s_5,s_6,s_7,s_8,s_9,s_10,s_11⟩:=(HG.bk hE.bs).c12;have j_0:=(HG.bk hE.bj).c1;have xb_:=D_xb.c3;obtain⟨B1,GB⟩:=made1 u5 173 #[.int .i64 (j:Int),.bool true,.bool r3.neg,r3.num.v,r3.den.v,y1.v];have HZ9:Hid (OwnL (u5.alloc (.cells #[.int .i64 (j:Int),.bool true,.bool r3.neg,r3.num.v,r3.den.v,y1.v] 173)) B z ls):=I (Own.gr hE.hz (fun _ _ ha=>ha.gr (HG.trans GB)) (HG.trans GB));have BC:=I (bk_cells B1);have HNW:Hid (Lv.Is (u5.alloc (.cells #[.int .i64 (j:Int),.bool true,.bool r3.neg,r3.num.v,r3.den.v,y1.v] 173)) ⟨(j:Int),true,r3,y1⟩ ⟨j,true,(lowS x fz.const fz.terms).neg',colM (colM lz++colM (lowM fz.terms))⟩):=I ⟨rfl,rfl,HR3.gr GB,HY1.gr GB⟩;have HBW:Hid (B≤(u5.alloc (.cells #[.int .i64 (j:Int),.bool true,.bool r3.neg,r3.num.v,r3.den.v,y1.v] 173)).heap.size):=I (nt hE.hB (HG.trans GB).size);have HSB:=I (GB.bk (HG.bk hE.bs));have HGW:=I (HG.trans GB);have HZL:Hid (z.n≤1000):=I (by have h9:=hE.hz.len Lv.len (by decide);omega);clear B1 GB;go_wp2_with (at_builtin;go_loud (refine wpList_app3 elemLm rfl _ _ (by rfl) (by rfl) HZ9.out ⟨u5.heap.size,0,none⟩ 1 (⟨(j:Int),true,r3,y1⟩:Lv) ⟨j,true,(lowS x fz.const fz.terms).neg',colM (colM lz++colM (lowM fz.terms))⟩ (by rfl) HNW.out rfl BC.out (Lv.one _) (by unfold maxLen;have:=HZL.out;omega) (by have:=HZL.out;omega) HBW.out (fun W' F p a hp=>⟨hp.unit,hp.upper,hp.value.tf F (fun b cs fr e hh=>by obtain⟨cur,hc⟩:=Own.bk HZ9 e;exact Bk.not_ty hc (by decide) _ _ hh),Mults.tf hp.proof F (fun b cs fr e hh=>by obtain⟨cur,hc⟩:=Own.bk HZ9 e;exact Bk.not_ty hc (by decide) _ _ hh) (fun b cs fr e hh=>by obtain⟨cur,hc⟩:=Own.bk HZ9 e;exact Bk.not_ty hc (by decide) _ _ hh)⟩) ?_);intro y w5 hyn hO hF hY;have HYO:=I hO;have HF5:=I hF;have D5:=I (hF.bk HSB (fun e=>HZ9.ne HSB (by decide) e));have fz9:=D5.frozen;have o9:=D5.cell 11;clear hyn hO hF hY);clear fz9 o9;have F2:Fr (fun k=>k=sb) w5 (w5.setCell ⟨sb,11,none⟩ y.v):=Fr.set w5 ⟨sb,11,none⟩ _ rfl;have B5:=D5.put 11 y.v;have HO9:=Own.go HYO (fun p a hp=>⟨hp.unit,hp.upper,hp.value.tf' F2 D5,Mults.st hp.proof F2 D5⟩) (fun k hk=>F2.keep k (HYO.lt k hk).2 (fun e=>HYO.ne D5 (by decide) (e▸hk)));have HFR:=Gr.fr_ext HGW (Fr.trans (HF5.wide (Y:=fun k=>k=sb∨z.on k) fun k _ h=>.inr h) (F2.wide (Y:=fun k=>k=sb∨z.on k) fun k _ h=>.inl h));have HB9:Bk (w5.setCell ⟨sb,11,none⟩ y.v) sb 113 (q.qz y):=by simpa using B5
 generalize w5.setCell ⟨sb,11,none⟩ y.v=w9 at*;refine pex ?_
 first | (refine bodyPost_ret (results_none rfl _ _ _) rfl ?_) | (refine bodyPost_end (results_none rfl _ _ _) rfl ?_)
 exact⟨rfl,⟨y,HB9,HO9⟩,HFR⟩
theorem OwnL.up {w w':World} {B:Nat} {x:Sv} {l:List Lm} (h:OwnL w B x l) (G:Gr w w'):OwnL w' B x l:=Own.gr h (fun _ _ ha=>ha.gr G) G
theorem OwnL.st {w w':World} {B p t:Nat} {x:Sv} {l:List Lm} {us:Array Value} (h:OwnL w B x l) (F:Fr (fun b=>b=p) w w') (hb:Bk w p t us) (h0:t≠173:=by decide) (h1:t≠310:=by decide) (h2:t≠300:=by decide):OwnL w' B x l:=
 Own.go h (fun p a hp=>⟨hp.unit,hp.upper,hp.value.tf' F hb h2,Mults.st hp.proof F hb h1 h2⟩) fun b hb'=>F.keep b (h.lt b hb').2 fun e=>h.ne hb h0 (e▸hb')
structure StepOk (x:Qm) (V j:Nat) (pu:Fm) (ls l1 ls2:List Lm) (fz fz2:Fm) (lz lz2:List Mm):Prop where
 e1:l1=ls++[⟨j,false,lowS x fz.const fz.terms,colM (colM lz++colM (lowM fz.terms))⟩]
 e2:ls2=l1++[⟨j,true,(lowS x fz2.const fz2.terms).neg',colM (colM lz2++colM (lowM fz2.terms))⟩]
 k1:SLowOk x ls V pu fz lz
 k2:SLowOk x l1 V (mrg Fm.zero pu (ofQ (-1))) fz2 lz2
 b1:(bestL ls j).1=0
 b2:(bestL l1 j).2=0
 p1:FmP V pu
 p2:FmP V (mrg Fm.zero pu (ofQ (-1)))
 pn:pu.terms.length≤1000
 s1:∀m∈ls,m.value.Sm
 s2:∀m∈l1,m.value.Sm
 n:ls.length≤800
def DomOk (x:Qm) (V:Nat):Nat→List Fm→List Lm→List Lm→Prop
 | _,[],ls,lf=>ls=lf
 | j,pu::r,ls,lf=>∃l1 ls2 fz fz2 lz lz2,StepOk x V j pu ls l1 ls2 fz fz2 lz lz2∧DomOk x V (j+1) r ls2 lf
theorem cloneL0 (w:World):
  Calls Tryz.prog 141 #[Nl] w fun e w'=>e=.returned (.slice none 0 0)∧Gr w w':=by
 have HG:=I (Gr.refl w);have heq:=fun (W:World)=>Lib.run_eql_slice_nil (P:=Tryz.prog) W 44 173 none 0 0 0 0 elemLm.ht
 go_enter Tryz.func141,Tryz.ntmps141;go_wp2;go_ret;exact⟨rfl,HG.out⟩
theorem domrun_any (w:World) (q:Qv) (x:Qm) (V:Nat) (lf:List Lm) (hq:q.Is w x) (hx:x.Va) (hV:x.g.inputs+x.g.units.length=V) (hu9:x.g.units.length < 1000) (ok:DomOk x V 0 x.g.units [] lf):
  Calls Tryz.prog 89 #[.iface 195 (.agg #[]),.agg q.qo,.int .i64 0] w fun e w'=>∃z:Sv,e=.returned (.tuple #[.agg #[.int .i64 q.g.inputs,.slice q.g.units.A q.g.units.n q.g.units.c,.slice q.g.outs.A q.g.outs.n q.g.outs.c,.slice q.lo.A q.lo.n q.lo.c,.slice q.hi.A q.hi.n q.hi.c,.slice none 0 0,.slice q.goal.terms.A q.goal.terms.n q.goal.terms.c,.bool q.goal.const.neg,.slice q.goal.const.num.A q.goal.const.num.n q.goal.const.num.c,.slice q.goal.const.den.A q.goal.const.den.n q.goal.const.den.c,.slice none 0 0,.slice z.A z.n z.c],.int .i64 0])∧Lems w' z lf∧Gr w w':=by
 change Hid _ at hq hx hV;have OK:=I ok;clear ok;have X_d_s:=dnx (w.heap.size) (w.heap.size+1);have X_bt_s:=dnx (w.heap.size+1+1) (w.heap.size+1);have X_r_s:=dnx (w.heap.size+1+1+1) (w.heap.size+1);go_enter Tryz.func89,Tryz.ntmps89;go_upto_region 1 with fail;refine nw4h fun W HG D_d D_s D_bt D_r=>?_
 have d_0:=D_d.c1;obtain⟨s_0,s_1,s_2,s_3,s_4,s_5,s_6,s_7,s_8,s_9,s_10,s_11⟩:=D_s.c12;have bt_0:=D_bt.c1;have N_s:=dnl (w.heap.size) (w.heap.size+1);have N_r:=dnl (w.heap.size) (w.heap.size+1+1+1);generalize w.heap.size+1+1+1=r at*;generalize w.heap.size+1+1=bt at*;generalize w.heap.size+1=s at*;have HUN0:Hid (x.g.units.length=q.g.units.n):=I hq.g.units.len;obtain⟨un,hun⟩:∃un,q.g.units.n=un:=⟨_,rfl⟩;have HUQ:=I hun;have HUN:Hid (x.g.units.length=un):=I (HUN0.trans hun);have hun9:un < 1000:=by have:=HUN.out;omega
 clear HUN0 hun;go_wp2_with fail;refine cm0 (qvalid_any W ⟨q.g,q.lo,q.hi,Sv.none,q.goal⟩ x (hq.gr HG).nil hx) fun w1 G=>?_
 obtain⟨D_d,D_s,D_bt,D_r,HG⟩:=G.u5 D_d D_s D_bt D_r HG;clear d_0 s_0 s_1 s_2 s_3 s_4 s_5 s_6 s_7 s_8 s_9 s_10 s_11 bt_0;obtain⟨s_0,s_1,s_2,s_3,s_4,s_5,s_6,s_7,s_8,s_9,s_10,s_11⟩:=D_s.c12;have bt_0:=D_bt.c1;go_upto_region 3 with fail;refine wpr ?_;have kc:=I fun W' (G:Gr w1.drew W')=>ai (G.keep s_10) (G.keep s_11)
 refine wg 3 (tf 7 3) [0,1,2,3,4,5,6] [(2,fun v _=>v=Nl),(5,fun v _=>v=Nl)] ?_;iterate 2 refine .tk ?_
 refine .dk (fun W1 G1 F1=>cloneD0 W1) ?_;rintro _ ⟨_,-,-,rfl⟩;iterate 2 refine .tk ?_
 refine .dk (fun W1 G1 F1=>cloneL0 W1) ?_;rintro _ ⟨_,-,-,rfl⟩;refine .tk ?_;refine .done fun W1 G1 F1=>?_
 replace kc:=kc.out W1 G1;clear F1 s_10 s_11;have GB:=G1.od;obtain⟨D_d,D_s,D_bt,D_r,HG⟩:=GB.u5 D_d D_s D_bt D_r HG;clear GB G1 kc;have fz5:=D_s.frozen;have s_10:=D_s.ce 10;refine wo 7 ?_;clear fz5;refine ks D_s fun w2 B5 F5=>?_
 replace HG:=HG.fa F5 N_s;replace D_d:=F5.hb D_d X_d_s;replace D_bt:=F5.hb D_bt X_bt_s;replace D_r:=F5.hb D_r X_r_s;replace D_s:=B5;clear B5 F5 s_10;refine wo 8 ?_;have fz5:=D_s.frozen;have s_11:=D_s.ce 11;refine wo 9 ?_;refine wpe ?_;clear fz5;refine ks D_s fun u1 B5 F5=>?_
 replace HG:=HG.fa F5 N_s;replace D_d:=F5.hb D_d X_d_s;replace D_bt:=F5.hb D_bt X_bt_s;replace D_r:=F5.hb D_r X_r_s;replace D_s:=B5;clear B5 F5 s_11;have s_1:=D_s.ce 1;obtain⟨aU,haU⟩:∃a,q.g.units.A=a:=⟨_,rfl⟩;have HAU0:=I haU;clear haU;simp only[HUQ.out,HAU0.out] at s_1;go_wp2_with fail;have HZ:Hid (OwnL u1 w.heap.size Sv.none []):=I (Own.nil _ _);go_loopw [41] (fun s0 wr=>∃(j:Nat) (z:Sv) (ls:List Lm),s0=.int .i64 j∧j≤un∧Hid (DomOk x V j (x.g.units.drop j) ls lf)∧Hid (OwnL wr w.heap.size z ls)∧Hid (Gr w wr)∧Hid (Bk wr w.heap.size 89 #[.iface 195 (.agg #[])])∧Hid (Bk wr s 113 (q.qz z))∧Hid (Bk wr bt 3 #[.int .i64 0])∧Hid (Bk wr r 113 #[.int .i64 0,Nl,Nl,Nl,Nl,Nl,Nl,.bool false,Nl,Nl,Nl,Nl])) (fun j _=>un - (intOf j).toNat)
 case atStart=>exact⟨0,Sv.none,[],rfl,nq _,OK,HZ,HG,D_d,D_s,D_bt,D_r⟩
 case round=>
  clear HZ HG D_d D_s D_bt D_r s_1;obtain⟨j,z,ls,rfl,hr1,HDO,HZ,HG,D_d,D_s,D_bt,D_r⟩:=hrel;by_cases hin:j < un
  ·obtain⟨pu,hpu⟩:∃f,x.g.units[j]?=some f:=⟨_,ge (by rw[HUN.out];exact hin)⟩;have HDR:Hid (x.g.units.drop j=pu::x.g.units.drop (j+1)):=by rw[List.drop_eq_getElem?_toList_append,hpu];exact rfl
   rw[HDR.out] at HDO;obtain⟨l1,ls2,fz,fz2,lz,lz2,hst,hdo⟩:=HDO.out;have HST:=I hst;have HDO1:=I hdo;obtain⟨p,adu,hp,hA,d0,d1,d2,d3⟩:=hq.g.units.at hpu;replace d0:=HG.keep d0;replace d1:=HG.keep d1;replace d2:=HG.keep d2;replace d3:=HG.keep d3;rw[HAU0.out] at hA;subst hA;have HP0:=I hp;have hj9:j < 1000:=by omega
   clear hst hdo HDR HDO hp hpu;have HS9:=HG.size;have L9_d:=D_d.lt;have L9_s:=D_s.lt;have L9_bt:=D_bt.lt;have L9_r:=D_r.lt;have X_s_jb:Hid (¬s=wr.heap.size):=(fun e=>by have h3:s=wr.heap.size:=e;omega);have X_jb_s:=X_s_jb.sy;have X_s_pb:Hid (¬s=wr.heap.size+1):=(fun e=>by have h3:s=wr.heap.size+1:=e;omega);have X_pb_s:=X_s_pb.sy;clear HS9 L9_d L9_s L9_bt L9_r;go_upto_region 7 with fail;clear d0 d1 d2 d3;refine nw2 fun w4 GB D_jb D_pb=>?_
   replace HZ:=I (OwnL.up HZ GB);obtain⟨D_d,D_s,D_bt,D_r,HG⟩:=GB.u5 D_d D_s D_bt D_r HG;clear GB;generalize wr.heap.size+1=pb at*;generalize wr.heap.size=jb at*;go_wp2_with fail;refine (side_lo w4 w.heap.size pb w.heap.size s jb bt j V p pu q x z ls fz lz ⟨D_pb.out,HP0.gr HG,D_d.out,D_s.out,hq.gr HG,HZ.out,HG.size,D_jb.out,D_bt.out⟩ hV hx hu9 (fun t ht=>(HST.p1.lo t ht)) HST.p1.c HST.pn HST.p1 HST.s1 (by have:=HST.n;have h9:=congrArg List.length HST.e1;rw[List.length_append,List.length_singleton] at h9;omega) hj9 HST.k1 HST.b1).mono ?_;rintro e w5 ⟨rfl,⟨z1,hb1,hz1⟩,F9⟩;replace D_d:=I (F9.bk D_d (fun e=>e.elim (fun h=>X_d_s.out h) (fun h=>HZ.ne D_d (by decide) h)));replace D_bt:=I (F9.bk D_bt (fun e=>e.elim (fun h=>X_bt_s.out h) (fun h=>HZ.ne D_bt (by decide) h)));replace D_r:=I (F9.bk D_r (fun e=>e.elim (fun h=>X_r_s.out h) (fun h=>HZ.ne D_r (by decide) h)));replace D_jb:=I (F9.bk D_jb (fun e=>e.elim (fun h=>X_jb_s.out h) (fun h=>HZ.ne D_jb (by decide) h)));replace D_pb:=I (F9.bk D_pb (fun e=>e.elim (fun h=>X_pb_s.out h) (fun h=>HZ.ne D_pb (by decide) h)));replace HG:=I (HG.step F9 (fun k _ hk=>hk.elim (fun e=>by rw[e];exact N_s.out) (fun h=>(HZ.lt k h).1)));replace D_s:=I hb1;have HZ9:Hid (OwnL w5 w.heap.size z1 l1):=I (by rw[HST.e1];exact hz1);clear HZ hb1 hz1 F9;have HZ:=HZ9;clear HZ9;go_wp2_with fail;refine (side_up w5 w.heap.size pb w.heap.size s jb bt j V p pu q x z1 l1 fz2 lz2 ⟨D_pb.out,HP0.gr HG,D_d.out,D_s.out,hq.gr HG,HZ.out,HG.size,D_jb.out,D_bt.out⟩ hV hx hu9 (fun t ht=>(HST.p1.lo t ht)) HST.p1.c HST.pn HST.p2 HST.s2 (by have:=HST.n;have h9:=congrArg List.length HST.e1;rw[List.length_append,List.length_singleton] at h9;omega) hj9 HST.k2 HST.b2).mono ?_;rintro e w6 ⟨rfl,⟨z2,hb1,hz1⟩,F9⟩;replace D_d:=I (F9.bk D_d (fun e=>e.elim (fun h=>X_d_s.out h) (fun h=>HZ.ne D_d (by decide) h)));replace D_bt:=I (F9.bk D_bt (fun e=>e.elim (fun h=>X_bt_s.out h) (fun h=>HZ.ne D_bt (by decide) h)));replace D_r:=I (F9.bk D_r (fun e=>e.elim (fun h=>X_r_s.out h) (fun h=>HZ.ne D_r (by decide) h)));replace HG:=I (HG.step F9 (fun k _ hk=>hk.elim (fun e=>by rw[e];exact N_s.out) (fun h=>(HZ.lt k h).1)));replace D_s:=I hb1;have HZ9:Hid (OwnL w6 w.heap.size z2 ls2):=I (by rw[HST.e2];exact hz1);clear HZ hb1 hz1 F9;have HZ:=HZ9;clear HZ9;go_wp2;go_roundw
   ·exact⟨j+1,z2,ls2,by go_num,by omega,HDO1,HZ,HG,D_d,D_s,D_bt,D_r⟩
   ·simp[intOf];omega
  ·obtain rfl:j=un:=by omega
   have HLF:Hid (ls=lf):=I (by have h9:=HDO.out;rw[List.drop_eq_nil_of_le (by rw[HUN.out];exact nr _)] at h9;exact h9);have HZL:=I (HZ.rows (by decide));clear HZ;have HZF:=I HZL.out;clear HZL;go_upto_region 11 with fail;obtain⟨s_0,s_1,s_2,s_3,s_4,s_5,s_6,s_7,s_8,s_9,s_10,s_11⟩:=D_s.c12
   (repeat ((fail_if_success refine wpList_sw D_r ?_);go_step))
   refine wpList_sw D_r fun w4 B5 F5=>?_
   have FK9:=F5;have DR9:=D_r;replace HG:=I (HG.fr_at F5 N_r);replace D_r:=B5;clear F5 s_0 s_1 s_2 s_3 s_4 s_5 s_6 s_7 s_8 s_9 s_10 s_11;have r_0:=D_r.ce 0;have r_1:=D_r.ce 1;have r_2:=D_r.ce 2;have r_3:=D_r.ce 3;have r_4:=D_r.ce 4;have r_5:=D_r.ce 5;have r_6:=D_r.ce 6;have r_7:=D_r.ce 7;have r_8:=D_r.ce 8;have r_9:=D_r.ce 9;have r_10:=D_r.ce 10;have r_11:=D_r.ce 11;have HZ9:Hid (Lems w4 z ls):=I (Rows.tf HZF FK9 (fun b cs fr e hh=>Bk.not_ty DR9 (by decide) cs fr (e▸hh)) (fun p a hp=>⟨hp.unit,hp.upper,hp.value.tf' FK9 DR9,Mults.st hp.proof FK9 DR9⟩))
   (repeat ((fail_if_success refine wp_ret ?_);go_step))
   refine wp_ret ?_;refine pex ?_;refine bodyPost_ret (by simp[results,Tryz.results89,go_sem,r_0,r_1,r_2,r_3,r_4,r_5,r_6,r_7,r_8,r_9,r_10,r_11];try rfl) rfl ?_;exact⟨z,rfl,by rw[← HLF.out];exact HZ9.out,HG.out⟩
abbrev Qv.sr (q:Qv) (v:Nat) (a b:Int) (c:Value):Array Value:=#[.int .i64 q.g.inputs,.slice q.g.units.A q.g.units.n q.g.units.c,.slice q.g.outs.A q.g.outs.n q.g.outs.c,.slice q.lo.A q.lo.n q.lo.c,.slice q.hi.A q.hi.n q.hi.c,.slice none 0 0,.slice q.goal.terms.A q.goal.terms.n q.goal.terms.c,.bool q.goal.const.neg,.slice q.goal.const.num.A q.goal.const.num.n q.goal.const.num.c,.slice q.goal.const.den.A q.goal.const.den.n q.goal.const.den.c,.int .i64 1,.int .i64 0,.bool false,.bool false,.int .i64 0,.int .i64 200,.int .i64 0,.iface 195 (.agg #[]),.pointer (some ⟨v,0,none⟩),.slice none 0 0,.pointer none,.int .i64 a,.int .i64 b,.int .i64 0,c]
attribute [go_sem] Qv.sr
theorem ptwice0 (w:World):
  Calls Tryz.prog 173 #[Nl] w fun e w'=>e=.returned (.bool false)∧Gr w w':=by
 have hmm:=@run_makeMap Tryz.prog;go_enter Tryz.func173,Tryz.ntmps173;go_wp2_with fail;go_rounds 1
 go_ret;exact⟨rfl,(Gr.refl w).alloc _⟩
theorem makeIn (w:World) (n:Nat) (hn:n≤1024):(Instr.makeSlice 220 (.int .i64 (n:Int)) (.int .i64 (n:Int))).run Tryz.prog w=.ok (.slice (some ⟨w.heap.size,0,none⟩) n n) (w.alloc (.cells (madeCells #[Value.int .i64 0] n) 3)):=by
 obtain⟨i0,hi,hz0,hz1,hz2⟩:=info_parts (show (Tryz.prog.info? 3).map (fun i=>(i.zero,i.size,i.bytes))=some (some (.int .i64 0),1,8) from by kernel_rfl);have:=run_make (P:=Tryz.prog) w 220 3 i0 _ (by kernel_rfl) hi hz0 .i64 .i64 n n (by omega) (Int.le_refl _) (by rw[hz2];omega) (by omega);rw[hz1,show Int.toNat (n:Int)=n from rfl,Nat.mul_one] at this;exact this
def PathAt (v:Value) (W:World):Prop:=∃y:Sv,v=.tuple #[y.v,.int .i64 0]
theorem ppath0 (w:World) (n:Nat) (hn:n≤1024):
  Calls Tryz.prog 107 #[Nl,.int .i64 (n:Int)] w fun e w'=>∃y:Sv,e=.returned (.tuple #[y.v,.int .i64 0])∧Gr w w':=by
 have hd1:decide ((n:Int) < 0)=false:=df (by omega);have hd2:decide ((1024:Int) < (n:Int))=false:=df (by omega);have hd3:decide (1024 < n)=false:=df (by omega);go_enter Tryz.func107,Tryz.ntmps107;go_wp2_with fail;refine wp_loop_rounds 1 ?_;rw[rounds_succ];go_wp2_with fail;refine cm0 (ptwice0 w) fun w1 G1=>?_
 have mi:=makeIn w1 n hn;have HG:=I G1;clear hd1 hd2 hd3;go_wp2_with fail;refine wp_loop_rounds 1 ?_;rw[rounds_succ];go_wp2;refine bret Tryz.results107 ?_;exact⟨⟨some ⟨w1.heap.size,0,none⟩,n,n⟩,rfl,HG.alloc _⟩
theorem sended0 (w:World) (r:Nat) (h1:w.cell? ⟨r,22,none⟩=some (.int .i64 0)) (h2:w.cell? ⟨r,23,none⟩=some (.int .i64 0)):
  Calls Tryz.prog 39 #[.pointer (some ⟨r,0,none⟩)] w fun e w'=>e=.returned (.bool false)∧Gr w w':=by
 go_enter Tryz.func39,Tryz.ntmps39;go_wp2_with fail;refine cm0 (ald_any _ r 22 0 h1) fun w1 G1=>?_
 replace h2:=G1.keep h2;go_wp2_with fail;refine cm0 (ald_any _ r 23 0 h2) fun w2 G2=>?_
 have HG:=I (G1.trans G2);clear h1 h2;go_wp2;go_ret;exact⟨rfl,HG.out⟩
theorem swhole0 (w:World) (q:Qv) (r v:Nat) (hr:Bk w r 103 (q.sr v 0 0 (.pointer none))):
  Calls Tryz.prog 21 #[.pointer (some ⟨r,0,none⟩)] w fun e w'=>∃p:Nat,e=.returned (.pointer (some ⟨p,0,none⟩))∧w.heap.size≤p∧Bk w' p 146 #[.int .i64 q.g.inputs,.slice q.g.units.A q.g.units.n q.g.units.c,.slice q.g.outs.A q.g.outs.n q.g.outs.c,.slice q.lo.A q.lo.n q.lo.c,.slice q.hi.A q.hi.n q.hi.c,.slice none 0 0,.slice q.goal.terms.A q.goal.terms.n q.goal.terms.c,.bool q.goal.const.neg,.slice q.goal.const.num.A q.goal.const.num.n q.goal.const.num.c,.slice q.goal.const.den.A q.goal.const.den.n q.goal.const.den.c,.slice none 0 0,.slice none 0 0,.pointer (some ⟨v,0,none⟩)]∧Gr w w':=by
 have HR:=I hr;clear hr;go_enter Tryz.func21,Tryz.ntmps21;go_upto_region 1 with fail;have gd:=(Gr.refl w).drew;have hS0:=(show (fun W=>W.cell? ⟨r,0,none⟩=some (.int .i64 q.g.inputs)∧W.cell? ⟨r,1,none⟩=some q.g.units.v∧W.cell? ⟨r,2,none⟩=some q.g.outs.v∧W.cell? ⟨r,3,none⟩=some q.lo.v∧W.cell? ⟨r,4,none⟩=some q.hi.v∧W.cell? ⟨r,5,none⟩=some Nl∧W.cell? ⟨r,6,none⟩=some q.goal.terms.v∧W.cell? ⟨r,7,none⟩=some (.bool q.goal.const.neg)∧W.cell? ⟨r,8,none⟩=some q.goal.const.num.v∧W.cell? ⟨r,9,none⟩=some q.goal.const.den.v∧W.cell? ⟨r,18,none⟩=some (.pointer (some ⟨v,0,none⟩))) w.drew from ⟨(gd.bk HR).cell 0,(gd.bk HR).cell 1,(gd.bk HR).cell 2,(gd.bk HR).cell 3,(gd.bk HR).cell 4,(gd.bk HR).cell 5,(gd.bk HR).cell 6,(gd.bk HR).cell 7,(gd.bk HR).cell 8,(gd.bk HR).cell 9,(gd.bk HR).cell 18⟩);clear gd;refine wp_region_E (fun W=>W.cell? ⟨r,0,none⟩=some (.int .i64 q.g.inputs)∧W.cell? ⟨r,1,none⟩=some q.g.units.v∧W.cell? ⟨r,2,none⟩=some q.g.outs.v∧W.cell? ⟨r,3,none⟩=some q.lo.v∧W.cell? ⟨r,4,none⟩=some q.hi.v∧W.cell? ⟨r,5,none⟩=some Nl∧W.cell? ⟨r,6,none⟩=some q.goal.terms.v∧W.cell? ⟨r,7,none⟩=some (.bool q.goal.const.neg)∧W.cell? ⟨r,8,none⟩=some q.goal.const.num.v∧W.cell? ⟨r,9,none⟩=some q.goal.const.den.v∧W.cell? ⟨r,18,none⟩=some (.pointer (some ⟨v,0,none⟩))) (by kernel_rfl) ?_;show anyE _ _ _ _ 12 _ _ _;refine anyE.tk 0 hS0 ?_;refine anyE.tk 1 hS0 ?_;refine anyE.tk 2 hS0 ?_;refine anyE.tk 3 hS0 ?_;refine anyE.tk 4 hS0 ?_;refine anyE.tk 5 hS0 ?_;refine anyE.tk 6 hS0 ?_;refine anyE.tk 7 hS0 ?_;refine anyE.tk 8 hS0 ?_;refine anyE.tk 9 hS0 ?_;have GA:=((Gr.refl w).alloc (.cells (q.qp v) 146)).drew;have D1:=I (GA.bk HR);have HG1:=I GA;have DP:=I (show Bk ((w.alloc (.cells (q.qp v) 146)).drew) w.heap.size 146 (q.qp v) from Bk.made _ _ _);clear GA hS0;refine anyE.k 10 fun K hK=>?_
 go_simp;refine hK.out _ _ ⟨Or.inl (⟨D1.cell 0,D1.cell 1,D1.cell 2,D1.cell 3,D1.cell 4,D1.cell 5,D1.cell 6,D1.cell 7,D1.cell 8,D1.cell 9,D1.cell 18⟩),?_⟩;clear hK K;refine ptt ?_;generalize hw2:(w.alloc (.cells (q.qp v) 146)).drew=w2 at*;clear hw2;have hS1:=(show (fun W=>W.cell? ⟨r,0,none⟩=some (.int .i64 q.g.inputs)∧W.cell? ⟨r,1,none⟩=some q.g.units.v∧W.cell? ⟨r,2,none⟩=some q.g.outs.v∧W.cell? ⟨r,3,none⟩=some q.lo.v∧W.cell? ⟨r,4,none⟩=some q.hi.v∧W.cell? ⟨r,5,none⟩=some Nl∧W.cell? ⟨r,6,none⟩=some q.goal.terms.v∧W.cell? ⟨r,7,none⟩=some (.bool q.goal.const.neg)∧W.cell? ⟨r,8,none⟩=some q.goal.const.num.v∧W.cell? ⟨r,9,none⟩=some q.goal.const.den.v∧W.cell? ⟨r,18,none⟩=some (.pointer (some ⟨v,0,none⟩))) w2 from ⟨D1.cell 0,D1.cell 1,D1.cell 2,D1.cell 3,D1.cell 4,D1.cell 5,D1.cell 6,D1.cell 7,D1.cell 8,D1.cell 9,D1.cell 18⟩);refine anyE.tk 11 hS1 ?_;refine anyE.done (by kernel_rfl) ?_;go_wp2;go_ret;exact⟨w.heap.size,rfl,nr _,DP.out,HG1.out⟩
theorem sgraft0 (w:World) (q:Qv):
  Calls Tryz.prog 136 #[.pointer none,.agg q.qo] w fun e w'=>e=.returned (.tuple #[.pointer none,.bool false])∧Gr w w':=by
 go_enter Tryz.func136,Tryz.ntmps136;go_upto_region 1 with fail;refine nw1h fun W HG D_s=>?_
 go_wp2;refine pex ?_;refine bret Tryz.results136 ?_;exact⟨rfl,HG.out⟩
theorem slearnt0 (w:World) (q:Qv) (r p v:Nat) (k:Int) (hr:Bk w r 103 (q.sr v 0 0 (.pointer none))) (hp:Bk w p 146 (q.qp v)) (hn:q.g.units.n≤1024):
  Calls Tryz.prog 137 #[.pointer (some ⟨r,0,none⟩),.pointer (some ⟨p,0,none⟩),.int .i64 k] w fun e w'=>e=.returned (.tuple #[.agg #[.slice none 0 0,.slice none 0 0,.bool false,.slice none 0 0],.int .i64 0,.bool false])∧Gr w w':=by
 have HR:=I hr;have HP:=I hp;clear hr hp;go_enter Tryz.func137,Tryz.ntmps137;go_upto_region 1 with fail;refine nw1h fun W HG D_o=>?_
 have N_o:=dnl (w.heap.size) (w.heap.size);have p_10:W.cell? ⟨p,10,none⟩=some Nl:=(HG.bk HP).cell 10;have r_1:W.cell? ⟨r,1,none⟩=some q.g.units.v:=(HG.bk HR).cell 1;refine wpr ?_;have kc:=I fun W' (G:Gr W.drew W')=>G.kk p_10 <| G.keep r_1
 refine wg 0 (tf 18 0) [0,1,2,3,4,5,6,7,8,9,10,11,12,13,14,15,16,17] [(12,PathAt)] ?_;iterate 12 refine .tk ?_
 refine .dc (fun W1 G1 F1=>?_) ?_
 ·obtain⟨p_10,r_1⟩:=kc.out W1 G1;refine doesAt_en ?_;refine (ppath0 W1 q.g.units.n hn).mono ?_;rintro e w' ⟨y,rfl,G⟩;exact⟨_,rfl,G,y,rfl⟩
 rintro _ ⟨_,-,-,⟨y,rfl⟩⟩;iterate 5 refine .tk ?_
 refine .done fun W1 G1 F1=>?_
 clear F1;refine wpe ?_;have GB:=G1.od;replace D_o:=GB.hb D_o;replace HG:=HG.tr GB;clear GB G1 kc p_10 r_1;obtain⟨u1,hW9⟩:∃x,x=W1:=⟨_,rfl⟩;subst hW9;have r_19:u1.cell? ⟨r,19,none⟩=some Nl:=(HG.bk HR).cell 19;go_wp2_with fail;refine wp_loop_rounds 1 ?_;rw[rounds_succ];have z0_:=D_o.c4;have fz:=D_o.frozen;go_wp2;refine ks D_o fun w1 B5 F5=>?_
 replace HG:=HG.fa F5 N_o;replace D_o:=B5;clear B5 F5 r_19 z0_;have o_:=D_o.c4;clear fz;refine pex ?_;refine bret Tryz.results137 ?_;exact⟨rfl,HG.out⟩
theorem sshut0 (w:World) (q:Qv) (r p v:Nat) (hr:Bk w r 103 (q.sr v 0 0 (.pointer none))) (hp:Bk w p 146 (q.qp v)) (hn:q.g.units.n≤1024):
  Calls Tryz.prog 87 #[.pointer (some ⟨r,0,none⟩),.pointer (some ⟨p,0,none⟩)] w fun e w'=>e=.returned (.bool false)∧Gr w w':=by
 have HG:=I (Gr.refl w);have HR:=I hr;have HP:=I hp;clear hr hp;go_enter Tryz.func87,Tryz.ntmps87;go_upto_region 1 with fail;have r_20:w.cell? ⟨r,20,none⟩=some (.pointer none):=(HG.bk HR).cell 20;have p_0:w.cell? ⟨p,0,none⟩=some (.int .i64 q.g.inputs):=(HG.bk HP).cell 0;have p_1:w.cell? ⟨p,1,none⟩=some q.g.units.v:=(HG.bk HP).cell 1;have p_2:w.cell? ⟨p,2,none⟩=some q.g.outs.v:=(HG.bk HP).cell 2;have p_3:w.cell? ⟨p,3,none⟩=some q.lo.v:=(HG.bk HP).cell 3;have p_4:w.cell? ⟨p,4,none⟩=some q.hi.v:=(HG.bk HP).cell 4;have p_5:w.cell? ⟨p,5,none⟩=some Nl:=(HG.bk HP).cell 5;have p_6:w.cell? ⟨p,6,none⟩=some q.goal.terms.v:=(HG.bk HP).cell 6;have p_7:w.cell? ⟨p,7,none⟩=some (.bool q.goal.const.neg):=(HG.bk HP).cell 7;have p_8:w.cell? ⟨p,8,none⟩=some q.goal.const.num.v:=(HG.bk HP).cell 8;have p_9:w.cell? ⟨p,9,none⟩=some q.goal.const.den.v:=(HG.bk HP).cell 9;have p_10:w.cell? ⟨p,10,none⟩=some Nl:=(HG.bk HP).cell 10;have p_11:w.cell? ⟨p,11,none⟩=some Nl:=(HG.bk HP).cell 11;refine wpr ?_;have kc:=I fun W' (G:Gr w.drew W')=>G.kk r_20 <| G.kk p_0 <| G.kk p_1 <| G.kk p_2 <| G.kk p_3 <| G.kk p_4 <| G.kk p_5 <| G.kk p_6 <| G.kk p_7 <| G.kk p_8 <| G.kk p_9 <| ai (G.keep p_10) (G.keep p_11)
 refine wg 0 (tf 14 0) [0,1,2,3,4,5,6,7,8,9,10,11,12,13] [(8,fun v _=>v=.tuple #[.pointer none,.bool false])] ?_;iterate 8 refine .tk ?_
 refine .dk (fun W1 G1 F1=>sgraft0 W1 q) ?_;rintro _ ⟨_,-,-,rfl⟩;iterate 5 refine .tk ?_
 refine .done fun W1 G1 F1=>?_
 clear F1;refine wpe ?_;have GB:=G1.od;replace HG:=HG.tr GB;clear GB G1 kc r_20 p_0 p_1 p_2 p_3 p_4 p_5 p_6 p_7 p_8 p_9 p_10 p_11;obtain⟨u1,hW9⟩:∃x,x=W1:=⟨_,rfl⟩;subst hW9;go_wp2_with fail;refine cm0 (slearnt0 u1 q r p v 2 (HG.bk HR) (HG.bk HP) hn) fun w1 G=>?_
 replace HG:=HG.tr G

 go_upto_region 6 with fail;refine nw1 fun w2 GB D_rb=>?_
 replace HG:=HG.tr GB;clear GB;generalize w1.heap.size=rb at*;go_wp2;go_ret;exact⟨rfl,HG.out⟩
theorem scount0 (w:World) (q:Qv) (r v:Nat) (hr:Bk w r 103 (q.sr v 0 0 (.pointer none))):
  Calls Tryz.prog 88 #[.pointer (some ⟨r,0,none⟩)] w fun e w'=>e=.returned (.bool true)∧Bk w' r 103 #[.int .i64 q.g.inputs,.slice q.g.units.A q.g.units.n q.g.units.c,.slice q.g.outs.A q.g.outs.n q.g.outs.c,.slice q.lo.A q.lo.n q.lo.c,.slice q.hi.A q.hi.n q.hi.c,.slice none 0 0,.slice q.goal.terms.A q.goal.terms.n q.goal.terms.c,.bool q.goal.const.neg,.slice q.goal.const.num.A q.goal.const.num.n q.goal.const.num.c,.slice q.goal.const.den.A q.goal.const.den.n q.goal.const.den.c,.int .i64 1,.int .i64 0,.bool false,.bool false,.int .i64 0,.int .i64 200,.int .i64 0,.iface 195 (.agg #[]),.pointer (some ⟨v,0,none⟩),.slice none 0 0,.pointer none,.int .i64 1,.int .i64 0,.int .i64 0,.pointer none]∧Fr (fun k=>k=r) w w':=by
 have HG:=I (Gr.refl w);have HR:=I hr;clear hr;go_enter Tryz.func88,Tryz.ntmps88;go_upto_region 1 with fail;have r_14:w.cell? ⟨r,14,none⟩=some (.int .i64 0):=(HG.bk HR).cell 14;have r_15:w.cell? ⟨r,15,none⟩=some (.int .i64 200):=(HG.bk HR).cell 15;refine wpr ?_;have kc:=I fun W' (G:Gr w.drew W')=>ai (G.keep r_14) (G.keep r_15)
 refine wg 0 (tf 10 0) [0,1,2,3,4,5,6,7,8,9] [(3,fun v _=>v=.int .i64 0)] ?_;iterate 3 refine .tk ?_
 refine .dk (fun W1 G1 F1=>ald_any W1 r 21 0 ((G1.od.bk (HG.bk HR)).cell 21)) ?_;rintro _ ⟨_,-,-,rfl⟩;iterate 6 refine .tk ?_
 refine .done fun W1 G1 F1=>?_
 clear F1;refine wpe ?_;have GB:=G1.od;replace HG:=HG.tr GB;clear GB G1 kc r_14 r_15;obtain⟨u1,hW9⟩:∃x,x=W1:=⟨_,rfl⟩;subst hW9;go_wp2_with fail;have HRU:=I (HG.bk HR);refine (aad_any u1 r 21 _ _ 0 1 HRU (HRU.cell 21) (by decide) (by decide)).mono ?_;rintro e w2 ⟨rfl,hw2⟩;have B5:Bk w2 r 103 (q.sr v 1 0 (.pointer none)):=by have h9:=HRU.put 21 (.int .i64 (0+1));rw[hw2];simpa using h9
 have F5:Fr (fun k=>k=r) w w2:=Gr.fr_ext HG (by rw[hw2];exact Fr.set u1 ⟨r,21,none⟩ _ rfl);have HB5:=I B5;have HF5:=I F5;clear B5 F5 hw2 HRU HR HG;go_wp2;go_ret;exact⟨rfl,HB5.out,HF5.out⟩
theorem plainz (w:World) (k i:Int):
  Calls Tryz.prog 405 #[.agg #[.int .i64 k,.int .i64 i,.int .i64 0,.int .i64 0]] w fun e w'=>e=.returned (.bool true)∧Gr w w':=by
 go_enter Tryz.func405,Tryz.ntmps405;go_upto_region 1 with fail;refine nw1h fun W HG D_p=>?_
 have p_:=D_p.c4;go_wp2;go_ret;exact⟨rfl,HG.out⟩
theorem lemma0 (w:World) (q:Qv) (z:Sv) (u:Int) (b:Bool):
  Calls Tryz.prog 411 #[scL q z,.int .i64 0,.int .i64 u,.bool b] w fun e w'=>e=.returned (.tuple #[Rv.nil.v,.bool false])∧Gr w w':=by
 simp only[scL] at*;go_enter Tryz.func411,Tryz.ntmps411;go_upto_region 1 with fail;refine nw2h fun W HG D_p D_r=>?_
 have p_:=D_p.c12;have N_r:=dnl (w.heap.size) (w.heap.size+1);generalize w.heap.size+1=r at*;have z0_:=D_r.c3;have fz:=D_r.frozen;go_wp2;refine pex ?_;refine ks D_r fun W5 B5 F5=>?_
 have d_:=B5.c3;refine bret Tryz.results411 ?_;exact⟨rfl,HG.fr_at F5 N_r⟩
def aboveT (pu:Fm) (l u:Q):Fm:=mrg Fm.zero (mrg pu ⟨[],l⟩ Q.mone) u
def triT (pu:Fm) (v:Int) (l u:Q):Fm:=mrg (aboveT pu l u) (mrg Fm.zero (varF v) (Q.sub u l)) Q.mone
structure TriOk (pu:Fm) (v:Int) (l u:Q):Prop where
 s1:l.sign < 0
 s2:0 < u.sign
 a1:∀t∈(mrg pu ⟨[],l⟩ Q.mone).terms,t.2.Lo
 a2:(mrg pu ⟨[],l⟩ Q.mone).const.Lo
 a3:(mrg pu ⟨[],l⟩ Q.mone).terms.length≤1000000
 b1:∀t∈(aboveT pu l u).terms,t.2.Lo
 b2:(aboveT pu l u).const.Lo
 d:(Q.sub u l).Lo
 e1:∀t∈(mrg Fm.zero (varF v) (Q.sub u l)).terms,t.2.Lo
 e2:(mrg Fm.zero (varF v) (Q.sub u l)).const.Lo
 e3:(aboveT pu l u).terms.length+(mrg Fm.zero (varF v) (Q.sub u l)).terms.length≤1000000
end
def exP0:Fm:=⟨[(0,ofQ 1)],Q.zero⟩
def exP1:Fm:=⟨[(0,ofQ (-1))],Q.zero⟩
def exV (v:Int):Fm:=⟨[(v,ofQ 1)],Q.zero⟩
def exU (v:Int) (p:Fm):List Fm:=[exV v,mrg (exV v) p Q.mone,mrg p ⟨[],ofQ (-1)⟩ Q.mone,mrg ⟨[],ofQ 1⟩ p Q.mone,triT p v (ofQ (-1)) (ofQ 1)]
def exF:List Fm:=[mrg (exV 0) ⟨[],ofQ (-1)⟩ Q.mone,mrg ⟨[],ofQ 1⟩ (exV 0) Q.mone]++exU 1 exP0++exU 2 exP1
def exG:Fm:=⟨[(1,ofQ (-1)),(2,ofQ (-1))],Q.div (ofQ 1) (ofQ 2)⟩
def exT0:Tb:=setT 3 exF exG
def exT1:Tb:=(relG exT0.nonb exT0.nonb.length 0 exT0).getD exT0
def exT3:Tb:=(minT (vioT (exT1.vars+exT1.rows) (exT1.nonb.length+2)) 5 (pivT (insT exT1) 8 exT1.nonb.length)).getD exT0
def exT4:Tb:=delT exT3 1
def exT5:Tb:=(minT (fun T=>T.obj) 5 exT4).getD exT0
theorem ex_rel:relG exT0.nonb exT0.nonb.length 0 exT0=some exT1:=by kernel_rfl
theorem ex_min:minT (vioT (exT1.vars+exT1.rows) (exT1.nonb.length+2)) 5 (pivT (insT exT1) 8 exT1.nonb.length)=some exT3:=by kernel_rfl
theorem ex_min2:minT (fun T=>T.obj) 5 exT4=some exT5:=by kernel_rfl
theorem ex_sol:SolOk exT0 exT1 exT3 exT4 exT5 8 1 5 5 where
 rel:=ex_rel
 n0:=of_decide_eq_true (by kernel_rfl)
 fa:=⟨tabOk.ok (by kernel_rfl),by kernel_rfl,of_decide_eq_true (by kernel_rfl),of_decide_eq_true (by kernel_rfl),pivOk.ok (by kernel_rfl)⟩
 fm:=ex_min
 fv:=⟨by kernel_rfl,by kernel_rfl,by kernel_rfl⟩
 fb:=⟨tabOk.ok (by kernel_rfl),by kernel_rfl,⟨smB.sm (by kernel_rfl),of_decide_eq_true (by kernel_rfl)⟩,by kernel_rfl,by kernel_rfl,of_decide_eq_true (by kernel_rfl)⟩
 t4:=rfl
 ok4:=tabOk.ok (by kernel_rfl)
 fr:=fun e he hv=>by
  have h:(List.range exT4.nonb.length).all (fun e=>decide (nAt exT4.nonb e < exT4.vars→(qAt exT4.obj e).sign=0))=true:=by kernel_rfl
  exact of_decide_eq_true (List.all_eq_true.1 h e (List.mem_range.2 he)) hv
 mo:=ex_min2
 ok5:=tabOk.ok (by kernel_rfl)
 rw5:=of_decide_eq_true (by kernel_rfl)
def apartB:List Mm→Bool
 | a::b::l=>decide (b.1≠a.1)&&apartB (b::l)
 | _=>true
theorem apartB.ok:∀{l:List Mm},apartB l=true→Apart l
 | [],_=>trivial
 | [_],_=>trivial
 | a::b::l,h=>by
  simp only[apartB,be,de] at h;exact⟨h.1,apartB.ok h.2⟩
def colB (l:List Mm):Bool:=decide (l.length < 20)&&l.all (fun m=>decide (0≤m.2.sign)&&smB m.2)&&(sortM l).all (fun m=>smB m.2&&smB (Q.add Q.zero m.2))&&apartB (sortM l)
theorem colB.ok {l:List Mm} (h:colB l=true):ColOk l:=by
 simp only[colB,be,de,List.all_eq_true] at h;obtain⟨⟨⟨h1,h2⟩,h3⟩,h4⟩:=h;exact⟨h1,fun m hm=>⟨(h2 m hm).1,smB.sm (h2 m hm).2⟩,fun m hm=>⟨smB.sm (h3 m hm).1,smB.sm (h3 m hm).2⟩,apartB.ok h4⟩
def ascB:List Tm→Bool
 | s::t::l=>decide (s.1 < t.1)&&ascB (t::l)
 | _=>true
theorem ascB.at:∀{l:List Tm} {i:Nat} {s t:Tm},ascB l=true→l[i]?=some s→l[i+1]?=some t→s.1 < t.1
 | [],i,s,t,_,h,_=>by simp at h
 | [c],0,s,t,_,h,k=>by simp at k
 | [c],i+1,s,t,_,h,k=>by simp at h
 | c::d::l,0,s,t,h,hs,ht=>by
  simp only[ascB,be,de] at h;simp at hs ht;subst hs ht;exact h.1
 | c::d::l,i+1,s,t,h,hs,ht=>by
  simp only[ascB,be,de] at h;exact ascB.at (l:=d::l) h.2 (by simpa using hs) (by simpa using ht)
def fmB (V:Nat) (x:Fm):Bool:=ascB x.terms&&x.terms.all (fun t=>decide (Tm.Ok V t)&&smB t.2)&&decide x.const.Ok&&smB x.const
theorem fmB.sm {V:Nat} {x:Fm} (h:fmB V x=true):x.Sm V:=by
 simp only[fmB,be,de,List.all_eq_true] at h;obtain⟨⟨⟨h1,h2⟩,h3⟩,h4⟩:=h;exact⟨⟨fun i s t hs ht=>ascB.at h1 hs ht,fun t ht=>(h2 t ht).1,h3⟩,fun t ht=>smB.sm (h2 t ht).2,smB.sm h4⟩
theorem fmB.p {V:Nat} {x:Fm} (h:fmB V x=true):FmP V x:=⟨(fmB.sm h).ok,fun t ht=>((fmB.sm h).num t ht).lo,(fmB.sm h).const.lo⟩
theorem FmP.tm {V:Nat} {x:Fm} (h:FmP V x):TmOk V x:=fun s hs=>by
 obtain⟨h1,h2,_⟩:=h.ok.each s hs;exact⟨h1,by omega⟩
def lowTB (x:Qm) (a:Q) (t:Tm):Bool:=decide (0≤t.1)&&decide (t.1.toNat < x.g.inputs)&&smB t.2&&smB t.2.neg'&&smB (bndQ x t)&&smB (Q.mul t.2 (bndQ x t))&&smB (absQ t.2)&&smB a
theorem lowTB.ok {x:Qm} {a:Q} {t:Tm} (h:lowTB x a t=true):LowT x a t:=by
 simp only[lowTB,be,de] at h;obtain⟨⟨⟨⟨⟨⟨⟨h1,h2⟩,h3⟩,h4⟩,h5⟩,h6⟩,h7⟩,h8⟩:=h;exact⟨h1,h2,smB.sm h3,smB.sm h4,smB.sm h5,smB.sm h6,smB.sm h7,smB.sm h8⟩
def lowB (x:Qm):Q→List Tm→Bool
 | _,[]=>true
 | a,t::l=>lowTB x a t&&lowB x (Q.add a (Q.mul t.2 (bndQ x t))) l
theorem lowB.ok {x:Qm}:∀{l:List Tm} {a:Q},lowB x a l=true→LowOk x a l
 | [],_,_=>trivial
 | t::l,a,h=>by
  simp only[lowB,be] at h;exact⟨lowTB.ok h.1,lowB.ok h.2⟩
def evalB (xs:List Q):Q→List Tm→Bool
 | y,[]=>smB y
 | y,t::r=>smB y&&smB t.2&&decide (0≤t.1)&&decide (t.1.toNat < xs.length)&&smB (xs.getD t.1.toNat Q.zero)&&smB (Q.mul t.2 (xs.getD t.1.toNat Q.zero))&&evalB xs (Q.add y (Q.mul t.2 (xs.getD t.1.toNat Q.zero))) r
theorem evalB.ok {xs:List Q}:∀{l:List Tm} {y:Q},evalB xs y l=true→EvalOk xs y l
 | [],y,h=>smB.sm h
 | t::r,y,h=>by
  simp only[evalB,be,de] at h;obtain⟨⟨⟨⟨⟨⟨h1,h2⟩,h3⟩,h4⟩,h5⟩,h6⟩,h7⟩:=h;exact⟨smB.sm h1,smB.sm h2,h3,h4,smB.sm h5,smB.sm h6,evalB.ok h7⟩
def runB:List Q→List Fm→Bool
 | _,[]=>true
 | v,f::r=>evalB v f.const f.terms&&smB (preQ v f)&&runB (v++[Q.max Q.zero (preQ v f)]) r
theorem runB.ok:∀{r:List Fm} {v:List Q},runB v r=true→RunOk v r
 | [],_,_=>trivial
 | f::r,v,h=>by
  simp only[runB,be] at h;exact⟨⟨evalB.ok h.1.1,smB.sm h.1.2⟩,runB.ok h.2⟩
def slowB (x:Qm) (V:Nat) (fz:Fm) (lz:List Mm):Bool:=colB lz&&fmB V fz&&decide (fz.terms.length < 1000)&&lowB x fz.const fz.terms&&smB fz.const&&smB (lowS x fz.const fz.terms)&&colB (lowM fz.terms)&&colB (colM lz++colM (lowM fz.terms))&&decide ((colM lz).length≤100)&&decide ((colM (lowM fz.terms)).length≤100)
theorem slowB.ok {x:Qm} {ls:List Lm} {V:Nat} {xf fz:Fm} {lz:List Mm} (hb:backG x ls x.g.units.length xf []=some (fz,lz)) (h:slowB x V fz lz=true):SLowOk x ls V xf fz lz:=by
 simp only[slowB,be,de] at h;obtain⟨⟨⟨⟨⟨⟨⟨⟨⟨h1,h2⟩,h3⟩,h4⟩,h5⟩,h6⟩,h7⟩,h8⟩,h9⟩,h10⟩:=h;exact⟨hb,colB.ok h1,fmB.p h2,h3,lowB.ok h4,smB.sm h5,smB.sm h6,colB.ok h7,colB.ok h8,h9,h10⟩
def lmsB (l:List Lm):Bool:=l.all fun m=>smB m.value
theorem lmsB.sm {l:List Lm} (h:lmsB l=true):∀m∈l,m.value.Sm:=fun m hm=>smB.sm (List.all_eq_true.1 h m hm)
def exX (k:Q):Qm:=⟨⟨1,[exP0,exP1],[Fm.zero]⟩,[ofQ (-1)],[ofQ 1],⟨[(1,ofQ (-1)),(2,ofQ (-1))],k⟩⟩
def exK:Q:=Q.div (ofQ 1) (ofQ 2)
def exA:Lm:=⟨0,false,ofQ (-1),[(⟨1,0,0,0⟩,Q.one)]⟩
def exB:Lm:=⟨0,true,ofQ 1,[(⟨2,0,0,0⟩,Q.one)]⟩
def exC:Lm:=⟨1,false,ofQ (-1),[(⟨2,0,0,0⟩,Q.one)]⟩
def exD:Lm:=⟨1,true,ofQ 1,[(⟨1,0,0,0⟩,Q.one)]⟩
def exL:List Lm:=[exA,exB,exC,exD]
theorem exX_va {k:Q} (hk:smB k=true) (ho:k.Ok):(exX k).Va:=by
 have hg:fmB 3 ⟨[(1,ofQ (-1)),(2,ofQ (-1))],Q.zero⟩=true:=by kernel_rfl
 refine⟨⟨nr _,by show 1≤256;decide,by show 2≤1024;decide,by show 1≤1;decide,by show 1≤256;decide,?_,?_⟩,rfl,rfl,?_,?_,?_,?_⟩
 ·intro j f hf
  match j,hf with
  | 0,hf=>
   obtain rfl:exP0=f:=by simpa [exX] using hf
   exact fmB.sm (V:=1) (by kernel_rfl)
  | 1,hf=>
   obtain rfl:exP1=f:=by simpa [exX] using hf
   exact fmB.sm (V:=2) (by kernel_rfl)
  | j+2,hf=>simp[exX] at hf
 ·intro f hf;obtain rfl:f=Fm.zero:=mj hf;exact fmB.sm (by kernel_rfl)
 ·intro q hq;obtain rfl:q=ofQ (-1):=mj hq;exact⟨smB.sm (by kernel_rfl),by decide⟩
 ·intro q hq;obtain rfl:q=ofQ 1:=mj hq;exact⟨smB.sm (by kernel_rfl),by decide⟩
 ·intro i a b ha hb
  match i,ha,hb with
  | 0,ha,hb=>
   obtain rfl:ofQ (-1)=a:=by simpa [exX] using ha
   obtain rfl:ofQ 1=b:=by simpa [exX] using hb
   decide
  | i+1,ha,hb=>simp[exX] at ha
 ·have h:=fmB.sm hg;exact⟨⟨h.ok.asc,h.ok.each,ho⟩,h.num,smB.sm hk⟩
theorem ex_step0 (k:Q):StepOk (exX k) 3 0 exP0 [] [exA] [exA,exB] exP0 exP1 [] [] where
 e1:=by kernel_rfl
 e2:=by kernel_rfl
 k1:=slowB.ok (by kernel_rfl) (by kernel_rfl)
 k2:=slowB.ok (by kernel_rfl) (by kernel_rfl)
 b1:=by kernel_rfl
 b2:=by kernel_rfl
 p1:=fmB.p (by kernel_rfl)
 p2:=fmB.p (by kernel_rfl)
 pn:=by decide
 s1:=lmsB.sm (by kernel_rfl)
 s2:=lmsB.sm (by kernel_rfl)
 n:=by decide
theorem ex_step1 (k:Q):StepOk (exX k) 3 1 exP1 [exA,exB] [exA,exB,exC] exL exP1 exP0 [] [] where
 e1:=by kernel_rfl
 e2:=by kernel_rfl
 k1:=slowB.ok (by kernel_rfl) (by kernel_rfl)
 k2:=slowB.ok (by kernel_rfl) (by kernel_rfl)
 b1:=by kernel_rfl
 b2:=by kernel_rfl
 p1:=fmB.p (by kernel_rfl)
 p2:=fmB.p (by kernel_rfl)
 pn:=by decide
 s1:=lmsB.sm (by kernel_rfl)
 s2:=lmsB.sm (by kernel_rfl)
 n:=by decide
theorem ex_dom (k:Q):DomOk (exX k) 3 0 (exX k).g.units [] exL:=
 ⟨_,_,_,_,_,_,ex_step0 k,_,_,_,_,_,_,ex_step1 k,rfl⟩
def exM:List Mm:=[(⟨13,1,3,4⟩,exK),(⟨13,0,1,2⟩,exK)]
def exN:List Mm:=[(⟨13,0,1,2⟩,exK),(⟨13,1,3,4⟩,exK)]
theorem ex_low1:SLowOk (exX Q.one) exL 3 (exX Q.one).goal Fm.zero exM:=slowB.ok (by kernel_rfl) (by kernel_rfl)
theorem ex_low2:SLowOk (exX exK) exL 3 (exX exK).goal ⟨[],exK.neg'⟩ exM:=slowB.ok (by kernel_rfl) (by kernel_rfl)
theorem exL_sm:∀m∈exL,m.value.Sm:=lmsB.sm (by kernel_rfl)
def exLo (j:Nat):Nat:=2*j+1
def exHi (j:Nat):Nat:=2*j+2
def exRs:List Rw:=insR 1++unR exLo exHi 2
theorem ex_open:OpenL exL 2 exLo exHi where
 best:=fun j hj=>by
  match j,hj with
  | 0,_=>exact (show bestL exL 0=(exLo 0,exHi 0) from by kernel_rfl)
  | 1,_=>exact (show bestL exL 1=(exLo 1,exHi 1) from by kernel_rfl)
 each:=fun j hj=>by
  match j,hj with
  | 0,_=>exact⟨0,1,exA,exB,rfl,rfl,rfl,rfl,by decide,by decide⟩
  | 1,_=>exact⟨2,3,exC,exD,rfl,rfl,rfl,rfl,by decide,by decide⟩
 sm:=exL_sm
 len:=by decide
theorem ex_fs:(List.range exRs.length).map (fun i=>exF.getD i Fm.zero)=exF:=by kernel_rfl
theorem ex_fmp:∀f∈exF,FmP 3 f:=by
 have h:exF.all (fmB 3)=true:=by kernel_rfl
 exact fun f hf=>fmB.p (List.all_eq_true.1 h f hf)
theorem ex_gp:FmP 3 exG:=fmB.p (by kernel_rfl)
def exDs:List Q:=duN exT5 exT5.obj exT5.nonb.length
theorem ex_dcol:ColOk (mulZ exRs exDs):=colB.ok (by kernel_rfl)
theorem ex_val:qAt exT5.obj exT5.nonb.length=exK.neg':=by kernel_rfl
theorem ex_pts:poN exT5 exT5.basic.length=[ofQ (-1),Q.zero,ofQ 1]:=by kernel_rfl
def triB (pu:Fm) (v:Int) (l u:Q):Bool:=decide (l.sign < 0)&&decide (0 < u.sign)&&fmSm (mrg pu ⟨[],l⟩ Q.mone)&&fmSm (aboveT pu l u)&&smB (Q.sub u l)&&fmSm (mrg Fm.zero (varF v) (Q.sub u l))
theorem triB.ok {pu:Fm} {v:Int} {l u:Q} (h:triB pu v l u=true):TriOk pu v l u:=by
 simp only[triB,be,de] at h;obtain⟨⟨⟨⟨⟨h1,h2⟩,h3⟩,h4⟩,h5⟩,h6⟩:=h;have n3:=fmSm.n h3;have n4:=fmSm.n h4;have n6:=fmSm.n h6;exact⟨h1,h2,fun t ht=>(fmSm.ts h3 t ht).lo,(fmSm.c h3).lo,by omega,fun t ht=>(fmSm.ts h4 t ht).lo,(fmSm.c h4).lo,(smB.sm h5).lo,fun t ht=>(fmSm.ts h6 t ht).lo,(fmSm.c h6).lo,by omega⟩
theorem ex_in (k:Q):∀(i:Nat) (a b c:Q),[ofQ (-1)][i]?=some a→(exX k).lo[i]?=some b→(exX k).hi[i]?=some c→a.Sm∧0≤Q.cmpQ a b∧Q.cmpQ a c≤0:=by
 intro i a b c ha hb hc
 match i,ha,hb,hc with
 | 0,ha,hb,hc=>
  obtain rfl:ofQ (-1)=a:=by simpa using ha
  obtain rfl:ofQ (-1)=b:=by simpa [exX] using hb
  obtain rfl:ofQ 1=c:=by simpa [exX] using hc
  exact⟨smB.sm (by kernel_rfl),by decide,by decide⟩
 | i+1,ha,hb,hc=>simp at ha
theorem ex_runok (k:Q):RunOk ([ofQ (-1)].map canonQ) (exX k).g.units:=runB.ok (by kernel_rfl)
theorem ex_run (k:Q):runV ([ofQ (-1)].map canonQ) (exX k).g.units=[ofQ (-1),Q.zero,ofQ 1]:=by kernel_rfl
theorem ex_evok:EvalOk [ofQ (-1),Q.zero,ofQ 1] (exX exK).goal.const (exX exK).goal.terms:=evalB.ok (by kernel_rfl)
theorem ex_ev:canonQ (evalT [ofQ (-1),Q.zero,ofQ 1] (exX exK).goal.const (exX exK).goal.terms)=exK.neg':=by kernel_rfl
section
attribute [local go_sem] Oper.semAt_some
theorem unit5_any (w:World) (q:Qv) (z:Sv) (x:Qm) (j:Nat) (pu:Fm) (hq:q.Is w x) (hp:x.g.units[j]?=some pu) (hv:x.g.Va)  :
  Calls Tryz.prog 351 #[scL q z,.agg #[.int .i64 5,.int .i64 (j:Int),.int .i64 0,.int .i64 0]] w fun e w'=>∃r:Fv,e=.returned (.tuple #[r.v,.bool true])∧r.Is w' (varF ((x.g.inputs+j:Nat):Int))∧Gr w w':=by
 obtain⟨⟨gi,⟨uA,un,uc⟩,qo⟩,ql,qh,qr,qg⟩:=q;have hgi:gi=(x.g.inputs:Int):=hq.g.inputs;subst hgi;have hun:x.g.units.length=un:=hq.g.units.len;have hju:j < un:=by rw[← hun];exact (gs hp).1
 have hi9:=hv.i9;have hu9:=hv.u9;have hj9:j < 1024:=by omega
 generalize hinp:x.g.inputs=inp at*;change Hid _ at hq hp;clear hv hun hinp;simp only[scL] at*;go_enter Tryz.func351,Tryz.ntmps351;go_upto_region 1 with fail;refine nw3h fun W HG D_p D_s0 D_r=>?_
 have p_:=D_p.c12;have s0_:=D_s0.c4;have N_r:=dnl (w.heap.size) (w.heap.size+1+1);generalize w.heap.size+1+1=r at*;generalize w.heap.size+1=s0 at*;have p_:=D_p.c12;have L9_p:=D_p.lt;have L9_s0:=D_s0.lt;have L9_r:=D_r.lt;have HS9:=HG.size;clear HS9 L9_p L9_s0 L9_r;go_upto_region 2 with fail;clear p_ s0_;refine nw1 fun w1 GB D_g0=>?_
 obtain⟨D_p,D_s0,D_r,HG⟩:=GB.u4 D_p D_s0 D_r HG;clear GB;generalize W.heap.size=g0 at*;have g0_:=D_g0.c3;have s0_:=D_s0.c4;have c1:decide ((j:Int) < 0)=false:=by simp
 have c2:decide ((un:Int)≤(j:Int))=false:=by simp;omega
 have hw1:IntKind.i64.wrap ((inp:Int)+(j:Int))=((inp+j:Nat):Int):=by rw[wi _ (by omega)];omega
 have hm9:j < 9223372036854775807:=by omega
 go_upto_region 4 with fail;clear g0_ s0_;obtain⟨pf,ad,hpf,hA,e0,e1,e2,e3⟩:=(hq.g.units.gr HG).at hp;simp only at hA;subst hA;clear hpf;have p_:=D_p.c12;have s0_:=D_s0.c4;have g0_:=D_g0.c3;have HS9:=I HG.size;have L9_p:=I D_p.lt;have L9_s0:=I D_s0.lt;have L9_r:=I D_r.lt;refine wpr ?_;have kc:=I fun W' (G:Gr w1.drew W')=>ai (G.kb D_p).c12 <| ai (G.kb D_s0).c4 <| ai (G.kb D_g0).c3 <| G.kk e0 <| G.kk e1 <| G.kk e2 <| G.keep e3
 refine wg 1 (tf 16 1) [0,1,2,3,4,5,6,7,8,9,10,11,12,13,14,15] [(7,Fv.At (varF ((inp+j:Nat):Int))),(15,NewAt 496 #[.int .i64 0,Nl,Nl,Nl,Nl,Nl,Nl,.bool false,Nl,Nl,Nl,Nl,.int .i64 0,.int .i64 0,.int .i64 0,.int .i64 0,Nl,.bool false,Nl,Nl,Nl,.bool false,Nl,Nl,.bool false,Nl,Nl,.bool false,Nl,Nl,.bool false,.bool false] w1.heap.size)] ?_;iterate 7 refine .tk ?_
 refine .dk (fun W1 G1 F1=>rvar_any W1 _) ?_;rintro _ ⟨_,-,-,⟨fv,rfl,-⟩⟩;iterate 7 refine .tk ?_
 refine .da ?_;rintro _ ⟨_,-,-,⟨xb,rfl,-,-⟩⟩;refine .done fun W1 G1 F1=>?_
 have hvv:=lh F1 0;have hxb:=lh F1 1;replace kc:=kc.out W1 G1;clear F1 p_ s0_ g0_ e0 e1 e2 e3;have GB:=G1.od;obtain⟨D_p,D_s0,D_r,HG⟩:=GB.u4 D_p D_s0 D_r HG;have HFV:=I (hvv.is);have HXB:=I (hxb.is);clear GB G1 hvv hxb kc;obtain⟨hx1,hx2⟩:=HXB.out;have D_xb:=I hx1;have N_xb:=I (nt HS9 hx2);have X_p_xb:=L9_p.nb hx2;have X_s0_xb:=L9_s0.nb hx2;have X_r_xb:=L9_r.nb hx2;clear hx1 hx2 HXB HS9 L9_p L9_s0 L9_r;refine wpAny_sw 16 D_xb fun w2 B5 F5=>?_
 refine wpe ?_;replace HFV:=I (HFV.tf' F5 D_xb);replace HG:=HG.fa F5 N_xb;replace D_p:=F5.hb D_p X_p_xb;replace D_s0:=F5.hb D_s0 X_s0_xb;replace D_r:=F5.hb D_r X_r_xb;replace D_xb:=B5;clear B5 F5;have p_:=D_p.c12;have s0_:=D_s0.c4;go_wp2_with fail;refine cm0 (lemma0 w2 ⟨⟨_,⟨_,un,uc⟩,qo⟩,ql,qh,qr,qg⟩ z (j:Int) false) fun w3 G=>?_
 obtain⟨HFV,D_p,D_s0,D_r,D_xb,HG⟩:=G.u6 HFV D_p D_s0 D_r D_xb HG;clear p_ s0_;have xb_24:=D_xb.ce 24;have xb_25:=D_xb.ce 25;have xb_26:=D_xb.ce 26;have xb_30:=D_xb.ce 30;have fz_xb:=D_xb.frozen;go_upto_region 6 with fail;refine ks D_xb fun w4 B5 F5=>?_
 replace HFV:=I (HFV.tf' F5 D_xb);replace HG:=HG.fa F5 N_xb;replace D_p:=F5.hb D_p X_p_xb;replace D_s0:=F5.hb D_s0 X_s0_xb;replace D_r:=F5.hb D_r X_r_xb;replace D_xb:=B5;clear B5 F5 xb_24 xb_25 xb_26 xb_30 fz_xb;have p_:=D_p.c12;have s0_:=D_s0.c4;go_wp2_with fail;refine cm0 (lemma0 w4 ⟨⟨_,⟨_,un,uc⟩,qo⟩,ql,qh,qr,qg⟩ z (j:Int) true) fun w5 G=>?_
 obtain⟨HFV,D_s0,D_r,D_xb,HG⟩:=G.u5 HFV D_s0 D_r D_xb HG;clear p_ s0_;have xb_27:=D_xb.ce 27;have xb_28:=D_xb.ce 28;have xb_29:=D_xb.ce 29;have xb_31:=D_xb.ce 31;have fz_xb:=D_xb.frozen;go_upto_region 7 with fail;refine ks D_xb fun w6 B5 F5=>?_
 replace HFV:=I (HFV.tf' F5 D_xb);replace HG:=HG.fa F5 N_xb;replace D_s0:=F5.hb D_s0 X_s0_xb;replace D_r:=F5.hb D_r X_r_xb;replace D_xb:=B5;clear B5 F5 xb_27 xb_28 xb_29 xb_31 fz_xb;have s0_:=D_s0.c4;go_wp2_with fail;refine cm0 (plainz w6 5 (j:Int)) fun w7 G=>?_
 obtain⟨HFV,D_r,D_xb,HG⟩:=G.u4 HFV D_r D_xb HG;clear s0_;have xb_16:=D_xb.ce 16;have xb_17:=D_xb.ce 17;have xb_18:=D_xb.ce 18;have xb_19:=D_xb.ce 19;have z0_:=D_r.c4;have fz:=D_r.frozen;go_wp2;refine pex ?_;refine ks D_r fun W5 B5 F5=>?_
 have d_:=B5.c4;refine bret Tryz.results351 ?_;exact⟨fv,rfl,HFV.tf' F5 D_r,HG.fr_at F5 N_r⟩
theorem unit6_any (w:World) (q:Qv) (z:Sv) (x:Qm) (j:Nat) (pu:Fm) (hq:q.Is w x) (hp:x.g.units[j]?=some pu) (hv:x.g.Va) (hpl:pu.terms.length≤1000)  :
  Calls Tryz.prog 351 #[scL q z,.agg #[.int .i64 6,.int .i64 (j:Int),.int .i64 0,.int .i64 0]] w fun e w'=>∃r:Fv,e=.returned (.tuple #[r.v,.bool true])∧r.Is w' (mrg (varF ((x.g.inputs+j:Nat):Int)) pu Q.mone)∧Gr w w':=by
 obtain⟨⟨gi,⟨uA,un,uc⟩,qo⟩,ql,qh,qr,qg⟩:=q;have hgi:gi=(x.g.inputs:Int):=hq.g.inputs;subst hgi;have hun:x.g.units.length=un:=hq.g.units.len;have hju:j < un:=by rw[← hun];exact (gs hp).1
 have hi9:=hv.i9;have hu9:=hv.u9;have hj9:j < 1024:=by omega
 generalize hinp:x.g.inputs=inp at*;have hpsm:=hv.us j pu hp;change Hid _ at hq hp;have HPS:=I hpsm;have HPN:=I hpl;clear hv hun hinp hpsm hpl;simp only[scL] at*;go_enter Tryz.func351,Tryz.ntmps351;go_upto_region 1 with fail;refine nw3h fun W HG D_p D_s0 D_r=>?_
 have p_:=D_p.c12;have s0_:=D_s0.c4;have N_r:=dnl (w.heap.size) (w.heap.size+1+1);generalize w.heap.size+1+1=r at*;generalize w.heap.size+1=s0 at*;have p_:=D_p.c12;have L9_p:=D_p.lt;have L9_s0:=D_s0.lt;have L9_r:=D_r.lt;have HS9:=HG.size;clear HS9 L9_p L9_s0 L9_r;go_upto_region 2 with fail;clear p_ s0_;refine nw1 fun w1 GB D_g0=>?_
 obtain⟨D_p,D_s0,D_r,HG⟩:=GB.u4 D_p D_s0 D_r HG;clear GB;generalize W.heap.size=g0 at*;have g0_:=D_g0.c3;have s0_:=D_s0.c4;have c1:decide ((j:Int) < 0)=false:=by simp
 have c2:decide ((un:Int)≤(j:Int))=false:=by simp;omega
 have hw1:IntKind.i64.wrap ((inp:Int)+(j:Int))=((inp+j:Nat):Int):=by rw[wi _ (by omega)];omega
 have hm9:j < 9223372036854775807:=by omega
 go_upto_region 4 with fail;clear g0_ s0_;obtain⟨pf,ad,hpf,hA,e0,e1,e2,e3⟩:=(hq.g.units.gr HG).at hp;simp only at hA;subst hA;have HPF:=I hpf;clear hpf;have p_:=D_p.c12;have s0_:=D_s0.c4;have g0_:=D_g0.c3;have HS9:=I HG.size;have L9_p:=I D_p.lt;have L9_s0:=I D_s0.lt;have L9_r:=I D_r.lt;refine wpr ?_;have kc:=I fun W' (G:Gr w1.drew W')=>ai (G.kb D_p).c12 <| ai (G.kb D_s0).c4 <| ai (G.kb D_g0).c3 <| G.kk e0 <| G.kk e1 <| G.kk e2 <| G.keep e3
 refine wg 1 (tf 16 1) [0,1,2,3,4,5,6,7,8,9,10,11,12,13,14,15] [(7,Fv.At (varF ((inp+j:Nat):Int))),(15,NewAt 496 #[.int .i64 0,Nl,Nl,Nl,Nl,Nl,Nl,.bool false,Nl,Nl,Nl,Nl,.int .i64 0,.int .i64 0,.int .i64 0,.int .i64 0,Nl,.bool false,Nl,Nl,Nl,.bool false,Nl,Nl,.bool false,Nl,Nl,.bool false,Nl,Nl,.bool false,.bool false] w1.heap.size)] ?_;iterate 7 refine .tk ?_
 refine .dk (fun W1 G1 F1=>rvar_any W1 _) ?_;rintro _ ⟨_,-,-,⟨fv,rfl,-⟩⟩;iterate 7 refine .tk ?_
 refine .da ?_;rintro _ ⟨_,-,-,⟨xb,rfl,-,-⟩⟩;refine .done fun W1 G1 F1=>?_
 have hvv:=lh F1 0;have hxb:=lh F1 1;replace kc:=kc.out W1 G1;clear F1 p_ s0_ g0_ e0 e1 e2 e3;have GB:=G1.od;obtain⟨HPF,D_p,D_s0,D_r,HG⟩:=GB.u5 HPF D_p D_s0 D_r HG;have HFV:=I (hvv.is);have HXB:=I (hxb.is);clear GB G1 hvv hxb kc;obtain⟨hx1,hx2⟩:=HXB.out;have D_xb:=I hx1;have N_xb:=I (nt HS9 hx2);have X_p_xb:=L9_p.nb hx2;have X_s0_xb:=L9_s0.nb hx2;have X_r_xb:=L9_r.nb hx2;clear hx1 hx2 HXB HS9 L9_p L9_s0 L9_r;refine wpAny_sw 16 D_xb fun w2 B5 F5=>?_
 refine wpe ?_;replace HPF:=I (HPF.tf' F5 D_xb);replace HFV:=I (HFV.tf' F5 D_xb);replace HG:=HG.fa F5 N_xb;replace D_p:=F5.hb D_p X_p_xb;replace D_s0:=F5.hb D_s0 X_s0_xb;replace D_r:=F5.hb D_r X_r_xb;replace D_xb:=B5;clear B5 F5;have p_:=D_p.c12;have s0_:=D_s0.c4;go_wp2_with fail;refine cm0 (lemma0 w2 ⟨⟨_,⟨_,un,uc⟩,qo⟩,ql,qh,qr,qg⟩ z (j:Int) false) fun w3 G=>?_
 obtain⟨HPF,HFV,D_p,D_s0,D_r,D_xb,HG⟩:=G.u7 HPF HFV D_p D_s0 D_r D_xb HG;clear p_ s0_;have xb_24:=D_xb.ce 24;have xb_25:=D_xb.ce 25;have xb_26:=D_xb.ce 26;have xb_30:=D_xb.ce 30;have fz_xb:=D_xb.frozen;go_upto_region 6 with fail;refine ks D_xb fun w4 B5 F5=>?_
 replace HPF:=I (HPF.tf' F5 D_xb);replace HFV:=I (HFV.tf' F5 D_xb);replace HG:=HG.fa F5 N_xb;replace D_p:=F5.hb D_p X_p_xb;replace D_s0:=F5.hb D_s0 X_s0_xb;replace D_r:=F5.hb D_r X_r_xb;replace D_xb:=B5;clear B5 F5 xb_24 xb_25 xb_26 xb_30 fz_xb;have p_:=D_p.c12;have s0_:=D_s0.c4;go_wp2_with fail;refine cm0 (lemma0 w4 ⟨⟨_,⟨_,un,uc⟩,qo⟩,ql,qh,qr,qg⟩ z (j:Int) true) fun w5 G=>?_
 obtain⟨HPF,HFV,D_s0,D_r,D_xb,HG⟩:=G.u6 HPF HFV D_s0 D_r D_xb HG;clear p_ s0_;have xb_27:=D_xb.ce 27;have xb_28:=D_xb.ce 28;have xb_29:=D_xb.ce 29;have xb_31:=D_xb.ce 31;have fz_xb:=D_xb.frozen;go_upto_region 7 with fail;refine ks D_xb fun w6 B5 F5=>?_
 replace HPF:=I (HPF.tf' F5 D_xb);replace HFV:=I (HFV.tf' F5 D_xb);replace HG:=HG.fa F5 N_xb;replace D_s0:=F5.hb D_s0 X_s0_xb;replace D_r:=F5.hb D_r X_r_xb;replace D_xb:=B5;clear B5 F5 xb_27 xb_28 xb_29 xb_31 fz_xb;have s0_:=D_s0.c4;go_wp2_with fail;refine cm0 (plainz w6 6 (j:Int)) fun w7 G=>?_
 obtain⟨HPF,HFV,D_r,D_xb,HG⟩:=G.u5 HPF HFV D_r D_xb HG;clear s0_;have xb_16:=D_xb.ce 16;have xb_17:=D_xb.ce 17;have xb_18:=D_xb.ce 18;have xb_19:=D_xb.ce 19;have xb_20:=D_xb.ce 20;have xb_21:=D_xb.ce 21;have xb_22:=D_xb.ce 22;have xb_23:=D_xb.ce 23;go_wp2_with fail;have Hfv:=HFV;have Hpf:=HPF;refine cm1 (lsub_any w7 fv pf (varF ((inp+j:Nat):Int)) (pu) Hfv Hpf (fun t ht=>by rw[mj ht];exact lo_one) (fun t ht=>(HPS.num t ht).lo) lo_zero HPS.const.lo (by show 1+pu.terms.length≤1000000;have:=HPN.out;omega)) fun i w8 HI G=>?_
 replace D_r:=G.hb D_r;replace HG:=HG.tr G;clear xb_16 xb_17 xb_18 xb_19 xb_20 xb_21 xb_22 xb_23 Hfv Hpf;have z0_:=D_r.c4;have fz:=D_r.frozen;go_wp2;refine pex ?_;refine ks D_r fun W5 B5 F5=>?_
 have d_:=B5.c4;refine bret Tryz.results351 ?_;exact⟨i,rfl,HI.tf' F5 D_r,HG.fr_at F5 N_r⟩
theorem unit11_any (w:World) (q:Qv) (z:Sv) (x:Qm) (j:Nat) (pu:Fm) (hq:q.Is w x) (hp:x.g.units[j]?=some pu) (hv:x.g.Va) (hpl:pu.terms.length≤1000) (ls:List Lm) (hz:Lems w z ls) (hn:ls.length≤1000) (lo a:Nat) (m1:Lm) (hlo:lo=a+1) (ha:ls[a]?=some m1) (hsm1:m1.value.Sm) (hkm1:m1.value.Ok) (hum1:m1.unit=j) (hpm1:m1.upper=false)  :
  Calls Tryz.prog 351 #[scL q z,.agg #[.int .i64 11,.int .i64 (j:Int),.int .i64 (lo:Int),.int .i64 0]] w fun e w'=>∃r:Fv,e=.returned (.tuple #[r.v,.bool true])∧r.Is w' (mrg pu ⟨[],m1.value⟩ Q.mone)∧Gr w w':=by
 obtain⟨⟨gi,⟨uA,un,uc⟩,qo⟩,ql,qh,qr,qg⟩:=q;have hgi:gi=(x.g.inputs:Int):=hq.g.inputs;subst hgi;have hun:x.g.units.length=un:=hq.g.units.len;have hju:j < un:=by rw[← hun];exact (gs hp).1
 have hi9:=hv.i9;have hu9:=hv.u9;have hj9:j < 1024:=by omega
 generalize hinp:x.g.inputs=inp at*;have hpsm:=hv.us j pu hp;change Hid _ at hq hp hlo ha hsm1 hum1 hpm1;have HPS:=I hpsm;have HPN:=I hpl;have HZ:=I hz;have HLN:=I hn;have HKm1:=I hkm1;clear hv hun hinp hpsm hpl hz hn hkm1;simp only[scL] at*;go_enter Tryz.func351,Tryz.ntmps351;go_upto_region 1 with fail;refine nw3h fun W HG D_p D_s0 D_r=>?_
 have p_:=D_p.c12;have s0_:=D_s0.c4;have N_r:=dnl (w.heap.size) (w.heap.size+1+1);generalize w.heap.size+1+1=r at*;generalize w.heap.size+1=s0 at*;have p_:=D_p.c12;have L9_p:=D_p.lt;have L9_s0:=D_s0.lt;have L9_r:=D_r.lt;have HS9:=HG.size;clear HS9 L9_p L9_s0 L9_r;go_upto_region 2 with fail;clear p_ s0_;refine nw1 fun w1 GB D_g0=>?_
 obtain⟨D_p,D_s0,D_r,HG⟩:=GB.u4 D_p D_s0 D_r HG;clear GB;generalize W.heap.size=g0 at*;have g0_:=D_g0.c3;have s0_:=D_s0.c4;have c1:decide ((j:Int) < 0)=false:=by simp
 have c2:decide ((un:Int)≤(j:Int))=false:=by simp;omega
 have hw1:IntKind.i64.wrap ((inp:Int)+(j:Int))=((inp+j:Nat):Int):=by rw[wi _ (by omega)];omega
 have hm9:j < 9223372036854775807:=by omega
 go_upto_region 4 with fail;clear g0_ s0_;obtain⟨pf,ad,hpf,hA,e0,e1,e2,e3⟩:=(hq.g.units.gr HG).at hp;simp only at hA;subst hA;have HPF:=I hpf;clear hpf;have p_:=D_p.c12;have s0_:=D_s0.c4;have g0_:=D_g0.c3;have HS9:=I HG.size;have L9_p:=I D_p.lt;have L9_s0:=I D_s0.lt;have L9_r:=I D_r.lt;refine wpr ?_;have kc:=I fun W' (G:Gr w1.drew W')=>ai (G.kb D_p).c12 <| ai (G.kb D_s0).c4 <| ai (G.kb D_g0).c3 <| G.kk e0 <| G.kk e1 <| G.kk e2 <| G.keep e3
 refine wg 1 (tf 16 1) [0,1,2,3,4,5,6,7,8,9,10,11,12,13,14,15] [(7,Fv.At (varF ((inp+j:Nat):Int))),(15,NewAt 496 #[.int .i64 0,Nl,Nl,Nl,Nl,Nl,Nl,.bool false,Nl,Nl,Nl,Nl,.int .i64 0,.int .i64 0,.int .i64 0,.int .i64 0,Nl,.bool false,Nl,Nl,Nl,.bool false,Nl,Nl,.bool false,Nl,Nl,.bool false,Nl,Nl,.bool false,.bool false] w1.heap.size)] ?_;iterate 7 refine .tk ?_
 refine .dk (fun W1 G1 F1=>rvar_any W1 _) ?_;rintro _ ⟨_,-,-,⟨fv,rfl,-⟩⟩;iterate 7 refine .tk ?_
 refine .da ?_;rintro _ ⟨_,-,-,⟨xb,rfl,-,-⟩⟩;refine .done fun W1 G1 F1=>?_
 have hvv:=lh F1 0;have hxb:=lh F1 1;replace kc:=kc.out W1 G1;clear F1 p_ s0_ g0_ e0 e1 e2 e3;have GB:=G1.od;obtain⟨HPF,D_p,D_s0,D_r,HG⟩:=GB.u5 HPF D_p D_s0 D_r HG;have HXB:=I (hxb.is);clear GB G1 hvv hxb kc;obtain⟨hx1,hx2⟩:=HXB.out;have D_xb:=I hx1;have N_xb:=I (nt HS9 hx2);have X_p_xb:=L9_p.nb hx2;have X_s0_xb:=L9_s0.nb hx2;have X_r_xb:=L9_r.nb hx2;clear hx1 hx2 HXB HS9 L9_p L9_s0 L9_r;refine wpAny_sw 16 D_xb fun w2 B5 F5=>?_
 refine wpe ?_;replace HPF:=I (HPF.tf' F5 D_xb);replace HG:=HG.fa F5 N_xb;replace D_p:=F5.hb D_p X_p_xb;replace D_s0:=F5.hb D_s0 X_s0_xb;replace D_r:=F5.hb D_r X_r_xb;replace D_xb:=B5;clear B5 F5;have p_:=D_p.c12;have s0_:=D_s0.c4;go_wp2_with fail;have HM9:=lemma_any w2 ⟨⟨(inp:Int),⟨some ad,un,uc⟩,qo⟩,ql,qh,qr,qg⟩ z ls lo a m1 hlo (HZ.gr HG) ha hsm1 HLN;rw[hum1.out,hpm1.out,canonQ_ok HKm1.out] at HM9;refine cm1 (HM9) fun lv w3 HVlv G=>?_
 obtain⟨HPF,D_p,D_s0,D_r,D_xb,HG⟩:=G.u6 HPF D_p D_s0 D_r D_xb HG;clear p_ s0_ HM9;have xb_24:=D_xb.ce 24;have xb_25:=D_xb.ce 25;have xb_26:=D_xb.ce 26;have xb_30:=D_xb.ce 30;have fz_xb:=D_xb.frozen;go_upto_region 6 with fail;refine ks D_xb fun w4 B5 F5=>?_
 replace HPF:=I (HPF.tf' F5 D_xb);replace HVlv:=I (HVlv.tf' F5 D_xb);replace HG:=HG.fa F5 N_xb;replace D_p:=F5.hb D_p X_p_xb;replace D_s0:=F5.hb D_s0 X_s0_xb;replace D_r:=F5.hb D_r X_r_xb;replace D_xb:=B5;clear B5 F5 xb_24 xb_25 xb_26 xb_30 fz_xb;have p_:=D_p.c12;have s0_:=D_s0.c4;go_wp2_with fail;refine cm0 (lemma0 w4 ⟨⟨_,⟨_,un,uc⟩,qo⟩,ql,qh,qr,qg⟩ z (j:Int) true) fun w5 G=>?_
 obtain⟨HPF,HVlv,D_s0,D_r,D_xb,HG⟩:=G.u6 HPF HVlv D_s0 D_r D_xb HG;clear p_ s0_;have xb_27:=D_xb.ce 27;have xb_28:=D_xb.ce 28;have xb_29:=D_xb.ce 29;have xb_31:=D_xb.ce 31;have fz_xb:=D_xb.frozen;go_upto_region 7 with fail;refine ks D_xb fun w6 B5 F5=>?_
 replace HPF:=I (HPF.tf' F5 D_xb);replace HVlv:=I (HVlv.tf' F5 D_xb);replace HG:=HG.fa F5 N_xb;replace D_s0:=F5.hb D_s0 X_s0_xb;replace D_r:=F5.hb D_r X_r_xb;replace D_xb:=B5;clear B5 F5 xb_27 xb_28 xb_29 xb_31 fz_xb;have s0_:=D_s0.c4;have xb_30:=D_xb.ce 30;go_upto_region 20 with fail;clear s0_ xb_30;have xb_20:=D_xb.ce 20;have xb_21:=D_xb.ce 21;have xb_22:=D_xb.ce 22;have xb_23:=D_xb.ce 23;have xb_24:=D_xb.ce 24;have xb_25:=D_xb.ce 25;have xb_26:=D_xb.ce 26;refine wpr ?_;have kc:=I fun W' (G:Gr w6.drew W')=>G.kk xb_20 <| G.kk xb_21 <| G.kk xb_22 <| G.kk xb_23 <| G.kk xb_24 <| G.kk xb_25 <| G.keep xb_26
 refine wg 2 (tf 6 2) [0,1,2,3,4,5] [(4,Fv.At (⟨[],m1.value⟩)),(5,Fv.At (mrg pu ⟨[],m1.value⟩ Q.mone))] ?_;iterate 4 refine .tk ?_
 refine .dc (fun W1 G1 F1=>?_) ?_
 ·obtain⟨xb_20,xb_21,xb_22,xb_23,xb_24,xb_25,xb_26⟩:=kc.out W1 G1;have MM:=rnumber_any W1 lv m1.value (HVlv.gr G1.od) hsm1;rw[canonQ_ok HKm1.out] at MM;refine doesAt_en ?_;refine cm2 (MM) fun nv w' hi G=>?_
  exact⟨_,rfl,G,nv,rfl,hi⟩
 rintro _ ⟨_,-,-,⟨nv,rfl,-⟩⟩;refine .dk (fun W1 G1 F1=>by have fn:=lk F1 0;exact lsub_any W1 pf nv pu ⟨[],m1.value⟩ (HPF.gr G1.od) fn.is (fun t ht=>(HPS.num t ht).lo) (fun t ht=>by cases ht) HPS.const.lo hsm1.lo (by show pu.terms.length+0≤1000000;have:=HPN.out;omega)) ?_;rintro _ ⟨_,-,-,⟨iv,rfl,-⟩⟩;refine .done fun W1 G1 F1=>?_
 have hnv:=lh F1 0;have hi:=lh F1 1;replace kc:=kc.out W1 G1;clear F1 xb_20 xb_21 xb_22 xb_23 xb_24 xb_25 xb_26;have GB:=G1.od;replace D_r:=GB.hb D_r;replace HG:=HG.tr GB;have HI:=I (hi.is);clear GB G1 hnv hi kc;have fz5:=D_r.frozen;have r_:=D_r.c4;refine wo 6 ?_;clear fz5;refine ks D_r fun w7 B5 F5=>?_
 replace HI:=I (HI.tf' F5 D_r);replace HG:=HG.fa F5 N_r;replace D_r:=B5;clear B5 F5 r_;refine wo 7 ?_;refine wpe ?_;have r_:=D_r.c4;go_wp2;refine pex ?_;refine bret Tryz.results351 ?_;exact⟨iv,rfl,HI.out,HG.out⟩
theorem unit12_any (w:World) (q:Qv) (z:Sv) (x:Qm) (j:Nat) (pu:Fm) (hq:q.Is w x) (hp:x.g.units[j]?=some pu) (hv:x.g.Va) (hpl:pu.terms.length≤1000) (ls:List Lm) (hz:Lems w z ls) (hn:ls.length≤1000) (hi b:Nat) (m2:Lm) (hhi:hi=b+1) (hb:ls[b]?=some m2) (hsm2:m2.value.Sm) (hkm2:m2.value.Ok) (hum2:m2.unit=j) (hpm2:m2.upper=true)  :
  Calls Tryz.prog 351 #[scL q z,.agg #[.int .i64 12,.int .i64 (j:Int),.int .i64 0,.int .i64 (hi:Int)]] w fun e w'=>∃r:Fv,e=.returned (.tuple #[r.v,.bool true])∧r.Is w' (mrg ⟨[],m2.value⟩ pu Q.mone)∧Gr w w':=by
 obtain⟨⟨gi,⟨uA,un,uc⟩,qo⟩,ql,qh,qr,qg⟩:=q;have hgi:gi=(x.g.inputs:Int):=hq.g.inputs;subst hgi;have hun:x.g.units.length=un:=hq.g.units.len;have hju:j < un:=by rw[← hun];exact (gs hp).1
 have hi9:=hv.i9;have hu9:=hv.u9;have hj9:j < 1024:=by omega
 generalize hinp:x.g.inputs=inp at*;have hpsm:=hv.us j pu hp;change Hid _ at hq hp hhi hsm2 hum2 hpm2;have HPS:=I hpsm;have HPN:=I hpl;have HZ:=I hz;have HLN:=I hn;have HB:=I hb;have HKm2:=I hkm2;clear hv hun hinp hpsm hpl hz hn hb hkm2;simp only[scL] at*;go_enter Tryz.func351,Tryz.ntmps351;go_upto_region 1 with fail;refine nw3h fun W HG D_p D_s0 D_r=>?_
 have p_:=D_p.c12;have s0_:=D_s0.c4;have N_r:=dnl (w.heap.size) (w.heap.size+1+1);generalize w.heap.size+1+1=r at*;generalize w.heap.size+1=s0 at*;have p_:=D_p.c12;have L9_p:=D_p.lt;have L9_s0:=D_s0.lt;have L9_r:=D_r.lt;have HS9:=HG.size;clear HS9 L9_p L9_s0 L9_r;go_upto_region 2 with fail;clear p_ s0_;refine nw1 fun w1 GB D_g0=>?_
 obtain⟨D_p,D_s0,D_r,HG⟩:=GB.u4 D_p D_s0 D_r HG;clear GB;generalize W.heap.size=g0 at*;have g0_:=D_g0.c3;have s0_:=D_s0.c4;have c1:decide ((j:Int) < 0)=false:=by simp
 have c2:decide ((un:Int)≤(j:Int))=false:=by simp;omega
 have hw1:IntKind.i64.wrap ((inp:Int)+(j:Int))=((inp+j:Nat):Int):=by rw[wi _ (by omega)];omega
 have hm9:j < 9223372036854775807:=by omega
 go_upto_region 4 with fail;clear g0_ s0_;obtain⟨pf,ad,hpf,hA,e0,e1,e2,e3⟩:=(hq.g.units.gr HG).at hp;simp only at hA;subst hA;have HPF:=I hpf;clear hpf;have p_:=D_p.c12;have s0_:=D_s0.c4;have g0_:=D_g0.c3;have HS9:=I HG.size;have L9_p:=I D_p.lt;have L9_s0:=I D_s0.lt;have L9_r:=I D_r.lt;refine wpr ?_;have kc:=I fun W' (G:Gr w1.drew W')=>ai (G.kb D_p).c12 <| ai (G.kb D_s0).c4 <| ai (G.kb D_g0).c3 <| G.kk e0 <| G.kk e1 <| G.kk e2 <| G.keep e3
 refine wg 1 (tf 16 1) [0,1,2,3,4,5,6,7,8,9,10,11,12,13,14,15] [(7,Fv.At (varF ((inp+j:Nat):Int))),(15,NewAt 496 #[.int .i64 0,Nl,Nl,Nl,Nl,Nl,Nl,.bool false,Nl,Nl,Nl,Nl,.int .i64 0,.int .i64 0,.int .i64 0,.int .i64 0,Nl,.bool false,Nl,Nl,Nl,.bool false,Nl,Nl,.bool false,Nl,Nl,.bool false,Nl,Nl,.bool false,.bool false] w1.heap.size)] ?_;iterate 7 refine .tk ?_
 refine .dk (fun W1 G1 F1=>rvar_any W1 _) ?_;rintro _ ⟨_,-,-,⟨fv,rfl,-⟩⟩;iterate 7 refine .tk ?_
 refine .da ?_;rintro _ ⟨_,-,-,⟨xb,rfl,-,-⟩⟩;refine .done fun W1 G1 F1=>?_
 have hvv:=lh F1 0;have hxb:=lh F1 1;replace kc:=kc.out W1 G1;clear F1 p_ s0_ g0_ e0 e1 e2 e3;have GB:=G1.od;obtain⟨HPF,D_p,D_s0,D_r,HG⟩:=GB.u5 HPF D_p D_s0 D_r HG;have HXB:=I (hxb.is);clear GB G1 hvv hxb kc;obtain⟨hx1,hx2⟩:=HXB.out;have D_xb:=I hx1;have N_xb:=I (nt HS9 hx2);have X_p_xb:=L9_p.nb hx2;have X_s0_xb:=L9_s0.nb hx2;have X_r_xb:=L9_r.nb hx2;clear hx1 hx2 HXB HS9 L9_p L9_s0 L9_r;refine wpAny_sw 16 D_xb fun w2 B5 F5=>?_
 refine wpe ?_;replace HPF:=I (HPF.tf' F5 D_xb);replace HG:=HG.fa F5 N_xb;replace D_p:=F5.hb D_p X_p_xb;replace D_s0:=F5.hb D_s0 X_s0_xb;replace D_r:=F5.hb D_r X_r_xb;replace D_xb:=B5;clear B5 F5;have p_:=D_p.c12;have s0_:=D_s0.c4;go_wp2_with fail;refine cm0 (lemma0 w2 ⟨⟨_,⟨_,un,uc⟩,qo⟩,ql,qh,qr,qg⟩ z (j:Int) false) fun w3 G=>?_
 obtain⟨HPF,D_p,D_s0,D_r,D_xb,HG⟩:=G.u6 HPF D_p D_s0 D_r D_xb HG;clear p_ s0_;have xb_24:=D_xb.ce 24;have xb_25:=D_xb.ce 25;have xb_26:=D_xb.ce 26;have xb_30:=D_xb.ce 30;have fz_xb:=D_xb.frozen;go_upto_region 6 with fail;refine ks D_xb fun w4 B5 F5=>?_
 replace HPF:=I (HPF.tf' F5 D_xb);replace HG:=HG.fa F5 N_xb;replace D_p:=F5.hb D_p X_p_xb;replace D_s0:=F5.hb D_s0 X_s0_xb;replace D_r:=F5.hb D_r X_r_xb;replace D_xb:=B5;clear B5 F5 xb_24 xb_25 xb_26 xb_30 fz_xb;have p_:=D_p.c12;have s0_:=D_s0.c4;go_wp2_with fail;have HM9:=lemma_any w4 ⟨⟨(inp:Int),⟨some ad,un,uc⟩,qo⟩,ql,qh,qr,qg⟩ z ls hi b m2 hhi (HZ.gr HG) HB hsm2 HLN;rw[hum2.out,hpm2.out,canonQ_ok HKm2.out] at HM9;refine cm1 (HM9) fun uv w5 HVuv G=>?_
 obtain⟨HPF,D_s0,D_r,D_xb,HG⟩:=G.u5 HPF D_s0 D_r D_xb HG;clear p_ s0_ HM9;have xb_27:=D_xb.ce 27;have xb_28:=D_xb.ce 28;have xb_29:=D_xb.ce 29;have xb_31:=D_xb.ce 31;have fz_xb:=D_xb.frozen;go_upto_region 7 with fail;refine ks D_xb fun w6 B5 F5=>?_
 replace HPF:=I (HPF.tf' F5 D_xb);replace HVuv:=I (HVuv.tf' F5 D_xb);replace HG:=HG.fa F5 N_xb;replace D_s0:=F5.hb D_s0 X_s0_xb;replace D_r:=F5.hb D_r X_r_xb;replace D_xb:=B5;clear B5 F5 xb_27 xb_28 xb_29 xb_31 fz_xb;have s0_:=D_s0.c4;have xb_30:=D_xb.ce 30;have xb_31:=D_xb.ce 31;go_upto_region 22 with fail;clear s0_ xb_30 xb_31;have xb_20:=D_xb.ce 20;have xb_21:=D_xb.ce 21;have xb_22:=D_xb.ce 22;have xb_23:=D_xb.ce 23;have xb_27:=D_xb.ce 27;have xb_28:=D_xb.ce 28;have xb_29:=D_xb.ce 29;refine wpr ?_;have kc:=I fun W' (G:Gr w6.drew W')=>G.kk xb_20 <| G.kk xb_21 <| G.kk xb_22 <| G.kk xb_23 <| G.kk xb_27 <| G.kk xb_28 <| G.keep xb_29
 refine wg 2 (tf 6 2) [0,1,2,3,4,5] [(2,Fv.At (⟨[],m2.value⟩)),(5,Fv.At (mrg ⟨[],m2.value⟩ pu Q.mone))] ?_;iterate 2 refine .tk ?_
 refine .dc (fun W1 G1 F1=>?_) ?_
 ·obtain⟨xb_20,xb_21,xb_22,xb_23,xb_27,xb_28,xb_29⟩:=kc.out W1 G1;have MM:=rnumber_any W1 uv m2.value (HVuv.gr G1.od) hsm2;rw[canonQ_ok HKm2.out] at MM;refine doesAt_en ?_;refine cm2 (MM) fun nv w' hi G=>?_
  exact⟨_,rfl,G,nv,rfl,hi⟩
 rintro _ ⟨_,-,-,⟨nv,rfl,-⟩⟩;iterate 2 refine .tk ?_
 refine .dk (fun W1 G1 F1=>by have fn:=lk F1 0;exact lsub_any W1 nv pf ⟨[],m2.value⟩ pu fn.is (HPF.gr G1.od) (fun t ht=>by cases ht) (fun t ht=>(HPS.num t ht).lo) hsm2.lo HPS.const.lo (by show 0+pu.terms.length≤1000000;have:=HPN.out;omega)) ?_;rintro _ ⟨_,-,-,⟨iv,rfl,-⟩⟩;refine .done fun W1 G1 F1=>?_
 have hnv:=lh F1 0;have hi:=lh F1 1;replace kc:=kc.out W1 G1;clear F1 xb_20 xb_21 xb_22 xb_23 xb_27 xb_28 xb_29;have GB:=G1.od;replace D_r:=GB.hb D_r;replace HG:=HG.tr GB;have HI:=I (hi.is);clear GB G1 hnv hi kc;have fz5:=D_r.frozen;have r_:=D_r.c4;refine wo 6 ?_;clear fz5;refine ks D_r fun w7 B5 F5=>?_
 replace HI:=I (HI.tf' F5 D_r);replace HG:=HG.fa F5 N_r;replace D_r:=B5;clear B5 F5 r_;refine wo 7 ?_;refine wpe ?_;have r_:=D_r.c4;go_wp2;refine pex ?_;refine bret Tryz.results351 ?_;exact⟨iv,rfl,HI.out,HG.out⟩
end
end Go.Proofs.YtmhphnljfcncpaaGreatDoor
