/- Walks of the search and of what it calls, part 9. -/
import Derived.Test.YtmhphnljfcncpaaGreatDoorMh
set_option linter.unusedVariables false
set_option linter.unusedSimpArgs false
set_option maxRecDepth 100000
set_option maxHeartbeats 8000000
namespace Go.Proofs.YtmhphnljfcncpaaGreatDoor
open Go.RowKit
section
attribute [local go_sem] Oper.semAt_some
def goodB (t:Tm):Bool:=smB t.2&&decide t.2.Ok
theorem goodB.g {t:Tm} (h:goodB t=true):Good t:=by
 simp only[goodB,be,de] at h;exact⟨smB.sm h.1,h.2⟩
def addB (x y:Fm):Bool:=(List.range (y.terms.length+1)).all (fun n=>(addT x.terms (y.terms.take n)).all goodB&&decide ((addT x.terms (y.terms.take n)).length≤900))&&y.terms.all goodB&&goodB (0,x.const)&&goodB (0,y.const)&&decide (x.terms.length+y.terms.length≤900)
def sclB (y:Fm) (q:Q):Bool:=y.terms.all (fun t=>smB t.2)&&smB y.const&&smB q&&decide (y.terms.length≤900)
theorem r7addB (w:World) (f g:Fv) (x y:Fm) (hf:f.Is w x) (hg:g.Is w y) (h:addB x y=true):
  Calls Tryz.prog 80 #[f.v,g.v] w fun e w'=>∃r:Fv,e=.returned r.v∧r.Is w' (Fm.addR x y)∧Gr w w':=by
 simp only[addB,be,de,List.all_eq_true] at h;obtain⟨⟨⟨⟨h1,h2⟩,h3⟩,h4⟩,h5⟩:=h;exact r7add_any w f g x y hf hg (fun n hn t ht=>goodB.g ((h1 n (List.mem_range.2 (by omega))).1 t ht)) (fun t ht=>goodB.g (h2 t ht)) (goodB.g h3) (goodB.g h4) h5 (fun n hn=>(h1 n (List.mem_range.2 (by omega))).2)
theorem r7sclB (w:World) (f:Fv) (c:Rv) (x:Fm) (q:Q) (hf:f.Is w x) (hc:c.Is w q) (h:sclB x q=true):
  Calls Tryz.prog 81 #[f.v,c.v] w fun e w'=>∃r:Fv,e=.returned r.v∧r.Is w' (Fm.scaleR x q)∧Gr w w':=by
 simp only[sclB,be,de,List.all_eq_true] at h;obtain⟨⟨⟨h1,h2⟩,h3⟩,h4⟩:=h;exact r7scale_any w f c x q hf hc (fun t ht=>smB.sm (h1 t ht)) (smB.sm h2) (smB.sm h3) h4
def Fm.subR (x y:Fm):Fm:=Fm.addR x (Fm.scaleR y (ofQ (-1)))
def subB (x y:Fm):Bool:=sclB y (ofQ (-1))&&addB x (Fm.scaleR y (ofQ (-1)))
def evRB (xs:List Q):Q→List Tm→Bool
 | y,[]=>smB y&&decide y.Ok
 | y,t::r=>(smB y&&decide y.Ok&&smB t.2&&decide (0≤t.1)&&decide (t.1.toNat < xs.length)&&smB (xs.getD t.1.toNat Q.zero)&&smB (Q.mul t.2 (xs.getD t.1.toNat Q.zero))&&decide (Q.mul t.2 (xs.getD t.1.toNat Q.zero)).Ok)&&evRB xs (Q.add y (Q.mul t.2 (xs.getD t.1.toNat Q.zero))) r
theorem r7number_any (w:World) (c:Rv) (q:Q) (hc:c.Is w q):
  Calls Tryz.prog 117 #[c.v] w fun e w'=>∃r:Fv,e=.returned r.v∧r.Is w' ⟨[],q⟩∧Gr w w':=by
 simp only[Rv.v,Fv.v] at*;go_enter Tryz.func117,Tryz.ntmps117;go_upto_region 1 with fail;refine nw2h fun W HG D_a D_r=>?_
 have HC:=I (hc.gr HG);clear hc;have a0_:=D_a.c3;have N_r:=dnl (w.heap.size) (w.heap.size+1);generalize w.heap.size+1=r at*;have z0_:=D_r.c4;have fz:=D_r.frozen;go_wp2;refine pex ?_;refine ks D_r fun W5 B5 F5=>?_
 have d_:=B5.c4;refine bret Tryz.results117 ?_;exact⟨⟨Sv.none,c⟩,rfl,⟨Rows.empty,HC.tf' F5 D_r⟩,HG.fr_at F5 N_r⟩
theorem r7sub_any (w:World) (f g:Fv) (x y:Fm) (hf:f.Is w x) (hg:g.Is w y) (h:subB x y=true):
  Calls Tryz.prog 116 #[f.v,g.v] w fun e w'=>∃r:Fv,e=.returned r.v∧r.Is w' (Fm.subR x y)∧Gr w w':=by
 simp only[Fv.v] at*;go_enter Tryz.func116,Tryz.ntmps116;go_upto_region 1 with fail;refine nw3h fun W HG D_p D_q D_r=>?_
 have HF:=I ((hf).gr HG);have HGG:=I ((hg).gr HG);clear hf hg;have p_:=D_p.c4;have q_:=D_q.c4;have N_r:=dnl (w.heap.size) (w.heap.size+1+1);generalize w.heap.size+1+1=r at*;generalize w.heap.size+1=q at*;have hs:=(be _ _▸h:_∧_);refine wpr ?_;have kc:=I fun W' (G:Gr W.drew W')=>ai (G.kb D_p).c4 <| (G.kb D_q).c4
 refine wg 1 (tf 5 1) [0,1,2,3,4] [(2,Rv.At (ofQ (-1))),(3,Fv.At (Fm.scaleR y (ofQ (-1)))),(4,Fv.At (Fm.subR x y))] ?_;iterate 2 refine .tk ?_
 refine .dk (fun W1 G1 F1=>r3of_any W1 (-1) (by decide) (by decide)) ?_;rintro _ ⟨_,-,-,⟨ov,rfl,-⟩⟩;refine .dk (fun W1 G1 F1=>by have hof:=lk F1 0;have hof:=Rv.At.is hof;exact r7sclB W1 g ov y (ofQ (-1)) (HGG.gr G1.od) hof hs.1) ?_;rintro _ ⟨_,-,-,⟨sg,rfl,-⟩⟩;refine .dk (fun W1 G1 F1=>by have hsc:=lk F1 1;have hsc:=Fv.At.is hsc;exact r7addB W1 f sg x (Fm.scaleR y (ofQ (-1))) (HF.gr G1.od) hsc hs.2) ?_;rintro _ ⟨_,-,-,⟨c,rfl,-⟩⟩;refine .done fun W1 G1 F1=>?_
 have hof:=lh F1 0;have hsc:=lh F1 1;have hres:=lh F1 2;replace kc:=kc.out W1 G1;clear F1 p_ q_;have GB:=G1.od;replace D_r:=GB.hb D_r;replace HG:=HG.tr GB;have HC:=I (hres.is);clear GB G1 hof hsc hres kc;have fz5:=D_r.frozen;have r_:=D_r.c4;refine wo 5 ?_;refine wpe ?_;clear fz5;refine ks D_r fun w1 B5 F5=>?_
 replace HC:=I (HC.tf' F5 D_r);replace HG:=HG.fa F5 N_r;replace D_r:=B5;clear B5 F5 r_;have r_:=D_r.c4;go_wp2;refine pex ?_;refine bret Tryz.results116 ?_;exact⟨c,rfl,HC.out,HG.out⟩
theorem r7eval_any (w:World) (f:Fv) (x:Fm) (z:Sv) (xs:List Q) (hf:f.Is w x) (hz:Rats w z xs) (hx:evRB xs x.const x.terms=true):
  Calls Tryz.prog 32 #[f.v,z.v] w fun e w'=>∃r:Rv,e=.returned (.tuple #[r.v,.int .i64 0])∧r.Is w' (evalT xs x.const x.terms)∧Gr w w':=by
 obtain⟨⟨xA,xn,xc⟩,fc⟩:=f;obtain⟨zA,zn,zc⟩:=z;have hxn:x.terms.length=xn:=hf.terms.len;have hm:xn≤9223372036854775807:=(by obtain⟨_,h1,_⟩:=hf.terms;exact nt h1.cap h1.max);have hzn:xs.length=zn:=hz.len;have HF:=I (hf.terms);have HZ:=I hz;have LX:=I hx;have HXN:=I hxn;have HM:=I hm;have HZN:=I hzn;clear hz hx hxn hm hzn;simp only[Rv.v,Fv.v] at*;go_enter Tryz.func32,Tryz.ntmps32;go_upto_region 1 with fail;refine nw2h fun W HG D_p D_r=>?_
 have HK:=I ((hf.const).gr HG);clear hf;have p_:=D_p.c4;have N_r:=dnl (w.heap.size) (w.heap.size+1);generalize w.heap.size+1=r at*;clear p_;have p_:=D_p.c4;have N_y:=HG.hs;have X_p_y:=D_p.nn;have X_r_y:=D_r.nn;go_upto_region 2 with fail;clear p_;refine nw1 fun w1 GB D_y=>?_
 obtain⟨HK,D_p,D_r,HG⟩:=GB.u4 HK D_p D_r HG;clear GB;generalize W.heap.size=y at*;have p_:=D_p.c4;go_wp2_with fail;go_loopw [5,7] (fun s0 s1 wr=>∃(k:Nat) (yv:Rv) (yq:Q),s0=.int .i64 0∧s1=.int .i64 k∧k≤xn∧Hid (evalT xs yq (x.terms.drop k)=evalT xs x.const x.terms)∧Hid (evRB xs yq (x.terms.drop k)=true)∧Hid (yv.Is wr yq)∧Hid (Gr w wr)∧Hid (Bk wr w.heap.size 40 #[.slice xA xn xc,.bool fc.neg,fc.num.v,fc.den.v])∧Hid (Bk wr r 38 Rl)∧Hid (Bk wr y 38 yv.ar)) (fun _ i _=>xn - (intOf i).toNat)
 case atStart=>exact⟨0,fc,x.const,rfl,rfl,nq _,rfl,LX,HK,HG,D_p,D_r,D_y⟩
 case round=>
  clear HK HG D_p D_r D_y p_;obtain⟨k,yv,yq,rfl,rfl,hr2,HC,HO,HK,HG,D_p,D_r,D_y⟩:=hrel;by_cases hkn:k < xn
  ·obtain⟨s,hs⟩:∃s,x.terms[k]?=some s:=⟨_,ge (by rw[HXN.out];exact hkn)⟩;obtain⟨t,ad,ht,hA,d0,d1,d2,d3⟩:=(HF.gr HG).at hs;simp only at hA;subst hA;have hm9:k < 9223372036854775807:=nk hkn HM;rw[show x.terms.drop k=s::x.terms.drop (k+1) from by rw[List.drop_eq_getElem?_toList_append,hs];rfl,evalT] at HC;have hO:=HO.out;rw[show x.terms.drop k=s::x.terms.drop (k+1) from by rw[List.drop_eq_getElem?_toList_append,hs];rfl] at hO;simp only[evRB,be,de] at hO;obtain⟨⟨⟨⟨⟨⟨⟨⟨o1,o1k⟩,o2⟩,o3⟩,o4⟩,o5⟩,o6⟩,o6k⟩,o7⟩:=hO;obtain⟨q,hq⟩:∃q,xs[s.1.toNat]?=some q:=⟨_,ge o4⟩;rw[show xs.getD s.1.toNat Q.zero=q from by rw[List.getD_eq_getElem?_getD,hq];rfl] at*;have hvar:=ht.var;have O1:=I (smB.sm o1);have O1K:=I o1k;have O2:=I (smB.sm o2);have O5:=I (smB.sm o5);have O6:=I (smB.sm o6);have O6K:=I o6k;have O7:=I o7;obtain⟨j,hj⟩:∃j:Nat,(j:Int)=s.1:=⟨s.1.toNat,Int.toNat_of_nonneg o3⟩;rw[← hj] at hvar hq o4;rw[Int.toNat_natCast] at hq o4;have HQQ:=I hq;have hjn:j < zn:=by rw[← HZN.out];exact o4
   have HT:=I ht.coef;obtain⟨⟨tv,tc⟩,rfl⟩:∃t':Tv,t'=t:=⟨t,rfl⟩;simp only at hvar HT d0 d1 d2 d3;subst hvar;have e1:decide ((j:Int) < 0)=false:=by simp
   have e2:decide ((zn:Int)≤(j:Int))=false:=by simp;omega
   clear hs ht o1 o1k o2 o3 o4 o5 o6 o6k o7 hj hq HO;have p_:=D_p.c4;go_upto_region 6 with fail;clear p_;refine nw1 fun w2 GB D_tb=>?_
   obtain⟨HK,HT,D_p,D_r,D_y,HG⟩:=GB.u6 HK HT D_p D_r D_y HG;clear GB;generalize wr.heap.size=tb at*;have tb_:=D_tb.c4;go_upto_region 8 with fail;obtain⟨g,ad2,hg,hA2,g0,g1,g2⟩:=Rats.at (Rows.gr (fun h G=>h.gr G) HZ HG) HQQ;simp only at hA2;subst hA2;have HGQ:=I hg;clear hg;clear tb_;have y_:=D_y.c3;have tb_:=D_tb.c4;refine wpr ?_;have kc:=I fun W' (G:Gr w2.drew W')=>ai (G.kb D_y).c3 <| ai (G.kb D_tb).c4 <| G.kk g0 <| G.kk g1 <| G.keep g2
   refine wg 1 (tf 10 1) [0,1,2,3,4,5,6,7,8,9] [(8,Rv.At (Q.mul s.2 q)),(9,Rv.At (Q.add yq (Q.mul s.2 q)))] ?_;iterate 8 refine .tk ?_
   refine .dk (fun W1 G1 F1=>r3mul_any W1 tc g s.2 q (HT.gr G1.od) (HGQ.gr G1.od) (nm O2.num (by decide)) (nm O5.num (by decide)) (nm O2.den (by decide)) (nm O5.den (by decide))) ?_;rintro _ ⟨_,-,-,⟨m,rfl,-⟩⟩;refine .dk (fun W1 G1 F1=>by have fm:=lk F1 0;exact r3add_any W1 yv m yq (Q.mul s.2 q) (HK.gr G1.od) fm.is O1K O6K O1.r31.1 O6.r31.1 O1.r31.2 O6.r31.2) ?_;rintro _ ⟨_,-,-,⟨n,rfl,-⟩⟩;refine .done fun W1 G1 F1=>?_
   have hm:=lh F1 0;have hn:=lh F1 1;replace kc:=kc.out W1 G1;clear F1 y_ tb_ g0 g1 g2;have GB:=G1.od;obtain⟨HK,D_p,D_r,D_y,HG⟩:=GB.u5 HK D_p D_r D_y HG;have HN:=I (hn.is);clear GB G1 hm hn kc;have fz5:=D_y.frozen;have y_:=D_y.c3;refine wo 10 ?_;refine wpe ?_;clear fz5;refine ks D_y fun w3 B5 F5=>?_
   replace HK:=I (HK.tf' F5 D_y);replace HN:=I (HN.tf' F5 D_y);replace HG:=HG.fa F5 N_y;replace D_p:=F5.hb D_p X_p_y;replace D_r:=F5.hb D_r X_r_y;replace D_y:=B5;clear B5 F5 y_;clear HT;clear HGQ;clear HK;go_wp2;go_roundw
   ·exact⟨k+1,n,Q.add yq (Q.mul s.2 q),rfl,by go_num,by omega,HC,O7,HN,HG,D_p,D_r,D_y⟩
   ·simp[intOf];omega
  ·obtain rfl:k=xn:=by omega
   rw[List.drop_eq_nil_of_le (by rw[HXN.out];exact nr _)] at HC;have HE:Hid (yq=evalT xs x.const x.terms):=HC.out;clear HC HO;have p_:=D_p.c4;have y_:=D_y.c3;have z0_:=D_r.c3;have fz:=D_r.frozen;go_wp2;refine pex ?_;refine ks D_r fun W5 B5 F5=>?_
   have d_:=B5.c3;refine bret Tryz.results32 ?_;exact⟨yv,rfl,by rw[← HE.out];exact HK.tf' F5 D_r,HG.fr_at F5 N_r⟩
def RgR (l h:List Q):Prop:=∀(i:Nat) (a b:Q),l[i]?=some a→h[i]?=some b→b.neg'.Sm∧(Q.add a b.neg').Sm∧cmpR a b≤0
theorem r15vars_any (w:World) (g:Gv) (x:Gm) (hg:g.Is w x) (hx:x.Va):
  Calls Tryz.prog 70 #[g.v] w fun e w'=>e=.returned (.int .i64 ((x.inputs+x.units.length:Nat):Int))∧Gr w w':=by
 obtain⟨gi,⟨uA,un,uc⟩,qo⟩:=g;have hgi:gi=(x.inputs:Int):=hg.inputs;subst hgi;have hun:x.units.length=un:=hg.units.len;have hi9:=hx.i9;have hu9:=hx.u9;have hu99:un≤1024:=by omega
 generalize hinp:x.inputs=inp at*;change Hid _ at hg hx;have HUN:=I hun;clear hun hu9;simp only[Gv.v] at*;go_enter Tryz.func70,Tryz.ntmps70;go_wp2_with fail;refine nw1hc fun W HG D_p=>?_
 have p_:=D_p.c3;refine cm0 (r15valid_any W ⟨(inp:Int),⟨uA,un,uc⟩,qo⟩ x (hg.gr HG) hx) fun w1 G=>?_
 replace D_p:=G.hb D_p;replace HG:=HG.tr G;clear p_;have p_:=D_p.c3;have hw1:IntKind.i64.wrap ((inp:Int)+(un:Int))=((inp+un:Nat):Int):=by rw[wi _ (by omega)];omega
 go_wp2;go_ret;exact⟨by rw[HUN.out];rfl,HG.out⟩
theorem r19valid_any (w:World) (lo hi:Sv) (l h:List Q) (hl:Rats w lo l) (hh:Rats w hi h) (h1:1≤l.length) (h2:l.length≤256) (hlen:h.length=l.length) (hls:∀q∈l,q.Sm∧q.Ok) (hhs:∀q∈h,q.Sm∧q.Ok) (hle:RgR l h):
  Calls Tryz.prog 68 #[.agg #[lo.v,hi.v,Nl],.int .i64 (lo.n:Int)] w fun e w'=>e=.returned (.bool true)∧Gr w w':=by
 obtain⟨loA,loN,loC⟩:=lo;obtain⟨hiA,hiN,hiC⟩:=hi;have hln:l.length=loN:=hl.len;have hhn:h.length=hiN:=hh.len;obtain rfl:hiN=loN:=by omega
 have g1:decide ((hiN:Int) < 1)=false:=df (by omega);have g2:decide ((256:Int) < (hiN:Int))=false:=df (by omega);have g3:decide (256 < hiN)=false:=df (by omega);have g4:((hiN:Int) != (hiN:Int))=false:=by simp
 have g5:decide (hiN < 1)=false:=df (by omega);have HL:=I hl;have HH:=I hh;change Hid _ at hls hhs;have HLE:=I hle;clear hl hh hle;go_enter Tryz.func68,Tryz.ntmps68;go_upto_region 1 with fail;refine nw1h fun W HG D_p=>?_
 have p_:=D_p.c3;have p_:=D_p.c3;go_wp2_with fail;refine cm0 (r3vall_any W ⟨loA,hiN,loC⟩ l (Rows.gr (fun h G=>h.gr G) HL HG) (by omega) hls) fun w1 G=>?_
 replace D_p:=G.hb D_p;replace HG:=HG.tr G;clear p_;have p_:=D_p.c3;go_wp2_with fail;refine cm0 (r3vall_any w1 ⟨hiA,hiN,hiC⟩ h (Rows.gr (fun h G=>h.gr G) HH HG) (by omega) hhs) fun w2 G=>?_
 replace D_p:=G.hb D_p;replace HG:=HG.tr G;clear p_;have p_:=D_p.c3;go_wp2_with fail;refine cm0 (r7all_any w2 Sv.none [] hiN Rows.empty (fun x hx=>by cases hx)) fun w3 G=>?_
 replace D_p:=G.hb D_p;replace HG:=HG.tr G;clear p_;have p_:=D_p.c3;go_wp2_with fail;go_loopw [5] (fun s0 wr=>∃(j:Nat),s0=.int .i64 j∧j≤hiN∧Hid (Gr w wr)∧Hid (Bk wr w.heap.size 33 #[.slice loA hiN loC,.slice hiA hiN hiC,Nl])) (fun j _=>hiN - (intOf j).toNat)
 case atStart=>exact⟨0,rfl,nq _,HG,D_p⟩
 case round=>
  clear HG D_p p_;obtain⟨j,rfl,hr1,HG,D_p⟩:=hrel;by_cases hin9:j < hiN
  ·obtain⟨qb,hqb⟩:∃q,l[j]?=some q:=⟨_,ge (by omega)⟩;obtain⟨qc,hqc⟩:∃q,h[j]?=some q:=⟨_,ge (by omega)⟩;have HI9:=I (HLE.out j qb qc hqb hqc);have HSB:=I (hls.out qb (mg hqb));have HSC:=I (hhs.out qc (mg hqc));obtain⟨bv,adl,hbv,hA,b0,b1,b2⟩:=Rats.at (Rows.gr (fun h G=>h.gr G) HL HG) hqb;simp only at hA;subst hA;obtain⟨cv,adh,hcv,hA,c0,c1,c2⟩:=Rats.at (Rows.gr (fun h G=>h.gr G) HH HG) hqc;simp only at hA;subst hA;have HBV:=I hbv;have HCV:=I hcv;have hj9:j < 256:=by omega
   clear hbv hcv hqb hqc;have p_:=D_p.c3;go_upto_region 8 with fail;have k3:¬(0 < cmpR qb qc):=by have:=HI9.2.2;omega
   have k4:decide (0 < cmpR qb qc)=false:=df k3;refine wpr ?_;have kc:=I fun W' (G:Gr wr.drew W')=>ai (G.kb D_p).c3 <| G.kk b0 <| G.kk b1 <| G.kk b2 <| G.kk c0 <| G.kk c1 <| G.keep c2
   refine wg 0 (tf 12 0) [0,1,2,3,4,5,6,7,8,9,10,11] [(10,fun v _=>v=.int .i64 (cmpR qb qc))] ?_;iterate 10 refine .tk ?_
   refine .dc (fun W1 G1 F1=>?_) ?_
   ·obtain⟨p_,b0,b1,b2,c0,c1,c2⟩:=kc.out W1 G1;refine doesAt_en ?_;refine cm0 (r3cmp_any W1 bv cv qb qc (HBV.gr G1.od) (HCV.gr G1.od) HSB.2 HSB.1 HSC.1 HI9.1 HI9.2.1) fun w' G=>?_
    exact⟨_,rfl,G,rfl⟩
   rintro _ ⟨_,-,-,rfl⟩;refine .tk ?_;refine .done fun W1 G1 F1=>?_
   clear F1;refine wpe ?_;have GB:=G1.od;replace D_p:=GB.hb D_p;replace HG:=HG.tr GB;clear GB G1 kc p_ b0 b1 b2 c0 c1 c2;clear HBV;clear HCV;go_wp2;go_roundw
   ·exact⟨j+1,by go_num,by omega,HG,D_p⟩
   ·simp[intOf];omega
  ·obtain rfl:j=hiN:=by omega
   go_wp2;go_ret;exact⟨rfl,HG.out⟩
theorem r19own_any (w:World) (lo hi:Sv) (l h:List Q) (hl:Rats w lo l) (hh:Rats w hi h) (h1:1≤l.length) (h2:l.length≤256) (hlen:h.length=l.length) (hls:∀q∈l,q.Sm∧q.Ok) (hhs:∀q∈h,q.Sm∧q.Ok) (hle:RgR l h):
  Calls Tryz.prog 73 #[.agg #[lo.v,hi.v,Nl]] w fun e w'=>e=.returned (.bool true)∧Gr w w':=by
 have HL:=I hl;have HH:=I hh;clear hl hh;go_enter Tryz.func73,Tryz.ntmps73;go_upto_region 1 with fail;refine nw1h fun W HG D_p=>?_
 have p_:=D_p.c3;have p_:=D_p.c3;go_wp2_with fail;refine cm0 (r19valid_any W lo hi l h (Rows.gr (fun h G=>h.gr G) HL HG) (Rows.gr (fun h G=>h.gr G) HH HG) h1 h2 hlen hls hhs hle) fun w1 G=>?_
 replace HG:=HG.tr G;clear p_;go_wp2;go_ret;exact⟨rfl,HG.out⟩
theorem r19con_any (w:World) (lo hi:Sv) (l h:List Q) (hl:Rats w lo l) (hh:Rats w hi h) (h1:1≤l.length) (h2:l.length≤256) (hlen:h.length=l.length) (hls:∀q∈l,q.Sm∧q.Ok) (hhs:∀q∈h,q.Sm∧q.Ok) (hle:RgR l h) (x:Sv) (xs:List Q) (hx:Rats w x xs) (hxl:xs.length=l.length) (hxs:∀q∈xs,q.Sm∧q.Ok) (hn1:∀q∈l,q.neg'.Sm) (hin:∀(i:Nat) (a b c:Q),xs[i]?=some a→l[i]?=some b→h[i]?=some c→(Q.add a b.neg').Sm∧(Q.add a c.neg').Sm∧0≤cmpR a b∧cmpR a c≤0):
  Calls Tryz.prog 31 #[.agg #[lo.v,hi.v,Nl],x.v] w fun e w'=>e=.returned (.bool true)∧Gr w w':=by
 obtain⟨loA,loN,loC⟩:=lo;obtain⟨hiA,hiN,hiC⟩:=hi;have hln:l.length=loN:=hl.len;have hhn:h.length=hiN:=hh.len;obtain rfl:hiN=loN:=by omega
 obtain⟨xA,xn,xc⟩:=x;have hxn:xs.length=xn:=hx.len;obtain rfl:xn=hiN:=by omega
 have hv:=fun W (G:Gr w W)=>r19own_any W ⟨loA,xn,loC⟩ ⟨hiA,xn,hiC⟩ l h (Rows.gr (fun h G=>h.gr G) hl G) (Rows.gr (fun h G=>h.gr G) hh G) h1 h2 hlen hls hhs hle
 have g4:((xn:Int) != (xn:Int))=false:=by simp
 have HL:=I hl;have HH:=I hh;change Hid _ at hls hhs hin hxs hn1;have HLE:=I hle;have HX:=I hx;have HV:=I hv;clear hl hh hx hv hle;go_enter Tryz.func31,Tryz.ntmps31;go_upto_region 1 with fail;refine nw1h fun W HG D_p=>?_
 have p_:=D_p.c3;have p_:=D_p.c3;go_wp2_with fail;refine cm0 (HV.out W HG) fun w1 G=>?_
 replace D_p:=G.hb D_p;replace HG:=HG.tr G;clear p_;have p_:=D_p.c3;go_wp2_with fail;go_loopw [5] (fun s0 wr=>∃(j:Nat),s0=.int .i64 j∧j≤xn∧Hid (Gr w wr)∧Hid (Bk wr w.heap.size 33 #[.slice loA xn loC,.slice hiA xn hiC,Nl])) (fun j _=>xn - (intOf j).toNat)
 case atStart=>exact⟨0,rfl,nq _,HG,D_p⟩
 case round=>
  clear HG D_p p_;obtain⟨j,rfl,hr1,HG,D_p⟩:=hrel;by_cases hin9:j < xn
  ·obtain⟨qa,hqa⟩:∃q,xs[j]?=some q:=⟨_,ge (by omega)⟩;obtain⟨qb,hqb⟩:∃q,l[j]?=some q:=⟨_,ge (by omega)⟩;obtain⟨qc,hqc⟩:∃q,h[j]?=some q:=⟨_,ge (by omega)⟩;have HI9:=I (hin.out j qa qb qc hqa hqb hqc);have HI8:=I (HLE.out j qb qc hqb hqc);have HSA:=I (hxs.out qa (mg hqa));have HSB:=I (hls.out qb (mg hqb));have HNB:=I (hn1.out qb (mg hqb));have HSC:=I (hhs.out qc (mg hqc));obtain⟨av,adx,hav,hA,a0,a1,a2⟩:=Rats.at (Rows.gr (fun h G=>h.gr G) HX HG) hqa;simp only at hA;subst hA;obtain⟨bv,adl,hbv,hA,b0,b1,b2⟩:=Rats.at (Rows.gr (fun h G=>h.gr G) HL HG) hqb;simp only at hA;subst hA;obtain⟨cv,adh,hcv,hA,c0,c1,c2⟩:=Rats.at (Rows.gr (fun h G=>h.gr G) HH HG) hqc;simp only at hA;subst hA;have HAV:=I hav;have HBV:=I hbv;have HCV:=I hcv;have hj9:j < 256:=by omega
   clear hav hbv hcv hqa hqb hqc;have p_:=D_p.c3;go_upto_region 6 with fail;have k1:¬(cmpR qa qb < 0):=by have:=HI9.2.2.1;omega
   have k2:decide (cmpR qa qb < 0)=false:=df k1;have k3:¬(0 < cmpR qa qc):=by have:=HI9.2.2.2;omega
   have k4:decide (0 < cmpR qa qc)=false:=df k3;refine wpr ?_;have kc:=I fun W' (G:Gr wr.drew W')=>ai (G.kb D_p).c3 <| G.kk a0 <| G.kk a1 <| G.kk a2 <| G.kk b0 <| G.kk b1 <| G.kk b2 <| G.kk c0 <| G.kk c1 <| G.keep c2
   refine wg 0 (tf 24 0) [0,1,2,3,4,5,6,7,8,9,10,11,12,13,14,15,16,17,18,19,20,21,22,23] [(9,fun v _=>v=.int .i64 (cmpR qa qb)),(21,fun v _=>v=.int .i64 (cmpR qa qc))] ?_;iterate 9 refine .tk ?_
   refine .dc (fun W1 G1 F1=>?_) ?_
   ·obtain⟨p_,a0,a1,a2,b0,b1,b2,c0,c1,c2⟩:=kc.out W1 G1;refine doesAt_en ?_;refine cm0 (r3cmp_any W1 av bv qa qb (HAV.gr G1.od) (HBV.gr G1.od) HSA.2 HSA.1 HSB.1 (show _∧_∧True from ⟨HNB.out,HI9.1,trivial⟩).1 (show _∧_∧True from ⟨HNB.out,HI9.1,trivial⟩).2.1) fun w' G=>?_
    exact⟨_,rfl,G,rfl⟩
   rintro _ ⟨_,-,-,rfl⟩;iterate 11 refine .tk ?_
   refine .dc (fun W1 G1 F1=>?_) ?_
   ·obtain⟨p_,a0,a1,a2,b0,b1,b2,c0,c1,c2⟩:=kc.out W1 G1;refine doesAt_en ?_;refine cm0 (r3cmp_any W1 av cv qa qc (HAV.gr G1.od) (HCV.gr G1.od) HSA.2 HSA.1 HSC.1 (show _∧_∧True from ⟨HI8.1,HI9.2.1,trivial⟩).1 (show _∧_∧True from ⟨HI8.1,HI9.2.1,trivial⟩).2.1) fun w' G=>?_
    exact⟨_,rfl,G,rfl⟩
   rintro _ ⟨_,-,-,rfl⟩;iterate 2 refine .tk ?_
   refine .done fun W1 G1 F1=>?_
   clear F1;refine wpe ?_;have GB:=G1.od;replace D_p:=GB.hb D_p;replace HG:=HG.tr GB;clear GB G1 kc p_ a0 a1 a2 b0 b1 b2 c0 c1 c2;clear HAV;clear HBV;clear HCV;go_wp2;go_roundw
   ·exact⟨j+1,by go_num,by omega,HG,D_p⟩
   ·simp[intOf];omega
  ·obtain rfl:j=xn:=by omega
   have p_:=D_p.c3;go_wp2_with fail;refine wp_loop_rounds 1 ?_;rw[rounds_succ];go_wp2;go_ret;exact⟨rfl,HG.out⟩
theorem r21valid_any (w:World) (q:Qv) (x:Qm) (hq:q.Is w x) (hx:x.Va) (hr:RgR x.lo x.hi):
  Calls Tryz.prog 29 #[.agg q.qs] w fun e w'=>e=.returned (.bool true)∧Gr w w':=by
 change Hid _ at hq hx;have HR:=I hr;clear hr;go_enter Tryz.func29,Tryz.ntmps29;go_upto_region 1 with fail;refine nw1h fun W HG D_p=>?_
 have p_:=D_p.c10;have hgi:Hid (q.g.inputs=(q.lo.n:Int)):=(show q.g.inputs=(q.lo.n:Int) by rw[hq.g.inputs,← hx.lo,(show x.lo.length=q.lo.n from hq.lo.len)]);have p_:=D_p.c10;refine wpr ?_;have kc:=I fun W' (G:Gr W.drew W')=>(G.kb D_p).c10
 refine wg 0 (tf 20 0) [0,1,2,3,4,5,6,7,8,9,10,11,12,13,14,15,16,17,18,19] [(2,fun v _=>v=.bool true),(9,fun v _=>v=.bool true),(16,fun v _=>v=.int .i64 ((x.g.inputs+x.g.units.length:Nat):Int)),(17,fun v _=>v=.bool true)] ?_;iterate 2 refine .tk ?_
 refine .dc (fun W1 G1 F1=>?_) ?_
 ·have p_:=kc.out W1 G1;refine doesAt_en ?_;refine cm0 (r15valid_any W1 q.g x.g (hq.gr (HG.trans G1.od)).g hx.g) fun w' G=>?_
  exact⟨_,rfl,G,rfl⟩
 rintro _ ⟨_,-,-,rfl⟩;iterate 6 refine .tk ?_
 refine .dc (fun W1 G1 F1=>?_) ?_
 ·have p_:=kc.out W1 G1;refine doesAt_en ?_;refine cm0 ((show Calls _ _ _ _ (fun e w'=>e=.returned (.bool true)∧Gr W1 w') from by rw[hgi.out];exact r19valid_any W1 q.lo q.hi x.lo x.hi (hq.gr (HG.trans G1.od)).lo (hq.gr (HG.trans G1.od)).hi (by have:=hx.lo;have:=hx.g.i0;omega) (by have:=hx.lo;have:=hx.g.i9;omega) (by have:=hx.lo;have:=hx.hi;omega) hx.los hx.his HR)) fun w' G=>?_
  exact⟨_,rfl,G,rfl⟩
 rintro _ ⟨_,-,-,rfl⟩;iterate 6 refine .tk ?_
 refine .dc (fun W1 G1 F1=>?_) ?_
 ·have p_:=kc.out W1 G1;refine doesAt_en ?_;refine cm0 (r15vars_any W1 q.g x.g (hq.gr (HG.trans G1.od)).g hx.g) fun w' G=>?_
  exact⟨_,rfl,G,rfl⟩
 rintro _ ⟨_,-,-,rfl⟩;refine .dc (fun W1 G1 F1=>?_) ?_
 ·have p_:=kc.out W1 G1;refine doesAt_en ?_;refine cm0 (r7valid_any W1 q.goal x.goal (x.g.inputs+x.g.units.length) (hq.gr (HG.trans G1.od)).goal hx.goal.ok hx.goal.num hx.goal.const) fun w' G=>?_
  exact⟨_,rfl,G,rfl⟩
 rintro _ ⟨_,-,-,rfl⟩;iterate 2 refine .tk ?_
 refine .done fun W1 G1 F1=>?_
 clear F1;refine wpe ?_;have GB:=G1.od;replace HG:=HG.tr GB;clear GB G1 kc p_;go_wp2;go_ret;exact⟨rfl,HG.out⟩
section
variable {P:Program} {f:FuncId} {fn:Func}
theorem run_call_loadp (hf : P.funcs[f]? = some fn) (hname : (fn.name == "runtime.NumGoroutine") = false) (hb : fn.body.isNone = true) (hn : Extern.findNext fn = none)
  (he:Extern.find fn=some (Extern.Atomic.loadT .ptr)) {a:Addr} {x:Option Addr} {w:World} (hc:w.cell? a=some (.pointer x)):
  (callFunc f #[.pointer (some a)]).run P w=.ok (.value (.pointer x)) w:=by
 rw[run_callFunc_extern hf hname hb hn he];change (Sem.run P (do Extern.Atomic.read .ptr (← asAddr (.pointer (some a)))) w).andThen _=_;simp[Extern.Atomic.read,asAddr,hc,Result.andThen]
theorem run_call_storep (hf : P.funcs[f]? = some fn) (hname : (fn.name == "runtime.NumGoroutine") = false) (hb : fn.body.isNone = true) (hn : Extern.findNext fn = none)
  (he:Extern.find fn=some Extern.Atomic.storeT) {a:Addr} {y:Option Addr} {u:Value} {w:World} (hc:w.cell? a=some u) (hz:w.frozen? a=false):
  (callFunc f #[.pointer (some a),.pointer y]).run P w=.ok (.value (.tuple #[])) (w.setCell a (.pointer y)):=by
 rw[run_callFunc_extern hf hname hb hn he];change (Sem.run P (do
  store (← asAddr (.pointer (some a))) (.pointer y) .atomic
  pure Extern.Atomic.none_) w).andThen _=_
 simp[asAddr,hc,hz,run_store P w a (.pointer y) .atomic rfl,Result.andThen,Extern.Atomic.none_]
theorem add_i64 (w:World) (x y:Int) (h1:-9223372036854775808≤x+y) (h2:x+y≤9223372036854775807):(Op.intArith .add .i64 x y).run P w=.ok (.int .i64 (x+y)) w:=by
 have e:IntKind.i64.wrap (x+y)=x+y:=by rw[IntKind.wrap_i64];omega
 simp[Op.intArith,e]
end
theorem ald_run (w:World) (a:Addr) (x:Int) (h:w.cell? a=some (.int .i64 x)):(callFunc 98 #[.pointer (some a)]).run Tryz.prog w=.ok (.value (.int .i64 x)) w:=
 run_call_load (fn:=Tryz.f98) (by kernel_rfl) (by kernel_rfl) (by kernel_rfl) (by kernel_rfl) .i64 (by kernel_rfl) h
theorem ald_any (w:World) (b o:Nat) (x:Int) (h:w.cell? ⟨b,o,none⟩=some (.int .i64 x)):
  Calls Tryz.prog 42 #[.pointer (some ⟨b,o,none⟩)] w fun e w'=>e=.returned (.int .i64 x)∧Gr w w':=by
 have hr:=ald_run w _ x h;go_enter Tryz.func42,Tryz.ntmps42;go_wp2;go_ret;exact⟨rfl,Gr.refl w⟩
theorem ast_any (w:World) (b o t:Nat) (vs:Array Value) (x y:Int) (hb:Bk w b t vs) (h:w.cell? ⟨b,o,none⟩=some (.int .i64 x)):
  Calls Tryz.prog 90 #[.pointer (some ⟨b,o,none⟩),.int .i64 y] w fun e w'=>e=.returned (.tuple #[])∧w'=w.setCell ⟨b,o,none⟩ (.int .i64 y):=by
 have hr:=run_call_store (P:=Tryz.prog) (f:=148) (fn:=Tryz.f148) (by kernel_rfl) (by kernel_rfl) (by kernel_rfl) (by kernel_rfl) (by kernel_rfl) (k:=.i64) (y:=y) h (hb.frozen o);clear hb h;go_enter Tryz.func90,Tryz.ntmps90;go_wp2;refine pex ?_
 first | (refine bodyPost_ret (results_none rfl _ _ _) rfl ?_) | (refine bodyPost_end (results_none rfl _ _ _) rfl ?_)
 exact⟨rfl,rfl⟩
theorem aad_any (w:World) (b o t:Nat) (vs:Array Value) (x y:Int) (hb:Bk w b t vs) (h:w.cell? ⟨b,o,none⟩=some (.int .i64 x)) (h1:-9223372036854775808≤x+y) (h2:x+y≤9223372036854775807):
  Calls Tryz.prog 100 #[.pointer (some ⟨b,o,none⟩),.int .i64 y] w fun e w'=>e=.returned (.int .i64 (x+y))∧w'=w.setCell ⟨b,o,none⟩ (.int .i64 (x+y)):=by
 have hr:=run_call_add (P:=Tryz.prog) (f:=163) (fn:=Tryz.f163) (by kernel_rfl) (by kernel_rfl) (by kernel_rfl) (by kernel_rfl) .i64 (by kernel_rfl) (y:=y) h (hb.frozen o) (add_i64 w x y h1 h2);clear hb h h1 h2;generalize x+y=s at*;go_enter Tryz.func100,Tryz.ntmps100;go_wp2;go_ret;exact⟨rfl,rfl⟩
theorem lies_rt:liesAt Tryz.prog Tryz.prog.depth 31 (1 / Tryz.prog.cellsOf 31) 0 31 1=true:=by kernel_rfl
theorem cells_rt:(Tryz.prog.info? 31).map (fun i=>decide (i.size=0))=some false:=by kernel_rfl
theorem under_pr:Tryz.prog.underlying 97=some (.pointer 31):=by kernel_rfl
theorem under_us:Tryz.prog.underlying 99=some .unsafePointer:=by kernel_rfl
theorem back_rt {w:World} {c:Nat} {x:Value} (h:Bk w c 31 #[x]):(convert 99 97 (.pointer (some ⟨c,0,none⟩))).run Tryz.prog w=.ok (.pointer (some ⟨c,0,none⟩)) w:=by
 have hsh:w.shape? c=some (31,1):=by
  unfold Bk at h;simp[World.shape?,h]
 obtain⟨i,hi,hz0⟩:=Option.map_eq_some_iff.1 cells_rt;have hz:i.size≠0:=by simpa using hz0
 simp[convert,Conv.unsafePointer,Conv.seenAt,viewAt,run_underlying under_us,run_underlying under_pr,sizeOf,typeInfo,hi,hz,hsh,variablesAt,lies_rt,Result.andThen]
theorem toun_rt {w:World} {c:Nat} {x:Value} (h:Bk w c 31 #[x]):(convert 97 99 (.pointer (some ⟨c,0,none⟩))).run Tryz.prog w=.ok (.pointer (some ⟨c,0,none⟩)) w:=
 run_convert_to_unsafe under_pr under_us cells_rt (h.cell 0)
theorem pst_any (w:World) (b o t c:Nat) (vs:Array Value) (u x:Value) (hb:Bk w b t vs) (h:w.cell? ⟨b,o,none⟩=some u) (hc:Bk w c 31 #[x]):
  Calls Tryz.prog 96 #[.pointer (some ⟨b,o,none⟩),.pointer (some ⟨c,0,none⟩)] w fun e w'=>e=.returned (.tuple #[])∧w'=w.setCell ⟨b,o,none⟩ (.pointer (some ⟨c,0,none⟩)):=by
 have hr:=run_call_storep (P:=Tryz.prog) (f:=160) (fn:=Tryz.f160) (by kernel_rfl) (by kernel_rfl) (by kernel_rfl) (by kernel_rfl) (by kernel_rfl) (y:=some ⟨c,0,none⟩) h (hb.frozen o);have hcv:=toun_rt hc;clear hb h hc;go_enter Tryz.func96,Tryz.ntmps96;go_wp2;refine pex ?_
 first | (refine bodyPost_ret (results_none rfl _ _ _) rfl ?_) | (refine bodyPost_end (results_none rfl _ _ _) rfl ?_)
 exact⟨rfl,rfl⟩
theorem pld_any (w:World) (b o c:Nat) (x:Value) (h:w.cell? ⟨b,o,none⟩=some (.pointer (some ⟨c,0,none⟩))) (hc:Bk w c 31 #[x]):
  Calls Tryz.prog 44 #[.pointer (some ⟨b,o,none⟩)] w fun e w'=>e=.returned (.pointer (some ⟨c,0,none⟩))∧Gr w w':=by
 have hr:=run_call_loadp (P:=Tryz.prog) (f:=99) (fn:=Tryz.f99) (by kernel_rfl) (by kernel_rfl) (by kernel_rfl) (by kernel_rfl) (by kernel_rfl) h;have hcv:=back_rt hc;clear h hc;go_enter Tryz.func44,Tryz.ntmps44;go_wp2;go_ret;exact⟨rfl,Gr.refl w⟩
end
def qAt (l:List Q) (i:Nat):Q:=(l[i]?).getD Q.zero
def nAt (l:List Nat) (i:Nat):Nat:=(l[i]?).getD 0
def rAt (l:List (List Q)) (i:Nat):List Q:=(l[i]?).getD []
theorem qAt_get {l:List Q} {i:Nat} (h:i < l.length):l[i]?=some (qAt l i):=by rw[qAt,ge h];rfl
theorem nAt_get {l:List Nat} {i:Nat} (h:i < l.length):l[i]?=some (nAt l i):=by rw[nAt,ge h];rfl
theorem rAt_get {l:List (List Q)} {i:Nat} (h:i < l.length):l[i]?=some (rAt l i):=by rw[rAt,ge h];rfl
def smL (l:List Q):Bool:=l.all smB
theorem smL.mem {l:List Q} (h:smL l=true) {q:Q} (hq:q∈l):q.Sm:=smB.sm (List.all_eq_true.1 h q hq)
theorem smL.at {l:List Q} (h:smL l=true) {i:Nat} (hi:i < l.length):(qAt l i).Sm:=smL.mem h (mg (qAt_get hi))
def subN (a:Q) (f l:List Q):Nat→List Q
 | 0=>l
 | j+1=>if (qAt f j).sign=0 then subN a f l j else (subN a f l j).set j (Q.add (qAt l j) (Q.mul a (qAt f j)))
theorem subN_len (a:Q) (f l:List Q):∀j,(subN a f l j).length=l.length
 | 0=>rfl
 | j+1=>by
  rw[subN];split
  ·exact subN_len a f l j
  ·rw[List.length_set];exact subN_len a f l j
theorem subN_get (a:Q) (f l:List Q):∀{j k:Nat},j≤k→(subN a f l j)[k]?=l[k]?
 | 0,k,_=>rfl
 | j+1,k,h=>by
  rw[subN];split
  ·exact subN_get a f l (Nat.le_of_succ_le h)
  ·rw[List.getElem?_set_ne (by omega)];exact subN_get a f l (Nat.le_of_succ_le h)
def subL (l:List Q) (e:Nat) (f:List Q):List Q:=if (qAt l e).sign=0 then l else subN (qAt l e) f (l.set e Q.zero) f.length
structure SubOk (l:List Q) (e:Nat) (f:List Q):Prop where
 sl:smL l=true
 sf:smL f=true
 sm:∀c∈f,(Q.mul (qAt l e) c).Sm
 se:e < l.length
 len:f.length=l.length
def subOk (l:List Q) (e:Nat) (f:List Q):Bool:=smL l&&smL f&&f.all (fun c=>smB (Q.mul (qAt l e) c))&&decide (e < l.length)&&decide (f.length=l.length)
theorem subOk.ok {l:List Q} {e:Nat} {f:List Q} (h:subOk l e f=true):SubOk l e f:=by
 simp only[subOk,be,de] at h;obtain⟨⟨⟨⟨h1,h2⟩,h3⟩,h4⟩,h5⟩:=h;exact⟨h1,h2,fun c hc=>smB.sm (List.all_eq_true.1 h3 c hc),h4,h5⟩
def frmN (old:List Q) (e:Nat):Nat→List Q
 | 0=>List.replicate old.length Q.zero
 | j+1=>if j≠e∧(qAt old j).sign≠0 then (frmN old e j).set j (Q.div (qAt old j).neg' (qAt old e)) else frmN old e j
theorem frmN_len (old:List Q) (e:Nat):∀j,(frmN old e j).length=old.length
 | 0=>List.length_replicate
 | j+1=>by
  rw[frmN];split
  ·rw[List.length_set];exact frmN_len old e j
  ·exact frmN_len old e j
theorem frmN_get (old:List Q) (e:Nat):∀{j k:Nat},j≤k→(frmN old e j)[k]?=(List.replicate old.length Q.zero)[k]?
 | 0,k,_=>rfl
 | j+1,k,h=>by
  rw[frmN];split
  ·rw[List.getElem?_set_ne (by omega)];exact frmN_get old e (Nat.le_of_succ_le h)
  ·exact frmN_get old e (Nat.le_of_succ_le h)
def frm (old:List Q) (e:Nat):List Q:=(frmN old e old.length).set e (Q.div (ofQ 1) (qAt old e))
structure FrmOk (old:List Q) (e:Nat):Prop where
 sl:smL old=true
 sm:∀c∈old,c.neg'.Sm
 sn:(qAt old e).num≠0
 se:e < old.length
def frmOk (old:List Q) (e:Nat):Bool:=smL old&&old.all (fun c=>smB c.neg')&&decide ((qAt old e).num≠0)&&decide (e < old.length)
theorem frmOk.ok {l:List Q} {e:Nat} (h:frmOk l e=true):FrmOk l e:=by
 simp only[frmOk,be,de] at h;obtain⟨⟨⟨h1,h2⟩,h3⟩,h4⟩:=h;exact⟨h1,fun c hc=>smB.sm (List.all_eq_true.1 h2 c hc),h3,h4⟩
def rowN (F:List (List Q)) (r e:Nat) (f:List Q):Nat→List (List Q)
 | 0=>F
 | i+1=>if i=r then rowN F r e f i else (rowN F r e f i).set i (subL (rAt F i) e f)
theorem rowN_len (F:List (List Q)) (r e:Nat) (f:List Q):∀i,(rowN F r e f i).length=F.length
 | 0=>rfl
 | i+1=>by
  rw[rowN];split
  ·exact rowN_len F r e f i
  ·rw[List.length_set];exact rowN_len F r e f i
theorem rowN_get (F:List (List Q)) (r e:Nat) (f:List Q):∀{i k:Nat},i≤k→(rowN F r e f i)[k]?=F[k]?
 | 0,k,_=>rfl
 | i+1,k,h=>by
  rw[rowN];split
  ·exact rowN_get F r e f (Nat.le_of_succ_le h)
  ·rw[List.getElem?_set_ne (by omega)];exact rowN_get F r e f (Nat.le_of_succ_le h)
def pivT (T:Tb) (r e:Nat):Tb:=
 { T with piv:=T.piv+1,basic:=T.basic.set r (nAt T.nonb e),nonb:=T.nonb.set e (nAt T.basic r),forms:=(rowN T.forms r e (frm (rAt T.forms r) e) T.forms.length).set r (frm (rAt T.forms r) e),obj:=subL T.obj e (frm (rAt T.forms r) e) }
structure PivOk (T:Tb) (r e:Nat):Prop where
 fm:FrmOk (rAt T.forms r) e
 row:∀i,i < T.forms.length→SubOk (rAt T.forms i) e (frm (rAt T.forms r) e)
 obj:SubOk T.obj e (frm (rAt T.forms r) e)
 sr:r < T.forms.length
 sb:T.basic.length=T.forms.length
 se:e < T.nonb.length
 sp:T.piv < 1000000
 sn:T.nonb.length < 100000
 sm:T.forms.length < 100000
 so:(rAt T.forms r).length < 100000
def pivOk (T:Tb) (r e:Nat):Bool:=
 frmOk (rAt T.forms r) e&&T.forms.all (fun l=>subOk l e (frm (rAt T.forms r) e))&&subOk T.obj e (frm (rAt T.forms r) e)&&decide (r < T.forms.length)&&decide (T.basic.length=T.forms.length)&&decide (e < T.nonb.length)&&decide (T.piv < 1000000)&&decide (T.nonb.length < 100000)&&decide (T.forms.length < 100000)&&decide ((rAt T.forms r).length < 100000)
theorem pivOk.ok {T:Tb} {r e:Nat} (h:pivOk T r e=true):PivOk T r e:=by
 simp only[pivOk,be,de] at h;obtain⟨⟨⟨⟨⟨⟨⟨⟨⟨h1,h2⟩,h3⟩,h4⟩,h5⟩,h6⟩,h7⟩,h8⟩,h9⟩,h10⟩:=h;exact⟨frmOk.ok h1,fun i hi=>subOk.ok (List.all_eq_true.1 h2 _ (mg (rAt_get hi))),subOk.ok h3,h4,h5,h6,h7,h8,h9,h10⟩
def entN (V:Nat) (N:List Nat) (l:List Q):Nat→Option Nat
 | 0=>none
 | j+1=>if V≤nAt N j∧(qAt l j).sign < 0∧(∀b∈entN V N l j,nAt N j < nAt N b) then some j else entN V N l j
def optI:Option Nat→Int
 | none=>-1
 | some j=>j
def entT (T:Tb) (l:List Q):Option Nat:=entN T.vars T.nonb l T.nonb.length
theorem entN_lt (V:Nat) (N:List Nat) (l:List Q):∀{j k:Nat},entN V N l j=some k→k < j
 | 0,k,h=>by cases h
 | j+1,k,h=>by
  rw[entN] at h;split at h
  ·injection h with h;omega
  ·exact Nat.lt_succ_of_lt (entN_lt V N l h)
def ratio (T:Tb) (e r:Nat):Q:=Q.div (qAt (rAt T.forms r) T.nonb.length) (qAt (rAt T.forms r) e).neg'
def leaN (T:Tb) (e:Nat):Nat→Option Nat
 | 0=>none
 | r+1=>if nAt T.basic r < T.vars∨0≤(qAt (rAt T.forms r) e).sign then leaN T e r
   else match leaN T e r with
    | none=>some r
    | some b=>if 0 < Q.cmpQ (ratio T e b) (ratio T e r)∨Q.cmpQ (ratio T e b) (ratio T e r)=0∧nAt T.basic r < nAt T.basic b then some r else some b
def leaT (T:Tb) (e:Nat):Option Nat:=leaN T e T.basic.length
theorem leaN_lt (T:Tb) (e:Nat):∀{j k:Nat},leaN T e j=some k→k < j
 | 0,k,h=>by cases h
 | r+1,k,h=>by
  rw[leaN] at h;split at h
  ·exact Nat.lt_succ_of_lt (leaN_lt T e h)
  ·split at h
   ·injection h with h;omega
   ·next b hb=>
    split at h
    ·injection h with h;omega
    ·injection h with h;subst h;exact Nat.lt_succ_of_lt (leaN_lt T e hb)
structure TabOk (T:Tb):Prop where
 row:∀i,i < T.forms.length→smL (rAt T.forms i)=true∧(rAt T.forms i).length=T.nonb.length+1
 obj:smL T.obj=true∧T.obj.length=T.nonb.length+1
 b:T.basic.length=T.forms.length
 n:T.nonb.length < 100000
 m:T.forms.length < 100000
 v:T.vars < 100000
 bn:∀x∈T.basic,x < 1000000
 nn:∀x∈T.nonb,x < 1000000
def tabOk (T:Tb):Bool:=T.forms.all (fun l=>smL l&&decide (l.length=T.nonb.length+1))&&smL T.obj&&decide (T.obj.length=T.nonb.length+1)&&decide (T.basic.length=T.forms.length)&&decide (T.nonb.length < 100000)&&decide (T.forms.length < 100000)&&decide (T.vars < 100000)&&T.basic.all (fun x=>decide (x < 1000000))&&T.nonb.all (fun x=>decide (x < 1000000))
theorem tabOk.ok {T:Tb} (h:tabOk T=true):TabOk T:=by
 simp only[tabOk,be,de] at h;obtain⟨⟨⟨⟨⟨⟨⟨⟨h1,h2⟩,h3⟩,h4⟩,h5⟩,h6⟩,h7⟩,h8⟩,h9⟩:=h;refine⟨fun i hi=>?_,⟨h2,h3⟩,h4,h5,h6,h7,fun x hx=>of_decide_eq_true (List.all_eq_true.1 h8 x hx),fun x hx=>of_decide_eq_true (List.all_eq_true.1 h9 x hx)⟩;have:=List.all_eq_true.1 h1 _ (mg (rAt_get hi));simpa only[be,de] using this
structure LeaOk (T:Tb) (e:Nat):Prop where
 neg:∀i,i < T.forms.length→(qAt (rAt T.forms i) e).neg'.Sm
 rat:∀i,i < T.forms.length→(ratio T e i).Sm
 se:e < T.nonb.length
def leaOk (T:Tb) (e:Nat):Bool:=(List.range T.forms.length).all (fun i=>smB (qAt (rAt T.forms i) e).neg'&&smB (ratio T e i))&&decide (e < T.nonb.length)
theorem leaOk.ok {T:Tb} {e:Nat} (h:leaOk T e=true):LeaOk T e:=by
 simp only[leaOk,be,de] at h;obtain⟨h1,h2⟩:=h;have hh:=fun i (hi:i < T.forms.length)=>by
  have:=List.all_eq_true.1 h1 i (List.mem_range.2 hi);simpa only[be] using this
 exact⟨fun i hi=>smB.sm (hh i hi).1,fun i hi=>smB.sm (hh i hi).2,h2⟩
def minT (line:Tb→List Q):Nat→Tb→Option Tb
 | 0,_=>none
 | n+1,T=>if tabOk T&&decide (T.piv≤65536)&&smL (line T)&&decide ((line T).length=T.nonb.length+1) then
   match entT T (line T) with
   | none=>some T
   | some e=>if leaOk T e then
     match leaT T e with
     | none=>none
     | some r=>if pivOk T r e then minT line n (pivT T r e) else none
    else none
  else none
section
attribute [local go_sem] Oper.semAt_some
theorem tfree_any (w:World) (B t:Nat) (S:Ts) (T:Tb) (v:Nat) (h:TabIs w B t S T):
  Calls Tryz.prog 301 #[.pointer (some ⟨t,0,none⟩),iv v] w fun e w'=>e=.returned (.bool (decide (v < T.vars)))∧Gr w w':=by
 have t_0_:=h.cell.c7;have HG:=I (Gr.refl w);go_enter Tryz.func301,Tryz.ntmps301;go_wp2_with fail;go_ret;exact⟨rfl,HG.out⟩
theorem tconst_any (w:World) (B t:Nat) (S:Ts) (T:Tb) (r:Nat) (s:Sv) (l:List Q) (q:Q) (h:TabIs w B t S T) (hs:S.fs[r]?=some s) (hl:T.forms[r]?=some l) (hq:l[T.nonb.length]?=some q):
  Calls Tryz.prog 356 #[.pointer (some ⟨t,0,none⟩),iv r] w fun e w'=>∃x:Rv,e=.returned x.v∧x.Is w' q∧Gr w w':=by
 have NX_HT_r:Hid (¬S.X t (w.heap.size)):=I (fun hx=>absurd ((h).lt hx).2 (by omega));change Hid _ at hs hl hq;simp only[Rv.v,Fv.v] at*;go_enter Tryz.func356,Tryz.ntmps356;go_wp2_with fail;refine nw1h fun W HG D_r=>?_
 have HT:=I ((h).gr HG);clear h;have N_r:=dnl (w.heap.size) (w.heap.size);obtain⟨t_0,t_1,t_2,t_3,t_4,t_5,t_6⟩:=HT.cell.c7;obtain⟨af,hAf,f0,hrf⟩:=HT.f.at hs;have HRW:=I (HT.row _ _ _ hs hl);obtain⟨x,ar,hx,hAr,q0,q1,q2⟩:=HRW.rats.at hq;have HX:=I hx;have hnl:S.sn.n=T.nonb.length:=(HT.n.len (fun _=>rfl) (by decide)).symm;have hql:T.nonb.length < s.n:=by have:=HRW.len Rv.len (by decide);have:=(gs hq).1;omega
 rw[hAf] at t_4;rw[hAr] at f0;rw[hnl] at t_3;clear hx;refine wpr ?_;have kc:=I fun W' (G:Gr W.drew W')=>G.kk t_3 <| G.kk t_4 <| G.kk f0 <| G.kk q0 <| G.kk q1 <| G.keep q2
 refine wg 1 (tf 14 1) [0,1,2,3,4,5,6,7,8,9,10,11,12,13] [] ?_;iterate 14 refine .tk ?_
 refine .done fun W1 G1 F1=>?_
 replace kc:=kc.out W1 G1;clear F1 t_3 t_4 f0 q0 q1 q2;have GB:=G1.od;obtain⟨HX,D_r,HG⟩:=GB.u3 HX D_r HG;clear GB G1 kc;have fz5:=D_r.frozen;have r_:=D_r.c3;refine wo 14 ?_;refine wpe ?_;clear fz5;refine ks D_r fun w1 B5 F5=>?_
 replace HX:=I (HX.tf' F5 D_r);replace HG:=HG.fa F5 N_r;replace D_r:=B5;clear B5 F5 r_;have r_:=D_r.c3;go_wp2;refine pex ?_;refine bret Tryz.results356 ?_;exact⟨x,rfl,HX.out,HG.out⟩
theorem tenter_any (w:World) (B t:Nat) (S:Ts) (T:Tb) (x:Sv) (l:List Q) (h:TabIs w B t S T) (hx:Rats w x l) (hl:l.length=T.nonb.length+1) (hs:smL l=true) (hn:T.nonb.length < 100000):
  Calls Tryz.prog 363 #[.pointer (some ⟨t,0,none⟩),.slice x.A x.n x.c] w fun e w'=>e=.returned (.int .i64 (optI (entT T l)))∧Gr w w':=by
 obtain⟨t_0,t_1,t_2,t_3,t_4,t_5,t_6⟩:=h.cell.c7;obtain⟨xA,xn,xc⟩:=x;have hxn:l.length=xn:=hx.len;have hnl:S.sn.n=T.nonb.length:=(h.n.len (fun _=>rfl) (by decide)).symm;obtain⟨aN,haN⟩:∃a,S.sn.A=a:=⟨_,rfl⟩;rw[hnl,haN] at t_3;have HG:=I (Gr.refl w);have HT:=I ((h).gr HG);have HX:=I ((hx).gr HG);have HL:=I hl;have HS:=I hs;have HN:=I hn;have HXN:=I hxn;have HNL:=I hnl;have HAN:=I haN;clear h hx hl hs hn hxn hnl haN;go_enter Tryz.func363,Tryz.ntmps363;go_wp2_with fail;clear t_0 t_1 t_2 t_3 t_4 t_5 t_6;go_loopw [5,13] (fun s0 s1 wr=>∃(j:Nat),s0=.int .i64 (optI (entN T.vars T.nonb l j))∧s1=.int .i64 j∧j≤T.nonb.length∧Hid (TabIs wr B t S T)∧Hid (Rats wr ⟨xA,xn,xc⟩ l)∧Hid (Gr w wr)) (fun _ j _=>T.nonb.length - (intOf j).toNat)
 case atStart=>exact⟨0,rfl,rfl,nq _,HT,HX,HG⟩
 case round=>
  clear HT HX HG;obtain⟨j,rfl,rfl,hr2,HT,HX,HG⟩:=hrel;by_cases hin:j < T.nonb.length
  ·have hv:=nAt_get hin;have hq:l[j]?=some (qAt l j):=qAt_get (by have:=HL.out;omega);have HV:=I hv;have HQ:=I hq;have hjn:j < 100000:=nm hin HN;have hjx:j < xn:=by have:=HL.out;have:=HXN.out;omega
   obtain⟨ad,hA⟩:∃ad,xA=some ad:=by obtain⟨c,ad,hc,hA,q0,q1,q2⟩:=HX.at hq;exact⟨ad,hA⟩
   subst hA;obtain⟨an,hAn,_⟩:=HT.n.at hv;rw[HAN.out] at hAn;subst hAn;have HQS:=I (smL.at HS (i:=j) (by have:=HL.out;omega));clear hv hq;obtain⟨o,ho⟩:∃o,entN T.vars T.nonb l j=o:=⟨_,rfl⟩;have HO:=I ho;rw[ho];clear ho;rcases o with _ | b
   ·simp only[optI];obtain⟨t_0,t_1,t_2,t_3,t_4,t_5,t_6⟩:=HT.cell.c7;obtain⟨an2,hAn,n0,hrn⟩:=HT.n.at HV;rw[HAN.out,oq] at hAn;subst hAn;obtain⟨c,ad1,hc,hA,q0,q1,q2⟩:=HX.at HQ;simp only[oq] at hA;subst hA;simp only[HNL.out,HAN.out] at t_3;have HC:=I hc;clear hc;by_cases hf:nAt T.nonb j < T.vars
    ·have d_hf:=dt hf;go_wp2_with fail;refine cm0 (tfree_any wr B t S T (nAt T.nonb j) HT) fun w1 G=>?_
     obtain⟨HT,HX,HC,HG⟩:=G.u4 HT HX HC HG;clear t_0 t_1 t_2 t_3 t_4 t_5 t_6 n0 q0 q1 q2;go_wp2;go_roundw
     ·exact⟨j+1,by rw[entN,HO.out,if_neg (fun h=>absurd hf (Nat.not_lt.2 h.1))],by go_num,by omega,HT,HX,HG⟩
     ·simp[intOf];omega
    ·have d_hf:=df hf;go_wp2_with fail;refine cm0 (tfree_any wr B t S T (nAt T.nonb j) HT) fun w1 G=>?_
     obtain⟨HT,HX,HC,HG⟩:=G.u4 HT HX HC HG;clear t_0 t_1 t_2 t_3 t_4 t_5 t_6 n0 q0 q1 q2;clear HC;obtain⟨t_0,t_1,t_2,t_3,t_4,t_5,t_6⟩:=HT.cell.c7;obtain⟨an2,hAn,n0,hrn⟩:=HT.n.at HV;rw[HAN.out,oq] at hAn;subst hAn;obtain⟨c,ad1,hc,hA,q0,q1,q2⟩:=HX.at HQ;simp only[oq] at hA;subst hA;simp only[HNL.out,HAN.out] at t_3;have HC:=I hc;clear hc;go_wp2_with fail;refine cm0 (sign_any w1 c (qAt l j) HC (nt HQS.len (by decide))) fun w2 G=>?_
     obtain⟨HT,HX,HC,HG⟩:=G.u4 HT HX HC HG;clear t_0 t_1 t_2 t_3 t_4 t_5 t_6 n0 q0 q1 q2;by_cases hs:(qAt l j).sign < 0
     ·have d_hs:=dt hs;go_wp2;go_roundw
      ·exact⟨j+1,by rw[entN,HO.out,if_pos ⟨Nat.not_lt.1 hf,hs,fun b e=>by cases e⟩],by go_num,by omega,HT,HX,HG⟩
      ·simp[intOf];omega
     ·have d_hs:=df hs;go_wp2;go_roundw
      ·exact⟨j+1,by rw[entN,HO.out,if_neg (fun h=>absurd h.2.1 (by omega))],by go_num,by omega,HT,HX,HG⟩
      ·simp[intOf];omega
   ·have hb9:=entN_lt _ _ _ HO;have HB:=I (nAt_get (nm hb9 hin));simp only[optI];obtain⟨t_0,t_1,t_2,t_3,t_4,t_5,t_6⟩:=HT.cell.c7;obtain⟨an2,hAn,n0,hrn⟩:=HT.n.at HV;rw[HAN.out,oq] at hAn;subst hAn;obtain⟨c,ad1,hc,hA,q0,q1,q2⟩:=HX.at HQ;simp only[oq] at hA;subst hA;simp only[HNL.out,HAN.out] at t_3;have HC:=I hc;clear hc;by_cases hf:nAt T.nonb j < T.vars
    ·have d_hf:=dt hf;go_wp2_with fail;refine cm0 (tfree_any wr B t S T (nAt T.nonb j) HT) fun w1 G=>?_
     obtain⟨HT,HX,HC,HG⟩:=G.u4 HT HX HC HG;clear t_0 t_1 t_2 t_3 t_4 t_5 t_6 n0 q0 q1 q2;go_wp2;go_roundw
     ·exact⟨j+1,by rw[entN,HO.out,if_neg (fun h=>absurd hf (Nat.not_lt.2 h.1))],by go_num,by omega,HT,HX,HG⟩
     ·simp[intOf];omega
    ·have d_hf:=df hf;go_wp2_with fail;refine cm0 (tfree_any wr B t S T (nAt T.nonb j) HT) fun w1 G=>?_
     obtain⟨HT,HX,HC,HG⟩:=G.u4 HT HX HC HG;clear t_0 t_1 t_2 t_3 t_4 t_5 t_6 n0 q0 q1 q2;clear HC;obtain⟨t_0,t_1,t_2,t_3,t_4,t_5,t_6⟩:=HT.cell.c7;obtain⟨an2,hAn,n0,hrn⟩:=HT.n.at HV;rw[HAN.out,oq] at hAn;subst hAn;obtain⟨c,ad1,hc,hA,q0,q1,q2⟩:=HX.at HQ;simp only[oq] at hA;subst hA;simp only[HNL.out,HAN.out] at t_3;have HC:=I hc;clear hc;go_wp2_with fail;refine cm0 (sign_any w1 c (qAt l j) HC (nt HQS.len (by decide))) fun w2 G=>?_
     obtain⟨HT,HX,HG⟩:=G.u3 HT HX HG;clear t_0 t_1 t_2 t_3 t_4 t_5 t_6 n0 q0 q1 q2;by_cases hs:(qAt l j).sign < 0
     ·have d_hs:=dt hs;clear HC;obtain⟨t_0,t_1,t_2,t_3,t_4,t_5,t_6⟩:=HT.cell.c7;obtain⟨an2,hAn,n0,hrn⟩:=HT.n.at HV;rw[HAN.out,oq] at hAn;subst hAn;obtain⟨c,ad1,hc,hA,q0,q1,q2⟩:=HX.at HQ;simp only[oq] at hA;subst hA;simp only[HNL.out,HAN.out] at t_3;clear hc;obtain⟨an2,hAn2,m0,hrm⟩:=HT.n.at HB;rw[HAN.out,oq] at hAn2;subst hAn2;have hbn:b < 100000:=nm hb9 hjn;have hbs:¬((b:Int) < 0):=by omega
      by_cases hl:nAt T.nonb j < nAt T.nonb b
      ·have d_hl:=dt hl;go_wp2;go_roundw
       ·exact⟨j+1,by rw[entN,HO.out,if_pos ⟨Nat.not_lt.1 hf,hs,fun b' e=>by cases e;exact hl⟩],by go_num,by omega,HT,HX,HG⟩
       ·simp[intOf];omega
      ·have d_hl:=df hl;go_wp2;go_roundw
       ·exact⟨j+1,by rw[entN,HO.out,if_neg (fun h=>hl (h.2.2 b rfl))],by go_num,by omega,HT,HX,HG⟩
       ·simp[intOf];omega
     ·have d_hs:=df hs;go_wp2;go_roundw
      ·exact⟨j+1,by rw[entN,HO.out,if_neg (fun h=>absurd h.2.1 (by omega))],by go_num,by omega,HT,HX,HG⟩
      ·simp[intOf];omega
  ·obtain rfl:j=T.nonb.length:=by omega
   go_wp2;go_ret;exact⟨rfl,HG.out⟩
end
section
variable {α β:Type} {cs:β→List Value} {Is:World→β→α→Prop} {e k:Nat} {w:World} {B g n c:Nat} {xs:List α} {P:Program} {ops:Array Oper} {rest:List Oper} {Q:Exit→Act→World→Prop}
theorem wpList_elA {o:Oper} {a:Act} {ty:TypeId} {x v:Operand} {ad:Addr} (hgd:o.guard=none) (hd:o.dst=none) (ho:o.op=.store ty x v) (hk:∀b,(cs b).length=k) (had:ad=⟨g,0,none⟩) (h:Own cs Is e k w B ⟨some ad,n,c⟩ xs) (i:Nat) {a0:α} (hi:xs[i]?=some a0) (b:β) (u:α) (hx:a.eval x=.pointer (some (ad.add (i*k)))) (hv:a.eval v=.agg (cs b).toArray)
  (hb:Is w b u) (hI:∀W',Fr (fun x=>x=g) w W'→∀p a,Is w p a→Is W' p a) (hsz:(P.info? ty).map (·.size)=some k) (h1:∀y∈cs b,y.oneCell'=true)
  (hK:∀W',Own cs Is e k W' B ⟨some ad,n,c⟩ (xs.set i u)→Fr (fun x=>x=g) w W'→wpList P ops Q rest a W'):wpList P ops Q (o::rest) a w:=
 wpList_plain hgd fun K hK'=>doesAt_wp (K:=fun v W'=>v=undef∧Own cs Is e k W' B ⟨some ad,n,c⟩ (xs.set i u)∧Fr (fun x=>x=g) w W')
  (doesAt_elA ho hk had h i hi b u hx hv hb hI hsz h1 (fun W' h1 h2=>⟨rfl,h1,h2⟩)) (fun v W' ⟨_,h1,h2⟩=>by
   rw[hd];exact hK' _ _ (hK W' h1 h2))
end
section
variable {α β:Type} {cs:β→List Value} {Is:World→β→α→Prop} {e:Nat} {w:World} {B g n c:Nat} {xs:List α}
theorem Own.setOne {ad:Addr} (hk:∀b,(cs b).length=1) (had:ad=⟨g,0,none⟩) (h:Own cs Is e 1 w B ⟨some ad,n,c⟩ xs) {i:Nat} {a0:α} (hi:xs[i]?=some a0) (b:β) (u:α) {v:Value} (hu:cs b=[v]) (hb:Is w b u) (hI:∀W',Fr (fun x=>x=g) w W'→∀p a,Is w p a→Is W' p a):
  (w.cell? (ad.add i)).isSome=true∧w.frozen? (ad.add i)=false∧Own cs Is e 1 (w.setCell (ad.add i) v) B ⟨some ad,n,c⟩ (xs.set i u)∧Fr (fun x=>x=g) w (w.setCell (ad.add i) v):=by
 subst had;obtain⟨h1,h2,h3⟩:=Own.setEl hk h hi b u hb hI;rw[hu] at h1 h2 h3;rw[Addr.add_mid,Nat.zero_add];have h4:=h1 0 (by simp);rw[Nat.mul_one,Nat.add_zero] at h4;have e1:w.setCells g (i*1) [v].toArray.toList=w.setCell ⟨g,i,none⟩ v:=by
  rw[Nat.mul_one];rfl
 rw[e1] at h2 h3;exact⟨h4.1,h4.2,h2,h3⟩
theorem run_stI (w:World) (p:Addr) (n:Nat) (old:Value) (h:w.cell? p=some old) (hf:w.frozen? p=false):(Instr.storeAt 3 (.pointer (some p)) (iv n)).run Tryz.prog w=.ok () (w.setCell p (iv n)):=by
 unfold iv;go_simp
theorem run_stS (w:World) (p:Addr) (A:Option Addr) (n c:Nat) (old:Value) (h:w.cell? p=some old) (hf:w.frozen? p=false):(Instr.storeAt 31 (.pointer (some p)) (.slice A n c)).run Tryz.prog w=.ok () (w.setCell p (.slice A n c)):=by
 go_simp
theorem doesAt_one {P:Program} {o:Oper} {a:Act} {ty:TypeId} {x v:Operand} {ad:Addr} {val:Value} {K:Value→World→Prop} (ho:o.op=.store ty x v) (hk:∀b,(cs b).length=1) (had:ad=⟨g,0,none⟩) (h:Own cs Is e 1 w B ⟨some ad,n,c⟩ xs) (i:Nat) {a0:α} (hi:xs[i]?=some a0) (b:β) (u:α) (hu:cs b=[val])
  (hb:Is w b u) (hI:∀W',Fr (fun x=>x=g) w W'→∀p a,Is w p a→Is W' p a) (hx:a.eval x=.pointer (some (ad.add i))) (hv:a.eval v=val)
  (hr:∀old,w.cell? (ad.add i)=some old→w.frozen? (ad.add i)=false→(Instr.storeAt ty (.pointer (some (ad.add i))) val).run P w=.ok () (w.setCell (ad.add i) val))
  (hK:∀W',Own cs Is e 1 W' B ⟨some ad,n,c⟩ (xs.set i u)→Fr (fun x=>x=g) w W'→K undef W'):doesAt P o a w K:=by
 obtain⟨k1,k2,k3,k4⟩:=Own.setOne hk had h hi b u hu hb hI;obtain⟨old,h0⟩:=Option.isSome_iff_exists.1 k1;have h1:=hr old h0 k2;unfold doesAt execOp;simp only[ho,hx,hv,Sem.run_bind,h1,Result.andThen_ok,Sem.run_pure];exact hK _ k3 k4
theorem wpList_one {P:Program} {ops:Array Oper} {rest:List Oper} {Q:Exit→Act→World→Prop} {o:Oper} {a:Act} {ty:TypeId} {x v:Operand} {ad:Addr} {val:Value} (hgd:o.guard=none) (hd:o.dst=none) (ho:o.op=.store ty x v) (hk:∀b,(cs b).length=1) (had:ad=⟨g,0,none⟩) (h:Own cs Is e 1 w B ⟨some ad,n,c⟩ xs) (i:Nat) {a0:α} (hi:xs[i]?=some a0) (b:β) (u:α) (hu:cs b=[val])
  (hb:Is w b u) (hI:∀W',Fr (fun x=>x=g) w W'→∀p a,Is w p a→Is W' p a) (hx:a.eval x=.pointer (some (ad.add i))) (hv:a.eval v=val)
  (hr:∀old,w.cell? (ad.add i)=some old→w.frozen? (ad.add i)=false→(Instr.storeAt ty (.pointer (some (ad.add i))) val).run P w=.ok () (w.setCell (ad.add i) val))
  (hK:∀W',Own cs Is e 1 W' B ⟨some ad,n,c⟩ (xs.set i u)→Fr (fun x=>x=g) w W'→wpList P ops Q rest a W'):wpList P ops Q (o::rest) a w:=
 wpList_plain hgd fun K hK'=>doesAt_wp (K:=fun v W'=>v=undef∧Own cs Is e 1 W' B ⟨some ad,n,c⟩ (xs.set i u)∧Fr (fun x=>x=g) w W')
  (doesAt_one ho hk had h i hi b u hu hb hI hx hv hr (fun W' h1 h2=>⟨rfl,h1,h2⟩)) (fun v W' ⟨_,h1,h2⟩=>by
   rw[hd];exact hK' _ _ (hK W' h1 h2))
end
theorem Own.low {α β:Type} {cs:β→List Value} {Is:World→β→α→Prop} {e k B B':Nat} {w:World} {x:Sv} {xs:List α} (h:Own cs Is e k w B x xs) (hB:B'≤B):Own cs Is e k w B' x xs:=by
 obtain⟨ts,⟨h1,h2⟩,h3,h4⟩:=h;refine⟨ts,⟨h1,?_⟩,h3,h4⟩;rcases h2 with h2 | ⟨g,cap,cur,hv,hb,hr⟩
 ·exact .inl h2
 ·exact .inr ⟨g,cap,cur,hv,nt hB hb,hr⟩
theorem OwnN.up {w w':World} {B:Nat} {x:Sv} {l:List Nat} (h:OwnN w B x l) (G:Gr w w'):OwnN w' B x l:=Own.gr h (fun _ _ e=>e) G
theorem canonQ_num {q:Q} (h:q.num≠0):(canonQ q).num≠0:=by
 unfold canonQ quot;rw[if_neg h];have hn:0 < q.num:=Nat.pos_of_ne_zero h;exact Nat.ne_of_gt (Nat.div_pos (Nat.le_of_dvd hn (Nat.gcd_dvd_left _ _)) (Nat.gcd_pos_of_pos_left _ hn))
theorem neg_num_ne {q:Q} (h:q.sign < 0):q.neg'.num≠0:=by
 have h0:q.num≠0:=by
  intro e;unfold Q.sign at h;rw[if_pos e] at h;exact absurd h (by decide)
 unfold Q.neg';exact canonQ_num h0
def Dv.At (q:Q) (v:Value) (W:World):Prop:=∃r:Rv,v=.tuple #[r.v,.int .i64 0]∧r.Is W q
theorem Dv.At.gr {W W':World} {v:Value} {q:Q} (h:Dv.At q v W) (G:Gr W W'):Dv.At q v W':=by
 obtain⟨r,e,hr⟩:=h;exact⟨r,e,hr.gr G⟩
theorem Dv.At.is {W:World} {r:Rv} {q:Q} {x:Value} (h:Dv.At q (.tuple #[r.v,x]) W):r.Is W q:=by
 obtain⟨s,e,hs⟩:=h;simp only[Value.tuple.injEq,Array.mk.injEq,List.cons.injEq] at e;rw[Rv.inj e.1];exact hs
def nsz (w:World):Nat:=w.heap.size
theorem made_flat (n:Nat):(madeCells #[.bool false,.slice none 0 0,.slice none 0 0] (n*3)).toList=(List.replicate n (Rv.nil,Q.zero)).flatMap fun p:Rv×Q=>p.1.cs:=by
 unfold madeCells;rw[Array.toList_map,Array.toList_range]
 induction n with
 | zero=>rfl
 | succ n ih=>
  rw[show (n+1)*3=n*3+1+1+1 from by omega,List.range_succ,List.range_succ,List.range_succ,List.map_append,List.map_append,List.map_append,ih,List.replicate_succ',List.flatMap_append,List.append_assoc,List.append_assoc]
  congr 1
  have h0:(n*3) % 3=0:=by omega
  have h1:(n*3+1) % 3=1:=by omega
  have h2:(n*3+1+1) % 3=2:=by omega
  simp only[List.map_cons,List.map_nil,Array.size,List.length_cons,List.length_nil,Nat.zero_add,Nat.reduceAdd,h0,h1,h2];rfl
theorem info_rat:(Tryz.prog.info? 38).map (fun i=>(i.zero,i.size,i.bytes))=some (some (.agg #[.bool false,.slice none 0 0,.slice none 0 0]),3,56):=by kernel_rfl
theorem makeR (n:Nat) (hn:n≤1000000) (w:World):(Instr.makeSlice 31 (.int .i64 n) (.int .i64 n)).run Tryz.prog w=.ok (.slice (some ⟨w.heap.size,0,none⟩) n n) (w.alloc (.cells (madeCells #[.bool false,.slice none 0 0,.slice none 0 0] (n*3)) 38)):=by
 obtain⟨i0,hi,hz0,hz1,hz2⟩:=info_parts info_rat;have:=run_make (P:=Tryz.prog) w 31 38 i0 _ (by kernel_rfl) hi hz0 .i64 .i64 n n (by omega) (Int.le_refl _) (by rw[hz2];omega) (by omega);rw[hz1,Int.toNat_natCast] at this;exact this
theorem OwnR.made (w:World) (n:Nat) (hn:n≤1000000):OwnR (w.alloc (.cells (madeCells #[.bool false,.slice none 0 0,.slice none 0 0] (n*3)) 38)) w.heap.size ⟨some ⟨w.heap.size,0,none⟩,n,n⟩ (List.replicate n Q.zero):=by
 refine⟨List.replicate n (Rv.nil,Q.zero),⟨?_,.inr ⟨w.heap.size,n,_,rfl,nr _,Bk.made _ _ _,nr _,by unfold maxLen;omega,size_madeCells _ _,?_⟩⟩,?_,fun p hp=>?_⟩
 ·rw[flat_len (F:=fun p:Rv×Q=>p.1.cs) (k:=3) (fun p=>Rv.len p.1),List.length_replicate]
 ·rw[← made_flat];exact List.take_of_length_le (by rw[Array.length_toList,size_madeCells];exact nr _)
 ·rw[List.map_replicate]
 ·obtain⟨_,rfl⟩:=List.mem_replicate.1 hp;exact Rv.Is.zero _
section
attribute [local go_sem] Oper.semAt_some
theorem smL_set {l:List Q} (h:smL l=true) {q:Q} (hq:smB q=true) (i:Nat):smL (l.set i q)=true:=by
 refine List.all_eq_true.2 fun x hx=>?_
 rcases List.mem_or_eq_of_mem_set hx with h1 | rfl
 ·exact List.all_eq_true.1 h x h1
 ·exact hq
theorem tsubst_any (w:World) (B B2 g n c en:Nat) (ad:Addr) (y:Sv) (l f:List Q) (had:ad=⟨g,0,none⟩) (hx:OwnR w B ⟨some ad,n,c⟩ l) (hy:OwnR w B2 y f) (hd:¬y.on g) (ok:SubOk l en f) (hln:l.length < 100000):
  Calls Tryz.prog 416 #[.slice (some ad) n c,iv en,y.v] w fun e w'=>e=.returned (.tuple #[])∧OwnR w' B ⟨some ad,n,c⟩ (subL l en f)∧Fr (fun k=>k=g) w w':=by
 obtain⟨yA,yn,yc⟩:=y;have hnl:l.length=n:=hx.len Rv.len (by decide);have hyn:f.length=yn:=hy.len Rv.len (by decide);have HG:=I (Gr.refl w);have HX:=I hx;have HY:=I hy;have HD:=I hd;change Hid _ at ok had;have HLN:=I hln;have HNL:=I hnl;have HYN:=I hyn;clear hx hy hd hln hnl hyn;go_enter Tryz.func416,Tryz.ntmps416;go_upto_region 0 with fail;replace HG:=I (Gx.of (X:=fun k=>k=g) HG);have SE:=I ok.se;have hen:en < 100000:=by have:=SE.out;have:=HLN.out;omega
 have hen2:en < n:=by have:=SE.out;have:=HNL.out;omega
 obtain⟨p,ar,hp,hA,q0,q1,q2⟩:=HX.rats.at (qAt_get SE);simp only[oq] at hA;subst hA;have HP_p:=I hp;clear hp;have NX_HX_a:Hid (¬Sv.on ⟨some ad,n,c⟩ (w.heap.size)):=I (fun hx=>absurd (HX.lt _ hx).2 (by omega));have NX_HY_a:Hid (¬Sv.on ⟨yA,yn,yc⟩ (w.heap.size)):=I (fun hx=>absurd (HY.lt _ hx).2 (by omega));go_upto_region 1 with fail;clear q0 q1 q2;refine nw1 fun w1 GB D_a=>?_
 replace HX:=I (OwnR.up HX GB);replace HY:=I (OwnR.up HY GB);replace HP_p:=I (HP_p.gr GB);replace HG:=I (HG.trans GB);clear GB;generalize w.heap.size=a at*;have a_:=D_a.c3;go_wp2_with fail;refine cm0 (sign_any w1 p (qAt l en) HP_p (nt (smL.at ok.sl SE).len (by decide))) fun w2 G=>?_
 replace HX:=I (OwnR.up HX G);replace HY:=I (OwnR.up HY G);replace HP_p:=I (HP_p.gr G);replace D_a:=G.hb D_a;replace HG:=I (HG.trans G);clear a_;by_cases hz:(qAt l en).sign=0
 ·have d_hz:=dt hz;have e_hz:(((qAt l en).sign) == (0))=true:=beq_iff_eq.2 hz;have n_hz:(((qAt l en).sign) != (0))=false:=by simp[hz]
  go_wp2;refine pex ?_
  first | (refine bodyPost_ret (results_none rfl _ _ _) rfl ?_) | (refine bodyPost_end (results_none rfl _ _ _) rfl ?_)
  exact⟨rfl,by rw[subL,if_pos hz];exact HX.out,HG.fr⟩
 ·have d_hz:=df hz;have e_hz:(((qAt l en).sign) == (0))=false:=beq_eq_false_iff_ne.2 hz;have n_hz:(((qAt l en).sign) != (0))=true:=bne_iff_ne.2 hz;obtain⟨cur9,b9⟩:=Own.bk HX (b:=g) (by (try rw[had.out]);rfl);have BK9:=I b9;clear b9;go_wp2_with (refine wpList_elA rfl rfl rfl Rv.len had.out HX.out en (a0:=qAt l en) (qAt_get SE) Rv.nil (Q.zero) (by rfl) (by rfl) (Rv.Is.zero _) (fun W' F p a hp=>Rv.Is.tf' hp F BK9) (by kernel_rfl) (Rv.one _) ?_;intro w3 O2 F2);replace HY:=I (HY.stx F2 BK9 (by decide) HD);replace HP_p:=I (HP_p.tf' F2 BK9);replace HG:=I (HG.in F2 (fun k hk=>.inl hk));replace D_a:=I (F2.bk D_a (fun e=>NX_HX_a.out (by (try rw[had.out]);rw[show a=_ from e];rfl)));replace HX:=I O2;clear O2 F2 BK9;have HL0:Hid ((l.set en Q.zero).length=n):=I (by rw[List.length_set];exact HNL.out);have HS0:=I (smL_set ok.sl (show smB Q.zero=true from rfl) en);have hyn2:yn < 100000:=by have:=HYN.out;have:=ok.len;have:=HLN.out;omega
  have hynn:yn=n:=by have:=HYN.out;have:=ok.len;have:=HNL.out;omega
  have HYNN:=I hynn;clear hynn;go_loopw [22] (fun s0 wr=>∃(j:Nat),s0=.int .i64 j∧j≤yn∧Hid (OwnR wr B ⟨some ad,n,c⟩ (subN (qAt l en) f (l.set en Q.zero) j))∧Hid (OwnR wr B2 ⟨yA,yn,yc⟩ f)∧Hid (p.Is wr (qAt l en))∧Hid (Gx (fun k=>k=g) w wr)∧Hid (Bk wr a 38 p.ar)) (fun j _=>yn - (intOf j).toNat)
  case atStart=>exact⟨0,rfl,nq _,HX,HY,HP_p,HG,D_a⟩
  case round=>
   clear HX HY HP_p HG D_a;obtain⟨j,rfl,hr1,HX,HY,HP_p,HG,D_a⟩:=hrel;by_cases hin:j < yn
   ·have HQ:=I (qAt_get (l:=f) (i:=j) (by have:=HYN.out;omega));have HQ0:Hid ((subN (qAt l en) f (l.set en Q.zero) j)[j]?=some (qAt (l.set en Q.zero) j)):=I ((subN_get _ _ _ (nr _)).trans (qAt_get (by have:=HL0.out;have:=HYNN.out;omega)));have HSQ:=I (smL.at ok.sf (i:=j) (by have:=HYN.out;omega));have HSA:=I (smL.at ok.sl SE);have HSL:=I (smL.at HS0 (i:=j) (by have:=HL0.out;have:=HYNN.out;omega));have HSM:=I (ok.sm _ (mg HQ.out));have hjn:j < n:=by have:=HYNN.out;omega
    have hj9:j < 100000:=nm hin hyn2;obtain⟨pc,ady,hpc,hA,c0,c1,c2⟩:=HY.rats.at HQ;simp only at hA;subst hA;have HP_pc:=I hpc;clear hpc;have L9_a:=D_a.lt;have NX_HX_cb:Hid (¬Sv.on ⟨some ad,n,c⟩ (wr.heap.size)):=I (fun hx=>absurd (HX.lt _ hx).2 (by omega));have NX_HY_cb:Hid (¬Sv.on ⟨some ady,yn,yc⟩ (wr.heap.size)):=I (fun hx=>absurd (HY.lt _ hx).2 (by omega));clear L9_a;go_upto_region 6 with fail;clear c0 c1 c2;refine nw1 fun w4 GB D_cb=>?_
    replace HX:=I (OwnR.up HX GB);replace HY:=I (OwnR.up HY GB);replace HP_p:=I (HP_p.gr GB);replace HP_pc:=I (HP_pc.gr GB);replace D_a:=GB.hb D_a;replace HG:=I (HG.trans GB);clear GB;generalize wr.heap.size=cb at*;have cb_:=D_cb.c3;go_wp2_with fail;refine cm0 (sign_any w4 pc (qAt f j) HP_pc (nt HSQ.len (by decide))) fun w5 G=>?_
    replace HX:=I (OwnR.up HX G);replace HY:=I (OwnR.up HY G);replace HP_p:=I (HP_p.gr G);replace HP_pc:=I (HP_pc.gr G);replace D_a:=G.hb D_a;replace D_cb:=G.hb D_cb;replace HG:=I (HG.trans G);clear cb_;by_cases hs:(qAt f j).sign=0
    ·have d_hs:=dt hs;have e_hs:(((qAt f j).sign) == (0))=true:=beq_iff_eq.2 hs;have n_hs:(((qAt f j).sign) != (0))=false:=by simp[hs]
     have HE9:Hid (subN (qAt l en) f (l.set en Q.zero) (j+1)=subN (qAt l en) f (l.set en Q.zero) j):=I (by rw[subN,if_pos hs]);rw[← HE9.out] at HX;clear HE9;clear HP_pc;clear D_cb;go_wp2;go_roundw
     ·exact⟨j+1,by go_num,by omega,HX,HY,HP_p,HG,D_a⟩
     ·simp[intOf];omega
    ·have d_hs:=df hs;have e_hs:(((qAt f j).sign) == (0))=false:=beq_eq_false_iff_ne.2 hs;have n_hs:(((qAt f j).sign) != (0))=true:=bne_iff_ne.2 hs;obtain⟨pl,ar,hp,hA,q0,q1,q2⟩:=HX.rats.at HQ0;simp only[oq] at hA;subst hA;have HP_pl:=I hp;clear hp;go_upto_region 7 with fail;have a_:=D_a.c3;have cb_:=D_cb.c3;refine wpr ?_;have kc:=I fun W' (G:Gr w5.drew W')=>G.kk q0 <| G.kk q1 <| G.kk q2 <| ai (G.kb D_a).c3 <| (G.kb D_cb).c3
     refine wg 1 (tf 11 1) [0,1,2,3,4,5,6,7,8,9,10] [(8,Rv.At (Q.mul (qAt l en) (qAt f j))),(9,Rv.At (Q.add (qAt (l.set en Q.zero) j) (Q.mul (qAt l en) (qAt f j))))] ?_;iterate 8 refine .tk ?_
     refine .dk (fun W1 G1 F1=>rmul_any W1 p pc _ _ (HP_p.gr G1.od) (HP_pc.gr G1.od) HSA.len HSQ.len (HSA.two HSQ)) ?_;rintro _ ⟨_,-,-,⟨m,rfl,-⟩⟩;refine .dk (fun W1 G1 F1=>by have fm:=lk F1 0;exact radd_any W1 pl m _ _ (HP_pl.gr G1.od) fm.is HSL.len HSM.len (HSL.two HSM)) ?_;rintro _ ⟨_,-,-,⟨nn,rfl,-⟩⟩;refine .tk ?_;refine .done fun W1 G1 F1=>?_
     have hm:=lh F1 0;have hn:=lh F1 1;replace kc:=kc.out W1 G1;clear F1 q0 q1 q2 a_ cb_;have GB:=G1.od;replace HX:=I (OwnR.up HX GB);replace HY:=I (OwnR.up HY GB);replace HP_p:=I (HP_p.gr GB);replace D_a:=GB.hb D_a;replace HG:=I (HG.trans GB);have HN:=I (hn.is);clear GB G1 hm hn kc;obtain⟨cur9,b9⟩:=Own.bk HX (b:=g) (by (try rw[had.out]);rfl);have BK9:=I b9;clear b9;refine wpAny_k 11 fun K hK=>?_
     refine doesAt_wp (K:=fun v W'=>v=undef∧OwnR W' B ⟨some ad,n,c⟩ ((subN (qAt l en) f (l.set en Q.zero) j).set j (Q.add (qAt (l.set en Q.zero) j) (Q.mul (qAt l en) (qAt f j))))∧Fr (fun k=>k=g) W1 W') (doesAt_elA rfl Rv.len had.out HX.out j (a0:=qAt (l.set en Q.zero) j) HQ0.out nn (Q.add (qAt (l.set en Q.zero) j) (Q.mul (qAt l en) (qAt f j))) (by rfl) (by rfl) HN.out (fun W' F p a hp=>Rv.Is.tf' hp F BK9) (by kernel_rfl) (Rv.one _) (fun W' h1 h2=>⟨rfl,h1,h2⟩)) ?_;rintro v w6 ⟨rfl,O2,F2⟩;refine hK.out _ _ ?_;clear hK K;refine ptt ?_;refine wpe ?_;replace HY:=I (HY.stx F2 BK9 (by decide) HD);replace HP_p:=I (HP_p.tf' F2 BK9);replace HG:=I (HG.in F2 (fun k hk=>.inl hk));replace D_a:=I (F2.bk D_a (fun e=>NX_HX_a.out (by (try rw[had.out]);rw[show a=_ from e];rfl)));replace HX:=I O2;clear O2 F2 BK9;have HE9:Hid (subN (qAt l en) f (l.set en Q.zero) (j+1)=(subN (qAt l en) f (l.set en Q.zero) j).set j (Q.add (qAt (l.set en Q.zero) j) (Q.mul (qAt l en) (qAt f j)))):=I (by rw[subN,if_neg hs]);rw[← HE9.out] at HX;clear HE9;clear HP_pc;clear HP_pl;clear HN;clear D_cb;go_wp2;go_roundw
     ·exact⟨j+1,by go_num,by omega,HX,HY,HP_p,HG,D_a⟩
     ·simp[intOf];omega
   ·obtain rfl:j=yn:=by omega
    go_wp2;refine pex ?_
    first | (refine bodyPost_ret (results_none rfl _ _ _) rfl ?_) | (refine bodyPost_end (results_none rfl _ _ _) rfl ?_)
    exact⟨rfl,by rw[subL,if_neg hz,HYN.out];exact HX.out,HG.fr⟩
theorem tleave_any (w:World) (B t:Nat) (S:Ts) (T:Tb) (en:Nat) (h:TabIs w B t S T) (ok:TabOk T) (le:LeaOk T en):
  Calls Tryz.prog 364 #[.pointer (some ⟨t,0,none⟩),iv en] w fun e w'=>e=.returned (.int .i64 (optI (leaT T en)))∧Gr w w':=by
 have hbl:S.sb.n=T.basic.length:=(h.b.len (fun _=>rfl) (by decide)).symm;have hen9:en < 100000:=nm le.se ok.n;obtain⟨aB,haB⟩:∃a,S.sb.A=a:=⟨_,rfl⟩;have NX_HT_ls:Hid (¬S.X t (w.heap.size)):=I (fun hx=>absurd ((h).lt hx).2 (by omega));change Hid _ at ok le;have HBL:=I hbl;have HAB:=I haB;clear hbl haB;go_enter Tryz.func364,Tryz.ntmps364;go_upto_region 3 with fail;refine nw1h fun W HG D_ls=>?_
 have HT:=I ((h).gr HG);clear h;have ls_:=D_ls.c3;have N_ls:=dnl (w.heap.size) (w.heap.size);clear ls_;obtain⟨t_0,t_1,t_2,t_3,t_4,t_5,t_6⟩:=HT.cell.c7;simp only[HBL.out,HAB.out] at t_2;go_wp2_with fail;have HL:Hid (Rv.nil.Is W Q.zero):=I (Rv.Is.zero _);go_loopw [5,17] (fun s0 s1 wr=>∃(j:Nat) (lv:Rv) (lq:Q),s0=.int .i64 (optI (leaN T en j))∧s1=.int .i64 j∧j≤T.basic.length∧Hid (∀b,leaN T en j=some b→lq=ratio T en b)∧Hid (TabIs wr B t S T)∧Hid (lv.Is wr lq)∧Hid (Gr w wr)∧Hid (Bk wr w.heap.size 38 lv.ar)) (fun _ j _=>T.basic.length - (intOf j).toNat)
 case atStart=>exact⟨0,Rv.nil,Q.zero,rfl,rfl,nq _,I (fun b h=>by cases h),HT,HL,HG,D_ls⟩
 case round=>
  clear HT HL HG D_ls t_0 t_1 t_2 t_3 t_4 t_5 t_6;obtain⟨j,lv,lq,rfl,rfl,hr2,HB,HT,HL,HG,D_ls⟩:=hrel;by_cases hin:j < T.basic.length
  ·have hif:j < T.forms.length:=by rw[← ok.b];exact hin
   have hj9:j < 100000:=nm hif ok.m;have HV:=I (nAt_get hin);have HFJ:=I (rAt_get hif);have hql:en < (rAt T.forms j).length:=by rw[(ok.row j hif).2];exact Nat.lt_succ_of_lt le.se
   have hqc:T.nonb.length < (rAt T.forms j).length:=by rw[(ok.row j hif).2];exact Nat.lt_succ_self _
   have HQ:=I (qAt_get hql);have HQC:=I (qAt_get hqc);have HSE:=I (smL.at (ok.row j hif).1 hql);have HSC:=I (smL.at (ok.row j hif).1 hqc);obtain⟨s,hs⟩:∃s,S.fs[j]?=some s:=⟨_,ge (by rw[HT.len];exact hif)⟩;have HS:=I hs;obtain⟨ad,hA⟩:∃ad,s.A=some ad:=by obtain⟨c,ad,hc,hA,q0,q1,q2⟩:=(HT.row j s _ hs HFJ).rats.at HQ;exact⟨ad,hA⟩
   obtain⟨sA,sn,sc⟩:=s;simp only at hA;subst hA;obtain⟨ab,hAb,_⟩:=HT.b.at HV;rw[HAB.out] at hAb;subst hAb;have hsn:sn=(rAt T.forms j).length:=((HT.row j _ _ hs HFJ).len Rv.len (by decide)).symm;have hes:en < sn:=by rw[hsn];exact hql
   clear hs hsn;obtain⟨o,ho⟩:∃o,leaN T en j=o:=⟨_,rfl⟩;have HO:=I ho;rw[ho] at HB ⊢;clear ho;rcases o with _ | b
   ·simp only[optI];obtain⟨t_0,t_1,t_2,t_3,t_4,t_5,t_6⟩:=HT.cell.c7;obtain⟨ab2,hAb,b0,hrb⟩:=HT.b.at HV;rw[HAB.out,oq] at hAb;subst hAb;simp only[HBL.out,HAB.out] at t_2;obtain⟨af,hAf,f0,hrf⟩:=HT.f.at HS;obtain⟨c,ad1,hc,hA,q0,q1,q2⟩:=(HT.row j _ _ HS HFJ).rats.at HQ;simp only[oq] at hA;subst hA;simp only[hAf] at t_4;have HC:=I hc;clear hc;by_cases hf:nAt T.basic j < T.vars
    ·have d_hf:=dt hf;go_wp2_with fail;refine cm0 (tfree_any wr B t S T (nAt T.basic j) HT) fun w1 G=>?_
     obtain⟨HT,HL,HC,D_ls,HG⟩:=G.u5 HT HL HC D_ls HG;clear t_0 t_1 t_2 t_3 t_4 t_5 t_6 b0 f0 q0 q1 q2;clear HC;have HE9:Hid (leaN T en (j+1)=none):=I (by rw[leaN,if_pos (.inl hf)];exact HO.out);go_wp2;go_roundw
     ·exact⟨j+1,lv,lq,by rw[HE9.out],by go_num,by omega,I (fun b e=>by rw[HE9.out] at e;exact HB.out b e),HT,HL,HG,D_ls⟩
     ·simp[intOf];omega
    ·have d_hf:=df hf;go_wp2_with fail;refine cm0 (tfree_any wr B t S T (nAt T.basic j) HT) fun w1 G=>?_
     obtain⟨HT,HL,HC,D_ls,HG⟩:=G.u5 HT HL HC D_ls HG;clear t_0 t_1 t_2 t_3 t_4 t_5 t_6 b0 f0 q0 q1 q2;clear HC;obtain⟨t_0,t_1,t_2,t_3,t_4,t_5,t_6⟩:=HT.cell.c7;obtain⟨ab2,hAb,b0,hrb⟩:=HT.b.at HV;rw[HAB.out,oq] at hAb;subst hAb;simp only[HBL.out,HAB.out] at t_2;obtain⟨af,hAf,f0,hrf⟩:=HT.f.at HS;obtain⟨c,ad1,hc,hA,q0,q1,q2⟩:=(HT.row j _ _ HS HFJ).rats.at HQ;simp only[oq] at hA;subst hA;simp only[hAf] at t_4;have HC:=I hc;clear hc;go_wp2_with fail;refine cm0 (sign_any w1 c (qAt (rAt T.forms j) en) HC (nt HSE.len (by decide))) fun w2 G=>?_
     obtain⟨HT,HL,HC,D_ls,HG⟩:=G.u5 HT HL HC D_ls HG;clear t_0 t_1 t_2 t_3 t_4 t_5 t_6 b0 f0 q0 q1 q2;by_cases hp:0≤(qAt (rAt T.forms j) en).sign
     ·have d_hp:=dt hp;clear HC;have HE9:Hid (leaN T en (j+1)=none):=I (by rw[leaN,if_pos (.inr (by omega))];exact HO.out);go_wp2;go_roundw
      ·exact⟨j+1,lv,lq,by rw[HE9.out],by go_num,by omega,I (fun b e=>by rw[HE9.out] at e;exact HB.out b e),HT,HL,HG,D_ls⟩
      ·simp[intOf];omega
     ·have d_hp:=df hp;obtain⟨t_0,t_1,t_2,t_3,t_4,t_5,t_6⟩:=HT.cell.c7;obtain⟨ab2,hAb,b0,hrb⟩:=HT.b.at HV;rw[HAB.out,oq] at hAb;subst hAb;simp only[HBL.out,HAB.out] at t_2;obtain⟨af,hAf,f0,hrf⟩:=HT.f.at HS;obtain⟨c,ad1,hc,hA,q0,q1,q2⟩:=(HT.row j _ _ HS HFJ).rats.at HQ;simp only[oq] at hA;subst hA;simp only[hAf] at t_4;have HC:=I hc;clear hc;go_upto_region 7 with fail;have HNE:Hid (¬(nAt T.basic j < T.vars∨0≤(qAt (rAt T.forms j) en).sign)):=I (fun h=>h.elim hf (by omega));have HSN1:=I (le.neg j hif);have HSR:=I (le.rat j hif);have HNZ:Hid ((qAt (rAt T.forms j) en).neg'.num≠0):=I (neg_num_ne (by omega));have HS9:=I HG.size;have L9_ls:=I D_ls.lt;have LX_HT:=I (fun k (hk:S.X t k)=>(HT.lt hk).2);refine wpr ?_;have kc:=I fun W' (G:Gr w2.drew W')=>G.kk t_2 <| G.kk t_4 <| G.kk f0 <| G.kk q0 <| G.kk q1 <| G.keep q2
      refine wpAny_lt [17] 2 (tf 19 2) [0,1,2,3,4,5,6,7,8,9,10,11,12,13,14,15,16,17,18] [(2,Rv.At (qAt (rAt T.forms j) T.nonb.length)),(13,Rv.At ((qAt (rAt T.forms j) en).neg')),(14,Dv.At (Q.div (qAt (rAt T.forms j) T.nonb.length) (qAt (rAt T.forms j) en).neg')),(18,NewAt 38 Rl w2.heap.size)] ?_;iterate 2 refine .tk ?_
      refine .dk (fun W1 G1 F1=>tconst_any W1 B t S T j _ _ _ (HT.gr G1.od) HS HFJ HQC) ?_;rintro _ ⟨_,-,-,⟨cv,rfl,-⟩⟩;iterate 10 refine .tk ?_
      refine .dk (fun W1 G1 F1=>qneg_any W1 c _ (HC.gr G1.od) (nt HSE.len (by decide)) HSE.ul) ?_;rintro _ ⟨_,-,-,⟨m,rfl,-⟩⟩;refine .dk (fun W1 G1 F1=>by have fk:=lk F1 0;have fm:=lk F1 1;exact qdiv_any W1 cv m _ _ fk.is fm.is HSC.len HSN1.len (HSC.div HSN1) HSN1.ul HNZ) ?_;rintro _ ⟨_,-,-,⟨nn,rfl,-⟩⟩;iterate 3 refine .tk ?_
      refine .da ?_;rintro _ ⟨_,-,-,⟨rb,rfl,-,-⟩⟩;refine .done fun W1 G1 F1=>?_
      have hk:=lh F1 0;have hm:=lh F1 1;have hn:=lh F1 2;have hrb:=lh F1 3;replace kc:=kc.out W1 G1;clear F1 t_2 t_4 f0 q0 q1 q2;have GB:=G1.od;obtain⟨HT,HL,HC,D_ls,HG⟩:=GB.u5 HT HL HC D_ls HG;have HN:=I (hn.is);have HAB9:=I (hrb.is);clear GB G1 hk hm hn hrb kc;obtain⟨hx1,hx2⟩:=HAB9.out;have D_rb:=I hx1;have N_rb:=I (nt HS9 hx2);have X_ls_rb:=L9_ls.nb hx2;have X_rb_ls:=X_ls_rb.sy;have NX_HT_rb:Hid (¬S.X t rb):=I (fun hx=>absurd (LX_HT.out _ hx) (Nat.not_lt.2 hx2));clear hx1 hx2 HAB9 HS9 L9_ls LX_HT;refine wpAny_sw 19 D_rb fun w3 B5 F5=>?_
      replace HT:=I (HT.st F5 D_rb (by decide) NX_HT_rb);replace HL:=I (HL.tf' F5 D_rb);replace HC:=I (HC.tf' F5 D_rb);replace HN:=I (HN.tf' F5 D_rb);replace HG:=HG.fa F5 N_rb;replace D_ls:=F5.hb D_ls X_ls_rb;replace D_rb:=B5;clear B5 F5;refine wo 20 ?_;refine wpe ?_;clear HC;have rb_:=D_rb.c3;go_upto_region 12 with fail;clear rb_;have rb_:=D_rb.c3;have ls_:=D_ls.c3;refine wpr ?_;have kc:=I fun W' (G:Gr w3.drew W')=>(G.kb D_rb).c3
      refine wg 1 (tf 3 1) [0,1,2] [] ?_;iterate 3 refine .tk ?_
      refine .done fun W1 G1 F1=>?_
      replace kc:=kc.out W1 G1;clear F1 rb_;have GB:=G1.od;obtain⟨HT,HL,HN,D_ls,D_rb,HG⟩:=GB.u6 HT HL HN D_ls D_rb HG;clear GB G1 kc;refine wpAny_sw 3 D_ls fun w4 B5 F5=>?_
      refine wpe ?_;replace HT:=I (HT.st F5 D_ls (by decide) NX_HT_ls);replace HL:=I (HL.tf' F5 D_ls);replace HN:=I (HN.tf' F5 D_ls);replace HG:=HG.fa F5 N_ls;replace D_rb:=F5.hb D_rb X_rb_ls;replace D_ls:=B5;clear B5 F5;clear HL;have HL:Hid (Rv.Is w4 nn (ratio T en j)):=HN;clear HN;have HE9:Hid (leaN T en (j+1)=some j):=I (by rw[leaN,if_neg HNE.out,HO.out]);go_wp2;go_roundw
      ·exact⟨j+1,nn,(ratio T en j),by rw[HE9.out],by go_num,by omega,I (fun b e=>by rw[HE9.out] at e;injection e with e;rw[e]),HT,HL,HG,D_ls⟩
      ·simp[intOf];omega
   ·simp only[optI];obtain⟨t_0,t_1,t_2,t_3,t_4,t_5,t_6⟩:=HT.cell.c7;obtain⟨ab2,hAb,b0,hrb⟩:=HT.b.at HV;rw[HAB.out,oq] at hAb;subst hAb;simp only[HBL.out,HAB.out] at t_2;obtain⟨af,hAf,f0,hrf⟩:=HT.f.at HS;obtain⟨c,ad1,hc,hA,q0,q1,q2⟩:=(HT.row j _ _ HS HFJ).rats.at HQ;simp only[oq] at hA;subst hA;simp only[hAf] at t_4;have HC:=I hc;clear hc;by_cases hf:nAt T.basic j < T.vars
    ·have d_hf:=dt hf;go_wp2_with fail;refine cm0 (tfree_any wr B t S T (nAt T.basic j) HT) fun w1 G=>?_
     obtain⟨HT,HL,HC,D_ls,HG⟩:=G.u5 HT HL HC D_ls HG;clear t_0 t_1 t_2 t_3 t_4 t_5 t_6 b0 f0 q0 q1 q2;clear HC;have HE9:Hid (leaN T en (j+1)=some b):=I (by rw[leaN,if_pos (.inl hf)];exact HO.out);go_wp2;go_roundw
     ·exact⟨j+1,lv,lq,by rw[HE9.out],by go_num,by omega,I (fun b e=>by rw[HE9.out] at e;exact HB.out b e),HT,HL,HG,D_ls⟩
     ·simp[intOf];omega
    ·have d_hf:=df hf;go_wp2_with fail;refine cm0 (tfree_any wr B t S T (nAt T.basic j) HT) fun w1 G=>?_
     obtain⟨HT,HL,HC,D_ls,HG⟩:=G.u5 HT HL HC D_ls HG;clear t_0 t_1 t_2 t_3 t_4 t_5 t_6 b0 f0 q0 q1 q2;clear HC;obtain⟨t_0,t_1,t_2,t_3,t_4,t_5,t_6⟩:=HT.cell.c7;obtain⟨ab2,hAb,b0,hrb⟩:=HT.b.at HV;rw[HAB.out,oq] at hAb;subst hAb;simp only[HBL.out,HAB.out] at t_2;obtain⟨af,hAf,f0,hrf⟩:=HT.f.at HS;obtain⟨c,ad1,hc,hA,q0,q1,q2⟩:=(HT.row j _ _ HS HFJ).rats.at HQ;simp only[oq] at hA;subst hA;simp only[hAf] at t_4;have HC:=I hc;clear hc;go_wp2_with fail;refine cm0 (sign_any w1 c (qAt (rAt T.forms j) en) HC (nt HSE.len (by decide))) fun w2 G=>?_
     obtain⟨HT,HL,HC,D_ls,HG⟩:=G.u5 HT HL HC D_ls HG;clear t_0 t_1 t_2 t_3 t_4 t_5 t_6 b0 f0 q0 q1 q2;by_cases hp:0≤(qAt (rAt T.forms j) en).sign
     ·have d_hp:=dt hp;clear HC;have HE9:Hid (leaN T en (j+1)=some b):=I (by rw[leaN,if_pos (.inr (by omega))];exact HO.out);go_wp2;go_roundw
      ·exact⟨j+1,lv,lq,by rw[HE9.out],by go_num,by omega,I (fun b e=>by rw[HE9.out] at e;exact HB.out b e),HT,HL,HG,D_ls⟩
      ·simp[intOf];omega
     ·have d_hp:=df hp;obtain⟨t_0,t_1,t_2,t_3,t_4,t_5,t_6⟩:=HT.cell.c7;obtain⟨ab2,hAb,b0,hrb⟩:=HT.b.at HV;rw[HAB.out,oq] at hAb;subst hAb;simp only[HBL.out,HAB.out] at t_2;obtain⟨af,hAf,f0,hrf⟩:=HT.f.at HS;obtain⟨c,ad1,hc,hA,q0,q1,q2⟩:=(HT.row j _ _ HS HFJ).rats.at HQ;simp only[oq] at hA;subst hA;simp only[hAf] at t_4;have HC:=I hc;clear hc;go_upto_region 7 with fail;have HNE:Hid (¬(nAt T.basic j < T.vars∨0≤(qAt (rAt T.forms j) en).sign)):=I (fun h=>h.elim hf (by omega));have HSN1:=I (le.neg j hif);have HSR:=I (le.rat j hif);have HNZ:Hid ((qAt (rAt T.forms j) en).neg'.num≠0):=I (neg_num_ne (by omega));have HS9:=I HG.size;have L9_ls:=I D_ls.lt;have LX_HT:=I (fun k (hk:S.X t k)=>(HT.lt hk).2);refine wpr ?_;have kc:=I fun W' (G:Gr w2.drew W')=>G.kk t_2 <| G.kk t_4 <| G.kk f0 <| G.kk q0 <| G.kk q1 <| G.keep q2
      refine wpAny_lt [17] 2 (tf 19 2) [0,1,2,3,4,5,6,7,8,9,10,11,12,13,14,15,16,17,18] [(2,Rv.At (qAt (rAt T.forms j) T.nonb.length)),(13,Rv.At ((qAt (rAt T.forms j) en).neg')),(14,Dv.At (Q.div (qAt (rAt T.forms j) T.nonb.length) (qAt (rAt T.forms j) en).neg')),(18,NewAt 38 Rl w2.heap.size)] ?_;iterate 2 refine .tk ?_
      refine .dk (fun W1 G1 F1=>tconst_any W1 B t S T j _ _ _ (HT.gr G1.od) HS HFJ HQC) ?_;rintro _ ⟨_,-,-,⟨cv,rfl,-⟩⟩;iterate 10 refine .tk ?_
      refine .dk (fun W1 G1 F1=>qneg_any W1 c _ (HC.gr G1.od) (nt HSE.len (by decide)) HSE.ul) ?_;rintro _ ⟨_,-,-,⟨m,rfl,-⟩⟩;refine .dk (fun W1 G1 F1=>by have fk:=lk F1 0;have fm:=lk F1 1;exact qdiv_any W1 cv m _ _ fk.is fm.is HSC.len HSN1.len (HSC.div HSN1) HSN1.ul HNZ) ?_;rintro _ ⟨_,-,-,⟨nn,rfl,-⟩⟩;iterate 3 refine .tk ?_
      refine .da ?_;rintro _ ⟨_,-,-,⟨rb,rfl,-,-⟩⟩;refine .done fun W1 G1 F1=>?_
      have hk:=lh F1 0;have hm:=lh F1 1;have hn:=lh F1 2;have hrb:=lh F1 3;replace kc:=kc.out W1 G1;clear F1 t_2 t_4 f0 q0 q1 q2;have GB:=G1.od;obtain⟨HT,HL,D_ls,HG⟩:=GB.u4 HT HL D_ls HG;have HN:=I (hn.is);have HAB9:=I (hrb.is);clear GB G1 hk hm hn hrb kc;obtain⟨hx1,hx2⟩:=HAB9.out;have D_rb:=I hx1;have N_rb:=I (nt HS9 hx2);have X_ls_rb:=L9_ls.nb hx2;have X_rb_ls:=X_ls_rb.sy;have NX_HT_rb:Hid (¬S.X t rb):=I (fun hx=>absurd (LX_HT.out _ hx) (Nat.not_lt.2 hx2));clear hx1 hx2 HAB9 HS9 L9_ls LX_HT;refine wpAny_sw 19 D_rb fun w3 B5 F5=>?_
      replace HT:=I (HT.st F5 D_rb (by decide) NX_HT_rb);replace HL:=I (HL.tf' F5 D_rb);replace HN:=I (HN.tf' F5 D_rb);replace HG:=HG.fa F5 N_rb;replace D_ls:=F5.hb D_ls X_ls_rb;replace D_rb:=B5;clear B5 F5;refine wo 20 ?_;refine wpe ?_;clear HC;have hlq:=HB.out b rfl;subst hlq;have hbl9:=leaN_lt T en HO;have HSB:=I (le.rat b (nm hbl9 hif));have hb9:b < 100000:=nm hbl9 hj9;have hbs:(0:Int)≤(b:Int):=by omega
      have HVB:=I (nAt_get (l:=T.basic) (i:=b) (nm hbl9 hin));have ls_:=D_ls.c3;have rb_:=D_rb.c3;go_wp2_with fail;refine cm0 (rcmp3_any w3 lv nn (ratio T en b) (ratio T en j) HL HN HSB.len HSR.len HSB.ul HSR.ul) fun w4 G=>?_
      obtain⟨HT,HL,HN,D_ls,D_rb,HG⟩:=G.u6 HT HL HN D_ls D_rb HG;clear ls_ rb_;obtain⟨cm,hcm⟩:∃x,Q.cmpQ (ratio T en b) (ratio T en j)=x:=⟨_,rfl⟩;have HCM:=I hcm;rw[hcm];clear hcm;by_cases h1:0 < cm
      ·have d_h1:=dt h1;go_upto_region 12 with fail;have rb_:=D_rb.c3;have ls_:=D_ls.c3;refine wpr ?_;have kc:=I fun W' (G:Gr w4.drew W')=>(G.kb D_rb).c3
       refine wg 1 (tf 3 1) [0,1,2] [] ?_;iterate 3 refine .tk ?_
       refine .done fun W1 G1 F1=>?_
       replace kc:=kc.out W1 G1;clear F1 rb_;have GB:=G1.od;obtain⟨HT,HL,HN,D_ls,D_rb,HG⟩:=GB.u6 HT HL HN D_ls D_rb HG;clear GB G1 kc;refine wpAny_sw 3 D_ls fun w5 B5 F5=>?_
       refine wpe ?_;replace HT:=I (HT.st F5 D_ls (by decide) NX_HT_ls);replace HL:=I (HL.tf' F5 D_ls);replace HN:=I (HN.tf' F5 D_ls);replace HG:=HG.fa F5 N_ls;replace D_rb:=F5.hb D_rb X_rb_ls;replace D_ls:=B5;clear B5 F5;clear HL;have HL:Hid (Rv.Is w5 nn (ratio T en j)):=HN;clear HN;have HE9:Hid (leaN T en (j+1)=some j):=I (by rw[leaN,if_neg HNE.out,HO.out];dsimp only;rw[HCM.out,if_pos (.inl h1)]);go_wp2;go_roundw
       ·exact⟨j+1,nn,(ratio T en j),by rw[HE9.out],by go_num,by omega,I (fun b e=>by rw[HE9.out] at e;injection e with e;rw[e]),HT,HL,HG,D_ls⟩
       ·simp[intOf];omega
      ·have d_h1:=df h1;by_cases h2:cm=0
       ·have d_h2:=dt h2;have e_h2:((cm) == (0))=true:=beq_iff_eq.2 h2;have n_h2:((cm) != (0))=false:=by simp[h2]
        obtain⟨t_0,t_1,t_2,t_3,t_4,t_5,t_6⟩:=HT.cell.c7;obtain⟨ab2,hAb,b0,hrb⟩:=HT.b.at HV;rw[HAB.out,oq] at hAb;subst hAb;simp only[HBL.out,HAB.out] at t_2;obtain⟨ab3,hAb3,m0,hrm⟩:=HT.b.at HVB;rw[HAB.out,oq] at hAb3;subst hAb3;by_cases h3:nAt T.basic j < nAt T.basic b
        ·have d_h3:=dt h3;go_upto_region 12 with fail;clear t_0 t_1 t_2 t_3 t_4 t_5 t_6 b0 m0;have rb_:=D_rb.c3;have ls_:=D_ls.c3;refine wpr ?_;have kc:=I fun W' (G:Gr w4.drew W')=>(G.kb D_rb).c3
         refine wg 1 (tf 3 1) [0,1,2] [] ?_;iterate 3 refine .tk ?_
         refine .done fun W1 G1 F1=>?_
         replace kc:=kc.out W1 G1;clear F1 rb_;have GB:=G1.od;obtain⟨HT,HL,HN,D_ls,HG⟩:=GB.u5 HT HL HN D_ls HG;clear GB G1 kc;refine wpAny_sw 3 D_ls fun w5 B5 F5=>?_
         refine wpe ?_;replace HT:=I (HT.st F5 D_ls (by decide) NX_HT_ls);replace HL:=I (HL.tf' F5 D_ls);replace HN:=I (HN.tf' F5 D_ls);replace HG:=HG.fa F5 N_ls;replace D_ls:=B5;clear B5 F5;clear HL;have HL:Hid (Rv.Is w5 nn (ratio T en j)):=HN;clear HN;have HE9:Hid (leaN T en (j+1)=some j):=I (by rw[leaN,if_neg HNE.out,HO.out];dsimp only;rw[HCM.out,if_pos (.inr ⟨h2,h3⟩)]);go_wp2;go_roundw
         ·exact⟨j+1,nn,(ratio T en j),by rw[HE9.out],by go_num,by omega,I (fun b e=>by rw[HE9.out] at e;injection e with e;rw[e]),HT,HL,HG,D_ls⟩
         ·simp[intOf];omega
        ·have d_h3:=df h3;clear HN;have HE9:Hid (leaN T en (j+1)=some b):=I (by rw[leaN,if_neg HNE.out,HO.out];dsimp only;rw[HCM.out,if_neg (fun h=>h.elim (by omega) (fun h=>h3 h.2))]);go_wp2;go_roundw
         ·exact⟨j+1,lv,(ratio T en b),by rw[HE9.out],by go_num,by omega,I (fun b e=>by rw[HE9.out] at e;exact HB.out b e),HT,HL,HG,D_ls⟩
         ·simp[intOf];omega
       ·have d_h2:=df h2;have e_h2:((cm) == (0))=false:=beq_eq_false_iff_ne.2 h2;have n_h2:((cm) != (0))=true:=bne_iff_ne.2 h2;clear HN;have HE9:Hid (leaN T en (j+1)=some b):=I (by rw[leaN,if_neg HNE.out,HO.out];dsimp only;rw[HCM.out,if_neg (fun h=>h.elim (by omega) (fun h=>h2 h.1))]);go_wp2;go_roundw
        ·exact⟨j+1,lv,(ratio T en b),by rw[HE9.out],by go_num,by omega,I (fun b e=>by rw[HE9.out] at e;exact HB.out b e),HT,HL,HG,D_ls⟩
        ·simp[intOf];omega
  ·obtain rfl:j=T.basic.length:=by omega
   go_wp2;go_ret;exact⟨rfl,HG.out⟩
end
end Go.Proofs.YtmhphnljfcncpaaGreatDoor
