/- Walks of the search and of what it calls, part 6. -/
import Derived.Test.YtmhphnljfcncpaaGreatDoorMe
set_option linter.unusedVariables false
set_option linter.unusedSimpArgs false
set_option maxRecDepth 100000
set_option maxHeartbeats 8000000
namespace Go.Proofs.YtmhphnljfcncpaaGreatDoor
open Go.RowKit
section
attribute [local go_sem] Oper.semAt_some
def mrgT (c:Q):Nat→List Tm→List Tm→List Tm→List Tm
 | 0,_,_,acc=>acc
 | _+1,[],[],acc=>acc
 | n+1,s::la,[],acc=>mrgT c n la [] (putT acc s.1 s.2)
 | n+1,[],t::lb,acc=>mrgT c n [] lb (putT acc t.1 (Q.mul t.2 c))
 | n+1,s::la,t::lb,acc=>if s.1 < t.1 then mrgT c n la (t::lb) (putT acc s.1 s.2) else if t.1 < s.1 then mrgT c n (s::la) lb (putT acc t.1 (Q.mul t.2 c)) else mrgT c n la lb (putT acc s.1 (Q.add s.2 (Q.mul t.2 c)))
def mrg (f g:Fm) (c:Q):Fm:=⟨mrgT c (f.terms.length+g.terms.length) f.terms g.terms [],Q.add f.const (Q.mul g.const c)⟩
theorem mrgT_nil (c:Q) (n:Nat) (acc:List Tm):mrgT c n [] [] acc=acc:=by cases n<;>rfl
theorem putT_len (l:List Tm) (v:Int) (q:Q):(putT l v q).length≤l.length+1:=by
 unfold putT;split
 ·omega
 ·simp
theorem Terms.head {w:World} {x:Sv} {s:Tm} {l:List Tm} (h:Terms w x (s::l)):∃(t:Tv) (ad:Addr),t.Is w s∧x.A=some ad∧w.cell? ad=some (.int .i64 t.var)∧w.cell? ⟨ad.block,ad.off+1,none⟩=some (.bool t.coef.neg)∧w.cell? ⟨ad.block,ad.off+2,none⟩=some (.slice t.coef.num.A t.coef.num.n t.coef.num.c)∧w.cell? ⟨ad.block,ad.off+3,none⟩=some (.slice t.coef.den.A t.coef.den.n t.coef.den.c):=by
 obtain⟨t,ad,h1,h2,h3,h4,h5,h6⟩:=h.at (i:=0) rfl;rw[Nat.zero_mul,add_zero] at h3 h4 h5 h6;exact⟨t,ad,h1,h2,h3,h4,h5,h6⟩
theorem Terms.tail {w:World} {x:Sv} {s:Tm} {l:List Tm} (h:Terms w x (s::l)):Terms w ⟨if x.c=1 then x.A else x.A.map (·.add 4),x.n - 1,x.c - 1⟩ l:=Rows.tail Tv.len (by decide) h
theorem merge_any (w:World) (f g:Fv) (x y:Fm) (c:Rv) (q:Q) (hf:f.Is w x) (hg:g.Is w y) (hc:c.Is w q) (hx:∀t∈x.terms,t.2.Lo) (hy:∀t∈y.terms,t.2.Lo) (hk:x.const.Lo) (hl:y.const.Lo) (hq:q.Lo) (hn:x.terms.length+y.terms.length≤1000000):
  Calls Tryz.prog 207 #[f.v,g.v,c.v] w fun e w'=>∃r:Fv,e=.returned r.v∧r.Is w' (mrg x y q)∧Gr w w':=by
 change Hid _ at hf hg hx hl hq;have HC:=I hc;have LY:=I hy;have LK:=I hk;have LN:=I hn;clear hc hy hk hn;simp only[Rv.v,Fv.v] at*;go_enter Tryz.func207,Tryz.ntmps207;go_upto_region 1 with fail;refine nw4h fun W HG D_p D_g0 D_c0 D_r=>?_
 have N_r:=dnl (w.heap.size) (w.heap.size+1+1+1);generalize w.heap.size+1+1+1=r at*;generalize w.heap.size+1+1=c0 at*;generalize w.heap.size+1=g0 at*;have HG9:=I HG.size;have HRL:=I D_r.lt;obtain⟨a0,a1,a2,a3⟩:=D_p.c4;obtain⟨b0,b1,b2,b3⟩:=D_g0.c4;obtain⟨e0,e1,e2⟩:=D_c0.c3;refine wpr ?_;have kc:=I fun W' (G:Gr W.drew W')=>G.kk a0 <| G.kk a1 <| G.kk a2 <| G.kk a3 <| G.kk b0 <| G.kk b1 <| G.kk b2 <| G.kk b3 <| G.kk e0 <| ai (G.keep e1) (G.keep e2)
 refine wg 1 (tf 9 1) [0,1,2,3,4,5,6,7,8] [(5,Rv.At (Q.mul y.const q)),(6,Rv.At (Q.add x.const (Q.mul y.const q))),(8,NewAt 40 Fl W.heap.size)] ?_;iterate 5 refine .tk ?_
 refine .dk (fun W1 G1 F1=>rmul_any W1 g.const c y.const q (hg.const.gr (HG.trans G1.od)) (HC.gr (HG.trans G1.od)) (nt hl.num (by decide)) (nt hq.num (by decide)) (nj (Nat.mul_le_mul hl.den hq.den) (by decide))) ?_;rintro _ ⟨_,-,-,⟨m,rfl,-⟩⟩;refine .dk (fun W1 G1 F1=>by have hm:=lk F1 0;have hm:=Rv.At.is hm;exact radd_any W1 f.const m x.const (Q.mul y.const q) (hf.const.gr (HG.trans G1.od)) hm (nt LK.num (by decide)) (nt (hl.bd.mul hq.bd).num (by decide)) (nj (Nat.mul_le_mul LK.den (hl.bd.mul hq.bd).den) (by decide))) ?_;rintro _ ⟨_,-,-,⟨k,rfl,-⟩⟩;refine .tk ?_;refine .da ?_;rintro _ ⟨_,-,-,⟨o,rfl,-,-⟩⟩;refine .done fun W1 G1 F1=>?_
 have hm:=lh F1 0;have hk:=lh F1 1;have ho:=lh F1 2;replace kc:=kc.out W1 G1;clear F1 a0 a1 a2 a3 b0 b1 b2 b3 e0 e1 e2;refine wpAny_k 9 fun K hK=>?_
 have hN:=ho.is;have fz:=hN.1.frozen;obtain⟨o0,o1,o2,o3⟩:=hN.1.c4;go_simp;refine hK.out _ _ ?_;clear hK K;refine ptt ?_;refine wpe ?_;obtain⟨ho,hoN⟩:=ho.is;obtain⟨B5,F5⟩:=ho.put4 Nl (.bool k.neg) k.num.v k.den.v;have HK:=I (hk.is.tf F5 (fun b cs fr e hh=>Bk.not_ty ho (by decide) cs fr (e▸hh)));have DO:=I B5;replace HG:=I ((HG.trans G1.od).fr_at F5 (nt HG.size hoN));replace D_p:=I (F5.bk (G1.od.bk D_p) (Nat.ne_of_lt (nk D_p.lt hoN)));replace D_g0:=I (F5.bk (G1.od.bk D_g0) (Nat.ne_of_lt (nk D_g0.lt hoN)));replace D_c0:=I (F5.bk (G1.od.bk D_c0) (Nat.ne_of_lt (nk D_c0.lt hoN)));replace D_r:=I (F5.bk (G1.od.bk D_r) (Nat.ne_of_lt (nk D_r.lt hoN)));have HNO:=I (nt HG9 hoN);have hro:=I (show ¬o=r from fun e=>ni _ (nk (e▸HRL.out) hoN));clear hm hk ho hoN G1 B5 F5 kc;generalize (((W1.setCell ⟨o,0,none⟩ Nl).setCell ⟨o,1,none⟩ (.bool k.neg)).setCell ⟨o,2,none⟩ k.num.v).setCell ⟨o,3,none⟩ k.den.v=W2 at*;have kn:Hid (k.Is W2 (Q.add x.const (Q.mul y.const q))):=HK;obtain⟨a0,a1,a2,a3⟩:=D_p.c4;obtain⟨b0,b1,b2,b3⟩:=D_g0.c4;go_upto_region 2 with fail;refine wpr ?_;have kc:=I fun W' (G:Gr W2.drew W')=>G.kk a0 <| G.kk a1 <| G.kk a2 <| G.kk a3 <| G.kk b0 <| G.kk b1 <| ai (G.keep b2) (G.keep b3)
 refine wg 0 (tf 6 0) [0,1,2,3,4,5] [] ?_;iterate 6 refine .tk ?_
 refine .done fun W1 G1 F1=>?_
 clear F1;refine wpe ?_;replace HG:=I (HG.trans G1.od);replace HK:=I (HK.gr G1.od);replace D_c0:=I (G1.od.bk D_c0);replace D_r:=I (G1.od.bk D_r);replace DO:=I (G1.od.bk DO);clear D_p D_g0 G1 kn kc a0 a1 a2 a3 b0 b1 b2 b3;go_wp2_with fail;go_loopw [8,9] (fun s8 s9 wr=>∃(xa xb z:Sv) (la lb acc:List Tm) (n:Nat),s8=.slice xa.A xa.n xa.c∧s9=.slice xb.A xb.n xb.c∧Hid (Terms w xa la)∧Hid (Terms w xb lb)∧Hid (OwnT wr w.heap.size z acc)∧Hid (mrgT q n la lb acc=mrgT q (x.terms.length+y.terms.length) x.terms y.terms [])∧Hid (la.length+lb.length≤n)∧Hid (la.length+lb.length+acc.length≤1000000)∧Hid (∀t∈la,t.2.Lo)∧Hid (∀t∈lb,t.2.Lo)∧Hid (k.Is wr (Q.add x.const (Q.mul y.const q)))∧Hid (Gr w wr)∧Hid (Bk wr c0 38 c.ar)∧Hid (Bk wr r 40 Fl)∧Hid (Bk wr o 40 #[z.v,.bool k.neg,k.num.v,k.den.v])) (fun s8 s9 _=>lenOf s8+lenOf s9)
 case atStart=>exact⟨f.terms,g.terms,Sv.none,_,_,[],_,rfl,rfl,hf.terms,hg.terms,Own.nil _ _,rfl,nr _,LN.out,hx,LY,HK,HG,D_c0,D_r,DO⟩
 case round=>
  obtain⟨xa,xb,z,la,lb,acc,n,rfl,rfl,TA,TB,HZ,HM,Hn,HL,LA,LB,HK2,HG2,DC,DR,DO2⟩:=hrel;have HX1:=I TA.len;have HX2:=I TB.len;obtain⟨XA,xn,xc⟩:=xa;obtain⟨YA,yn,yc⟩:=xb;clear HK HG D_c0 D_r DO;rcases la with _ | ⟨s,la⟩
  ·obtain rfl:xn=0:=HX1.symm;rcases lb with _ | ⟨t,lb⟩
   ·obtain rfl:yn=0:=HX2.symm;obtain⟨o0,o1,o2,o3⟩:=DO2.c4;have q0_:=DR.c4;have qz:=DR.frozen;go_wp2;refine pex ?_;refine ks DR fun W5 B5 F5=>?_
    have d_:=B5.c4;refine bret Tryz.results207 ?_;refine⟨⟨z,k⟩,rfl,⟨?_,HK2.tf F5 (fun b cs fr e hh=>Bk.not_ty DR (by decide) cs fr (e▸hh))⟩,HG2.fr_at F5 N_r⟩;show Terms _ z (mrg x y q).terms;rw[show (mrg x y q).terms=acc from by have:=HM.out;rw[mrgT_nil] at this;exact this.symm];exact (HZ.fr F5 (fun b cs fr e hh=>Bk.not_ty DR (by decide) cs fr (e▸hh)) fun b hb e=>HZ.ne DR (by decide) (e▸hb)).terms
   ·-- only b
    obtain⟨ym,rfl⟩:∃m,yn=m+1:=⟨_,HX2.symm⟩;obtain⟨uv,bd,hu,hB,u0,u1,u2,u3⟩:=(TB.gr HG2).head;simp only at hB;subst hB;have HU:=I hu;clear hu;have hM:=I (show mrgT q n [] (t::lb) acc=mrgT q (n - 1) [] lb (putT acc t.1 (Q.mul t.2 q)) from by obtain⟨n,rfl⟩:∃m,n=m+1:=⟨n - 1,by have:=Hn.out;rw[List.length_cons] at this;omega⟩;rfl);go_wp2_with fail;go_upto_region 6 with fail;refine wpr ?_;have kc:=I fun W' (G:Gr wr.drew W')=>G.kk u0 <| G.kk u1 <| ai (G.keep u2) (G.keep u3)
    refine wg 0 (tf 20 0) [0,1,2,3,4,5,6,7,8,9,10,11,12,13,14,15,16,17,18,19] [] ?_;iterate 20 refine .tk ?_
    refine .done fun W1 G1 F1=>?_
    clear F1;have kc1:=kc.out W1 G1;clear kc u0 u1 u2 u3;obtain⟨u0,u1,u2,u3⟩:=kc1;refine wpe ?_;have GA:=I G1.od;clear G1;generalize hWa:W1=Wa at*;clear hWa;go_wp2_with fail;go_upto_region 9 with fail;refine wpr ?_;have kc:=I fun W' (G:Gr Wa.drew W')=>G.kk u0 <| G.kk u1 <| ai (G.keep u2) (G.keep u3)
    refine wg 0 (tf 15 0) [0,1,2,3,4,5,6,7,8,9,10,11,12,13,14] [] ?_;iterate 15 refine .tk ?_
    refine .done fun W1 G1 F1=>?_
    clear F1;have kc1:=kc.out W1 G1;clear kc u0 u1 u2 u3;obtain⟨u0,u1,u2,u3⟩:=kc1;refine wpe ?_;replace GA:=I (GA.trans G1.od);clear G1;generalize hWb:W1=Wb at*;clear hWb;go_wp2_with fail;obtain⟨o0,o1,o2,o3⟩:=(GA.bk DO2).c4;obtain⟨c1,c2,c3⟩:=(GA.bk DC).c3;go_upto_region 10 with fail;refine wpr ?_;have kc:=I fun W' (G:Gr Wb.drew W')=>G.kk u0 <| G.kk u1 <| G.kk u2 <| G.kk u3 <| G.kk o0 <| G.kk o1 <| G.kk o2 <| G.kk o3 <| G.kk c1 <| ai (G.keep c2) (G.keep c3)
    refine wg 2 (tf 11 2) [0,1,2,3,4,5,6,7,8,9,10] [(10,Rv.At (Q.mul t.2 q))] ?_;iterate 10 refine .tk ?_
    refine .dk (fun W1 G1 F1=>rmul_any W1 uv.coef c t.2 q (HU.coef.gr (GA.trans G1.od)) (HC.gr (HG2.trans (GA.trans G1.od))) (nt (LB.out t (mf ..)).num (by decide)) (nt hq.num (by decide)) (nj (Nat.mul_le_mul (LB.out t (mf ..)).den hq.den) (by decide))) ?_;rintro _ ⟨_,-,-,⟨m2,rfl,-⟩⟩;refine .done fun W1 G1 F1=>?_
    have hm2:=lh F1 0;replace kc:=kc.out W1 G1;clear F1 u0 u1 u2 u3 o0 o1 o2 o3 c1 c2 c3;have GB:=I (GA.trans G1.od);refine wpAny_k 11 fun K hK=>?_
    refine doesAt_wp (K:=fun v W'=>∃yv:Sv,v=Fv.v ⟨yv,k⟩∧OwnT W' w.heap.size yv (putT acc uv.var (Q.mul t.2 q))∧Fr (fun b=>(z.v).ownBlock=some b) W1 W') (doesAt_enter (f:=268) (args:=#[.agg #[z.v,.bool k.neg,k.num.v,k.den.v],.int .i64 uv.var,m2.v]) (by go_simp;try (first | with_reducible rfl | rfl)) ((put_any W1 w.heap.size ⟨z,k⟩ acc (Q.add x.const (Q.mul y.const q)) uv.var m2 (Q.mul t.2 q) (HZ.up (GA.trans G1.od)) (HK2.gr (GA.trans G1.od)) hm2.is (nt HG2.size (GA.trans G1.od).size) (by have:=HL.out;simp only[List.length_cons,List.length_nil] at this;omega) (nt ((LB.out t (mf ..)).bd.mul hq.bd).num (by decide)) (nj ((LB.out t (mf ..)).bd.mul hq.bd).den (by decide))).mono ?_)) ?_
    ·rintro e w' ⟨yv,rfl,h1,h2⟩;exact⟨_,rfl,yv,rfl,h1,h2⟩
    rintro v w5 ⟨yv,rfl,hy,hF⟩;refine hK.out _ _ ?_;clear hK K;refine ptt ?_;have hz9:=HZ.up GB;have DO3:=I (hF.bk (GB.bk DO2) (fun e=>hz9.ne (GB.bk DO2) (by decide) e));have DC3:=I (hF.bk (GB.bk DC) (fun e=>hz9.ne (GB.bk DC) (by decide) e));have DR3:=I (hF.bk (GB.bk DR) (fun e=>hz9.ne (GB.bk DR) (by decide) e));have hG5:=(HG2.trans GB).step hF (fun b _ e=>(hz9.lt b e).1);have hK5:=(HK2.gr GB).tf hF (fun b cs fr e hh=>(by obtain⟨ts,t1,_⟩:=hz9;obtain⟨cur,hc⟩:=rw_bk t1 b e;exact Bk.not_ty hc (by decide) _ _ hh));have HY5:=I hy;have HK5:=I hK5;have HG5:=I hG5;clear hz9 hy hF hG5 hK5 G1 hm2 kc;obtain⟨o0,o1,o2,o3⟩:=DO3.c4;have oz:=DO3.frozen;refine wo 12 ?_;refine wpe ?_;refine ks DO3 fun w6 B5 F5=>?_
    have HY6:=I (HY5.fr F5 (fun b cs fr e hh=>Bk.not_ty DO3 (by decide) cs fr (e▸hh)) fun b hb e=>HY5.ne DO3 (by decide) (e▸hb));have HK6:=I (HK5.tf F5 (fun b cs fr e hh=>Bk.not_ty DO3 (by decide) cs fr (e▸hh)));have HG6:=I (HG5.fr_at F5 HNO);have DO6:=B5;have DC6:=I (F5.bk DC3 (fun e=>Bk.ne DO3 DC3 (by decide) e.symm));have DR6:=I (F5.bk DR3 (fun e=>hro.out e.symm));clear B5 F5 o0 o1 o2 o3 oz;go_wp2;go_roundw
    ·have HY7:Hid (OwnT w6 w.heap.size yv (putT acc t.1 (Q.mul t.2 q))):=I (by have:=HY6.out;rw[HU.var] at this;exact this);exact⟨⟨XA,0,xc⟩,_,yv,[],lb,putT acc t.1 (Q.mul t.2 q),n - 1,rfl,rfl,TA.out,TB.tail,HY7.out,(hM.symm.trans HM),I (by have:=Hn.out;simp only[List.length_cons,List.length_nil] at this ⊢;omega),I (by have:=HL.out;have:=putT_len acc t.1 (Q.mul t.2 q);simp only[List.length_cons,List.length_nil] at *;omega),LA.out,(fun i hi=>LB.out i (List.mem_cons_of_mem _ hi)),HK6.out,HG6.out,DC6.out,DR6.out,DO6.out⟩
    ·simp[lenOf];try omega
  ·rcases lb with _ | ⟨t,lb⟩
   ·-- only a
    obtain⟨xm,rfl⟩:∃m,xn=m+1:=⟨_,HX1.symm⟩;obtain⟨tv,ad,ht,hA,d0,d1,d2,d3⟩:=(TA.gr HG2).head;simp only at hA;subst hA;have HT:=I ht;have hxp:((xm+1:Nat):Int)≠0:=by omega
    obtain rfl:yn=0:=HX2.symm;clear ht;have hM:=I (show mrgT q n (s::la) [] acc=mrgT q (n - 1) la [] (putT acc s.1 s.2) from by obtain⟨n,rfl⟩:∃m,n=m+1:=⟨n - 1,by have:=Hn.out;rw[List.length_cons] at this;omega⟩;rfl);go_wp2_with fail;go_upto_region 6 with fail;refine wpr ?_;have kc:=I fun W' (G:Gr wr.drew W')=>G.kk d0 <| G.kk d1 <| ai (G.keep d2) (G.keep d3)
    refine wg 0 (tf 20 0) [0,1,2,3,4,5,6,7,8,9,10,11,12,13,14,15,16,17,18,19] [] ?_;iterate 20 refine .tk ?_
    refine .done fun W1 G1 F1=>?_
    clear F1;have kc1:=kc.out W1 G1;clear kc d0 d1 d2 d3;obtain⟨d0,d1,d2,d3⟩:=kc1;refine wpe ?_;have GA:=I G1.od;clear G1;generalize hWa:W1=Wa at*;clear hWa;go_wp2_with fail;obtain⟨o0,o1,o2,o3⟩:=(GA.bk DO2).c4;obtain⟨c1,c2,c3⟩:=(GA.bk DC).c3;go_upto_region 7 with fail;refine wpr ?_;have kc:=I fun W' (G:Gr Wa.drew W')=>G.kk d0 <| G.kk d1 <| G.kk d2 <| G.kk d3 <| G.kk o0 <| G.kk o1 <| ai (G.keep o2) (G.keep o3)
    refine wg 2 (tf 9 2) [0,1,2,3,4,5,6,7,8] [] ?_;iterate 9 refine .tk ?_
    refine .done fun W1 G1 F1=>?_
    replace kc:=kc.out W1 G1;clear F1 d0 d1 d2 d3 o0 o1 o2 o3;have GB:=I (GA.trans G1.od);refine wpAny_k 9 fun K hK=>?_
    refine doesAt_wp (K:=fun v W'=>∃yv:Sv,v=Fv.v ⟨yv,k⟩∧OwnT W' w.heap.size yv (putT acc tv.var (s.2))∧Fr (fun b=>(z.v).ownBlock=some b) W1 W') (doesAt_enter (f:=268) (args:=#[.agg #[z.v,.bool k.neg,k.num.v,k.den.v],.int .i64 tv.var,tv.coef.v]) (by go_simp;try (first | with_reducible rfl | rfl)) ((put_any W1 w.heap.size ⟨z,k⟩ acc (Q.add x.const (Q.mul y.const q)) tv.var tv.coef s.2 (HZ.up (GA.trans G1.od)) (HK2.gr (GA.trans G1.od)) (HT.coef.gr (GA.trans G1.od)) (nt HG2.size (GA.trans G1.od).size) (by have:=HL.out;simp only[List.length_cons,List.length_nil] at this;omega) (nt (LA.out s (mf ..)).num (by decide)) (nj (LA.out s (mf ..)).den (by decide))).mono ?_)) ?_
    ·rintro e w' ⟨yv,rfl,h1,h2⟩;exact⟨_,rfl,yv,rfl,h1,h2⟩
    rintro v w5 ⟨yv,rfl,hy,hF⟩;refine hK.out _ _ ?_;clear hK K;refine ptt ?_;have hz9:=HZ.up GB;have DO3:=I (hF.bk (GB.bk DO2) (fun e=>hz9.ne (GB.bk DO2) (by decide) e));have DC3:=I (hF.bk (GB.bk DC) (fun e=>hz9.ne (GB.bk DC) (by decide) e));have DR3:=I (hF.bk (GB.bk DR) (fun e=>hz9.ne (GB.bk DR) (by decide) e));have hG5:=(HG2.trans GB).step hF (fun b _ e=>(hz9.lt b e).1);have hK5:=(HK2.gr GB).tf hF (fun b cs fr e hh=>(by obtain⟨ts,t1,_⟩:=hz9;obtain⟨cur,hc⟩:=rw_bk t1 b e;exact Bk.not_ty hc (by decide) _ _ hh));have HY5:=I hy;have HK5:=I hK5;have HG5:=I hG5;clear hz9 hy hF hG5 hK5 G1 c1 c2 c3 kc;obtain⟨o0,o1,o2,o3⟩:=DO3.c4;have oz:=DO3.frozen;refine wo 10 ?_;refine wpe ?_;refine ks DO3 fun w6 B5 F5=>?_
    have HY6:=I (HY5.fr F5 (fun b cs fr e hh=>Bk.not_ty DO3 (by decide) cs fr (e▸hh)) fun b hb e=>HY5.ne DO3 (by decide) (e▸hb));have HK6:=I (HK5.tf F5 (fun b cs fr e hh=>Bk.not_ty DO3 (by decide) cs fr (e▸hh)));have HG6:=I (HG5.fr_at F5 HNO);have DO6:=B5;have DC6:=I (F5.bk DC3 (fun e=>Bk.ne DO3 DC3 (by decide) e.symm));have DR6:=I (F5.bk DR3 (fun e=>hro.out e.symm));clear B5 F5 o0 o1 o2 o3 oz;go_wp2;go_roundw
    ·have HY7:Hid (OwnT w6 w.heap.size yv (putT acc s.1 (s.2))):=I (by have:=HY6.out;rw[HT.var] at this;exact this);exact⟨_,⟨YA,0,yc⟩,yv,la,[],putT acc s.1 (s.2),n - 1,rfl,rfl,TA.tail,TB.out,HY7.out,(hM.symm.trans HM),I (by have:=Hn.out;simp only[List.length_cons,List.length_nil] at this ⊢;omega),I (by have:=HL.out;have:=putT_len acc s.1 (s.2);simp only[List.length_cons,List.length_nil] at *;omega),(fun i hi=>LA.out i (List.mem_cons_of_mem _ hi)),LB.out,HK6.out,HG6.out,DC6.out,DR6.out,DO6.out⟩
    ·simp[lenOf];try omega
   ·by_cases hst1:s.1 < t.1
    ·-- a first
     obtain⟨xm,rfl⟩:∃m,xn=m+1:=⟨_,HX1.symm⟩;obtain⟨tv,ad,ht,hA,d0,d1,d2,d3⟩:=(TA.gr HG2).head;simp only at hA;subst hA;have HT:=I ht;have hxp:((xm+1:Nat):Int)≠0:=by omega
     obtain⟨ym,rfl⟩:∃m,yn=m+1:=⟨_,HX2.symm⟩;obtain⟨uv,bd,hu,hB,u0,u1,u2,u3⟩:=(TB.gr HG2).head;simp only at hB;subst hB;have HU:=I hu;clear ht;clear hu;have hM:=I (show mrgT q n (s::la) (t::lb) acc=mrgT q (n - 1) la (t::lb) (putT acc s.1 s.2) from by obtain⟨n,rfl⟩:∃m,n=m+1:=⟨n - 1,by have:=Hn.out;rw[List.length_cons] at this;omega⟩;exact if_pos hst1);have hl1:decide (tv.var < uv.var)=true:=by rw[HT.var,HU.var];simp[hst1]
     have hl2:decide (uv.var < tv.var)=false:=by rw[HT.var,HU.var];simp;omega
     clear hst1;go_wp2_with fail;go_upto_region 6 with fail;refine wpr ?_;have kc:=I fun W' (G:Gr wr.drew W')=>G.kk d0 <| G.kk d1 <| G.kk d2 <| G.kk d3 <| G.kk u0 <| G.kk u1 <| ai (G.keep u2) (G.keep u3)
     refine wg 0 (tf 20 0) [0,1,2,3,4,5,6,7,8,9,10,11,12,13,14,15,16,17,18,19] [] ?_;iterate 20 refine .tk ?_
     refine .done fun W1 G1 F1=>?_
     clear F1;have kc1:=kc.out W1 G1;clear kc d0 d1 d2 d3 u0 u1 u2 u3;obtain⟨d0,d1,d2,d3,u0,u1,u2,u3⟩:=kc1;refine wpe ?_;have GA:=I G1.od;clear G1;generalize hWa:W1=Wa at*;clear hWa;go_wp2_with fail;obtain⟨o0,o1,o2,o3⟩:=(GA.bk DO2).c4;obtain⟨c1,c2,c3⟩:=(GA.bk DC).c3;go_upto_region 7 with fail;refine wpr ?_;have kc:=I fun W' (G:Gr Wa.drew W')=>G.kk d0 <| G.kk d1 <| G.kk d2 <| G.kk d3 <| G.kk u0 <| G.kk u1 <| G.kk u2 <| G.kk u3 <| G.kk o0 <| G.kk o1 <| ai (G.keep o2) (G.keep o3)
     refine wg 2 (tf 9 2) [0,1,2,3,4,5,6,7,8] [] ?_;iterate 9 refine .tk ?_
     refine .done fun W1 G1 F1=>?_
     replace kc:=kc.out W1 G1;clear F1 d0 d1 d2 d3 u0 u1 u2 u3 o0 o1 o2 o3;have GB:=I (GA.trans G1.od);refine wpAny_k 9 fun K hK=>?_
     refine doesAt_wp (K:=fun v W'=>∃yv:Sv,v=Fv.v ⟨yv,k⟩∧OwnT W' w.heap.size yv (putT acc tv.var (s.2))∧Fr (fun b=>(z.v).ownBlock=some b) W1 W') (doesAt_enter (f:=268) (args:=#[.agg #[z.v,.bool k.neg,k.num.v,k.den.v],.int .i64 tv.var,tv.coef.v]) (by go_simp;try (first | with_reducible rfl | rfl)) ((put_any W1 w.heap.size ⟨z,k⟩ acc (Q.add x.const (Q.mul y.const q)) tv.var tv.coef s.2 (HZ.up (GA.trans G1.od)) (HK2.gr (GA.trans G1.od)) (HT.coef.gr (GA.trans G1.od)) (nt HG2.size (GA.trans G1.od).size) (by have:=HL.out;simp only[List.length_cons,List.length_nil] at this;omega) (nt (LA.out s (mf ..)).num (by decide)) (nj (LA.out s (mf ..)).den (by decide))).mono ?_)) ?_
     ·rintro e w' ⟨yv,rfl,h1,h2⟩;exact⟨_,rfl,yv,rfl,h1,h2⟩
     rintro v w5 ⟨yv,rfl,hy,hF⟩;refine hK.out _ _ ?_;clear hK K;refine ptt ?_;have hz9:=HZ.up GB;have DO3:=I (hF.bk (GB.bk DO2) (fun e=>hz9.ne (GB.bk DO2) (by decide) e));have DC3:=I (hF.bk (GB.bk DC) (fun e=>hz9.ne (GB.bk DC) (by decide) e));have DR3:=I (hF.bk (GB.bk DR) (fun e=>hz9.ne (GB.bk DR) (by decide) e));have hG5:=(HG2.trans GB).step hF (fun b _ e=>(hz9.lt b e).1);have hK5:=(HK2.gr GB).tf hF (fun b cs fr e hh=>(by obtain⟨ts,t1,_⟩:=hz9;obtain⟨cur,hc⟩:=rw_bk t1 b e;exact Bk.not_ty hc (by decide) _ _ hh));have HY5:=I hy;have HK5:=I hK5;have HG5:=I hG5;clear hz9 hy hF hG5 hK5 G1 c1 c2 c3 kc;obtain⟨o0,o1,o2,o3⟩:=DO3.c4;have oz:=DO3.frozen;refine wo 10 ?_;refine wpe ?_;refine ks DO3 fun w6 B5 F5=>?_
     have HY6:=I (HY5.fr F5 (fun b cs fr e hh=>Bk.not_ty DO3 (by decide) cs fr (e▸hh)) fun b hb e=>HY5.ne DO3 (by decide) (e▸hb));have HK6:=I (HK5.tf F5 (fun b cs fr e hh=>Bk.not_ty DO3 (by decide) cs fr (e▸hh)));have HG6:=I (HG5.fr_at F5 HNO);have DO6:=B5;have DC6:=I (F5.bk DC3 (fun e=>Bk.ne DO3 DC3 (by decide) e.symm));have DR6:=I (F5.bk DR3 (fun e=>hro.out e.symm));clear B5 F5 o0 o1 o2 o3 oz;go_wp2;go_roundw
     ·have HY7:Hid (OwnT w6 w.heap.size yv (putT acc s.1 (s.2))):=I (by have:=HY6.out;rw[HT.var] at this;exact this);exact⟨_,⟨some bd,ym+1,yc⟩,yv,la,(t::lb),putT acc s.1 (s.2),n - 1,rfl,rfl,TA.tail,TB.out,HY7.out,(hM.symm.trans HM),I (by have:=Hn.out;simp only[List.length_cons,List.length_nil] at this ⊢;omega),I (by have:=HL.out;have:=putT_len acc s.1 (s.2);simp only[List.length_cons,List.length_nil] at *;omega),(fun i hi=>LA.out i (List.mem_cons_of_mem _ hi)),LB.out,HK6.out,HG6.out,DC6.out,DR6.out,DO6.out⟩
     ·simp[lenOf];try omega
    ·by_cases hst2:t.1 < s.1
     ·-- b first
      obtain⟨xm,rfl⟩:∃m,xn=m+1:=⟨_,HX1.symm⟩;obtain⟨tv,ad,ht,hA,d0,d1,d2,d3⟩:=(TA.gr HG2).head;simp only at hA;subst hA;have HT:=I ht;have hxp:((xm+1:Nat):Int)≠0:=by omega
      obtain⟨ym,rfl⟩:∃m,yn=m+1:=⟨_,HX2.symm⟩;obtain⟨uv,bd,hu,hB,u0,u1,u2,u3⟩:=(TB.gr HG2).head;simp only at hB;subst hB;have HU:=I hu;clear ht;clear hu;have hM:=I (show mrgT q n (s::la) (t::lb) acc=mrgT q (n - 1) (s::la) lb (putT acc t.1 (Q.mul t.2 q)) from by obtain⟨n,rfl⟩:∃m,n=m+1:=⟨n - 1,by have:=Hn.out;rw[List.length_cons] at this;omega⟩;exact (if_neg hst1).trans (if_pos hst2));have hl1:decide (tv.var < uv.var)=false:=by rw[HT.var,HU.var];simp[hst1]
      have hl2:decide (uv.var < tv.var)=true:=by rw[HT.var,HU.var];simp[hst2]
      clear hst1 hst2;go_wp2_with fail;go_upto_region 6 with fail;refine wpr ?_;have kc:=I fun W' (G:Gr wr.drew W')=>G.kk d0 <| G.kk d1 <| G.kk d2 <| G.kk d3 <| G.kk u0 <| G.kk u1 <| ai (G.keep u2) (G.keep u3)
      refine wg 0 (tf 20 0) [0,1,2,3,4,5,6,7,8,9,10,11,12,13,14,15,16,17,18,19] [] ?_;iterate 20 refine .tk ?_
      refine .done fun W1 G1 F1=>?_
      clear F1;have kc1:=kc.out W1 G1;clear kc d0 d1 d2 d3 u0 u1 u2 u3;obtain⟨d0,d1,d2,d3,u0,u1,u2,u3⟩:=kc1;refine wpe ?_;have GA:=I G1.od;clear G1;generalize hWa:W1=Wa at*;clear hWa;go_wp2_with fail;go_upto_region 9 with fail;refine wpr ?_;have kc:=I fun W' (G:Gr Wa.drew W')=>G.kk d0 <| G.kk d1 <| G.kk d2 <| G.kk d3 <| G.kk u0 <| G.kk u1 <| ai (G.keep u2) (G.keep u3)
      refine wg 0 (tf 15 0) [0,1,2,3,4,5,6,7,8,9,10,11,12,13,14] [] ?_;iterate 15 refine .tk ?_
      refine .done fun W1 G1 F1=>?_
      clear F1;have kc1:=kc.out W1 G1;clear kc d0 d1 d2 d3 u0 u1 u2 u3;obtain⟨d0,d1,d2,d3,u0,u1,u2,u3⟩:=kc1;refine wpe ?_;replace GA:=I (GA.trans G1.od);clear G1;generalize hWb:W1=Wb at*;clear hWb;go_wp2_with fail;obtain⟨o0,o1,o2,o3⟩:=(GA.bk DO2).c4;obtain⟨c1,c2,c3⟩:=(GA.bk DC).c3;go_upto_region 10 with fail;refine wpr ?_;have kc:=I fun W' (G:Gr Wb.drew W')=>G.kk d0 <| G.kk d1 <| G.kk d2 <| G.kk d3 <| G.kk u0 <| G.kk u1 <| G.kk u2 <| G.kk u3 <| G.kk o0 <| G.kk o1 <| G.kk o2 <| G.kk o3 <| G.kk c1 <| ai (G.keep c2) (G.keep c3)
      refine wg 2 (tf 11 2) [0,1,2,3,4,5,6,7,8,9,10] [(10,Rv.At (Q.mul t.2 q))] ?_;iterate 10 refine .tk ?_
      refine .dk (fun W1 G1 F1=>rmul_any W1 uv.coef c t.2 q (HU.coef.gr (GA.trans G1.od)) (HC.gr (HG2.trans (GA.trans G1.od))) (nt (LB.out t (mf ..)).num (by decide)) (nt hq.num (by decide)) (nj (Nat.mul_le_mul (LB.out t (mf ..)).den hq.den) (by decide))) ?_;rintro _ ⟨_,-,-,⟨m2,rfl,-⟩⟩;refine .done fun W1 G1 F1=>?_
      have hm2:=lh F1 0;replace kc:=kc.out W1 G1;clear F1 d0 d1 d2 d3 u0 u1 u2 u3 o0 o1 o2 o3 c1 c2 c3;have GB:=I (GA.trans G1.od);refine wpAny_k 11 fun K hK=>?_
      refine doesAt_wp (K:=fun v W'=>∃yv:Sv,v=Fv.v ⟨yv,k⟩∧OwnT W' w.heap.size yv (putT acc uv.var (Q.mul t.2 q))∧Fr (fun b=>(z.v).ownBlock=some b) W1 W') (doesAt_enter (f:=268) (args:=#[.agg #[z.v,.bool k.neg,k.num.v,k.den.v],.int .i64 uv.var,m2.v]) (by go_simp;try (first | with_reducible rfl | rfl)) ((put_any W1 w.heap.size ⟨z,k⟩ acc (Q.add x.const (Q.mul y.const q)) uv.var m2 (Q.mul t.2 q) (HZ.up (GA.trans G1.od)) (HK2.gr (GA.trans G1.od)) hm2.is (nt HG2.size (GA.trans G1.od).size) (by have:=HL.out;simp only[List.length_cons,List.length_nil] at this;omega) (nt ((LB.out t (mf ..)).bd.mul hq.bd).num (by decide)) (nj ((LB.out t (mf ..)).bd.mul hq.bd).den (by decide))).mono ?_)) ?_
      ·rintro e w' ⟨yv,rfl,h1,h2⟩;exact⟨_,rfl,yv,rfl,h1,h2⟩
      rintro v w5 ⟨yv,rfl,hy,hF⟩;refine hK.out _ _ ?_;clear hK K;refine ptt ?_;have hz9:=HZ.up GB;have DO3:=I (hF.bk (GB.bk DO2) (fun e=>hz9.ne (GB.bk DO2) (by decide) e));have DC3:=I (hF.bk (GB.bk DC) (fun e=>hz9.ne (GB.bk DC) (by decide) e));have DR3:=I (hF.bk (GB.bk DR) (fun e=>hz9.ne (GB.bk DR) (by decide) e));have hG5:=(HG2.trans GB).step hF (fun b _ e=>(hz9.lt b e).1);have hK5:=(HK2.gr GB).tf hF (fun b cs fr e hh=>(by obtain⟨ts,t1,_⟩:=hz9;obtain⟨cur,hc⟩:=rw_bk t1 b e;exact Bk.not_ty hc (by decide) _ _ hh));have HY5:=I hy;have HK5:=I hK5;have HG5:=I hG5;clear hz9 hy hF hG5 hK5 G1 hm2 kc;obtain⟨o0,o1,o2,o3⟩:=DO3.c4;have oz:=DO3.frozen;refine wo 12 ?_;refine wpe ?_;refine ks DO3 fun w6 B5 F5=>?_
      have HY6:=I (HY5.fr F5 (fun b cs fr e hh=>Bk.not_ty DO3 (by decide) cs fr (e▸hh)) fun b hb e=>HY5.ne DO3 (by decide) (e▸hb));have HK6:=I (HK5.tf F5 (fun b cs fr e hh=>Bk.not_ty DO3 (by decide) cs fr (e▸hh)));have HG6:=I (HG5.fr_at F5 HNO);have DO6:=B5;have DC6:=I (F5.bk DC3 (fun e=>Bk.ne DO3 DC3 (by decide) e.symm));have DR6:=I (F5.bk DR3 (fun e=>hro.out e.symm));clear B5 F5 o0 o1 o2 o3 oz;go_wp2;go_roundw
      ·have HY7:Hid (OwnT w6 w.heap.size yv (putT acc t.1 (Q.mul t.2 q))):=I (by have:=HY6.out;rw[HU.var] at this;exact this);exact⟨⟨some ad,xm+1,xc⟩,_,yv,(s::la),lb,putT acc t.1 (Q.mul t.2 q),n - 1,rfl,rfl,TA.out,TB.tail,HY7.out,(hM.symm.trans HM),I (by have:=Hn.out;simp only[List.length_cons,List.length_nil] at this ⊢;omega),I (by have:=HL.out;have:=putT_len acc t.1 (Q.mul t.2 q);simp only[List.length_cons,List.length_nil] at *;omega),LA.out,(fun i hi=>LB.out i (List.mem_cons_of_mem _ hi)),HK6.out,HG6.out,DC6.out,DR6.out,DO6.out⟩
      ·simp[lenOf];try omega
     ·-- equal
      obtain⟨xm,rfl⟩:∃m,xn=m+1:=⟨_,HX1.symm⟩;obtain⟨tv,ad,ht,hA,d0,d1,d2,d3⟩:=(TA.gr HG2).head;simp only at hA;subst hA;have HT:=I ht;have hxp:((xm+1:Nat):Int)≠0:=by omega
      obtain⟨ym,rfl⟩:∃m,yn=m+1:=⟨_,HX2.symm⟩;obtain⟨uv,bd,hu,hB,u0,u1,u2,u3⟩:=(TB.gr HG2).head;simp only at hB;subst hB;have HU:=I hu;clear ht;clear hu;have hM:=I (show mrgT q n (s::la) (t::lb) acc=mrgT q (n - 1) la lb (putT acc s.1 (Q.add s.2 (Q.mul t.2 q))) from by obtain⟨n,rfl⟩:∃m,n=m+1:=⟨n - 1,by have:=Hn.out;rw[List.length_cons] at this;omega⟩;exact (if_neg hst1).trans (if_neg hst2));have hl1:decide (tv.var < uv.var)=false:=by rw[HT.var,HU.var];simp[hst1]
      have hl2:decide (uv.var < tv.var)=false:=by rw[HT.var,HU.var];simp[hst2]
      clear hst1 hst2;go_wp2_with fail;go_upto_region 6 with fail;refine wpr ?_;have kc:=I fun W' (G:Gr wr.drew W')=>G.kk d0 <| G.kk d1 <| G.kk d2 <| G.kk d3 <| G.kk u0 <| G.kk u1 <| ai (G.keep u2) (G.keep u3)
      refine wg 0 (tf 20 0) [0,1,2,3,4,5,6,7,8,9,10,11,12,13,14,15,16,17,18,19] [] ?_;iterate 20 refine .tk ?_
      refine .done fun W1 G1 F1=>?_
      clear F1;have kc1:=kc.out W1 G1;clear kc d0 d1 d2 d3 u0 u1 u2 u3;obtain⟨d0,d1,d2,d3,u0,u1,u2,u3⟩:=kc1;refine wpe ?_;have GA:=I G1.od;clear G1;generalize hWa:W1=Wa at*;clear hWa;go_wp2_with fail;go_upto_region 9 with fail;refine wpr ?_;have kc:=I fun W' (G:Gr Wa.drew W')=>G.kk d0 <| G.kk d1 <| G.kk d2 <| G.kk d3 <| G.kk u0 <| G.kk u1 <| ai (G.keep u2) (G.keep u3)
      refine wg 0 (tf 15 0) [0,1,2,3,4,5,6,7,8,9,10,11,12,13,14] [] ?_;iterate 15 refine .tk ?_
      refine .done fun W1 G1 F1=>?_
      clear F1;have kc1:=kc.out W1 G1;clear kc d0 d1 d2 d3 u0 u1 u2 u3;obtain⟨d0,d1,d2,d3,u0,u1,u2,u3⟩:=kc1;refine wpe ?_;replace GA:=I (GA.trans G1.od);clear G1;generalize hWb:W1=Wb at*;clear hWb;go_wp2_with fail;obtain⟨o0,o1,o2,o3⟩:=(GA.bk DO2).c4;obtain⟨c1,c2,c3⟩:=(GA.bk DC).c3;go_upto_region 4 with fail;refine wpr ?_;have kc:=I fun W' (G:Gr Wb.drew W')=>G.kk d0 <| G.kk d1 <| G.kk d2 <| G.kk d3 <| G.kk u0 <| G.kk u1 <| G.kk u2 <| G.kk u3 <| G.kk o0 <| G.kk o1 <| G.kk o2 <| G.kk o3 <| G.kk c1 <| ai (G.keep c2) (G.keep c3)
      refine wg 2 (tf 16 2) [0,1,2,3,4,5,6,7,8,9,10,11,12,13,14,15] [(14,Rv.At (Q.mul t.2 q)),(15,Rv.At (Q.add s.2 (Q.mul t.2 q)))] ?_;iterate 14 refine .tk ?_
      refine .dk (fun W1 G1 F1=>rmul_any W1 uv.coef c t.2 q (HU.coef.gr (GA.trans G1.od)) (HC.gr (HG2.trans (GA.trans G1.od))) (nt (LB.out t (mf ..)).num (by decide)) (nt hq.num (by decide)) (nj (Nat.mul_le_mul (LB.out t (mf ..)).den hq.den) (by decide))) ?_;rintro _ ⟨_,-,-,⟨m2,rfl,-⟩⟩;refine .dk (fun W1 G1 F1=>by have hm2:=lk F1 0;have hm2:=Rv.At.is hm2;exact radd_any W1 tv.coef m2 s.2 (Q.mul t.2 q) (HT.coef.gr (GA.trans G1.od)) hm2 (nt (LA.out s (mf ..)).num (by decide)) (nt ((LB.out t (mf ..)).bd.mul hq.bd).num (by decide)) (nj (Nat.mul_le_mul (LA.out s (mf ..)).den ((LB.out t (mf ..)).bd.mul hq.bd).den) (by decide))) ?_;rintro _ ⟨_,-,-,⟨m3,rfl,-⟩⟩;refine .done fun W1 G1 F1=>?_
      have hm2:=lh F1 0;have hm3:=lh F1 1;replace kc:=kc.out W1 G1;clear F1 d0 d1 d2 d3 u0 u1 u2 u3 o0 o1 o2 o3 c1 c2 c3;have GB:=I (GA.trans G1.od);refine wpAny_k 16 fun K hK=>?_
      refine doesAt_wp (K:=fun v W'=>∃yv:Sv,v=Fv.v ⟨yv,k⟩∧OwnT W' w.heap.size yv (putT acc tv.var (Q.add s.2 (Q.mul t.2 q)))∧Fr (fun b=>(z.v).ownBlock=some b) W1 W') (doesAt_enter (f:=268) (args:=#[.agg #[z.v,.bool k.neg,k.num.v,k.den.v],.int .i64 tv.var,m3.v]) (by go_simp;try (first | with_reducible rfl | rfl)) ((put_any W1 w.heap.size ⟨z,k⟩ acc (Q.add x.const (Q.mul y.const q)) tv.var m3 (Q.add s.2 (Q.mul t.2 q)) (HZ.up (GA.trans G1.od)) (HK2.gr (GA.trans G1.od)) hm3.is (nt HG2.size (GA.trans G1.od).size) (by have:=HL.out;simp only[List.length_cons,List.length_nil] at this;omega) (nt ((LA.out s (mf ..)).bd.add ((LB.out t (mf ..)).bd.mul hq.bd) (by decide) (by decide)).num (by decide)) (nj ((LA.out s (mf ..)).bd.add ((LB.out t (mf ..)).bd.mul hq.bd) (by decide) (by decide)).den (by decide))).mono ?_)) ?_
      ·rintro e w' ⟨yv,rfl,h1,h2⟩;exact⟨_,rfl,yv,rfl,h1,h2⟩
      rintro v w5 ⟨yv,rfl,hy,hF⟩;refine hK.out _ _ ?_;clear hK K;refine ptt ?_;have hz9:=HZ.up GB;have DO3:=I (hF.bk (GB.bk DO2) (fun e=>hz9.ne (GB.bk DO2) (by decide) e));have DC3:=I (hF.bk (GB.bk DC) (fun e=>hz9.ne (GB.bk DC) (by decide) e));have DR3:=I (hF.bk (GB.bk DR) (fun e=>hz9.ne (GB.bk DR) (by decide) e));have hG5:=(HG2.trans GB).step hF (fun b _ e=>(hz9.lt b e).1);have hK5:=(HK2.gr GB).tf hF (fun b cs fr e hh=>(by obtain⟨ts,t1,_⟩:=hz9;obtain⟨cur,hc⟩:=rw_bk t1 b e;exact Bk.not_ty hc (by decide) _ _ hh));have HY5:=I hy;have HK5:=I hK5;have HG5:=I hG5;clear hz9 hy hF hG5 hK5 G1 hm2 hm3 kc;obtain⟨o0,o1,o2,o3⟩:=DO3.c4;have oz:=DO3.frozen;refine wo 17 ?_;refine wpe ?_;refine ks DO3 fun w6 B5 F5=>?_
      have HY6:=I (HY5.fr F5 (fun b cs fr e hh=>Bk.not_ty DO3 (by decide) cs fr (e▸hh)) fun b hb e=>HY5.ne DO3 (by decide) (e▸hb));have HK6:=I (HK5.tf F5 (fun b cs fr e hh=>Bk.not_ty DO3 (by decide) cs fr (e▸hh)));have HG6:=I (HG5.fr_at F5 HNO);have DO6:=B5;have DC6:=I (F5.bk DC3 (fun e=>Bk.ne DO3 DC3 (by decide) e.symm));have DR6:=I (F5.bk DR3 (fun e=>hro.out e.symm));clear B5 F5 o0 o1 o2 o3 oz;have hx1:(1:Int)≤(xm:Int)+1:=by omega
      have hy1:(1:Int)≤(ym:Int)+1:=by omega
      go_wp2_with fail;go_upto_region 5 with fail;refine wpr ?_;show wpAny _ _ _ _ 6 _ _ _;refine wg 0 (tf 6 0) [0,1,2,3,4,5] [] ?_;iterate 6 refine .tk ?_
      refine .done fun W1 G1 F1=>?_
      clear F1;refine wpe ?_;replace HY6:=I (HY6.up G1.od);replace HK6:=I (HK6.gr G1.od);replace HG6:=I (HG6.trans G1.od);replace DO6:=I (G1.od.bk DO6);replace DC6:=I (G1.od.bk DC6);replace DR6:=I (G1.od.bk DR6);clear G1;go_wp2;go_roundw
      ·have HY7:=I (show OwnT _ w.heap.size yv (putT acc s.1 (Q.add s.2 (Q.mul t.2 q))) from by have:=HY6.out;rw[HT.var] at this;exact this);exact⟨_,_,yv,la,lb,putT acc s.1 (Q.add s.2 (Q.mul t.2 q)),n - 1,rfl,rfl,TA.tail,TB.tail,HY7.out,(hM.symm.trans HM),I (by have:=Hn.out;simp only[List.length_cons,List.length_nil] at this ⊢;omega),I (by have:=HL.out;have:=putT_len acc s.1 (Q.add s.2 (Q.mul t.2 q));simp only[List.length_cons,List.length_nil] at *;omega),(fun i hi=>LA.out i (List.mem_cons_of_mem _ hi)),(fun i hi=>LB.out i (List.mem_cons_of_mem _ hi)),HK6.out,HG6.out,DC6.out,DR6.out,DO6.out⟩
      ·simp[lenOf];try omega
theorem lo_one:Q.one.Lo:=Q.Sm.lo ⟨by decide,by decide⟩
theorem lo_mone:Q.mone.Lo:=Q.Sm.lo ⟨by decide,by decide⟩
theorem lo_zero:Q.zero.Lo:=Q.Sm.lo ⟨by decide,by decide⟩
abbrev Fm.zero:Fm:=⟨[],Q.zero⟩
abbrev Fv.nil:Fv:=⟨Sv.none,Rv.nil⟩
theorem Fv.Is.zero (w:World):Fv.nil.Is w Fm.zero:=⟨Rows.empty,Rv.Is.zero w⟩
theorem ladd_any (w:World) (f g:Fv) (x y:Fm) (hf:f.Is w x) (hg:g.Is w y) (hx:∀t∈x.terms,t.2.Lo) (hy:∀t∈y.terms,t.2.Lo) (hk:x.const.Lo) (hl:y.const.Lo) (hn:x.terms.length+y.terms.length≤1000000):
  Calls Tryz.prog 392 #[f.v,g.v] w fun e w'=>∃r:Fv,e=.returned r.v∧r.Is w' (mrg x y Q.one)∧Gr w w':=by
 change Hid _ at hf hg hx hy hk hl;have LN:=I hn;clear hn;simp only[Rv.v,Fv.v] at*;go_enter Tryz.func392,Tryz.ntmps392;go_upto_region 1 with fail;refine nw3h fun W HG D_p D_g0 D_r=>?_
 have N_r:=dnl (w.heap.size) (w.heap.size+1+1);generalize w.heap.size+1+1=r at*;generalize w.heap.size+1=g0 at*;obtain⟨a0,a1,a2,a3⟩:=D_p.c4;obtain⟨b0,b1,b2,b3⟩:=D_g0.c4;refine wpr ?_;have kc:=I fun W' (G:Gr W.drew W')=>G.kk a0 <| G.kk a1 <| G.kk a2 <| G.kk a3 <| G.kk b0 <| G.kk b1 <| ai (G.keep b2) (G.keep b3)
 refine wg 1 (tf 4 1) [0,1,2,3] [(2,Rv.At (Q.one)),(3,Fv.At (mrg x y Q.one))] ?_;iterate 2 refine .tk ?_
 refine .dk (fun W1 G1 F1=>rof_any W1 1 (by decide) (by decide)) ?_;rintro _ ⟨_,-,-,⟨c,rfl,-⟩⟩;refine .dk (fun W1 G1 F1=>by have hc:=lk F1 0;have hc:=Rv.At.is hc;exact merge_any W1 f g x y c Q.one (hf.gr (HG.trans G1.od)) (hg.gr (HG.trans G1.od)) hc hx hy hk hl lo_one LN) ?_;rintro _ ⟨_,-,-,⟨i,rfl,-⟩⟩;refine .done fun W1 G1 F1=>?_
 have hc:=lh F1 0;have hi:=lh F1 1;clear F1;have kc1:=kc.out W1 G1;clear kc a0 a1 a2 a3 b0 b1 b2 b3;obtain⟨a0,a1,a2,a3,b0,b1,b2,b3⟩:=kc1;have hR5:=G1.od.bk D_r;refine wpAny_k 4 fun K hK=>?_
 have fz5:=hR5.frozen;have z50_:=hR5.c4;go_simp;refine hK.out _ _ ?_;clear hK K;refine ptt ?_;refine wpe ?_;obtain⟨B5,F5⟩:=hR5.put4 i.terms.v (.bool i.const.neg) i.const.num.v i.const.den.v;have H5:=I F5;have D5:=I B5;obtain⟨d0,d1,d2,d3⟩:=B5.c4;clear F5 B5;generalize (((W1.setCell ⟨r,0,none⟩ i.terms.v).setCell ⟨r,1,none⟩ (.bool i.const.neg)).setCell ⟨r,2,none⟩ i.const.num.v).setCell ⟨r,3,none⟩ i.const.den.v=W5 at*;go_wp2;refine pex ?_;refine bodyPost_ret (by simp[results,Tryz.results392,go_sem,d0,d1,d2,d3];try rfl) rfl ?_;exact⟨i,rfl,hi.is.tf' H5 hR5,(HG.trans G1.od).fr_at H5 N_r⟩
theorem lsub_any (w:World) (f g:Fv) (x y:Fm) (hf:f.Is w x) (hg:g.Is w y) (hx:∀t∈x.terms,t.2.Lo) (hy:∀t∈y.terms,t.2.Lo) (hk:x.const.Lo) (hl:y.const.Lo) (hn:x.terms.length+y.terms.length≤1000000):
  Calls Tryz.prog 334 #[f.v,g.v] w fun e w'=>∃r:Fv,e=.returned r.v∧r.Is w' (mrg x y Q.mone)∧Gr w w':=by
 change Hid _ at hf hg hx hy hk hl;have LN:=I hn;clear hn;simp only[Rv.v,Fv.v] at*;go_enter Tryz.func334,Tryz.ntmps334;go_upto_region 1 with fail;refine nw3h fun W HG D_p D_g0 D_r=>?_
 have N_r:=dnl (w.heap.size) (w.heap.size+1+1);generalize w.heap.size+1+1=r at*;generalize w.heap.size+1=g0 at*;obtain⟨a0,a1,a2,a3⟩:=D_p.c4;obtain⟨b0,b1,b2,b3⟩:=D_g0.c4;refine wpr ?_;have kc:=I fun W' (G:Gr W.drew W')=>G.kk a0 <| G.kk a1 <| G.kk a2 <| G.kk a3 <| G.kk b0 <| G.kk b1 <| ai (G.keep b2) (G.keep b3)
 refine wg 1 (tf 4 1) [0,1,2,3] [(2,Rv.At (Q.mone)),(3,Fv.At (mrg x y Q.mone))] ?_;iterate 2 refine .tk ?_
 refine .dk (fun W1 G1 F1=>rof_any W1 (-1) (by decide) (by decide)) ?_;rintro _ ⟨_,-,-,⟨c,rfl,-⟩⟩;refine .dk (fun W1 G1 F1=>by have hc:=lk F1 0;have hc:=Rv.At.is hc;exact merge_any W1 f g x y c Q.mone (hf.gr (HG.trans G1.od)) (hg.gr (HG.trans G1.od)) hc hx hy hk hl lo_mone LN) ?_;rintro _ ⟨_,-,-,⟨i,rfl,-⟩⟩;refine .done fun W1 G1 F1=>?_
 have hc:=lh F1 0;have hi:=lh F1 1;clear F1;have kc1:=kc.out W1 G1;clear kc a0 a1 a2 a3 b0 b1 b2 b3;obtain⟨a0,a1,a2,a3,b0,b1,b2,b3⟩:=kc1;have hR5:=G1.od.bk D_r;refine wpAny_k 4 fun K hK=>?_
 have fz5:=hR5.frozen;have z50_:=hR5.c4;go_simp;refine hK.out _ _ ?_;clear hK K;refine ptt ?_;refine wpe ?_;obtain⟨B5,F5⟩:=hR5.put4 i.terms.v (.bool i.const.neg) i.const.num.v i.const.den.v;have H5:=I F5;have D5:=I B5;obtain⟨d0,d1,d2,d3⟩:=B5.c4;clear F5 B5;generalize (((W1.setCell ⟨r,0,none⟩ i.terms.v).setCell ⟨r,1,none⟩ (.bool i.const.neg)).setCell ⟨r,2,none⟩ i.const.num.v).setCell ⟨r,3,none⟩ i.const.den.v=W5 at*;go_wp2;refine pex ?_;refine bodyPost_ret (by simp[results,Tryz.results334,go_sem,d0,d1,d2,d3];try rfl) rfl ?_;exact⟨i,rfl,hi.is.tf' H5 hR5,(HG.trans G1.od).fr_at H5 N_r⟩
theorem lscale_any (w:World) (f:Fv) (c:Rv) (x:Fm) (q:Q) (hf:f.Is w x) (hc:c.Is w q) (hx:∀t∈x.terms,t.2.Lo) (hk:x.const.Lo) (hq:q.Lo) (hn:x.terms.length≤1000000):
  Calls Tryz.prog 143 #[f.v,c.v] w fun e w'=>∃r:Fv,e=.returned r.v∧r.Is w' (mrg Fm.zero x q)∧Gr w w':=by
 change Hid _ at hf hc hx hk hq;have LN:=I hn;clear hn;simp only[Rv.v,Fv.v] at*;go_enter Tryz.func143,Tryz.ntmps143;go_wp2_with fail;refine nw3hc fun W HG D_p D_c0 D_r=>?_
 have a0_:=D_p.c4;have b0_:=D_c0.c3;have N_r:=dnl (w.heap.size) (w.heap.size+1+1);generalize w.heap.size+1+1=r at*;generalize w.heap.size+1=c0 at*;refine cm1 (merge_any W Fv.nil f Fm.zero x c q (Fv.Is.zero W) (hf.gr HG) (hc.gr HG) (fun t ht=>by cases ht) hx lo_zero hk hq (by show 0+_≤_;rw[Nat.zero_add];exact LN.out)) fun i w1 HI G1=>?_
 replace HG:=HG.tr G1;replace D_r:=G1.hb D_r;clear a0_ b0_;have z0_:=D_r.c4;have fz:=D_r.frozen;go_wp2;refine pex ?_;refine ks D_r fun W5 B5 F5=>?_
 have d_:=B5.c4;refine bret Tryz.results143 ?_;exact⟨i,rfl,HI.tf' F5 D_r,HG.fr_at F5 N_r⟩
end
def nx (n:Nat):List Nat→Nat×List Nat
 | []=>(0,[])
 | x::r=>(x % n,r)
theorem nx_lt {n:Nat} (h:0 < n) (r:List Nat):(nx n r).1 < n:=by
 cases r with
 | nil=>exact h
 | cons x r=>exact Nat.mod_lt _ h
def fracQ (a:Int) (b:Nat):Q:=quot (decide (a < 0)) a.natAbs b
def denN (b:Nat):Nat:=[1,1,2,4].getD b 0
def numQ (r:List Nat):Q×List Nat:=(fracQ ((nx 9 r).1 - 4) (denN (nx 4 (nx 9 r).2).1),(nx 4 (nx 9 r).2).2)
structure Q.Tiny (q:Q):Prop where
 ok:q.Ok
 num:q.num≤4
 den:q.den≤4
theorem frac_tiny:∀a,a < 9→∀b,b < 4→(fracQ ((a:Nat) - 4) (denN b)).Ok∧(fracQ ((a:Nat) - 4) (denN b)).num≤4∧(fracQ ((a:Nat) - 4) (denN b)).den≤4:=by decide
theorem numQ_tiny (r:List Nat):(numQ r).1.Tiny:=by
 obtain⟨h1,h2,h3⟩:=frac_tiny _ (nx_lt (n:=9) (by decide) r) _ (nx_lt (n:=4) (by decide) (nx 9 r).2);exact⟨h1,h2,h3⟩
def formT:Nat→Nat→List Tm→List Nat→List Tm×List Nat
 | 0,_,ts,r=>(ts,r)
 | n+1,v,ts,r=>if 0 < (nx 3 r).1 then formT n (v+1) (snoc ts v (numQ (nx 3 r).2).1) (numQ (nx 3 r).2).2 else formT n (v+1) ts (nx 3 r).2
def formQ (vars:Nat) (r:List Nat):Fm×List Nat:=(⟨(formT vars 0 [] (numQ r).2).1,(numQ r).1⟩,(formT vars 0 [] (numQ r).2).2)
structure Fm.Small (f:Fm) (vars:Nat):Prop where
 ok:f.Ok vars
 num:∀t∈f.terms,t.2.Tiny
 const:f.const.Tiny
theorem snoc_small {l:List Tm} {k c:Q} {v:Nat} (h:Fm.Small ⟨l,k⟩ v) (hc:c.Tiny):Fm.Small ⟨snoc l v c,k⟩ (v+1):=by
 refine⟨h.ok.snoc hc.ok,fun t ht=>?_,h.const⟩;unfold snoc at ht;simp only at ht;split at ht
 ·exact h.num t ht
 ·rcases List.mem_append.1 ht with h1 | h1
  ·exact h.num t h1
  ·rw[List.mem_singleton.1 h1];exact hc
theorem formT_small {k:Q}:∀(n v:Nat) (ts:List Tm) (r:List Nat),Fm.Small ⟨ts,k⟩ v→Fm.Small ⟨(formT n v ts r).1,k⟩ (v+n)
 | 0,v,ts,r,h=>h
 | n+1,v,ts,r,h=>by
  unfold formT;rw[show v+(n+1)=v+1+n by omega];split
  ·exact formT_small n (v+1) _ _ (snoc_small h (numQ_tiny _))
  ·exact formT_small n (v+1) _ _ ⟨h.ok.mono (by omega),h.num,h.const⟩
theorem formQ_small (vars:Nat) (r:List Nat):(formQ vars r).1.Small vars:=by
 have h0:Fm.Small ⟨[],(numQ r).1⟩ 0:=⟨⟨fun i s t hs=>(by simp at hs),fun t ht=>(by cases ht),(numQ_tiny r).ok⟩,fun t ht=>(by cases ht),numQ_tiny r⟩;have:=formT_small vars 0 [] (numQ r).2 h0;rw[Nat.zero_add] at this;exact this
def unitsQ:Nat→Nat→List Nat→List Fm×List Nat
 | 0,_,r=>([],r)
 | n+1,v,r=>((formQ v r).1::(unitsQ n (v+1) (formQ v r).2).1,(unitsQ n (v+1) (formQ v r).2).2)
def outsQ:Nat→Nat→List Nat→List Fm×List Nat
 | 0,_,r=>([],r)
 | n+1,v,r=>((formQ v r).1::(outsQ n v (formQ v r).2).1,(outsQ n v (formQ v r).2).2)
structure Gm where
 inputs:Nat
 units:List Fm
 outputs:List Fm
 deriving DecidableEq,Inhabited
def graphQ (r:List Nat):Gm×List Nat:=
 let i:=nx 3 r
 let u:=nx 5 i.2
 let o:=nx 3 u.2
 let us:=unitsQ u.1 (1+i.1) o.2
 let os:=outsQ (1+o.1) (1+i.1+u.1) us.2
 (⟨1+i.1,us.1,os.1⟩,os.2)
structure Gm.Ok (g:Gm):Prop where
 i0:1≤g.inputs
 i9:g.inputs≤3
 u9:g.units.length≤4
 o0:1≤g.outputs.length
 o9:g.outputs.length≤3
 us:∀(j:Nat) (f:Fm),g.units[j]?=some f→f.Small (g.inputs+j)
 os:∀f∈g.outputs,f.Small (g.inputs+g.units.length)
theorem unitsQ_len:∀(n v:Nat) (r:List Nat),(unitsQ n v r).1.length=n
 | 0,_,_=>rfl
 | n+1,v,r=>by unfold unitsQ;rw[List.length_cons,unitsQ_len]
theorem outsQ_len:∀(n v:Nat) (r:List Nat),(outsQ n v r).1.length=n
 | 0,_,_=>rfl
 | n+1,v,r=>by unfold outsQ;rw[List.length_cons,outsQ_len]
theorem unitsQ_at:∀(n v:Nat) (r:List Nat) (j:Nat) (f:Fm),(unitsQ n v r).1[j]?=some f→f.Small (v+j)
 | 0,_,_,j,f,h=>by simp[unitsQ] at h
 | n+1,v,r,0,f,h=>by
  unfold unitsQ at h;obtain rfl:(formQ v r).1=f:=by simpa using h
  exact formQ_small v r
 | n+1,v,r,j+1,f,h=>by
  unfold unitsQ at h;rw[show v+(j+1)=v+1+j by omega];exact unitsQ_at n (v+1) (formQ v r).2 j f (by simpa using h)
theorem outsQ_all:∀(n v:Nat) (r:List Nat),∀f∈(outsQ n v r).1,f.Small v
 | 0,_,_,f,h=>by simp[outsQ] at h
 | n+1,v,r,f,h=>by
  unfold outsQ at h;rcases List.mem_cons.1 h with rfl | h
  ·exact formQ_small v r
  ·exact outsQ_all n v (formQ v r).2 f h
theorem graphQ_ok (r:List Nat):(graphQ r).1.Ok:=by
 have h1:=nx_lt (n:=3) (by decide) r;have h2:=nx_lt (n:=5) (by decide) (nx 3 r).2;have h3:=nx_lt (n:=3) (by decide) (nx 5 (nx 3 r).2).2;unfold graphQ;refine⟨by simp only;omega,by simp only;omega,?_,?_,?_,fun j f hf=>unitsQ_at _ _ _ j f hf,fun f hf=>?_⟩
 ·simp only[unitsQ_len];omega
 ·simp only[outsQ_len];omega
 ·simp only[outsQ_len];omega
 ·have:=outsQ_all _ _ _ f hf;simp only[unitsQ_len];exact this
section
attribute [local go_sem] Oper.semAt_some
structure Gv where
 inputs:Int
 units:Sv
 outs:Sv
abbrev Gv.v (g:Gv):Value:=.agg #[.int .i64 g.inputs,.slice g.units.A g.units.n g.units.c,.slice g.outs.A g.outs.n g.outs.c]
structure Gv.Is (w:World) (g:Gv) (x:Gm):Prop where
 inputs:g.inputs=x.inputs
 units:Forms w g.units x.units
 outs:Forms w g.outs x.outputs
theorem Gv.Is.gr {w w':World} {g:Gv} {x:Gm} (h:g.Is w x) (G:Gr w w'):g.Is w' x:=⟨h.inputs,h.units.gr G,h.outs.gr G⟩
instance kpGv {x:Gv} {q} {w w'}:Kp (x.Is w q) w w' (x.Is w' q):=⟨fun G h=>h.gr G⟩
structure Fm.Sm (f:Fm) (vars:Nat):Prop where
 ok:f.Ok vars
 num:∀t∈f.terms,t.2.Sm
 const:f.const.Sm
structure Gm.Va (g:Gm):Prop where
 i0:1≤g.inputs
 i9:g.inputs≤256
 u9:g.units.length≤1024
 o0:1≤g.outputs.length
 o9:g.outputs.length≤256
 us:∀(j:Nat) (f:Fm),g.units[j]?=some f→f.Sm (g.inputs+j)
 os:∀f∈g.outputs,f.Sm (g.inputs+g.units.length)
theorem Q.Tiny.sm {q:Q} (h:q.Tiny):q.Sm:=⟨nj h.num (by decide),nj h.den (by decide)⟩
theorem Fm.Small.sm {f:Fm} {n:Nat} (h:f.Small n):f.Sm n:=⟨h.ok,fun t ht=>(h.num t ht).sm,h.const.sm⟩
theorem Gm.Ok.va {g:Gm} (h:g.Ok):g.Va:=⟨h.i0,nt h.i9 (by decide),nt h.u9 (by decide),h.o0,nt h.o9 (by decide),fun j f hf=>(h.us j f hf).sm,fun f hf=>(h.os f hf).sm⟩
theorem gclo_any (w:World) (f:Fv) (x:Fm) (vars:Nat) (b:Nat) (hf:f.Is w x) (hx:x.Sm vars) (hb:Bk w b 3 #[.int .i64 vars]):
  Calls Tryz.prog 189 #[f.v,.pointer (some ⟨b,0,none⟩)] w fun e w'=>e=.returned (.bool false)∧Gr w w':=by
 obtain⟨B1,G⟩:=made1 w 40 (f.ar);have HG:=I G;have D_p:=I B1;clear G B1;change Hid _ at hf hx;have v0:=(HG.bk hb).cell 0;have a0_:=D_p.c4;clear hb;simp only[Fv.v] at*;go_enter Tryz.func189,Tryz.ntmps189;go_wp2_with fail;generalize hW:w.alloc (.cells f.ar 40)=W at*;clear hW;go_at_call 86
 refine cm0 (lvalid_any W f x vars (hf.gr HG) hx.ok (fun t ht=>(hx.num t ht).lo) hx.const.lo) fun w1 G1=>?_
 replace HG:=HG.tr G1

 go_wp2;go_ret;exact⟨rfl,HG.out⟩
theorem gidx_any (w:World) (l:Sv) (xs:List Fm) (vars:Nat) (b:Nat) (hl:Forms w l xs) (hx:∀x∈xs,x.Sm vars) (hb:Bk w b 3 #[.int .i64 vars]):
  Calls Tryz.prog 195 #[.slice l.A l.n l.c,.func (.func 189) #[] #[.pointer (some ⟨b,0,none⟩)]] w fun e w'=>e=.returned (.int .i64 (-1))∧Gr w w':=by
 obtain⟨A,n,c⟩:=l;have hn:xs.length=n:=hl.len;have hm:n≤9223372036854775807:=(by obtain⟨_,h1,_⟩:=hl;exact nt h1.cap h1.max);have HL:=I hl;have HX:=I hx;have HB:=I hb;have HN:=I hn;have HM:=I hm;clear hl hx hb hn hm;go_enter Tryz.func195,Tryz.ntmps195;go_wp2_with fail;go_loopw [8] (fun i wr=>∃k:Nat,i=.int .i64 k∧k≤n∧Hid (Gr w wr)) (fun i _=>n - (intOf i).toNat)
 case atStart=>exact⟨0,rfl,nq _,Gr.refl w⟩
 case round=>
  obtain⟨k,rfl,hk,HG⟩:=hrel;by_cases hkn:k < n
  ·obtain⟨q,hq⟩:∃q,xs[k]?=some q:=⟨_,ge (by rw[HN.out];exact hkn)⟩;obtain⟨f,ad,hf,hA,d0,d1,d2,d3⟩:=(HL.gr HG).at hq;simp only at hA;subst hA;have hm9:k < 9223372036854775807:=nk hkn HM;have HC:=I (gclo_any wr f q vars b hf (HX.out q (mg hq)) (HG.bk HB));clear hq hf;simp only[Fv.v] at HC;go_wp2_with fail;refine cm0 HC fun w1 G1=>?_
   have HG1:=I (HG.trans G1);clear HC;go_wp2;go_roundw
   ·exact⟨k+1,by go_num,by omega,HG1⟩
   ·simp[intOf];omega
  ·obtain rfl:k=n:=by omega
   go_wp2;go_ret;exact⟨rfl,HG.out⟩
theorem gcon_any (w:World) (l:Sv) (xs:List Fm) (vars:Nat) (b:Nat) (hl:Forms w l xs) (hx:∀x∈xs,x.Sm vars) (hb:Bk w b 3 #[.int .i64 vars]):
  Calls Tryz.prog 134 #[l.v,.func (.func 189) #[] #[.pointer (some ⟨b,0,none⟩)]] w fun e w'=>e=.returned (.bool false)∧Gr w w':=by
 have H1:=I (gidx_any w l xs vars b hl hx hb);clear hl hx hb;go_enter Tryz.func134,Tryz.ntmps134;go_wp2_with fail;refine cm0 H1 fun w1 G1=>?_
 have HG:=I G1;clear H1;go_wp2;go_ret;exact⟨rfl,HG.out⟩
theorem gall_any (w:World) (l:Sv) (xs:List Fm) (vars:Nat) (hl:Forms w l xs) (hx:∀x∈xs,x.Sm vars):
  Calls Tryz.prog 131 #[l.v,.int .i64 vars] w fun e w'=>e=.returned (.bool true)∧Gr w w':=by
 go_enter Tryz.func131,Tryz.ntmps131;go_wp2_with fail;refine nw1hc fun W HG D_p=>?_
 have G9:=HG.out;have H1:=I (gcon_any _ l xs vars _ (hl.gr G9) hx D_p);clear hl hx;clear G9;refine cm0 H1 fun w1 G1=>?_
 replace HG:=HG.tr G1;clear H1;go_wp2;go_ret;exact⟨rfl,HG.out⟩
theorem gvalid_any (w:World) (g:Gv) (x:Gm) (hg:g.Is w x) (hx:x.Va):
  Calls Tryz.prog 84 #[g.v] w fun e w'=>e=.returned (.bool true)∧Gr w w':=by
 obtain⟨gi,⟨uA,un,uc⟩,⟨oA,on,oc⟩⟩:=g;obtain rfl:gi=x.inputs:=hg.inputs;have hun:x.units.length=un:=hg.units.len;have hon:x.outputs.length=on:=hg.outs.len;have hi:((x.inputs:Int) < 1)=False:=by have:=hx.i0;simp;omega
 have hj:((256:Int) < (x.inputs:Int))=False:=by have:=hx.i9;simp;omega
 have hk:((1024:Int) < (un:Int))=False:=by have:=hx.u9;simp;omega
 have hl:((on:Int) < 1)=False:=by have:=hx.o0;simp;omega
 have hm:((256:Int) < (on:Int))=False:=by have:=hx.o9;simp;omega
 have i1:decide ((x.inputs:Int) < 1)=false:=by simp[hi]
 have i2:decide ((256:Int) < (x.inputs:Int))=false:=by simp[hj]
 have i3:decide ((1024:Int) < (un:Int))=false:=by simp[hk]
 have i4:decide ((on:Int) < 1)=false:=by simp[hl]
 have i5:decide ((256:Int) < (on:Int))=false:=by simp[hm]
 clear hi hj hk hl hm;change Hid _ at hg hx;have HU:=I hun;clear hun hon;simp only[Gv.v] at*;go_enter Tryz.func84,Tryz.ntmps84;go_wp2_with fail;refine nw1h fun W HG D_p=>?_
 obtain⟨a0,a1,a2⟩:=D_p.c3;go_loopw [34] (fun i wr=>∃k:Nat,i=.int .i64 k∧k≤un∧Hid (Gr w wr)∧Hid (Bk wr w.heap.size 30 #[.int .i64 x.inputs,.slice uA un uc,.slice oA on oc])) (fun i _=>un - (intOf i).toNat)
 case atStart=>exact⟨0,rfl,nq _,HG,D_p⟩
 case round=>
  obtain⟨k,rfl,hk,HG2,DP⟩:=hrel;clear HG D_p a0 a1 a2;obtain⟨a0,a1,a2⟩:=DP.c3;by_cases hkn:k < un
  ·obtain⟨q,hq⟩:∃q,x.units[k]?=some q:=⟨_,ge (by rw[HU.out];exact hkn)⟩;obtain⟨f,ad,hf,hA,d0,d1,d2,d3⟩:=(hg.units.gr HG2).at hq;simp only at hA;subst hA;have hs:=hx.us k q hq;have HS:=I hs;have HF:=I hf;have hm9:k≤1024:=nt hk (HU.out▸hx.u9);have hm8:x.inputs≤256:=hx.i9;have hm7:IntKind.i64.wrap ((x.inputs:Int)+(k:Int))=((x.inputs+k:Nat):Int):=by rw[wi _ (by omega)];omega
   clear hs hq hf;have G0:=Gr.alloc (Gr.refl wr) (.cells f.ar 40);have B1:=Bk.made wr 40 f.ar;have c0_:=B1.c4;have GT:=I G0;replace a0:=G0.keep a0;clear G0 B1 a1 a2;go_wp2_with fail;clear d0 d1 d2 d3;generalize wr.alloc (.cells f.ar 40)=W3 at*;generalize wr.heap.size=tb at*;refine cm0 (lvalid_any W3 f q (x.inputs+k) (HF.gr GT) HS.ok (fun t ht=>(HS.num t ht).lo) HS.const.lo) fun w1 G1=>?_
   have HG4:=I (HG2.trans (GT.trans G1));have DP4:=I ((GT.trans G1).bk DP);clear a0 c0_;go_wp2;go_roundw
   ·exact⟨k+1,by go_num,by omega,HG4,DP4⟩
   ·simp[intOf];omega
  ·obtain rfl:k=un:=by omega
   have hm9:k≤1024:=HU.out▸hx.u9;have hm8:x.inputs≤256:=hx.i9;have hm7:IntKind.i64.wrap ((x.inputs:Int)+(k:Int))=((x.inputs+k:Nat):Int):=by rw[wi _ (by omega)];omega
   have H5:=I (gall_any wr ⟨oA,on,oc⟩ x.outputs (x.inputs+k) (hg.outs.gr HG2) (by rw[← HU.out];exact hx.os));go_wp2_with fail;refine cm0 H5 fun w1 G1=>?_
   have HG3:=I (HG2.trans G1);clear H5;go_wp2;go_ret;exact⟨rfl,HG3.out⟩
theorem r7all_any (w:World) (l:Sv) (xs:List Fm) (vars:Nat) (hl:Forms w l xs) (hx:∀x∈xs,x.Sm vars):
  Calls Tryz.prog 123 #[.slice l.A l.n l.c,.int .i64 vars] w fun e w'=>e=.returned (.bool true)∧Gr w w':=by
 obtain⟨A,n,c⟩:=l;have hn:xs.length=n:=hl.len;have hm:n≤9223372036854775807:=(by obtain⟨_,h1,_⟩:=hl;exact nt h1.cap h1.max);have HL:=I hl;have HX:=I hx;have HN:=I hn;have HM:=I hm;clear hl hx hn hm;go_enter Tryz.func123,Tryz.ntmps123;go_wp2_with fail;go_loopw [5] (fun i wr=>∃k:Nat,i=.int .i64 k∧k≤n∧Hid (Gr w wr)) (fun i _=>n - (intOf i).toNat)
 case atStart=>exact⟨0,rfl,nq _,Gr.refl w⟩
 case round=>
  obtain⟨k,rfl,hk,HG⟩:=hrel;by_cases hkn:k < n
  ·obtain⟨q,hq⟩:∃q,xs[k]?=some q:=⟨_,ge (by rw[HN.out];exact hkn)⟩;obtain⟨f,ad,hf,hA,d0,d1,d2,d3⟩:=(HL.gr HG).at hq;simp only at hA;subst hA;have hm9:k < 9223372036854775807:=nk hkn HM;have hs:=HX.out q (mg hq);have HC:=I (r7valid_any wr f q vars hf hs.ok hs.num hs.const);clear hq hf hs;simp only[Fv.v] at HC;go_wp2_with fail;refine cm0 HC fun w1 G1=>?_
   have HG1:=I (HG.trans G1);clear HC;go_wp2;go_roundw
   ·exact⟨k+1,by go_num,by omega,HG1⟩
   ·simp[intOf];omega
  ·obtain rfl:k=n:=by omega
   go_wp2;go_ret;exact⟨rfl,HG.out⟩
theorem r15valid_any (w:World) (g:Gv) (x:Gm) (hg:g.Is w x) (hx:x.Va):
  Calls Tryz.prog 67 #[g.v] w fun e w'=>e=.returned (.bool true)∧Gr w w':=by
 obtain⟨gi,⟨uA,un,uc⟩,⟨oA,on,oc⟩⟩:=g;obtain rfl:gi=x.inputs:=hg.inputs;have hun:x.units.length=un:=hg.units.len;have hon:x.outputs.length=on:=hg.outs.len;have hi:((x.inputs:Int) < 1)=False:=by have:=hx.i0;simp;omega
 have hj:((256:Int) < (x.inputs:Int))=False:=by have:=hx.i9;simp;omega
 have hk:((1024:Int) < (un:Int))=False:=by have:=hx.u9;simp;omega
 have hl:((on:Int) < 1)=False:=by have:=hx.o0;simp;omega
 have hm:((256:Int) < (on:Int))=False:=by have:=hx.o9;simp;omega
 have i1:decide ((x.inputs:Int) < 1)=false:=by simp[hi]
 have i2:decide ((256:Int) < (x.inputs:Int))=false:=by simp[hj]
 have i3:decide ((1024:Int) < (un:Int))=false:=by simp[hk]
 have i4:decide ((on:Int) < 1)=false:=by simp[hl]
 have i5:decide ((256:Int) < (on:Int))=false:=by simp[hm]
 clear hi hj hk hl hm;change Hid _ at hg hx;have HU:=I hun;clear hun hon;simp only[Gv.v] at*;go_enter Tryz.func67,Tryz.ntmps67;go_wp2_with fail;refine nw1h fun W HG D_p=>?_
 obtain⟨a0,a1,a2⟩:=D_p.c3;go_loopw [3] (fun i wr=>∃k:Nat,i=.int .i64 k∧k≤un∧Hid (Gr w wr)∧Hid (Bk wr w.heap.size 30 #[.int .i64 x.inputs,.slice uA un uc,.slice oA on oc])) (fun i _=>un - (intOf i).toNat)
 case atStart=>exact⟨0,rfl,nq _,HG,D_p⟩
 case round=>
  obtain⟨k,rfl,hk,HG2,DP⟩:=hrel;clear HG D_p a0 a1 a2;obtain⟨a0,a1,a2⟩:=DP.c3;by_cases hkn:k < un
  ·obtain⟨q,hq⟩:∃q,x.units[k]?=some q:=⟨_,ge (by rw[HU.out];exact hkn)⟩;obtain⟨f,ad,hf,hA,d0,d1,d2,d3⟩:=(hg.units.gr HG2).at hq;simp only at hA;subst hA;have hs:=hx.us k q hq;have HS:=I hs;have HF:=I hf;have hm9:k≤1024:=nt hk (HU.out▸hx.u9);have hm8:x.inputs≤256:=hx.i9;have hm7:IntKind.i64.wrap ((x.inputs:Int)+(k:Int))=((x.inputs+k:Nat):Int):=by rw[wi _ (by omega)];omega
   clear hs hq hf;go_wp2_with fail;go_upto_region 6 with fail;refine wpr ?_;have kc:=I fun W' (G:Gr wr.drew W')=>G.kk a0 <| G.kk a1 <| G.kk a2 <| G.kk d0 <| G.kk d1 <| ai (G.keep d2) (G.keep d3)
   refine wg 0 (tf 11 0) [0,1,2,3,4,5,6,7,8,9,10] [(9,fun v _=>v=.bool true)] ?_;iterate 9 refine .tk ?_
   refine .dk (fun W1 G1 F1=>r7valid_any W1 f q (x.inputs+k) (HF.gr G1.od) HS.ok (fun t ht=>(HS.num t ht)) HS.const) ?_;rintro _ ⟨_,-,-,rfl⟩;refine .tk ?_;refine .done fun W1 G1 F1=>?_
   clear F1;refine wpe ?_;have HG4:=I (HG2.trans G1.od);have DP4:=I (G1.od.bk DP);clear G1 kc a0 a1 a2 d0 d1 d2 d3;go_wp2;go_roundw
   ·exact⟨k+1,by go_num,by omega,HG4,DP4⟩
   ·simp[intOf];omega
  ·obtain rfl:k=un:=by omega
   have hm9:k≤1024:=HU.out▸hx.u9;have hm8:x.inputs≤256:=hx.i9;have hm7:IntKind.i64.wrap ((x.inputs:Int)+(k:Int))=((x.inputs+k:Nat):Int):=by rw[wi _ (by omega)];omega
   have H5:=I (r7all_any wr ⟨oA,on,oc⟩ x.outputs (x.inputs+k) (hg.outs.gr HG2) (by rw[← HU.out];exact hx.os));go_wp2_with fail;refine cm0 H5 fun w1 G1=>?_
   have HG3:=I (HG2.trans G1);clear H5;go_wp2;go_ret;exact⟨rfl,HG3.out⟩
theorem gvalid0 (w:World):Calls Tryz.prog 84 #[.agg #[.int .i64 0,Nl,Nl]] w fun e w'=>e=.returned (.bool false)∧Gr w w':=by
 go_enter Tryz.func84,Tryz.ntmps84;go_wp2_with fail;refine nw1h fun W HG D_p=>?_
 have a0_:=D_p.c3;go_wp2;go_ret;exact⟨rfl,HG.out⟩
theorem Bk.c6 {w:World} {p t:Nat} {a b c d e f:Value} (h:Bk w p t #[a,b,c,d,e,f]):w.cell? ⟨p,0,none⟩=some a∧w.cell? ⟨p,1,none⟩=some b∧w.cell? ⟨p,2,none⟩=some c∧w.cell? ⟨p,3,none⟩=some d∧w.cell? ⟨p,4,none⟩=some e∧w.cell? ⟨p,5,none⟩=some f:=⟨h.cell 0,h.cell 1,h.cell 2,h.cell 3,h.cell 4,h.cell 5⟩
theorem Bk.c10 {w:World} {p t:Nat} {a b c d e f g h i j:Value} (hh:Bk w p t #[a,b,c,d,e,f,g,h,i,j]):w.cell? ⟨p,0,none⟩=some a∧w.cell? ⟨p,1,none⟩=some b∧w.cell? ⟨p,2,none⟩=some c∧w.cell? ⟨p,3,none⟩=some d∧w.cell? ⟨p,4,none⟩=some e∧w.cell? ⟨p,5,none⟩=some f∧w.cell? ⟨p,6,none⟩=some g∧w.cell? ⟨p,7,none⟩=some h∧w.cell? ⟨p,8,none⟩=some i∧w.cell? ⟨p,9,none⟩=some j:=⟨hh.cell 0,hh.cell 1,hh.cell 2,hh.cell 3,hh.cell 4,hh.cell 5,hh.cell 6,hh.cell 7,hh.cell 8,hh.cell 9⟩
theorem Bk.c12 {w:World} {p t:Nat} {a b c d e f g h i j k l:Value} (hh:Bk w p t #[a,b,c,d,e,f,g,h,i,j,k,l]):w.cell? ⟨p,0,none⟩=some a∧w.cell? ⟨p,1,none⟩=some b∧w.cell? ⟨p,2,none⟩=some c∧w.cell? ⟨p,3,none⟩=some d∧w.cell? ⟨p,4,none⟩=some e∧w.cell? ⟨p,5,none⟩=some f∧w.cell? ⟨p,6,none⟩=some g∧w.cell? ⟨p,7,none⟩=some h∧w.cell? ⟨p,8,none⟩=some i∧w.cell? ⟨p,9,none⟩=some j∧w.cell? ⟨p,10,none⟩=some k∧w.cell? ⟨p,11,none⟩=some l:=⟨hh.cell 0,hh.cell 1,hh.cell 2,hh.cell 3,hh.cell 4,hh.cell 5,hh.cell 6,hh.cell 7,hh.cell 8,hh.cell 9,hh.cell 10,hh.cell 11⟩
theorem Rv.len (r:Rv):r.cs.length=3:=rfl
theorem Rv.one (r:Rv):∀u∈r.cs,u.oneCell'=true:=fun u hu=>by
 simp only[Rv.cs,List.mem_cons,List.not_mem_nil,or_false] at hu;rcases hu with rfl | rfl | rfl<;>rfl
abbrev Rats (w:World) (x:Sv) (l:List Q):Prop:=Rows Rv.cs (fun w r q=>r.Is w q) 38 3 w x l
theorem Rats.gr {w w':World} {x:Sv} {l:List Q} (h:Rats w x l) (G:Gr w w'):Rats w' x l:=Rows.gr (fun h G=>Rv.Is.gr h G) h G
instance kpRs {x l} {w w'}:Kp (Rats w x l) w w' (Rats w' x l):=⟨fun G h=>Rats.gr h G⟩
theorem Rats.len {w:World} {x:Sv} {l:List Q} (h:Rats w x l):l.length=x.n:=Rows.len Rv.len (by decide) h
theorem Rats.at {w:World} {x:Sv} {l:List Q} (h:Rats w x l) {i:Nat} {a:Q} (ha:l[i]?=some a):
  ∃(t:Rv) (ad:Addr),t.Is w a∧x.A=some ad∧w.cell? (ad.add (i*3))=some (.bool t.neg)∧w.cell? ⟨(ad.add (i*3)).block,(ad.add (i*3)).off+1,none⟩=some (.slice t.num.A t.num.n t.num.c)∧w.cell? ⟨(ad.add (i*3)).block,(ad.add (i*3)).off+2,none⟩=some (.slice t.den.A t.den.n t.den.c):=by
 obtain⟨t,ht,hc⟩:=Rows.at Rv.len h ha;obtain⟨ad,hA,_,c0⟩:=hc 0 _ rfl;obtain⟨ad1,h1,_,c1⟩:=hc 1 _ rfl;obtain⟨ad2,h2,_,c2⟩:=hc 2 _ rfl;rw[hA] at h1 h2;cases h1;cases h2
 rw[add_in _ _ (by decide)] at c1 c2;exact⟨t,ad,ht,hA,c0,c1,c2⟩
structure Qm where
 g:Gm
 lo:List Q
 hi:List Q
 goal:Fm
structure Qv where
 g:Gv
 lo:Sv
 hi:Sv
 rows:Sv
 goal:Fv
abbrev Qv.v (q:Qv):Value:=.agg #[.int .i64 q.g.inputs,.slice q.g.units.A q.g.units.n q.g.units.c,.slice q.g.outs.A q.g.outs.n q.g.outs.c,.slice q.lo.A q.lo.n q.lo.c,.slice q.hi.A q.hi.n q.hi.c,.slice q.rows.A q.rows.n q.rows.c,.slice q.goal.terms.A q.goal.terms.n q.goal.terms.c,.bool q.goal.const.neg,.slice q.goal.const.num.A q.goal.const.num.n q.goal.const.num.c,.slice q.goal.const.den.A q.goal.const.den.n q.goal.const.den.c]
abbrev Qv.qs (q:Qv):Array Value:=#[.int .i64 q.g.inputs,.slice q.g.units.A q.g.units.n q.g.units.c,.slice q.g.outs.A q.g.outs.n q.g.outs.c,.slice q.lo.A q.lo.n q.lo.c,.slice q.hi.A q.hi.n q.hi.c,.slice none 0 0,.slice q.goal.terms.A q.goal.terms.n q.goal.terms.c,.bool q.goal.const.neg,.slice q.goal.const.num.A q.goal.const.num.n q.goal.const.num.c,.slice q.goal.const.den.A q.goal.const.den.n q.goal.const.den.c]
abbrev Qv.qo (q:Qv):Array Value:=#[.int .i64 q.g.inputs,.slice q.g.units.A q.g.units.n q.g.units.c,.slice q.g.outs.A q.g.outs.n q.g.outs.c,.slice q.lo.A q.lo.n q.lo.c,.slice q.hi.A q.hi.n q.hi.c,.slice none 0 0,.slice q.goal.terms.A q.goal.terms.n q.goal.terms.c,.bool q.goal.const.neg,.slice q.goal.const.num.A q.goal.const.num.n q.goal.const.num.c,.slice q.goal.const.den.A q.goal.const.den.n q.goal.const.den.c,.slice none 0 0,.slice none 0 0]
abbrev Qv.qp (q:Qv) (v:Nat):Array Value:=#[.int .i64 q.g.inputs,.slice q.g.units.A q.g.units.n q.g.units.c,.slice q.g.outs.A q.g.outs.n q.g.outs.c,.slice q.lo.A q.lo.n q.lo.c,.slice q.hi.A q.hi.n q.hi.c,.slice none 0 0,.slice q.goal.terms.A q.goal.terms.n q.goal.terms.c,.bool q.goal.const.neg,.slice q.goal.const.num.A q.goal.const.num.n q.goal.const.num.c,.slice q.goal.const.den.A q.goal.const.den.n q.goal.const.den.c,.slice none 0 0,.slice none 0 0,.pointer (some ⟨v,0,none⟩)]
abbrev Qv.qz (q:Qv) (z:Sv):Array Value:=#[.int .i64 q.g.inputs,.slice q.g.units.A q.g.units.n q.g.units.c,.slice q.g.outs.A q.g.outs.n q.g.outs.c,.slice q.lo.A q.lo.n q.lo.c,.slice q.hi.A q.hi.n q.hi.c,.slice none 0 0,.slice q.goal.terms.A q.goal.terms.n q.goal.terms.c,.bool q.goal.const.neg,.slice q.goal.const.num.A q.goal.const.num.n q.goal.const.num.c,.slice q.goal.const.den.A q.goal.const.den.n q.goal.const.den.c,.slice none 0 0,.slice z.A z.n z.c]
abbrev Qv.qb (q:Qv) (z:Sv):Array Value:=#[.int .i64 q.g.inputs,.slice q.g.units.A q.g.units.n q.g.units.c,.slice q.g.outs.A q.g.outs.n q.g.outs.c,.slice q.lo.A q.lo.n q.lo.c,.slice q.hi.A q.hi.n q.hi.c,.slice none 0 0,.slice q.goal.terms.A q.goal.terms.n q.goal.terms.c,.bool q.goal.const.neg,.slice q.goal.const.num.A q.goal.const.num.n q.goal.const.num.c,.slice q.goal.const.den.A q.goal.const.den.n q.goal.const.den.c,.slice none 0 0,.slice z.A z.n z.c,.slice none 0 0]
attribute [go_sem] Qv.qs Qv.qo Qv.qp Qv.qz Qv.qb
structure Qv.Is (w:World) (q:Qv) (x:Qm):Prop where
 g:q.g.Is w x.g
 lo:Rats w q.lo x.lo
 hi:Rats w q.hi x.hi
 rows:q.rows=Sv.none
 goal:q.goal.Is w x.goal
theorem Qv.Is.gr {w w':World} {q:Qv} {x:Qm} (h:q.Is w x) (G:Gr w w'):q.Is w' x:=⟨h.g.gr G,h.lo.gr G,h.hi.gr G,h.rows,h.goal.gr G⟩
instance kpQv {x:Qv} {q} {w w'}:Kp (x.Is w q) w w' (x.Is w' q):=⟨fun G h=>h.gr G⟩
structure Qm.Va (x:Qm):Prop where
 g:x.g.Va
 lo:x.lo.length=x.g.inputs
 hi:x.hi.length=x.g.inputs
 los:∀q∈x.lo,q.Sm∧q.Ok
 his:∀q∈x.hi,q.Sm∧q.Ok
 le:∀(i:Nat) (a b:Q),x.lo[i]?=some a→x.hi[i]?=some b→Q.cmpQ a b≤0
 goal:x.goal.Sm (x.g.inputs+x.g.units.length)
theorem idxF0 (w:World) (fv:Value):
  Calls Tryz.prog 195 #[Nl,fv] w fun e w'=>e=.returned (.int .i64 (-1))∧Gr w w':=by
 go_enter Tryz.func195,Tryz.ntmps195;go_wp2_with fail;go_rounds 1
 go_ret;exact⟨rfl,Gr.refl w⟩
theorem conF0 (w:World) (fv:Value):
  Calls Tryz.prog 134 #[Nl,fv] w fun e w'=>e=.returned (.bool false)∧Gr w w':=by
 go_enter Tryz.func134,Tryz.ntmps134;go_wp2_with fail;refine cm0 (idxF0 w fv) fun w1 G=>?_
 go_wp2;go_ret;exact⟨rfl,G⟩
theorem idxD0 (w:World) (fv:Value):
  Calls Tryz.prog 111 #[Nl,fv] w fun e w'=>e=.returned (.int .i64 (-1))∧Gr w w':=by
 go_enter Tryz.func111,Tryz.ntmps111;go_wp2_with fail;go_rounds 1
 go_ret;exact⟨rfl,Gr.refl w⟩
theorem conD0 (w:World) (fv:Value):
  Calls Tryz.prog 55 #[Nl,fv] w fun e w'=>e=.returned (.bool false)∧Gr w w':=by
 go_enter Tryz.func55,Tryz.ntmps55;go_wp2_with fail;refine cm0 (idxD0 w fv) fun w1 G=>?_
 go_wp2;go_ret;exact⟨rfl,G⟩
theorem rgvalid_any (w:World) (lo hi:Sv) (l h:List Q) (n:Nat) (hl:Rats w lo l) (hh:Rats w hi h) (h1:1≤n) (h2:n≤256) (hln:l.length=n) (hhn:h.length=n) (hls:∀q∈l,q.Sm∧q.Ok) (hhs:∀q∈h,q.Sm∧q.Ok) (hle:∀(i:Nat) (a b:Q),l[i]?=some a→h[i]?=some b→Q.cmpQ a b≤0):
  Calls Tryz.prog 85 #[.agg #[lo.v,hi.v,Nl],.int .i64 n] w fun e w'=>e=.returned (.bool true)∧Gr w w':=by
 have e1:=hl.len;have e2:=hh.len;obtain⟨lA,ln,lc⟩:=lo;obtain⟨hA,hn,hc⟩:=hi;simp only at e1 e2;obtain rfl:ln=n:=by omega
 obtain rfl:hn=ln:=by omega
 have n0:decide ((hn:Int) < 1)=false:=by simp;omega
 have n1:decide ((256:Int) < (hn:Int))=false:=by simp;omega
 have m0:decide (hn < 1)=false:=by simp;omega
 have m1:decide (256 < hn)=false:=by simp;omega
 clear e1 e2;have HL:=I hl;have HH:=I hh;change Hid _ at hln hhn hls hhs hle;clear hl hh;go_enter Tryz.func85,Tryz.ntmps85;go_upto_region 1 with fail;refine nw2h fun W HG D_a D_b=>?_
 generalize w.heap.size+1=b at*;obtain⟨a0,a1,a2⟩:=D_a.c3;have b0:=D_b.c1;go_wp2_with fail;go_loopw [36] (fun i wr=>∃k:Nat,i=.int .i64 k∧k≤hn∧Hid (Gr w wr)∧Hid (Bk wr w.heap.size 33 #[.slice lA hn lc,.slice hA hn hc,Nl])∧Hid (Bk wr b 3 #[.int .i64 hn])) (fun i _=>hn - (intOf i).toNat)
 case atStart=>exact⟨0,rfl,nq _,HG,D_a,D_b⟩
 case round=>
  obtain⟨k,rfl,hk,HG2,DA,DB⟩:=hrel;clear HG D_a D_b a0 a1 a2 b0;obtain⟨a0,a1,a2⟩:=DA.c3;by_cases hkn:k < hn
  ·obtain⟨x,hx⟩:∃x,l[k]?=some x:=⟨_,ge (by rw[hln.out];exact hkn)⟩;obtain⟨y,hy⟩:∃y,h[k]?=some y:=⟨_,ge (by rw[hhn.out];exact hkn)⟩;obtain⟨t,ad,ht,hA1,d0,d1,d2⟩:=(HL.gr HG2).at hx;obtain⟨s,bd,hs,hA2,e0,e1,e2⟩:=(HH.gr HG2).at hy;simp only at hA1 hA2;subst hA1 hA2;have HT:=I ht;have HS:=I hs;have HX:=I (hls.out x (mg hx));have HY:=I (hhs.out y (mg hy));have hcm:=hle.out k x y hx hy;generalize hcc:Q.cmpQ x y=cm at*;have HCM:=I hcc;have n2:decide (0 < cm)=false:=by simp;omega
   have hm9:k < 9223372036854775807:=by omega
   clear hx hy ht hs hcc hcm;go_wp2_with fail;go_upto_region 6 with fail;obtain⟨B1,GB⟩:=made1 wr 38 t.ar;have GT:=I GB;obtain⟨c0,c1,c2⟩:=B1.c3;replace a0:=GB.keep a0;replace a1:=GB.keep a1;replace a2:=GB.keep a2;replace e0:=GB.keep e0;replace e1:=GB.keep e1;replace e2:=GB.keep e2;clear B1 GB d0 d1 d2;generalize wr.alloc (.cells t.ar 38)=W3 at*;generalize wr.heap.size=tb at*;refine wpr ?_;have kc:=I fun W' (G:Gr W3.drew W')=>G.kk c0 <| G.kk c1 <| G.kk c2 <| G.kk a0 <| G.kk a1 <| G.kk a2 <| G.kk e0 <| ai (G.keep e1) (G.keep e2)
   refine wg 0 (tf 22 0) [0,1,2,3,4,5,6,7,8,9,10,11,12,13,14,15,16,17,18,19,20,21] [(1,fun v _=>v=.bool true),(9,fun v _=>v=.bool true),(19,fun v _=>v=.int .i64 cm)] ?_;refine .tk ?_;refine .dk (fun W1 G1 F1=>rvalid_any W1 t x (HT.gr (GT.trans G1.od)) HX.2 (nt HX.1.lo.num (by decide)) (nj HX.1.lo.den (by decide))) ?_;rintro _ ⟨_,-,-,rfl⟩;iterate 7 refine .tk ?_
   refine .dk (fun W1 G1 F1=>rvalid_any W1 s y (HS.gr (GT.trans G1.od)) HY.2 (nt HY.1.lo.num (by decide)) (nj HY.1.lo.den (by decide))) ?_;rintro _ ⟨_,-,-,rfl⟩;iterate 9 refine .tk ?_
   refine .dk (fun W1 G1 F1=>(show Calls _ _ _ _ (fun e w'=>e=.returned (.int .i64 cm)∧Gr W1 w') from by rw[← HCM.out];exact rcmp3_any W1 t s x y (HT.gr (GT.trans G1.od)) (HS.gr (GT.trans G1.od)) (nt HX.1.lo.num (by decide)) (nt HY.1.lo.num (by decide)) (nj HX.1.lo.den (by decide)) (nj HY.1.lo.den (by decide)))) ?_;rintro _ ⟨_,-,-,rfl⟩;iterate 2 refine .tk ?_
   refine .done fun W1 G1 F1=>?_
   clear F1;refine wpe ?_;have HG4:=I (HG2.trans (GT.trans G1.od));have DA4:=I ((GT.trans G1.od).bk DA);have DB4:=I ((GT.trans G1.od).bk DB);clear G1 kc c0 c1 c2 a0 a1 a2 e0 e1 e2;go_wp2;go_roundw
   ·exact⟨k+1,by go_num,by omega,HG4,DA4,DB4⟩
   ·simp[intOf];omega
  ·obtain rfl:hn=k:=by omega
   go_wp2_with fail;refine cm0 (conF0 wr _) fun w1 G=>?_
   have HG3:=I (HG2.trans G);clear a0 a1 a2;go_wp2;go_ret;exact⟨rfl,HG3.out⟩
theorem qvalid_any (w:World) (q:Qv) (x:Qm) (hq:q.Is w x) (hx:x.Va):
  Calls Tryz.prog 38 #[q.v] w fun e w'=>e=.returned (.bool true)∧Gr w w':=by
 have hin:=hq.g.inputs;have hro:=hq.rows;have hun:=hq.g.units.len;obtain⟨⟨gi,gu,go_⟩,lo,hi,rw_,goal⟩:=q;simp only at hin hro hun;subst hin hro;have HX:=I hx;have HUN:=I hun;clear hx hun;go_enter Tryz.func38,Tryz.ntmps38;go_wp2_with fail;refine nw1hc fun W HG D_a=>?_
 have HQ:=I (hq.gr HG);have a0_:=D_a.c10;clear hq;refine (gvalid_any W _ x.g HQ.g HX.g).mono ?_;rintro e w1 ⟨rfl,G1⟩;obtain⟨HQ,D_a,HG⟩:=G1.u3 HQ D_a HG;clear G1 a0_;have a0_:=D_a.c10;go_wp2_with fail;refine cm0 (rgvalid_any w1 lo hi x.lo x.hi x.g.inputs HQ.lo HQ.hi HX.g.i0 HX.g.i9 HX.lo HX.hi HX.los HX.his HX.le) fun w2 G1=>?_
 obtain⟨HQ,D_a,HG⟩:=G1.u3 HQ D_a HG;clear a0_;have a0_:=D_a.c10;obtain⟨vs,hvs⟩:∃vs:Nat,vs=x.g.inputs+gu.n:=⟨_,rfl⟩;have hw:IntKind.i64.wrap ((x.g.inputs:Int)+(gu.n:Int))=(vs:Int):=by have h1:=HX.g.i9;have h2:=HX.g.u9;rw[HUN.out] at h2;rw[wi _ (by omega)];omega
 have HV:Hid (vs=x.g.inputs+x.g.units.length):=by rw[HUN.out];exact hvs
 clear hvs;go_wp2_with fail;refine cm0 (lvalid_any w2 goal x.goal vs HQ.goal (by rw[HV.out];exact HX.goal.ok) (fun t ht=>(HX.goal.num t ht).lo) HX.goal.const.lo) fun w3 G1=>?_
 replace HG:=HG.tr G1;clear a0_;go_wp2;go_ret;exact⟨rfl,HG.out⟩
structure Lm where
 unit:Nat
 upper:Bool
 value:Q
 proof:List Mm
structure Lv where
 unit:Int
 upper:Bool
 value:Rv
 proof:Sv
def Lv.cs (t:Lv):List Value:=[.int .i64 t.unit,.bool t.upper,.bool t.value.neg,.slice t.value.num.A t.value.num.n t.value.num.c,.slice t.value.den.A t.value.den.n t.value.den.c,.slice t.proof.A t.proof.n t.proof.c]
structure Lv.Is (w:World) (t:Lv) (x:Lm):Prop where
 unit:t.unit=x.unit
 upper:t.upper=x.upper
 value:t.value.Is w x.value
 proof:Mults w t.proof x.proof
theorem Lv.Is.gr {w w':World} {t:Lv} {x:Lm} (h:t.Is w x) (G:Gr w w'):t.Is w' x:=⟨h.unit,h.upper,h.value.gr G,h.proof.gr G⟩
instance kpLv {x:Lv} {q} {w w'}:Kp (x.Is w q) w w' (x.Is w' q):=⟨fun G h=>h.gr G⟩
theorem Lv.len (t:Lv):t.cs.length=6:=rfl
abbrev Lems (w:World) (x:Sv) (l:List Lm):Prop:=Rows Lv.cs Lv.Is 173 6 w x l
theorem Lems.gr {w w':World} {x:Sv} {l:List Lm} (h:Lems w x l) (G:Gr w w'):Lems w' x l:=Rows.gr (fun h G=>h.gr G) h G
instance kpLs {x l} {w w'}:Kp (Lems w x l) w w' (Lems w' x l):=⟨fun G h=>Lems.gr h G⟩
theorem Lems.len {w:World} {x:Sv} {l:List Lm} (h:Lems w x l):l.length=x.n:=Rows.len Lv.len (by decide) h
theorem Lems.at {w:World} {x:Sv} {l:List Lm} (h:Lems w x l) {i:Nat} {a:Lm} (ha:l[i]?=some a):
  ∃(t:Lv) (ad:Addr),t.Is w a∧x.A=some ad∧w.cell? (ad.add (i*6))=some (.int .i64 (a.unit:Int))∧w.cell? ⟨(ad.add (i*6)).block,(ad.add (i*6)).off+1,none⟩=some (.bool a.upper)∧w.cell? ⟨(ad.add (i*6)).block,(ad.add (i*6)).off+2,none⟩=some (.bool t.value.neg)∧w.cell? ⟨(ad.add (i*6)).block,(ad.add (i*6)).off+3,none⟩=some (.slice t.value.num.A t.value.num.n t.value.num.c)∧w.cell? ⟨(ad.add (i*6)).block,(ad.add (i*6)).off+4,none⟩=some (.slice t.value.den.A t.value.den.n t.value.den.c)∧w.cell? ⟨(ad.add (i*6)).block,(ad.add (i*6)).off+5,none⟩=some (.slice t.proof.A t.proof.n t.proof.c):=by
 obtain⟨t,ht,hc⟩:=Rows.at Lv.len h ha;have hu:=ht.unit;have hp:=ht.upper;obtain⟨ad,hA,_,c0⟩:=hc 0 _ rfl;obtain⟨ad1,h1,_,c1⟩:=hc 1 _ rfl;obtain⟨ad2,h2,_,c2⟩:=hc 2 _ rfl;obtain⟨ad3,h3,_,c3⟩:=hc 3 _ rfl;obtain⟨ad4,h4,_,c4⟩:=hc 4 _ rfl;obtain⟨ad5,h5,_,c5⟩:=hc 5 _ rfl;rw[hA] at h1 h2 h3 h4 h5;cases h1;cases h2;cases h3;cases h4;cases h5
 rw[add_in _ _ (by decide)] at c1 c2 c3 c4 c5;rw[← hu,← hp];exact⟨t,ad,ht,hA,c0,c1,c2,c3,c4,c5⟩
theorem Lv.one (t:Lv):∀u∈t.cs,u.oneCell'=true:=fun u hu=>by
 simp only[Lv.cs,List.mem_cons,List.not_mem_nil,or_false] at hu;rcases hu with rfl | rfl | rfl | rfl | rfl | rfl<;>rfl
abbrev scL (q:Qv) (z:Sv):Value:=.agg #[.int .i64 q.g.inputs,.slice q.g.units.A q.g.units.n q.g.units.c,.slice q.g.outs.A q.g.outs.n q.g.outs.c,.slice q.lo.A q.lo.n q.lo.c,.slice q.hi.A q.hi.n q.hi.c,.slice none 0 0,.slice q.goal.terms.A q.goal.terms.n q.goal.terms.c,.bool q.goal.const.neg,.slice q.goal.const.num.A q.goal.const.num.n q.goal.const.num.c,.slice q.goal.const.den.A q.goal.const.den.n q.goal.const.den.c,.slice none 0 0,.slice z.A z.n z.c]
def valAt (ls:List Lm) (k:Nat):Q:=((ls[k - 1]?).map (·.value)).getD Q.zero
def bestGo (ls:List Lm) (u:Nat):Nat→List Lm→Nat×Nat→Nat×Nat
 | _,[],s=>s
 | i,m::r,s=>bestGo ls u (i+1) r (if m.unit=u then (if m.upper then (if s.2=0∨Q.cmpQ m.value (valAt ls s.2) < 0 then (s.1,i+1) else s) else (if s.1=0∨0 < Q.cmpQ m.value (valAt ls s.1) then (i+1,s.2) else s)) else s)
def bestL (ls:List Lm) (u:Nat):Nat×Nat:=bestGo ls u 0 ls (0,0)
theorem valAt_some {ls:List Lm} {k:Nat} {m:Lm} (h:ls[k]?=some m):valAt ls (k+1)=m.value:=by unfold valAt;rw[Nat.add_sub_cancel,h];rfl
theorem best_any (w:World) (q:Qv) (z:Sv) (ls:List Lm) (u:Nat) (hz:Lems w z ls) (hs:∀m∈ls,m.value.Sm) (hn:ls.length≤1000):
  Calls Tryz.prog 145 #[scL q z,.int .i64 u] w fun e w'=>e=.returned (.tuple #[.int .i64 (bestL ls u).1,.int .i64 (bestL ls u).2])∧Gr w w':=by
 obtain⟨zA,zn,zc⟩:=z;have hln:ls.length=zn:=hz.len;have hz9:zn≤1000:=by omega
 have HZ:=I hz;have HS:=I hs;have HLN:=I hln;have HZ9:=I hz9;clear hz hs hln hn hz9;simp only[scL] at*;go_enter Tryz.func145,Tryz.ntmps145;go_wp2_with fail;refine nw1h fun W HG D_p=>?_
 have p_:=D_p.c12;go_loopw [6,7,13] (fun s0 s1 s2 wr=>∃(k:Nat) (lo:Nat) (hi:Nat),s0=.int .i64 lo∧s1=.int .i64 hi∧s2=.int .i64 k∧k≤zn∧lo≤k∧hi≤k∧Hid (bestGo ls u k (ls.drop k) (lo,hi)=bestL ls u)∧Hid (Gr w wr)∧Hid (Bk wr w.heap.size 113 #[.int .i64 q.g.inputs,q.g.units.v,q.g.outs.v,q.lo.v,q.hi.v,Nl,q.goal.terms.v,.bool q.goal.const.neg,q.goal.const.num.v,q.goal.const.den.v,Nl,.slice zA zn zc])) (fun _ _ i _=>zn - (intOf i).toNat)
 case atStart=>exact⟨0,0,0,rfl,rfl,rfl,nq _,nq _,nq _,rfl,HG,D_p⟩
 case round=>
  clear HG D_p p_;obtain⟨k,lo,hi,rfl,rfl,rfl,hr3,hr4,hr5,HE,HG,D_p⟩:=hrel;by_cases hkn:k < zn
  ·obtain⟨m,hm⟩:∃m,ls[k]?=some m:=⟨_,ge (by rw[HLN.out];exact hkn)⟩;obtain⟨t,ad,ht,hA,d0,d1,d2,d3,d4,d5⟩:=(HZ.gr HG).at hm;simp only at hA;subst hA;have hz9:=HZ9.out;have hk9:k < 1000:=by omega
   have HM1:=I (HS.out m (mg hm));rw[show ls.drop k=m::ls.drop (k+1) from by rw[List.drop_eq_getElem?_toList_append,hm];rfl,bestGo] at HE;have HT:=I ht.value;clear hm ht hz9;have hw1:IntKind.i64.wrap ((k:Int)+1)=((k+1:Nat):Int):=by rw[wi _ (by omega)];omega
   generalize hmu:m.unit=mu at*;generalize hmp:m.upper=mp at*;go_upto_region 5 with fail;refine nw1 fun w1 GB D_tb=>?_
   obtain⟨HT,D_p,HG⟩:=GB.u3 HT D_p HG;clear GB;generalize wr.heap.size=tb at*;have tb_:=D_tb.c6;by_cases hu:mu=u
   ·have e1:((mu:Int) != (u:Int))=false:=by rw[hu];simp
    rw[if_pos hu] at HE;cases mp
    ·rw[if_neg (by decide)] at HE;by_cases h0:lo=0
     ·rw[if_pos (Or.inl h0)] at HE;subst h0;go_upto_region 9 with fail;clear tb_;have p_:=D_p.c12;have tb_:=D_tb.c6;refine wpr ?_;have kc:=I fun W' (G:Gr w1.drew W')=>ai (G.kb D_p).c12 <| (G.kb D_tb).c6
      refine wg 0 (tf 15 0) [0,1,2,3,4,5,6,7,8,9,10,11,12,13,14] [] ?_;iterate 15 refine .tk ?_
      refine .done fun W1 G1 F1=>?_
      replace kc:=kc.out W1 G1;clear F1 p_ tb_;have GB:=G1.od;obtain⟨HT,D_p,D_tb,HG⟩:=GB.u4 HT D_p D_tb HG;clear GB G1 kc;refine wpe ?_;go_wp2;go_roundw
      ·exact⟨k+1,k+1,hi,rfl,rfl,by go_num,by omega,by omega,by omega,HE,HG,D_p⟩
      ·simp[intOf];omega
     ·obtain⟨j,rfl⟩:∃j,lo=j+1:=⟨lo - 1,by omega⟩;obtain⟨m2,hm2⟩:∃m2,ls[j]?=some m2:=⟨_,ge (by rw[HLN.out];omega)⟩;rw[valAt_some hm2] at HE;have HM2:=I (HS.out m2 (mg hm2));have HMM:=I hm2;have e2:(((j+1:Nat):Int) == 0)=false:=by simp;omega
      have hw2:IntKind.i64.wrap (((j+1:Nat):Int) - 1)=(j:Int):=by rw[wi _ (by omega)];omega
      have hw3:IntKind.i64.wrap (j:Int)=(j:Int):=wi _ (by omega);have hjn:j < zn:=by omega
      have e3:((j:Int)+1 == 0)=false:=by simp;omega
      clear hm2 h0;go_upto_region 9 with fail;clear tb_;obtain⟨t2,ad2,ht2,hA2,g0,g1,g2,g3,g4,g5⟩:=(HZ.gr HG).at HMM;simp only[oq] at hA2;subst hA2;have HT2:=I ht2.value;clear ht2;have p_:=D_p.c12;have tb_:=D_tb.c6;refine wpr ?_;have kc:=I fun W' (G:Gr w1.drew W')=>ai (G.kb D_p).c12 <| ai (G.kb D_tb).c6 <| G.kk g2 <| G.kk g3 <| G.keep g4
      refine wg 0 (tf 15 0) [0,1,2,3,4,5,6,7,8,9,10,11,12,13,14] [(12,fun v _=>v=.int .i64 (Q.cmpQ m.value m2.value))] ?_;iterate 12 refine .tk ?_
      refine .dk (fun W1 G1 F1=>rcmp3_any W1 t.value t2.value m.value m2.value (HT.gr G1.od) (HT2.gr G1.od) HM1.len HM2.len HM1.ul HM2.ul) ?_;rintro _ ⟨_,-,-,rfl⟩;iterate 2 refine .tk ?_
      refine .done fun W1 G1 F1=>?_
      have hcm:=lh F1 0;replace kc:=kc.out W1 G1;clear F1 p_ tb_ g2 g3 g4;have GB:=G1.od;obtain⟨HT,HT2,D_p,D_tb,HG⟩:=GB.u5 HT HT2 D_p D_tb HG;clear GB G1 hcm kc;refine wpe ?_;generalize Q.cmpQ m.value m2.value=cm at*;by_cases hc:0 < cm
      ·have hd:=dt hc;rw[if_pos (Or.inr hc)] at HE;go_wp2;go_roundw
       ·exact⟨k+1,k+1,hi,rfl,rfl,by go_num,by omega,by omega,by omega,HE,HG,D_p⟩
       ·simp[intOf];omega
      ·have hd:=df hc;rw[if_neg (fun h=>h.elim (fun h=>absurd h (Nat.succ_ne_zero _)) hc)] at HE;go_wp2;go_roundw
       ·exact⟨k+1,j+1,hi,rfl,rfl,by go_num,by omega,by omega,by omega,HE,HG,D_p⟩
       ·simp[intOf];omega
    ·rw[if_pos rfl] at HE;by_cases h0:hi=0
     ·rw[if_pos (Or.inl h0)] at HE;subst h0;go_upto_region 7 with fail;clear tb_;have p_:=D_p.c12;have tb_:=D_tb.c6;refine wpr ?_;have kc:=I fun W' (G:Gr w1.drew W')=>ai (G.kb D_p).c12 <| (G.kb D_tb).c6
      refine wg 0 (tf 15 0) [0,1,2,3,4,5,6,7,8,9,10,11,12,13,14] [] ?_;iterate 15 refine .tk ?_
      refine .done fun W1 G1 F1=>?_
      replace kc:=kc.out W1 G1;clear F1 p_ tb_;have GB:=G1.od;obtain⟨HT,D_p,D_tb,HG⟩:=GB.u4 HT D_p D_tb HG;clear GB G1 kc;refine wpe ?_;go_wp2;go_roundw
      ·exact⟨k+1,lo,k+1,rfl,rfl,by go_num,by omega,by omega,by omega,HE,HG,D_p⟩
      ·simp[intOf];omega
     ·obtain⟨j,rfl⟩:∃j,hi=j+1:=⟨hi - 1,by omega⟩;obtain⟨m2,hm2⟩:∃m2,ls[j]?=some m2:=⟨_,ge (by rw[HLN.out];omega)⟩;rw[valAt_some hm2] at HE;have HM2:=I (HS.out m2 (mg hm2));have HMM:=I hm2;have e2:(((j+1:Nat):Int) == 0)=false:=by simp;omega
      have hw2:IntKind.i64.wrap (((j+1:Nat):Int) - 1)=(j:Int):=by rw[wi _ (by omega)];omega
      have hw3:IntKind.i64.wrap (j:Int)=(j:Int):=wi _ (by omega);have hjn:j < zn:=by omega
      have e3:((j:Int)+1 == 0)=false:=by simp;omega
      clear hm2 h0;go_upto_region 7 with fail;clear tb_;obtain⟨t2,ad2,ht2,hA2,g0,g1,g2,g3,g4,g5⟩:=(HZ.gr HG).at HMM;simp only[oq] at hA2;subst hA2;have HT2:=I ht2.value;clear ht2;have p_:=D_p.c12;have tb_:=D_tb.c6;refine wpr ?_;have kc:=I fun W' (G:Gr w1.drew W')=>ai (G.kb D_p).c12 <| ai (G.kb D_tb).c6 <| G.kk g2 <| G.kk g3 <| G.keep g4
      refine wg 0 (tf 15 0) [0,1,2,3,4,5,6,7,8,9,10,11,12,13,14] [(12,fun v _=>v=.int .i64 (Q.cmpQ m.value m2.value))] ?_;iterate 12 refine .tk ?_
      refine .dk (fun W1 G1 F1=>rcmp3_any W1 t.value t2.value m.value m2.value (HT.gr G1.od) (HT2.gr G1.od) HM1.len HM2.len HM1.ul HM2.ul) ?_;rintro _ ⟨_,-,-,rfl⟩;iterate 2 refine .tk ?_
      refine .done fun W1 G1 F1=>?_
      have hcm:=lh F1 0;replace kc:=kc.out W1 G1;clear F1 p_ tb_ g2 g3 g4;have GB:=G1.od;replace D_p:=GB.hb D_p;replace HG:=HG.tr GB;clear GB G1 hcm kc;refine wpe ?_;generalize Q.cmpQ m.value m2.value=cm at*;by_cases hc:cm < 0
      ·have hd:=dt hc;rw[if_pos (Or.inr hc)] at HE;go_wp2;go_roundw
       ·exact⟨k+1,lo,k+1,rfl,rfl,by go_num,by omega,by omega,by omega,HE,HG,D_p⟩
       ·simp[intOf];omega
      ·have hd:=df hc;rw[if_neg (fun h=>h.elim (fun h=>absurd h (Nat.succ_ne_zero _)) hc)] at HE;go_wp2;go_roundw
       ·exact⟨k+1,lo,j+1,rfl,rfl,by go_num,by omega,by omega,by omega,HE,HG,D_p⟩
       ·simp[intOf];omega
   ·have e1:((mu:Int) != (u:Int))=true:=by simp;omega
    rw[if_neg hu] at HE;go_wp2;go_roundw
    ·exact⟨k+1,lo,hi,rfl,rfl,by go_num,by omega,by omega,by omega,HE,HG,D_p⟩
    ·simp[intOf];omega
  ·obtain rfl:k=zn:=by omega
   rw[List.drop_eq_nil_of_le (by rw[HLN.out];exact nr _)] at HE;have HE2:Hid ((lo,hi)=bestL ls u):=HE.out;clear HE;go_wp2;go_returns;exact⟨by rw[← HE2.out];rfl,HG.out⟩
theorem decided0 (w:World) (q:Qv) (z:Sv) (k u:Int):
  Calls Tryz.prog 410 #[scL q z,.int .i64 k,.int .i64 u] w fun e w'=>e=.returned (.bool false)∧Gr w w':=by
 simp only[scL] at*;go_enter Tryz.func410,Tryz.ntmps410;go_wp2_with fail;refine nw3hc fun W HG D_p D_k0 D_u0=>?_
 have p_:=D_p.c12;have k0_0:=D_k0.c1;have u0_0:=D_u0.c1;generalize w.heap.size+1+1=u0 at*;generalize w.heap.size+1=k0 at*;refine cm0 (conD0 W _) fun w1 G=>?_
 replace HG:=HG.tr G;clear p_ k0_0 u0_0;go_wp2;go_ret;exact⟨rfl,HG.out⟩
theorem mone_lo:Q.mone.Lo:=⟨nt (un_len1 (by decide)) (by decide),by decide⟩
theorem lemma_any (w:World) (q:Qv) (z:Sv) (ls:List Lm) (lo n:Nat) (m:Lm) (hlo:lo=n+1) (hz:Lems w z ls) (hm:ls[n]?=some m) (hs:m.value.Sm) (hn:ls.length≤1000):
  Calls Tryz.prog 411 #[scL q z,.int .i64 (lo:Int),.int .i64 (m.unit:Int),.bool m.upper] w fun e w'=>∃r:Rv,e=.returned (.tuple #[r.v,.bool true])∧r.Is w' (canonQ m.value)∧Gr w w':=by
 obtain⟨zA,zn,zc⟩:=z;have hln:ls.length=zn:=hz.len;have hz9:zn≤1000:=by omega
 have hnz:n < zn:=by rw[← hln];exact (gs hm).1
 have HZ:=I hz;change Hid _ at hs hm;clear hz hln hn;simp only[scL] at*;go_enter Tryz.func411,Tryz.ntmps411;go_upto_region 1 with fail;refine nw2h fun W HG D_p D_r=>?_
 have p_:=D_p.c12;have N_r:=dnl (w.heap.size) (w.heap.size+1);generalize w.heap.size+1=r at*;obtain⟨t,ad,ht,hA,d0,d1,d2,d3,d4,d5⟩:=(HZ.gr HG).at hm;simp only at hA;subst hA;have HT:=I ht.value;clear ht;have e1:decide ((lo:Int) < 1)=false:=by simp;omega
 have e1n:decide (lo < 1)=false:=by simp;omega
 have e2:decide ((zn:Int) < (lo:Int))=false:=by simp;omega
 have e2n:decide (zn < lo)=false:=by simp;omega
 have hw2:IntKind.i64.wrap ((lo:Int) - 1)=(n:Int):=by rw[wi _ (by omega)];omega
 have hw3:IntKind.i64.wrap (n:Int)=(n:Int):=wi _ (by omega);clear hlo;generalize m.unit=mu at*;generalize m.upper=mp at*;go_wp2_with fail;refine cm1 (canon9_any W t.value m.value HT hs) fun i w1 HI G=>?_
 replace D_r:=G.hb D_r;replace HG:=HG.tr G;clear p_ d0 d1 d2 d3 d4 d5;have z0_:=D_r.c3;have fz:=D_r.frozen;go_wp2;refine pex ?_;refine ks D_r fun W5 B5 F5=>?_
 have d_:=B5.c3;refine bret Tryz.results411 ?_;exact⟨i,rfl,HI.tf' F5 D_r,HG.fr_at F5 N_r⟩
def rwcs (r:Rw):List Value:=[.int .i64 r.kind,.int .i64 r.index,.int .i64 r.lo,.int .i64 r.hi]
theorem rwcs_len (r:Rw):(rwcs r).length=4:=rfl
abbrev RwL (w:World) (x:Sv) (l:List Rw):Prop:=Rows rwcs (fun _ b a=>b=a) 308 4 w x l
theorem RwL.gr {w w':World} {x:Sv} {l:List Rw} (h:RwL w x l) (G:Gr w w'):RwL w' x l:=Rows.gr (fun h _=>h) h G
theorem elemRw:ElemS Tryz.prog 349 308 4 32:=elem_of (z:=.agg #[.int .i64 0,.int .i64 0,.int .i64 0,.int .i64 0]) (by kernel_rfl) (by kernel_rfl) rfl (by decide)
def OwnW (w:World) (B:Nat) (v:Value) (n:Nat) (l:List Rw):Prop:=w.ownsRow B 308 4 v n (l.flatMap rwcs)
theorem OwnW.nil (w:World) (B:Nat):OwnW w B (.slice none 0 0) 0 []:=⟨rfl,.inl ⟨rfl,rfl⟩⟩
theorem OwnW.rows {w:World} {B n c:Nat} {A:Option Addr} {l:List Rw} (h:OwnW w B (.slice A n c) n l):RwL w ⟨A,n,c⟩ l:=by
 obtain⟨⟨A',n',c'⟩,e,hn,hy,hty⟩:=Sv.of_row h (by decide);simp only[Sv.v,Value.slice.injEq] at e;obtain⟨rfl,rfl,rfl⟩:=e;exact⟨l.map (fun r=>(r,r)),by rw[List.flatMap_map];exact hy,by rw[List.map_map];exact (List.map_id l).symm,fun p hp=>(by obtain⟨r,_,rfl⟩:=List.mem_map.1 hp;rfl),hty⟩
theorem phases_open (w:World) (q:Qv) (z:Sv) (ls:List Lm) (u:Int) (lo hi a b:Nat) (m1 m2:Lm) (hlo:lo=a+1) (hhi:hi=b+1) (hz:Lems w z ls) (ha:ls[a]?=some m1) (hb:ls[b]?=some m2) (h1:m1.value.Sm) (h2:m2.value.Sm) (s1:m1.value.sign < 0) (s2:0 < m2.value.sign) (hn:ls.length≤1000):
  Calls Tryz.prog 409 #[scL q z,.int .i64 u,.int .i64 (lo:Int),.int .i64 (hi:Int)] w fun e w'=>e=.returned (.tuple #[.bool false,.bool false])∧Gr w w':=by
 obtain⟨zA,zn,zc⟩:=z;have hln:ls.length=zn:=hz.len;have hz9:zn≤1000:=by omega
 have ha9:a < zn:=by rw[← hln];exact (gs ha).1
 have hb9:b < zn:=by rw[← hln];exact (gs hb).1
 have HZ:=I hz;change Hid _ at ha h1 h2;have HB:=I hb;have S1:=I s1;have S2:=I s2;clear hz hb s1 s2 hln hn;simp only[scL] at*;go_enter Tryz.func409,Tryz.ntmps409;go_wp2_with fail;refine nw1hc fun W HG D_p=>?_
 have p_:=D_p.c12;have e1:decide (0 < (lo:Int))=true:=by simp;omega
 have e2:decide (0 < (hi:Int))=true:=by simp;omega
 have e1n:decide (0 < lo)=true:=by simp;omega
 have e2n:decide (0 < hi)=true:=by simp;omega
 have w1':IntKind.i64.wrap ((lo:Int) - 1)=(a:Int):=by rw[wi _ (by omega)];omega
 have w2':IntKind.i64.wrap ((hi:Int) - 1)=(b:Int):=by rw[wi _ (by omega)];omega
 have w3':IntKind.i64.wrap (a:Int)=(a:Int):=wi _ (by omega);have w4':IntKind.i64.wrap (b:Int)=(b:Int):=wi _ (by omega);clear hlo hhi;refine cm0 (decided0 W q ⟨zA,zn,zc⟩ 1 u) fun w1 G=>?_
 replace D_p:=G.hb D_p;replace HG:=HG.tr G;clear p_;have p_:=D_p.c12;obtain⟨t,ad,ht,hA,d0,d1,d2,d3,d4,d5⟩:=(HZ.gr HG).at ha;simp only at hA;subst hA;have HT:=I ht.value;clear ht;go_wp2_with fail;refine cm0 (sign_any w1 t.value m1.value HT (nt h1.len (by decide))) fun w2 G=>?_
 obtain⟨HT,D_p,HG⟩:=G.u3 HT D_p HG;clear p_ d0 d1 d2 d3 d4 d5;have p_:=D_p.c12;clear HT;have f1:decide (0≤m1.value.sign)=false:=by have:=S1.out;simp;omega
 generalize m1.value.sign=sg1 at*;go_wp2_with fail;refine cm0 (decided0 w2 q ⟨_,zn,zc⟩ 2 u) fun w3 G=>?_
 replace D_p:=G.hb D_p;replace HG:=HG.tr G;clear p_;have p_:=D_p.c12;obtain⟨t,ad2,ht,hA,d0,d1,d2,d3,d4,d5⟩:=(HZ.gr HG).at HB;simp only[oq] at hA;subst hA;have HT:=I ht.value;clear ht;go_wp2_with fail;refine cm0 (sign_any w3 t.value m2.value HT (nt h2.len (by decide))) fun w4 G=>?_
 replace HG:=HG.tr G;clear p_ d0 d1 d2 d3 d4 d5;have f2:decide (m2.value.sign≤0)=false:=by have:=S2.out;simp;omega
 generalize m2.value.sign=sg2 at*;go_wp2;go_returns;exact⟨rfl,HG.out⟩
theorem World.ownsRow.gr' {w w':World} {B n:Nat} {v:Value} {l:List Rw} (h:OwnW w B v n l) (G:Gr w w'):OwnW w' B v n l:=by
 unfold OwnW at h ⊢;obtain⟨h1,⟨rfl,h2⟩ | ⟨g,cap,cur,rfl,hB,hh,hc,hx,hs,ht⟩⟩:=h
 ·exact⟨h1,.inl ⟨rfl,h2⟩⟩
 ·exact⟨h1,.inr ⟨g,cap,cur,rfl,hB,G.bk hh,hc,hx,hs,ht⟩⟩
theorem ofunit_open (w:World) (q:Qv) (z:Sv) (ls:List Lm) (j lo hi a b:Nat) (m1 m2:Lm) (hz:Lems w z ls) (hbst:bestL ls j=(lo,hi)) (hlo:lo=a+1) (hhi:hi=b+1) (hls:∀m∈ls,m.value.Sm) (ha:ls[a]?=some m1) (hb:ls[b]?=some m2) (s1:m1.value.sign < 0) (s2:0 < m2.value.sign) (hn:ls.length≤1000):
  Calls Tryz.prog 350 #[scL q z,.int .i64 (j:Int)] w fun e w'=>∃y:Sv,e=.returned y.v∧RwL w' y [⟨5,j,0,0⟩,⟨6,j,0,0⟩,⟨11,j,(lo:Int),0⟩,⟨12,j,0,(hi:Int)⟩,⟨13,j,(lo:Int),(hi:Int)⟩]∧Gr w w':=by
 have HZ:=I hz;change Hid _ at hbst hls ha hlo hhi;have HB:=I hb;have S1:=I s1;have S2:=I s2;have HN:=I hn;clear hz hb s1 s2 hn;simp only[scL] at*;go_enter Tryz.func350,Tryz.ntmps350;go_wp2_with fail;refine nw1hc fun W HG D_p=>?_
 have p_:=D_p.c12;have HB9:=best_any W q z ls j (HZ.gr HG) hls HN;rw[hbst.out] at HB9;refine cm0 (HB9) fun w1 G=>?_
 replace D_p:=G.hb D_p;replace HG:=HG.tr G;clear p_ HB9;have p_:=D_p.c12;go_wp2_with fail;refine cm0 (phases_open w1 q z ls j lo hi a b m1 m2 hlo hhi (HZ.gr HG) ha HB (hls.out _ (mg ha.out)) (hls.out _ (mg HB.out)) S1 S2 HN) fun w2 G=>?_
 replace D_p:=G.hb D_p;replace HG:=HG.tr G;clear p_;have p_:=D_p.c12;go_wp2_with fail;refine cm0 (decided0 w2 q z 1 j) fun w3 G=>?_
 replace D_p:=G.hb D_p;replace HG:=HG.tr G;clear p_;have p_:=D_p.c12;go_wp2_with fail;refine cm0 (decided0 w3 q z 2 j) fun w4 G=>?_
 replace HG:=HG.tr G;clear p_;have H0:Hid (OwnW w4 w.heap.size Nl 0 []):=OwnW.nil _ _;have e1:decide (0 < (lo:Int))=true:=by have:=hlo.out;simp;omega
 have e2:decide (0 < (hi:Int))=true:=by have:=hhi.out;simp;omega
 have e1n:decide (0 < lo)=true:=by have:=hlo.out;simp;omega
 have e2n:decide (0 < hi)=true:=by have:=hhi.out;simp;omega
 clear HZ hbst hls ha HB S1 S2 HN hlo hhi;obtain⟨B1,GB⟩:=made1 w4 308 #[.int .i64 5,.int .i64 (j:Int),.int .i64 0,.int .i64 0,.int .i64 6,.int .i64 (j:Int),.int .i64 0,.int .i64 0];replace HG:=HG.tr GB;have HO:=I (World.ownsRow.gr' H0 GB);have BC:=I (bk_cells B1);have LB:=I HG.size;clear B1 GB;go_upto_region 16 with (at_builtin;refine wpList_appS elemRw rfl _ _ rfl w.heap.size Nl 0 ((([]:List Rw):List Rw).flatMap rwcs) rfl (by exact HO.out) ⟨w4.heap.size,0,none⟩ 2 2 [.int .i64 5,.int .i64 (j:Int),.int .i64 0,.int .i64 0,.int .i64 6,.int .i64 (j:Int),.int .i64 0,.int .i64 0] rfl rfl BC.out (by simp[Value.oneCell']) (by decide) (by decide) LB.out ?_;intro v' w5 e1 e2 e3;have F9:=fr_own0 e2;obtain⟨yA1,yc1,rfl⟩:=rw_form (show World.ownsRow _ _ _ _ _ 2 _ from e1);have H1:Hid (OwnW w5 w.heap.size (.slice yA1 2 yc1) 2 (([]:List Rw)++[⟨5,(j:Int),0,0⟩,⟨6,(j:Int),0,0⟩])):=I (by unfold OwnW;rw[List.flatMap_append];exact e1);have FF:=I F9;clear e1 e2 e3 F9)
 replace HG:=I (HG.step FF (fun b _ e=>(rw_lt HO b e).1));clear FF HO BC LB H0;obtain⟨B1,GB⟩:=made1 w5 308 #[.int .i64 11,.int .i64 (j:Int),.int .i64 (lo:Int),.int .i64 0];replace HG:=HG.tr GB;have HO:=I (World.ownsRow.gr' H1 GB);have BC:=I (bk_cells B1);have LB:=I HG.size;clear B1 GB;go_upto_region 18 with (at_builtin;refine wpList_appS elemRw rfl _ _ rfl w.heap.size (.slice yA1 2 yc1) 2 ((([]:List Rw)++[⟨5,(j:Int),0,0⟩,⟨6,(j:Int),0,0⟩]:List Rw).flatMap rwcs) rfl (by exact HO.out) ⟨w5.heap.size,0,none⟩ 1 1 [.int .i64 11,.int .i64 (j:Int),.int .i64 (lo:Int),.int .i64 0] rfl rfl BC.out (by simp[Value.oneCell']) (by decide) (by decide) LB.out ?_;intro v' w6 e1 e2 e3;have F9:=fr_own0 e2;obtain⟨yA2,yc2,rfl⟩:=rw_form (show World.ownsRow _ _ _ _ _ 3 _ from e1);have H2:Hid (OwnW w6 w.heap.size (.slice yA2 3 yc2) 3 (([]:List Rw)++[⟨5,(j:Int),0,0⟩,⟨6,(j:Int),0,0⟩]++[⟨11,(j:Int),(lo:Int),0⟩])):=I (by unfold OwnW;rw[List.flatMap_append];exact e1);have FF:=I F9;clear e1 e2 e3 F9)
 replace HG:=I (HG.step FF (fun b _ e=>(rw_lt HO b e).1));clear FF HO BC LB H1;obtain⟨B1,GB⟩:=made1 w6 308 #[.int .i64 12,.int .i64 (j:Int),.int .i64 0,.int .i64 (hi:Int)];replace HG:=HG.tr GB;have HO:=I (World.ownsRow.gr' H2 GB);have BC:=I (bk_cells B1);have LB:=I HG.size;clear B1 GB;go_upto_region 20 with (at_builtin;refine wpList_appS elemRw rfl _ _ rfl w.heap.size (.slice yA2 3 yc2) 3 ((([]:List Rw)++[⟨5,(j:Int),0,0⟩,⟨6,(j:Int),0,0⟩]++[⟨11,(j:Int),(lo:Int),0⟩]:List Rw).flatMap rwcs) rfl (by exact HO.out) ⟨w6.heap.size,0,none⟩ 1 1 [.int .i64 12,.int .i64 (j:Int),.int .i64 0,.int .i64 (hi:Int)] rfl rfl BC.out (by simp[Value.oneCell']) (by decide) (by decide) LB.out ?_;intro v' w7 e1 e2 e3;have F9:=fr_own0 e2;obtain⟨yA3,yc3,rfl⟩:=rw_form (show World.ownsRow _ _ _ _ _ 4 _ from e1);have H3:Hid (OwnW w7 w.heap.size (.slice yA3 4 yc3) 4 (([]:List Rw)++[⟨5,(j:Int),0,0⟩,⟨6,(j:Int),0,0⟩]++[⟨11,(j:Int),(lo:Int),0⟩]++[⟨12,(j:Int),0,(hi:Int)⟩])):=I (by unfold OwnW;rw[List.flatMap_append];exact e1);have FF:=I F9;clear e1 e2 e3 F9)
 replace HG:=I (HG.step FF (fun b _ e=>(rw_lt HO b e).1));clear FF HO BC LB H2;obtain⟨B1,GB⟩:=made1 w7 308 #[.int .i64 13,.int .i64 (j:Int),.int .i64 (lo:Int),.int .i64 (hi:Int)];replace HG:=HG.tr GB;have HO:=I (World.ownsRow.gr' H3 GB);have BC:=I (bk_cells B1);have LB:=I HG.size;clear B1 GB;go_upto_region 22 with (at_builtin;refine wpList_appS elemRw rfl _ _ rfl w.heap.size (.slice yA3 4 yc3) 4 ((([]:List Rw)++[⟨5,(j:Int),0,0⟩,⟨6,(j:Int),0,0⟩]++[⟨11,(j:Int),(lo:Int),0⟩]++[⟨12,(j:Int),0,(hi:Int)⟩]:List Rw).flatMap rwcs) rfl (by exact HO.out) ⟨w7.heap.size,0,none⟩ 1 1 [.int .i64 13,.int .i64 (j:Int),.int .i64 (lo:Int),.int .i64 (hi:Int)] rfl rfl BC.out (by simp[Value.oneCell']) (by decide) (by decide) LB.out ?_;intro v' w8 e1 e2 e3;have F9:=fr_own0 e2;obtain⟨yA4,yc4,rfl⟩:=rw_form (show World.ownsRow _ _ _ _ _ 5 _ from e1);have H4:Hid (OwnW w8 w.heap.size (.slice yA4 5 yc4) 5 (([]:List Rw)++[⟨5,(j:Int),0,0⟩,⟨6,(j:Int),0,0⟩]++[⟨11,(j:Int),(lo:Int),0⟩]++[⟨12,(j:Int),0,(hi:Int)⟩]++[⟨13,(j:Int),(lo:Int),(hi:Int)⟩])):=I (by unfold OwnW;rw[List.flatMap_append];exact e1);have FF:=I F9;clear e1 e2 e3 F9)
 replace HG:=I (HG.step FF (fun b _ e=>(rw_lt HO b e).1));clear FF HO BC LB H3;have HY:=I (OwnW.rows H4);clear H4;go_wp2;go_ret;exact⟨⟨yA4,5,yc4⟩,rfl,HY.out,HG.out⟩
theorem elemI:ElemS Tryz.prog 220 3 1 8:=elem_of (z:=.int .i64 0) (by kernel_rfl) (by kernel_rfl) rfl (by decide)
abbrev iv (i:Nat):Value:=.int .i64 (i:Int)
end
end Go.Proofs.YtmhphnljfcncpaaGreatDoor
