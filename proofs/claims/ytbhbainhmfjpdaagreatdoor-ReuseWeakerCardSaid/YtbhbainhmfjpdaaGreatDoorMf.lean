/- Walks of the search and of what it calls, part 6. -/
import Derived.Test.YtbhbainhmfjpdaaGreatDoorMe
set_option linter.unusedVariables false
set_option linter.unusedSimpArgs false
set_option maxRecDepth 100000
set_option maxHeartbeats 8000000
namespace Go.Proofs.YtbhbainhmfjpdaaGreatDoor
open Go.RowKit
section
attribute [local go_sem] Oper.semAt_some
def mrgT (c:Q):Nat→List Tm→List Tm→List Tm→List Tm
 | 0,_,_,acc=>acc
 | _+1,[],[],acc=>acc
 | n+1,s::la,[],acc=>mrgT c n la [] (putT acc s.1 s.2)
 | n+1,[],t::lb,acc=>mrgT c n [] lb (putT acc t.1 (Q.mul t.2 c))
 | n+1,s::la,t::lb,acc=>if s.1 < t.1 then mrgT c n la (t::lb) (putT acc s.1 s.2) else if t.1 < s.1 then mrgT c n (s::la) lb (putT acc t.1 (Q.mul t.2 c)) else mrgT c n la lb (putT acc s.1 (Q.add s.2 (Q.mul t.2 c)))
def mrg (f g:Fm) (c:Q):Fm:=⟨mrgT c (f.terms.length+g.terms.length) f.terms g.terms [],Q.add f.const (Q.mul g.const c)⟩
theorem mrgT_nil (c:Q) (n:Nat) (acc:List Tm):mrgT c n [] [] acc=acc:=by cases n<;>rfl
theorem putT_len (l:List Tm) (v:Int) (q:Q):(putT l v q).length≤l.length+1:=by
 unfold putT;split
 ·omega
 ·simp
theorem Terms.head {w:World} {x:Sv} {s:Tm} {l:List Tm} (h:Terms w x (s::l)):∃(t:Tv) (ad:Addr),t.Is w s∧x.A=some ad∧w.cell? ad=some (.int .i64 t.var)∧w.cell? ⟨ad.block,ad.off+1,none⟩=some (.bool t.coef.neg)∧w.cell? ⟨ad.block,ad.off+2,none⟩=some (.slice t.coef.num.A t.coef.num.n t.coef.num.c)∧w.cell? ⟨ad.block,ad.off+3,none⟩=some (.slice t.coef.den.A t.coef.den.n t.coef.den.c):=by
 obtain⟨t,ad,h1,h2,h3,h4,h5,h6⟩:=h.at (i:=0) rfl;rw[Nat.zero_mul,add_zero] at h3 h4 h5 h6;exact⟨t,ad,h1,h2,h3,h4,h5,h6⟩
theorem Terms.tail {w:World} {x:Sv} {s:Tm} {l:List Tm} (h:Terms w x (s::l)):Terms w ⟨if x.c=1 then x.A else x.A.map (·.add 4),x.n - 1,x.c - 1⟩ l:=Rows.tail Tv.len dx h
theorem merge_any (w:World) (f g:Fv) (x y:Fm) (c:Rv) (q:Q) (hf:f.Is w x) (hg:g.Is w y) (hc:c.Is w q) (hx:∀t∈x.terms,t.2.Lo) (hy:∀t∈y.terms,t.2.Lo) (hk:x.const.Lo) (hl:y.const.Lo) (hq:q.Lo) (hn:x.terms.length+y.terms.length≤1000000):
  Calls Tryz.prog 192 #[f.v,g.v,c.v] w fun e w'=>∃r:Fv,e=.returned r.v∧r.Is w' (mrg x y q)∧Gr w w':=by
 change Hid _ at hf hg hx hl hq;have HC:=I hc;have LY:=I hy;have LK:=I hk;have LN:=I hn;clear hc hy hk hn;simp only[Rv.v,Fv.v] at*;go_enter Tryz.func192,Tryz.ntmps192;go_upto_region 1 with fail;refine nw4h fun W HG D_p D_g0 D_c0 D_r=>?_
 have N_r:=dnl (w.heap.size) (w.heap.size+1+1+1);generalize w.heap.size+1+1+1=r at*;generalize w.heap.size+1+1=c0 at*;generalize w.heap.size+1=g0 at*;have HG9:=I HG.size;have HRL:=I D_r.lt;obtain⟨a0,a1,a2,a3⟩:=D_p.c4;obtain⟨b0,b1,b2,b3⟩:=D_g0.c4;obtain⟨e0,e1,e2⟩:=D_c0.c3;refine wpr ?_;have kc:=I fun W' (G:Gr W.drew W')=>G.kk a0 <| G.kk a1 <| G.kk a2 <| G.kk a3 <| G.kk b0 <| G.kk b1 <| G.kk b2 <| G.kk b3 <| G.kk e0 <| ai (G.keep e1) (G.keep e2)
 refine wg 1 (tf 9 1) [0,1,2,3,4,5,6,7,8] [(5,Rv.At (Q.mul y.const q)),(6,Rv.At (Q.add x.const (Q.mul y.const q))),(8,NewAt 37 Fl W.heap.size)] ?_;iterate 5 refine .tk ?_
 refine .dk (fun W1 G1 F1=>rmul_any W1 g.const c y.const q (hg.const.gr (HG.trans G1.od)) (HC.gr (HG.trans G1.od)) (nt hl.num dx) (nt hq.num dx) ⟨nt hl.den dx,nt hq.den dx⟩) ?_;rintro _ ⟨_,-,-,⟨m,rfl,-⟩⟩;refine .dk (fun W1 G1 F1=>by have hm:=lk F1 0;have hm:=Rv.At.is hm;exact radd_any W1 f.const m x.const (Q.mul y.const q) (hf.const.gr (HG.trans G1.od)) hm (nt LK.num dx) (nt (hl.bd.mul hq.bd).num dx) ⟨nt LK.den dx,nt (hl.bd.mul hq.bd).den dx⟩) ?_;rintro _ ⟨_,-,-,⟨k,rfl,-⟩⟩;refine .tk ?_;refine .da ?_;rintro _ ⟨_,-,-,⟨o,rfl,-,-⟩⟩;refine .done fun W1 G1 F1=>?_
 have hm:=lh F1 0;have hk:=lh F1 1;have ho:=lh F1 2;replace kc:=kc.out W1 G1;clear F1 a0 a1 a2 a3 b0 b1 b2 b3 e0 e1 e2;refine wpAny_k 9 fun K hK=>?_
 have hN:=ho.is;have fz:=hN.1.frozen;obtain⟨o0,o1,o2,o3⟩:=hN.1.c4;go_simp;refine hK.out _ _ ?_;clear hK K;refine ptt ?_;refine wpe ?_;obtain⟨ho,hoN⟩:=ho.is;obtain⟨B5,F5⟩:=ho.put4 Nl (.bool k.neg) k.num.v k.den.v;have HK:=I (hk.is.tf F5 (fun b cs fr e hh=>Bk.not_ty ho dx cs fr (e▸hh)));have DO:=I B5;replace HG:=I ((HG.trans G1.od).fr_at F5 (nt HG.size hoN));replace D_p:=I (F5.bk (G1.od.bk D_p) (Nat.ne_of_lt (nk D_p.lt hoN)));replace D_g0:=I (F5.bk (G1.od.bk D_g0) (Nat.ne_of_lt (nk D_g0.lt hoN)));replace D_c0:=I (F5.bk (G1.od.bk D_c0) (Nat.ne_of_lt (nk D_c0.lt hoN)));replace D_r:=I (F5.bk (G1.od.bk D_r) (Nat.ne_of_lt (nk D_r.lt hoN)));have HNO:=I (nt HG9 hoN);have hro:=I (show ¬o=r from fun e=>ni _ (nk (e▸HRL.out) hoN));clear hm hk ho hoN G1 B5 F5 kc;generalize (((W1.setCell ⟨o,0,none⟩ Nl).setCell ⟨o,1,none⟩ (.bool k.neg)).setCell ⟨o,2,none⟩ k.num.v).setCell ⟨o,3,none⟩ k.den.v=W2 at*;have kn:Hid (k.Is W2 (Q.add x.const (Q.mul y.const q))):=HK;obtain⟨a0,a1,a2,a3⟩:=D_p.c4;obtain⟨b0,b1,b2,b3⟩:=D_g0.c4;go_upto_region 2 with fail;refine wpr ?_;have kc:=I fun W' (G:Gr W2.drew W')=>G.kk a0 <| G.kk a1 <| G.kk a2 <| G.kk a3 <| G.kk b0 <| G.kk b1 <| ai (G.keep b2) (G.keep b3)
 refine wg 0 (tf 6 0) [0,1,2,3,4,5] [] ?_;iterate 6 refine .tk ?_
 refine .done fun W1 G1 F1=>?_
 clear F1;refine wpe ?_;replace HG:=I (HG.trans G1.od);replace HK:=I (HK.gr G1.od);replace D_c0:=I (G1.od.bk D_c0);replace D_r:=I (G1.od.bk D_r);replace DO:=I (G1.od.bk DO);clear D_p D_g0 G1 kn kc a0 a1 a2 a3 b0 b1 b2 b3;go_wp2_with fail;go_loopw [8,9] (fun s8 s9 wr=>∃(xa xb z:Sv) (la lb acc:List Tm) (n:Nat),s8=.slice xa.A xa.n xa.c∧s9=.slice xb.A xb.n xb.c∧Hid (Terms w xa la)∧Hid (Terms w xb lb)∧Hid (OwnT wr w.heap.size z acc)∧Hid (mrgT q n la lb acc=mrgT q (x.terms.length+y.terms.length) x.terms y.terms [])∧Hid (la.length+lb.length≤n)∧Hid (la.length+lb.length+acc.length≤1000000)∧Hid (∀t∈la,t.2.Lo)∧Hid (∀t∈lb,t.2.Lo)∧Hid (k.Is wr (Q.add x.const (Q.mul y.const q)))∧Hid (Gr w wr)∧Hid (Bk wr c0 35 c.ar)∧Hid (Bk wr r 37 Fl)∧Hid (Bk wr o 37 #[z.v,.bool k.neg,k.num.v,k.den.v])) (fun s8 s9 _=>lenOf s8+lenOf s9)
 case atStart=>exact⟨f.terms,g.terms,Sv.none,_,_,[],_,rfl,rfl,hf.terms,hg.terms,Own.nil _ _,rfl,nr _,LN.out,hx,LY,HK,HG,D_c0,D_r,DO⟩
 case round=>
  obtain⟨xa,xb,z,la,lb,acc,n,rfl,rfl,TA,TB,HZ,HM,Hn,HL,LA,LB,HK2,HG2,DC,DR,DO2⟩:=hrel;have HX1:=I TA.len;have HX2:=I TB.len;obtain⟨XA,xn,xc⟩:=xa;obtain⟨YA,yn,yc⟩:=xb;clear HK HG D_c0 D_r DO;rcases la with _ | ⟨s,la⟩
  ·obtain rfl:xn=0:=HX1.symm;rcases lb with _ | ⟨t,lb⟩
   ·obtain rfl:yn=0:=HX2.symm;obtain⟨o0,o1,o2,o3⟩:=DO2.c4;have q0_:=DR.c4;have qz:=DR.frozen;go_wp2;refine pex ?_;refine ks DR fun W5 B5 F5=>?_
    have d_:=B5.c4;refine bret Tryz.results192 ?_;refine⟨⟨z,k⟩,rfl,⟨?_,HK2.tf F5 (fun b cs fr e hh=>Bk.not_ty DR dx cs fr (e▸hh))⟩,HG2.fr_at F5 N_r⟩;show Terms _ z (mrg x y q).terms;rw[show (mrg x y q).terms=acc from by have:=HM.out;rw[mrgT_nil] at this;exact this.symm];exact (HZ.fr F5 (fun b cs fr e hh=>Bk.not_ty DR dx cs fr (e▸hh)) fun b hb e=>HZ.ne DR dx (e▸hb)).terms
   ·-- only b
    obtain⟨ym,rfl⟩:∃m,yn=m+1:=⟨_,HX2.symm⟩;obtain⟨uv,bd,hu,hB,u0,u1,u2,u3⟩:=(TB.gr HG2).head;simp only at hB;subst hB;have HU:=I hu;clear hu;have hM:=I (show mrgT q n [] (t::lb) acc=mrgT q (n - 1) [] lb (putT acc t.1 (Q.mul t.2 q)) from by obtain⟨n,rfl⟩:∃m,n=m+1:=⟨n - 1,by have:=Hn.out;rw[List.length_cons] at this;omega⟩;rfl);go_wp2_with fail;go_upto_region 6 with fail;refine wpr ?_;have kc:=I fun W' (G:Gr wr.drew W')=>G.kk u0 <| G.kk u1 <| ai (G.keep u2) (G.keep u3)
    refine wg 0 (tf 20 0) [0,1,2,3,4,5,6,7,8,9,10,11,12,13,14,15,16,17,18,19] [] ?_;iterate 20 refine .tk ?_
    refine .done fun W1 G1 F1=>?_
    clear F1;have kc1:=kc.out W1 G1;clear kc u0 u1 u2 u3;obtain⟨u0,u1,u2,u3⟩:=kc1;refine wpe ?_;have GA:=I G1.od;clear G1;generalize hWa:W1=Wa at*;clear hWa;go_wp2_with fail;go_upto_region 9 with fail;refine wpr ?_;have kc:=I fun W' (G:Gr Wa.drew W')=>G.kk u0 <| G.kk u1 <| ai (G.keep u2) (G.keep u3)
    refine wg 0 (tf 15 0) [0,1,2,3,4,5,6,7,8,9,10,11,12,13,14] [] ?_;iterate 15 refine .tk ?_
    refine .done fun W1 G1 F1=>?_
    clear F1;have kc1:=kc.out W1 G1;clear kc u0 u1 u2 u3;obtain⟨u0,u1,u2,u3⟩:=kc1;refine wpe ?_;replace GA:=I (GA.trans G1.od);clear G1;generalize hWb:W1=Wb at*;clear hWb;go_wp2_with fail;obtain⟨o0,o1,o2,o3⟩:=(GA.bk DO2).c4;obtain⟨c1,c2,c3⟩:=(GA.bk DC).c3;go_upto_region 10 with fail;refine wpr ?_;have kc:=I fun W' (G:Gr Wb.drew W')=>G.kk u0 <| G.kk u1 <| G.kk u2 <| G.kk u3 <| G.kk o0 <| G.kk o1 <| G.kk o2 <| G.kk o3 <| G.kk c1 <| ai (G.keep c2) (G.keep c3)
    refine wg 2 (tf 11 2) [0,1,2,3,4,5,6,7,8,9,10] [(10,Rv.At (Q.mul t.2 q))] ?_;iterate 10 refine .tk ?_
    refine .dk (fun W1 G1 F1=>rmul_any W1 uv.coef c t.2 q (HU.coef.gr (GA.trans G1.od)) (HC.gr (HG2.trans (GA.trans G1.od))) (nt (LB.out t (mf ..)).num dx) (nt hq.num dx) ⟨nt (LB.out t (mf ..)).den dx,nt hq.den dx⟩) ?_;rintro _ ⟨_,-,-,⟨m2,rfl,-⟩⟩;refine .done fun W1 G1 F1=>?_
    have hm2:=lh F1 0;replace kc:=kc.out W1 G1;clear F1 u0 u1 u2 u3 o0 o1 o2 o3 c1 c2 c3;have GB:=I (GA.trans G1.od);refine wpAny_k 11 fun K hK=>?_
    refine doesAt_wp (K:=fun v W'=>∃yv:Sv,v=Fv.v ⟨yv,k⟩∧OwnT W' w.heap.size yv (putT acc uv.var (Q.mul t.2 q))∧Fr (fun b=>(z.v).ownBlock=some b) W1 W') (doesAt_enter (f:=231) (args:=#[.agg #[z.v,.bool k.neg,k.num.v,k.den.v],.int .i64 uv.var,m2.v]) (by go_simp;try (first | with_reducible rfl | rfl)) ((put_any W1 w.heap.size ⟨z,k⟩ acc (Q.add x.const (Q.mul y.const q)) uv.var m2 (Q.mul t.2 q) (HZ.up (GA.trans G1.od)) (HK2.gr (GA.trans G1.od)) hm2.is (nt HG2.size (GA.trans G1.od).size) (by have:=HL.out;simp only[List.length_cons,List.length_nil] at this;omega) (nt ((LB.out t (mf ..)).bd.mul hq.bd).num dx) (nt ((LB.out t (mf ..)).bd.mul hq.bd).den dx)).mono ?_)) ?_
    ·rintro e w' ⟨yv,rfl,h1,h2⟩;exact⟨_,rfl,yv,rfl,h1,h2⟩
    rintro v w5 ⟨yv,rfl,hy,hF⟩;refine hK.out _ _ ?_;clear hK K;refine ptt ?_;have hz9:=HZ.up GB;have DO3:=I (hF.bk (GB.bk DO2) (fun e=>hz9.ne (GB.bk DO2) dx e));have DC3:=I (hF.bk (GB.bk DC) (fun e=>hz9.ne (GB.bk DC) dx e));have DR3:=I (hF.bk (GB.bk DR) (fun e=>hz9.ne (GB.bk DR) dx e));have hG5:=(HG2.trans GB).step hF (fun b _ e=>(hz9.lt b e).1);have hK5:=(HK2.gr GB).tf hF (fun b cs fr e hh=>(by obtain⟨ts,t1,_⟩:=hz9;obtain⟨cur,hc⟩:=rw_bk t1 b e;exact Bk.not_ty hc dx _ _ hh));have HY5:=I hy;have HK5:=I hK5;have HG5:=I hG5;clear hz9 hy hF hG5 hK5 G1 hm2 kc;obtain⟨o0,o1,o2,o3⟩:=DO3.c4;have oz:=DO3.frozen;refine wo 12 ?_;refine wpe ?_;refine ks DO3 fun w6 B5 F5=>?_
    have HY6:=I (HY5.fr F5 (fun b cs fr e hh=>Bk.not_ty DO3 dx cs fr (e▸hh)) fun b hb e=>HY5.ne DO3 dx (e▸hb));have HK6:=I (HK5.tf F5 (fun b cs fr e hh=>Bk.not_ty DO3 dx cs fr (e▸hh)));have HG6:=I (HG5.fr_at F5 HNO);have DO6:=B5;have DC6:=I (F5.bk DC3 (fun e=>Bk.ne DO3 DC3 dx e.symm));have DR6:=I (F5.bk DR3 (fun e=>hro.out e.symm));clear B5 F5 o0 o1 o2 o3 oz;go_wp2;go_roundw
    ·have HY7:Hid (OwnT w6 w.heap.size yv (putT acc t.1 (Q.mul t.2 q))):=I (by have:=HY6.out;rw[HU.var] at this;exact this);exact⟨⟨XA,0,xc⟩,_,yv,[],lb,putT acc t.1 (Q.mul t.2 q),n - 1,rfl,rfl,TA.out,TB.tail,HY7.out,(hM.symm.trans HM),I (by have:=Hn.out;simp only[List.length_cons,List.length_nil] at this ⊢;omega),I (by have:=HL.out;have:=putT_len acc t.1 (Q.mul t.2 q);simp only[List.length_cons,List.length_nil] at *;omega),LA.out,(fun i hi=>LB.out i (List.mem_cons_of_mem _ hi)),HK6.out,HG6.out,DC6.out,DR6.out,DO6.out⟩
    ·simp[lenOf];try omega
  ·rcases lb with _ | ⟨t,lb⟩
   ·-- only a
    obtain⟨xm,rfl⟩:∃m,xn=m+1:=⟨_,HX1.symm⟩;obtain⟨tv,ad,ht,hA,d0,d1,d2,d3⟩:=(TA.gr HG2).head;simp only at hA;subst hA;have HT:=I ht;have hxp:((xm+1:Nat):Int)≠0:=by omega
    obtain rfl:yn=0:=HX2.symm;clear ht;have hM:=I (show mrgT q n (s::la) [] acc=mrgT q (n - 1) la [] (putT acc s.1 s.2) from by obtain⟨n,rfl⟩:∃m,n=m+1:=⟨n - 1,by have:=Hn.out;rw[List.length_cons] at this;omega⟩;rfl);go_wp2_with fail;go_upto_region 6 with fail;refine wpr ?_;have kc:=I fun W' (G:Gr wr.drew W')=>G.kk d0 <| G.kk d1 <| ai (G.keep d2) (G.keep d3)
    refine wg 0 (tf 20 0) [0,1,2,3,4,5,6,7,8,9,10,11,12,13,14,15,16,17,18,19] [] ?_;iterate 20 refine .tk ?_
    refine .done fun W1 G1 F1=>?_
    clear F1;have kc1:=kc.out W1 G1;clear kc d0 d1 d2 d3;obtain⟨d0,d1,d2,d3⟩:=kc1;refine wpe ?_;have GA:=I G1.od;clear G1;generalize hWa:W1=Wa at*;clear hWa;go_wp2_with fail;obtain⟨o0,o1,o2,o3⟩:=(GA.bk DO2).c4;obtain⟨c1,c2,c3⟩:=(GA.bk DC).c3;go_upto_region 7 with fail;refine wpr ?_;have kc:=I fun W' (G:Gr Wa.drew W')=>G.kk d0 <| G.kk d1 <| G.kk d2 <| G.kk d3 <| G.kk o0 <| G.kk o1 <| ai (G.keep o2) (G.keep o3)
    refine wg 2 (tf 9 2) [0,1,2,3,4,5,6,7,8] [] ?_;iterate 9 refine .tk ?_
    refine .done fun W1 G1 F1=>?_
    replace kc:=kc.out W1 G1;clear F1 d0 d1 d2 d3 o0 o1 o2 o3;have GB:=I (GA.trans G1.od);refine wpAny_k 9 fun K hK=>?_
    refine doesAt_wp (K:=fun v W'=>∃yv:Sv,v=Fv.v ⟨yv,k⟩∧OwnT W' w.heap.size yv (putT acc tv.var (s.2))∧Fr (fun b=>(z.v).ownBlock=some b) W1 W') (doesAt_enter (f:=231) (args:=#[.agg #[z.v,.bool k.neg,k.num.v,k.den.v],.int .i64 tv.var,tv.coef.v]) (by go_simp;try (first | with_reducible rfl | rfl)) ((put_any W1 w.heap.size ⟨z,k⟩ acc (Q.add x.const (Q.mul y.const q)) tv.var tv.coef s.2 (HZ.up (GA.trans G1.od)) (HK2.gr (GA.trans G1.od)) (HT.coef.gr (GA.trans G1.od)) (nt HG2.size (GA.trans G1.od).size) (by have:=HL.out;simp only[List.length_cons,List.length_nil] at this;omega) (nt (LA.out s (mf ..)).num dx) (nt (LA.out s (mf ..)).den dx)).mono ?_)) ?_
    ·rintro e w' ⟨yv,rfl,h1,h2⟩;exact⟨_,rfl,yv,rfl,h1,h2⟩
    rintro v w5 ⟨yv,rfl,hy,hF⟩;refine hK.out _ _ ?_;clear hK K;refine ptt ?_;have hz9:=HZ.up GB;have DO3:=I (hF.bk (GB.bk DO2) (fun e=>hz9.ne (GB.bk DO2) dx e));have DC3:=I (hF.bk (GB.bk DC) (fun e=>hz9.ne (GB.bk DC) dx e));have DR3:=I (hF.bk (GB.bk DR) (fun e=>hz9.ne (GB.bk DR) dx e));have hG5:=(HG2.trans GB).step hF (fun b _ e=>(hz9.lt b e).1);have hK5:=(HK2.gr GB).tf hF (fun b cs fr e hh=>(by obtain⟨ts,t1,_⟩:=hz9;obtain⟨cur,hc⟩:=rw_bk t1 b e;exact Bk.not_ty hc dx _ _ hh));have HY5:=I hy;have HK5:=I hK5;have HG5:=I hG5;clear hz9 hy hF hG5 hK5 G1 c1 c2 c3 kc;obtain⟨o0,o1,o2,o3⟩:=DO3.c4;have oz:=DO3.frozen;refine wo 10 ?_;refine wpe ?_;refine ks DO3 fun w6 B5 F5=>?_
    have HY6:=I (HY5.fr F5 (fun b cs fr e hh=>Bk.not_ty DO3 dx cs fr (e▸hh)) fun b hb e=>HY5.ne DO3 dx (e▸hb));have HK6:=I (HK5.tf F5 (fun b cs fr e hh=>Bk.not_ty DO3 dx cs fr (e▸hh)));have HG6:=I (HG5.fr_at F5 HNO);have DO6:=B5;have DC6:=I (F5.bk DC3 (fun e=>Bk.ne DO3 DC3 dx e.symm));have DR6:=I (F5.bk DR3 (fun e=>hro.out e.symm));clear B5 F5 o0 o1 o2 o3 oz;go_wp2;go_roundw
    ·have HY7:Hid (OwnT w6 w.heap.size yv (putT acc s.1 (s.2))):=I (by have:=HY6.out;rw[HT.var] at this;exact this);exact⟨_,⟨YA,0,yc⟩,yv,la,[],putT acc s.1 (s.2),n - 1,rfl,rfl,TA.tail,TB.out,HY7.out,(hM.symm.trans HM),I (by have:=Hn.out;simp only[List.length_cons,List.length_nil] at this ⊢;omega),I (by have:=HL.out;have:=putT_len acc s.1 (s.2);simp only[List.length_cons,List.length_nil] at *;omega),(fun i hi=>LA.out i (List.mem_cons_of_mem _ hi)),LB.out,HK6.out,HG6.out,DC6.out,DR6.out,DO6.out⟩
    ·simp[lenOf];try omega
   ·by_cases hst1:s.1 < t.1
    ·-- a first
     obtain⟨xm,rfl⟩:∃m,xn=m+1:=⟨_,HX1.symm⟩;obtain⟨tv,ad,ht,hA,d0,d1,d2,d3⟩:=(TA.gr HG2).head;simp only at hA;subst hA;have HT:=I ht;have hxp:((xm+1:Nat):Int)≠0:=by omega
     obtain⟨ym,rfl⟩:∃m,yn=m+1:=⟨_,HX2.symm⟩;obtain⟨uv,bd,hu,hB,u0,u1,u2,u3⟩:=(TB.gr HG2).head;simp only at hB;subst hB;have HU:=I hu;clear ht;clear hu;have hM:=I (show mrgT q n (s::la) (t::lb) acc=mrgT q (n - 1) la (t::lb) (putT acc s.1 s.2) from by obtain⟨n,rfl⟩:∃m,n=m+1:=⟨n - 1,by have:=Hn.out;rw[List.length_cons] at this;omega⟩;exact if_pos hst1);have hl1:decide (tv.var < uv.var)=true:=by rw[HT.var,HU.var];simp[hst1]
     have hl2:decide (uv.var < tv.var)=false:=by rw[HT.var,HU.var];simp;omega
     clear hst1;go_wp2_with fail;go_upto_region 6 with fail;refine wpr ?_;have kc:=I fun W' (G:Gr wr.drew W')=>G.kk d0 <| G.kk d1 <| G.kk d2 <| G.kk d3 <| G.kk u0 <| G.kk u1 <| ai (G.keep u2) (G.keep u3)
     refine wg 0 (tf 20 0) [0,1,2,3,4,5,6,7,8,9,10,11,12,13,14,15,16,17,18,19] [] ?_;iterate 20 refine .tk ?_
     refine .done fun W1 G1 F1=>?_
     clear F1;have kc1:=kc.out W1 G1;clear kc d0 d1 d2 d3 u0 u1 u2 u3;obtain⟨d0,d1,d2,d3,u0,u1,u2,u3⟩:=kc1;refine wpe ?_;have GA:=I G1.od;clear G1;generalize hWa:W1=Wa at*;clear hWa;go_wp2_with fail;obtain⟨o0,o1,o2,o3⟩:=(GA.bk DO2).c4;obtain⟨c1,c2,c3⟩:=(GA.bk DC).c3;go_upto_region 7 with fail;refine wpr ?_;have kc:=I fun W' (G:Gr Wa.drew W')=>G.kk d0 <| G.kk d1 <| G.kk d2 <| G.kk d3 <| G.kk u0 <| G.kk u1 <| G.kk u2 <| G.kk u3 <| G.kk o0 <| G.kk o1 <| ai (G.keep o2) (G.keep o3)
     refine wg 2 (tf 9 2) [0,1,2,3,4,5,6,7,8] [] ?_;iterate 9 refine .tk ?_
     refine .done fun W1 G1 F1=>?_
     replace kc:=kc.out W1 G1;clear F1 d0 d1 d2 d3 u0 u1 u2 u3 o0 o1 o2 o3;have GB:=I (GA.trans G1.od);refine wpAny_k 9 fun K hK=>?_
     refine doesAt_wp (K:=fun v W'=>∃yv:Sv,v=Fv.v ⟨yv,k⟩∧OwnT W' w.heap.size yv (putT acc tv.var (s.2))∧Fr (fun b=>(z.v).ownBlock=some b) W1 W') (doesAt_enter (f:=231) (args:=#[.agg #[z.v,.bool k.neg,k.num.v,k.den.v],.int .i64 tv.var,tv.coef.v]) (by go_simp;try (first | with_reducible rfl | rfl)) ((put_any W1 w.heap.size ⟨z,k⟩ acc (Q.add x.const (Q.mul y.const q)) tv.var tv.coef s.2 (HZ.up (GA.trans G1.od)) (HK2.gr (GA.trans G1.od)) (HT.coef.gr (GA.trans G1.od)) (nt HG2.size (GA.trans G1.od).size) (by have:=HL.out;simp only[List.length_cons,List.length_nil] at this;omega) (nt (LA.out s (mf ..)).num dx) (nt (LA.out s (mf ..)).den dx)).mono ?_)) ?_
     ·rintro e w' ⟨yv,rfl,h1,h2⟩;exact⟨_,rfl,yv,rfl,h1,h2⟩
     rintro v w5 ⟨yv,rfl,hy,hF⟩;refine hK.out _ _ ?_;clear hK K;refine ptt ?_;have hz9:=HZ.up GB;have DO3:=I (hF.bk (GB.bk DO2) (fun e=>hz9.ne (GB.bk DO2) dx e));have DC3:=I (hF.bk (GB.bk DC) (fun e=>hz9.ne (GB.bk DC) dx e));have DR3:=I (hF.bk (GB.bk DR) (fun e=>hz9.ne (GB.bk DR) dx e));have hG5:=(HG2.trans GB).step hF (fun b _ e=>(hz9.lt b e).1);have hK5:=(HK2.gr GB).tf hF (fun b cs fr e hh=>(by obtain⟨ts,t1,_⟩:=hz9;obtain⟨cur,hc⟩:=rw_bk t1 b e;exact Bk.not_ty hc dx _ _ hh));have HY5:=I hy;have HK5:=I hK5;have HG5:=I hG5;clear hz9 hy hF hG5 hK5 G1 c1 c2 c3 kc;obtain⟨o0,o1,o2,o3⟩:=DO3.c4;have oz:=DO3.frozen;refine wo 10 ?_;refine wpe ?_;refine ks DO3 fun w6 B5 F5=>?_
     have HY6:=I (HY5.fr F5 (fun b cs fr e hh=>Bk.not_ty DO3 dx cs fr (e▸hh)) fun b hb e=>HY5.ne DO3 dx (e▸hb));have HK6:=I (HK5.tf F5 (fun b cs fr e hh=>Bk.not_ty DO3 dx cs fr (e▸hh)));have HG6:=I (HG5.fr_at F5 HNO);have DO6:=B5;have DC6:=I (F5.bk DC3 (fun e=>Bk.ne DO3 DC3 dx e.symm));have DR6:=I (F5.bk DR3 (fun e=>hro.out e.symm));clear B5 F5 o0 o1 o2 o3 oz;go_wp2;go_roundw
     ·have HY7:Hid (OwnT w6 w.heap.size yv (putT acc s.1 (s.2))):=I (by have:=HY6.out;rw[HT.var] at this;exact this);exact⟨_,⟨some bd,ym+1,yc⟩,yv,la,(t::lb),putT acc s.1 (s.2),n - 1,rfl,rfl,TA.tail,TB.out,HY7.out,(hM.symm.trans HM),I (by have:=Hn.out;simp only[List.length_cons,List.length_nil] at this ⊢;omega),I (by have:=HL.out;have:=putT_len acc s.1 (s.2);simp only[List.length_cons,List.length_nil] at *;omega),(fun i hi=>LA.out i (List.mem_cons_of_mem _ hi)),LB.out,HK6.out,HG6.out,DC6.out,DR6.out,DO6.out⟩
     ·simp[lenOf];try omega
    ·by_cases hst2:t.1 < s.1
     ·-- b first
      obtain⟨xm,rfl⟩:∃m,xn=m+1:=⟨_,HX1.symm⟩;obtain⟨tv,ad,ht,hA,d0,d1,d2,d3⟩:=(TA.gr HG2).head;simp only at hA;subst hA;have HT:=I ht;have hxp:((xm+1:Nat):Int)≠0:=by omega
      obtain⟨ym,rfl⟩:∃m,yn=m+1:=⟨_,HX2.symm⟩;obtain⟨uv,bd,hu,hB,u0,u1,u2,u3⟩:=(TB.gr HG2).head;simp only at hB;subst hB;have HU:=I hu;clear ht;clear hu;have hM:=I (show mrgT q n (s::la) (t::lb) acc=mrgT q (n - 1) (s::la) lb (putT acc t.1 (Q.mul t.2 q)) from by obtain⟨n,rfl⟩:∃m,n=m+1:=⟨n - 1,by have:=Hn.out;rw[List.length_cons] at this;omega⟩;exact (if_neg hst1).trans (if_pos hst2));have hl1:decide (tv.var < uv.var)=false:=by rw[HT.var,HU.var];simp[hst1]
      have hl2:decide (uv.var < tv.var)=true:=by rw[HT.var,HU.var];simp[hst2]
      clear hst1 hst2;go_wp2_with fail;go_upto_region 6 with fail;refine wpr ?_;have kc:=I fun W' (G:Gr wr.drew W')=>G.kk d0 <| G.kk d1 <| G.kk d2 <| G.kk d3 <| G.kk u0 <| G.kk u1 <| ai (G.keep u2) (G.keep u3)
      refine wg 0 (tf 20 0) [0,1,2,3,4,5,6,7,8,9,10,11,12,13,14,15,16,17,18,19] [] ?_;iterate 20 refine .tk ?_
      refine .done fun W1 G1 F1=>?_
      clear F1;have kc1:=kc.out W1 G1;clear kc d0 d1 d2 d3 u0 u1 u2 u3;obtain⟨d0,d1,d2,d3,u0,u1,u2,u3⟩:=kc1;refine wpe ?_;have GA:=I G1.od;clear G1;generalize hWa:W1=Wa at*;clear hWa;go_wp2_with fail;go_upto_region 9 with fail;refine wpr ?_;have kc:=I fun W' (G:Gr Wa.drew W')=>G.kk d0 <| G.kk d1 <| G.kk d2 <| G.kk d3 <| G.kk u0 <| G.kk u1 <| ai (G.keep u2) (G.keep u3)
      refine wg 0 (tf 15 0) [0,1,2,3,4,5,6,7,8,9,10,11,12,13,14] [] ?_;iterate 15 refine .tk ?_
      refine .done fun W1 G1 F1=>?_
      clear F1;have kc1:=kc.out W1 G1;clear kc d0 d1 d2 d3 u0 u1 u2 u3;obtain⟨d0,d1,d2,d3,u0,u1,u2,u3⟩:=kc1;refine wpe ?_;replace GA:=I (GA.trans G1.od);clear G1;generalize hWb:W1=Wb at*;clear hWb;go_wp2_with fail;obtain⟨o0,o1,o2,o3⟩:=(GA.bk DO2).c4;obtain⟨c1,c2,c3⟩:=(GA.bk DC).c3;go_upto_region 10 with fail;refine wpr ?_;have kc:=I fun W' (G:Gr Wb.drew W')=>G.kk d0 <| G.kk d1 <| G.kk d2 <| G.kk d3 <| G.kk u0 <| G.kk u1 <| G.kk u2 <| G.kk u3 <| G.kk o0 <| G.kk o1 <| G.kk o2 <| G.kk o3 <| G.kk c1 <| ai (G.keep c2) (G.keep c3)
      refine wg 2 (tf 11 2) [0,1,2,3,4,5,6,7,8,9,10] [(10,Rv.At (Q.mul t.2 q))] ?_;iterate 10 refine .tk ?_
      refine .dk (fun W1 G1 F1=>rmul_any W1 uv.coef c t.2 q (HU.coef.gr (GA.trans G1.od)) (HC.gr (HG2.trans (GA.trans G1.od))) (nt (LB.out t (mf ..)).num dx) (nt hq.num dx) ⟨nt (LB.out t (mf ..)).den dx,nt hq.den dx⟩) ?_;rintro _ ⟨_,-,-,⟨m2,rfl,-⟩⟩;refine .done fun W1 G1 F1=>?_
      have hm2:=lh F1 0;replace kc:=kc.out W1 G1;clear F1 d0 d1 d2 d3 u0 u1 u2 u3 o0 o1 o2 o3 c1 c2 c3;have GB:=I (GA.trans G1.od);refine wpAny_k 11 fun K hK=>?_
      refine doesAt_wp (K:=fun v W'=>∃yv:Sv,v=Fv.v ⟨yv,k⟩∧OwnT W' w.heap.size yv (putT acc uv.var (Q.mul t.2 q))∧Fr (fun b=>(z.v).ownBlock=some b) W1 W') (doesAt_enter (f:=231) (args:=#[.agg #[z.v,.bool k.neg,k.num.v,k.den.v],.int .i64 uv.var,m2.v]) (by go_simp;try (first | with_reducible rfl | rfl)) ((put_any W1 w.heap.size ⟨z,k⟩ acc (Q.add x.const (Q.mul y.const q)) uv.var m2 (Q.mul t.2 q) (HZ.up (GA.trans G1.od)) (HK2.gr (GA.trans G1.od)) hm2.is (nt HG2.size (GA.trans G1.od).size) (by have:=HL.out;simp only[List.length_cons,List.length_nil] at this;omega) (nt ((LB.out t (mf ..)).bd.mul hq.bd).num dx) (nt ((LB.out t (mf ..)).bd.mul hq.bd).den dx)).mono ?_)) ?_
      ·rintro e w' ⟨yv,rfl,h1,h2⟩;exact⟨_,rfl,yv,rfl,h1,h2⟩
      rintro v w5 ⟨yv,rfl,hy,hF⟩;refine hK.out _ _ ?_;clear hK K;refine ptt ?_;have hz9:=HZ.up GB;have DO3:=I (hF.bk (GB.bk DO2) (fun e=>hz9.ne (GB.bk DO2) dx e));have DC3:=I (hF.bk (GB.bk DC) (fun e=>hz9.ne (GB.bk DC) dx e));have DR3:=I (hF.bk (GB.bk DR) (fun e=>hz9.ne (GB.bk DR) dx e));have hG5:=(HG2.trans GB).step hF (fun b _ e=>(hz9.lt b e).1);have hK5:=(HK2.gr GB).tf hF (fun b cs fr e hh=>(by obtain⟨ts,t1,_⟩:=hz9;obtain⟨cur,hc⟩:=rw_bk t1 b e;exact Bk.not_ty hc dx _ _ hh));have HY5:=I hy;have HK5:=I hK5;have HG5:=I hG5;clear hz9 hy hF hG5 hK5 G1 hm2 kc;obtain⟨o0,o1,o2,o3⟩:=DO3.c4;have oz:=DO3.frozen;refine wo 12 ?_;refine wpe ?_;refine ks DO3 fun w6 B5 F5=>?_
      have HY6:=I (HY5.fr F5 (fun b cs fr e hh=>Bk.not_ty DO3 dx cs fr (e▸hh)) fun b hb e=>HY5.ne DO3 dx (e▸hb));have HK6:=I (HK5.tf F5 (fun b cs fr e hh=>Bk.not_ty DO3 dx cs fr (e▸hh)));have HG6:=I (HG5.fr_at F5 HNO);have DO6:=B5;have DC6:=I (F5.bk DC3 (fun e=>Bk.ne DO3 DC3 dx e.symm));have DR6:=I (F5.bk DR3 (fun e=>hro.out e.symm));clear B5 F5 o0 o1 o2 o3 oz;go_wp2;go_roundw
      ·have HY7:Hid (OwnT w6 w.heap.size yv (putT acc t.1 (Q.mul t.2 q))):=I (by have:=HY6.out;rw[HU.var] at this;exact this);exact⟨⟨some ad,xm+1,xc⟩,_,yv,(s::la),lb,putT acc t.1 (Q.mul t.2 q),n - 1,rfl,rfl,TA.out,TB.tail,HY7.out,(hM.symm.trans HM),I (by have:=Hn.out;simp only[List.length_cons,List.length_nil] at this ⊢;omega),I (by have:=HL.out;have:=putT_len acc t.1 (Q.mul t.2 q);simp only[List.length_cons,List.length_nil] at *;omega),LA.out,(fun i hi=>LB.out i (List.mem_cons_of_mem _ hi)),HK6.out,HG6.out,DC6.out,DR6.out,DO6.out⟩
      ·simp[lenOf];try omega
     ·-- equal
      obtain⟨xm,rfl⟩:∃m,xn=m+1:=⟨_,HX1.symm⟩;obtain⟨tv,ad,ht,hA,d0,d1,d2,d3⟩:=(TA.gr HG2).head;simp only at hA;subst hA;have HT:=I ht;have hxp:((xm+1:Nat):Int)≠0:=by omega
      obtain⟨ym,rfl⟩:∃m,yn=m+1:=⟨_,HX2.symm⟩;obtain⟨uv,bd,hu,hB,u0,u1,u2,u3⟩:=(TB.gr HG2).head;simp only at hB;subst hB;have HU:=I hu;clear ht;clear hu;have hM:=I (show mrgT q n (s::la) (t::lb) acc=mrgT q (n - 1) la lb (putT acc s.1 (Q.add s.2 (Q.mul t.2 q))) from by obtain⟨n,rfl⟩:∃m,n=m+1:=⟨n - 1,by have:=Hn.out;rw[List.length_cons] at this;omega⟩;exact (if_neg hst1).trans (if_neg hst2));have hl1:decide (tv.var < uv.var)=false:=by rw[HT.var,HU.var];simp[hst1]
      have hl2:decide (uv.var < tv.var)=false:=by rw[HT.var,HU.var];simp[hst2]
      clear hst1 hst2;go_wp2_with fail;go_upto_region 6 with fail;refine wpr ?_;have kc:=I fun W' (G:Gr wr.drew W')=>G.kk d0 <| G.kk d1 <| G.kk d2 <| G.kk d3 <| G.kk u0 <| G.kk u1 <| ai (G.keep u2) (G.keep u3)
      refine wg 0 (tf 20 0) [0,1,2,3,4,5,6,7,8,9,10,11,12,13,14,15,16,17,18,19] [] ?_;iterate 20 refine .tk ?_
      refine .done fun W1 G1 F1=>?_
      clear F1;have kc1:=kc.out W1 G1;clear kc d0 d1 d2 d3 u0 u1 u2 u3;obtain⟨d0,d1,d2,d3,u0,u1,u2,u3⟩:=kc1;refine wpe ?_;have GA:=I G1.od;clear G1;generalize hWa:W1=Wa at*;clear hWa;go_wp2_with fail;go_upto_region 9 with fail;refine wpr ?_;have kc:=I fun W' (G:Gr Wa.drew W')=>G.kk d0 <| G.kk d1 <| G.kk d2 <| G.kk d3 <| G.kk u0 <| G.kk u1 <| ai (G.keep u2) (G.keep u3)
      refine wg 0 (tf 15 0) [0,1,2,3,4,5,6,7,8,9,10,11,12,13,14] [] ?_;iterate 15 refine .tk ?_
      refine .done fun W1 G1 F1=>?_
      clear F1;have kc1:=kc.out W1 G1;clear kc d0 d1 d2 d3 u0 u1 u2 u3;obtain⟨d0,d1,d2,d3,u0,u1,u2,u3⟩:=kc1;refine wpe ?_;replace GA:=I (GA.trans G1.od);clear G1;generalize hWb:W1=Wb at*;clear hWb;go_wp2_with fail;obtain⟨o0,o1,o2,o3⟩:=(GA.bk DO2).c4;obtain⟨c1,c2,c3⟩:=(GA.bk DC).c3;go_upto_region 4 with fail;refine wpr ?_;have kc:=I fun W' (G:Gr Wb.drew W')=>G.kk d0 <| G.kk d1 <| G.kk d2 <| G.kk d3 <| G.kk u0 <| G.kk u1 <| G.kk u2 <| G.kk u3 <| G.kk o0 <| G.kk o1 <| G.kk o2 <| G.kk o3 <| G.kk c1 <| ai (G.keep c2) (G.keep c3)
      refine wg 2 (tf 16 2) [0,1,2,3,4,5,6,7,8,9,10,11,12,13,14,15] [(14,Rv.At (Q.mul t.2 q)),(15,Rv.At (Q.add s.2 (Q.mul t.2 q)))] ?_;iterate 14 refine .tk ?_
      refine .dk (fun W1 G1 F1=>rmul_any W1 uv.coef c t.2 q (HU.coef.gr (GA.trans G1.od)) (HC.gr (HG2.trans (GA.trans G1.od))) (nt (LB.out t (mf ..)).num dx) (nt hq.num dx) ⟨nt (LB.out t (mf ..)).den dx,nt hq.den dx⟩) ?_;rintro _ ⟨_,-,-,⟨m2,rfl,-⟩⟩;refine .dk (fun W1 G1 F1=>by have hm2:=lk F1 0;have hm2:=Rv.At.is hm2;exact radd_any W1 tv.coef m2 s.2 (Q.mul t.2 q) (HT.coef.gr (GA.trans G1.od)) hm2 (nt (LA.out s (mf ..)).num dx) (nt ((LB.out t (mf ..)).bd.mul hq.bd).num dx) ⟨nt (LA.out s (mf ..)).den dx,nt ((LB.out t (mf ..)).bd.mul hq.bd).den dx⟩) ?_;rintro _ ⟨_,-,-,⟨m3,rfl,-⟩⟩;refine .done fun W1 G1 F1=>?_
      have hm2:=lh F1 0;have hm3:=lh F1 1;replace kc:=kc.out W1 G1;clear F1 d0 d1 d2 d3 u0 u1 u2 u3 o0 o1 o2 o3 c1 c2 c3;have GB:=I (GA.trans G1.od);refine wpAny_k 16 fun K hK=>?_
      refine doesAt_wp (K:=fun v W'=>∃yv:Sv,v=Fv.v ⟨yv,k⟩∧OwnT W' w.heap.size yv (putT acc tv.var (Q.add s.2 (Q.mul t.2 q)))∧Fr (fun b=>(z.v).ownBlock=some b) W1 W') (doesAt_enter (f:=231) (args:=#[.agg #[z.v,.bool k.neg,k.num.v,k.den.v],.int .i64 tv.var,m3.v]) (by go_simp;try (first | with_reducible rfl | rfl)) ((put_any W1 w.heap.size ⟨z,k⟩ acc (Q.add x.const (Q.mul y.const q)) tv.var m3 (Q.add s.2 (Q.mul t.2 q)) (HZ.up (GA.trans G1.od)) (HK2.gr (GA.trans G1.od)) hm3.is (nt HG2.size (GA.trans G1.od).size) (by have:=HL.out;simp only[List.length_cons,List.length_nil] at this;omega) (nt ((LA.out s (mf ..)).bd.add ((LB.out t (mf ..)).bd.mul hq.bd)).num dx) (nt ((LA.out s (mf ..)).bd.add ((LB.out t (mf ..)).bd.mul hq.bd)).den dx)).mono ?_)) ?_
      ·rintro e w' ⟨yv,rfl,h1,h2⟩;exact⟨_,rfl,yv,rfl,h1,h2⟩
      rintro v w5 ⟨yv,rfl,hy,hF⟩;refine hK.out _ _ ?_;clear hK K;refine ptt ?_;have hz9:=HZ.up GB;have DO3:=I (hF.bk (GB.bk DO2) (fun e=>hz9.ne (GB.bk DO2) dx e));have DC3:=I (hF.bk (GB.bk DC) (fun e=>hz9.ne (GB.bk DC) dx e));have DR3:=I (hF.bk (GB.bk DR) (fun e=>hz9.ne (GB.bk DR) dx e));have hG5:=(HG2.trans GB).step hF (fun b _ e=>(hz9.lt b e).1);have hK5:=(HK2.gr GB).tf hF (fun b cs fr e hh=>(by obtain⟨ts,t1,_⟩:=hz9;obtain⟨cur,hc⟩:=rw_bk t1 b e;exact Bk.not_ty hc dx _ _ hh));have HY5:=I hy;have HK5:=I hK5;have HG5:=I hG5;clear hz9 hy hF hG5 hK5 G1 hm2 hm3 kc;obtain⟨o0,o1,o2,o3⟩:=DO3.c4;have oz:=DO3.frozen;refine wo 17 ?_;refine wpe ?_;refine ks DO3 fun w6 B5 F5=>?_
      have HY6:=I (HY5.fr F5 (fun b cs fr e hh=>Bk.not_ty DO3 dx cs fr (e▸hh)) fun b hb e=>HY5.ne DO3 dx (e▸hb));have HK6:=I (HK5.tf F5 (fun b cs fr e hh=>Bk.not_ty DO3 dx cs fr (e▸hh)));have HG6:=I (HG5.fr_at F5 HNO);have DO6:=B5;have DC6:=I (F5.bk DC3 (fun e=>Bk.ne DO3 DC3 dx e.symm));have DR6:=I (F5.bk DR3 (fun e=>hro.out e.symm));clear B5 F5 o0 o1 o2 o3 oz;have hx1:(1:Int)≤(xm:Int)+1:=by omega
      have hy1:(1:Int)≤(ym:Int)+1:=by omega
      go_wp2_with fail;go_upto_region 5 with fail;refine wpr ?_;show wpAny _ _ _ _ 6 _ _ _;refine wg 0 (tf 6 0) [0,1,2,3,4,5] [] ?_;iterate 6 refine .tk ?_
      refine .done fun W1 G1 F1=>?_
      clear F1;refine wpe ?_;replace HY6:=I (HY6.up G1.od);replace HK6:=I (HK6.gr G1.od);replace HG6:=I (HG6.trans G1.od);replace DO6:=I (G1.od.bk DO6);replace DC6:=I (G1.od.bk DC6);replace DR6:=I (G1.od.bk DR6);clear G1;go_wp2;go_roundw
      ·have HY7:=I (show OwnT _ w.heap.size yv (putT acc s.1 (Q.add s.2 (Q.mul t.2 q))) from by have:=HY6.out;rw[HT.var] at this;exact this);exact⟨_,_,yv,la,lb,putT acc s.1 (Q.add s.2 (Q.mul t.2 q)),n - 1,rfl,rfl,TA.tail,TB.tail,HY7.out,(hM.symm.trans HM),I (by have:=Hn.out;simp only[List.length_cons,List.length_nil] at this ⊢;omega),I (by have:=HL.out;have:=putT_len acc s.1 (Q.add s.2 (Q.mul t.2 q));simp only[List.length_cons,List.length_nil] at *;omega),(fun i hi=>LA.out i (List.mem_cons_of_mem _ hi)),(fun i hi=>LB.out i (List.mem_cons_of_mem _ hi)),HK6.out,HG6.out,DC6.out,DR6.out,DO6.out⟩
      ·simp[lenOf];try omega
theorem lo_one:Q.one.Lo:=Q.Sm.lo (Q.Sm.small dx dx)
theorem lo_mone:Q.mone.Lo:=Q.Sm.lo (Q.Sm.small dx dx)
theorem lo_zero:Q.zero.Lo:=Q.Sm.lo (Q.Sm.small dx dx)
abbrev Fm.zero:Fm:=⟨[],Q.zero⟩
abbrev Fv.nil:Fv:=⟨Sv.none,Rv.nil⟩
theorem Fv.Is.zero (w:World):Fv.nil.Is w Fm.zero:=⟨Rows.empty,Rv.Is.zero w⟩
theorem ladd_any (w:World) (f g:Fv) (x y:Fm) (hf:f.Is w x) (hg:g.Is w y) (hx:∀t∈x.terms,t.2.Lo) (hy:∀t∈y.terms,t.2.Lo) (hk:x.const.Lo) (hl:y.const.Lo) (hn:x.terms.length+y.terms.length≤1000000):
  Calls Tryz.prog 191 #[f.v,g.v] w fun e w'=>∃r:Fv,e=.returned r.v∧r.Is w' (mrg x y Q.one)∧Gr w w':=by
 change Hid _ at hf hg hx hy hk hl;have LN:=I hn;clear hn;simp only[Rv.v,Fv.v] at*;go_enter Tryz.func191,Tryz.ntmps191;go_upto_region 1 with fail;refine nw3h fun W HG D_p D_g0 D_r=>?_
 have N_r:=dnl (w.heap.size) (w.heap.size+1+1);generalize w.heap.size+1+1=r at*;generalize w.heap.size+1=g0 at*;obtain⟨a0,a1,a2,a3⟩:=D_p.c4;obtain⟨b0,b1,b2,b3⟩:=D_g0.c4;refine wpr ?_;have kc:=I fun W' (G:Gr W.drew W')=>G.kk a0 <| G.kk a1 <| G.kk a2 <| G.kk a3 <| G.kk b0 <| G.kk b1 <| ai (G.keep b2) (G.keep b3)
 refine wg 1 (tf 4 1) [0,1,2,3] [(2,Rv.At (Q.one)),(3,Fv.At (mrg x y Q.one))] ?_;iterate 2 refine .tk ?_
 refine .dk (fun W1 G1 F1=>rof_any W1 1 dx dx) ?_;rintro _ ⟨_,-,-,⟨c,rfl,-⟩⟩;refine .dk (fun W1 G1 F1=>by have hc:=lk F1 0;have hc:=Rv.At.is hc;exact merge_any W1 f g x y c Q.one (hf.gr (HG.trans G1.od)) (hg.gr (HG.trans G1.od)) hc hx hy hk hl lo_one LN) ?_;rintro _ ⟨_,-,-,⟨i,rfl,-⟩⟩;refine .done fun W1 G1 F1=>?_
 have hc:=lh F1 0;have hi:=lh F1 1;clear F1;have kc1:=kc.out W1 G1;clear kc a0 a1 a2 a3 b0 b1 b2 b3;obtain⟨a0,a1,a2,a3,b0,b1,b2,b3⟩:=kc1;have hR5:=G1.od.bk D_r;refine wpAny_k 4 fun K hK=>?_
 have fz5:=hR5.frozen;have z50_:=hR5.c4;go_simp;refine hK.out _ _ ?_;clear hK K;refine ptt ?_;refine wpe ?_;obtain⟨B5,F5⟩:=hR5.put4 i.terms.v (.bool i.const.neg) i.const.num.v i.const.den.v;have H5:=I F5;have D5:=I B5;obtain⟨d0,d1,d2,d3⟩:=B5.c4;clear F5 B5;generalize (((W1.setCell ⟨r,0,none⟩ i.terms.v).setCell ⟨r,1,none⟩ (.bool i.const.neg)).setCell ⟨r,2,none⟩ i.const.num.v).setCell ⟨r,3,none⟩ i.const.den.v=W5 at*;go_wp2;refine pex ?_;refine bodyPost_ret (by simp[results,Tryz.results191,go_sem,d0,d1,d2,d3];try rfl) rfl ?_;exact⟨i,rfl,hi.is.tf' H5 hR5,(HG.trans G1.od).fr_at H5 N_r⟩
theorem lsub_any (w:World) (f g:Fv) (x y:Fm) (hf:f.Is w x) (hg:g.Is w y) (hx:∀t∈x.terms,t.2.Lo) (hy:∀t∈y.terms,t.2.Lo) (hk:x.const.Lo) (hl:y.const.Lo) (hn:x.terms.length+y.terms.length≤1000000):
  Calls Tryz.prog 140 #[f.v,g.v] w fun e w'=>∃r:Fv,e=.returned r.v∧r.Is w' (mrg x y Q.mone)∧Gr w w':=by
 change Hid _ at hf hg hx hy hk hl;have LN:=I hn;clear hn;simp only[Rv.v,Fv.v] at*;go_enter Tryz.func140,Tryz.ntmps140;go_upto_region 1 with fail;refine nw3h fun W HG D_p D_g0 D_r=>?_
 have N_r:=dnl (w.heap.size) (w.heap.size+1+1);generalize w.heap.size+1+1=r at*;generalize w.heap.size+1=g0 at*;obtain⟨a0,a1,a2,a3⟩:=D_p.c4;obtain⟨b0,b1,b2,b3⟩:=D_g0.c4;refine wpr ?_;have kc:=I fun W' (G:Gr W.drew W')=>G.kk a0 <| G.kk a1 <| G.kk a2 <| G.kk a3 <| G.kk b0 <| G.kk b1 <| ai (G.keep b2) (G.keep b3)
 refine wg 1 (tf 4 1) [0,1,2,3] [(2,Rv.At (Q.mone)),(3,Fv.At (mrg x y Q.mone))] ?_;iterate 2 refine .tk ?_
 refine .dk (fun W1 G1 F1=>rof_any W1 (-1) dx dx) ?_;rintro _ ⟨_,-,-,⟨c,rfl,-⟩⟩;refine .dk (fun W1 G1 F1=>by have hc:=lk F1 0;have hc:=Rv.At.is hc;exact merge_any W1 f g x y c Q.mone (hf.gr (HG.trans G1.od)) (hg.gr (HG.trans G1.od)) hc hx hy hk hl lo_mone LN) ?_;rintro _ ⟨_,-,-,⟨i,rfl,-⟩⟩;refine .done fun W1 G1 F1=>?_
 have hc:=lh F1 0;have hi:=lh F1 1;clear F1;have kc1:=kc.out W1 G1;clear kc a0 a1 a2 a3 b0 b1 b2 b3;obtain⟨a0,a1,a2,a3,b0,b1,b2,b3⟩:=kc1;have hR5:=G1.od.bk D_r;refine wpAny_k 4 fun K hK=>?_
 have fz5:=hR5.frozen;have z50_:=hR5.c4;go_simp;refine hK.out _ _ ?_;clear hK K;refine ptt ?_;refine wpe ?_;obtain⟨B5,F5⟩:=hR5.put4 i.terms.v (.bool i.const.neg) i.const.num.v i.const.den.v;have H5:=I F5;have D5:=I B5;obtain⟨d0,d1,d2,d3⟩:=B5.c4;clear F5 B5;generalize (((W1.setCell ⟨r,0,none⟩ i.terms.v).setCell ⟨r,1,none⟩ (.bool i.const.neg)).setCell ⟨r,2,none⟩ i.const.num.v).setCell ⟨r,3,none⟩ i.const.den.v=W5 at*;go_wp2;refine pex ?_;refine bodyPost_ret (by simp[results,Tryz.results140,go_sem,d0,d1,d2,d3];try rfl) rfl ?_;exact⟨i,rfl,hi.is.tf' H5 hR5,(HG.trans G1.od).fr_at H5 N_r⟩
theorem lscale_any (w:World) (f:Fv) (c:Rv) (x:Fm) (q:Q) (hf:f.Is w x) (hc:c.Is w q) (hx:∀t∈x.terms,t.2.Lo) (hk:x.const.Lo) (hq:q.Lo) (hn:x.terms.length≤1000000):
  Calls Tryz.prog 187 #[f.v,c.v] w fun e w'=>∃r:Fv,e=.returned r.v∧r.Is w' (mrg Fm.zero x q)∧Gr w w':=by
 change Hid _ at hf hc hx hk hq;have LN:=I hn;clear hn;simp only[Rv.v,Fv.v] at*;go_enter Tryz.func187,Tryz.ntmps187;go_wp2_with fail;refine nw3hc fun W HG D_p D_c0 D_r=>?_
 have a0_:=D_p.c4;have b0_:=D_c0.c3;have N_r:=dnl (w.heap.size) (w.heap.size+1+1);generalize w.heap.size+1+1=r at*;generalize w.heap.size+1=c0 at*;refine cm1 (merge_any W Fv.nil f Fm.zero x c q (Fv.Is.zero W) (hf.gr HG) (hc.gr HG) (fun t ht=>by cases ht) hx lo_zero hk hq (by show 0+_≤_;rw[Nat.zero_add];exact LN.out)) fun i w1 HI G1=>?_
 replace HG:=HG.tr G1;replace D_r:=G1.hb D_r;clear a0_ b0_;have z0_:=D_r.c4;have fz:=D_r.frozen;go_wp2;refine pex ?_;refine ks D_r fun W5 B5 F5=>?_
 have d_:=B5.c4;refine bret Tryz.results187 ?_;exact⟨i,rfl,HI.tf' F5 D_r,HG.fr_at F5 N_r⟩
end
def nx (n:Nat):List Nat→Nat×List Nat
 | []=>(0,[])
 | x::r=>(x % n,r)
theorem nx_lt {n:Nat} (h:0 < n) (r:List Nat):(nx n r).1 < n:=by
 cases r with
 | nil=>exact h
 | cons x r=>exact Nat.mod_lt _ h
def fracQ (a:Int) (b:Nat):Q:=quot (decide (a < 0)) a.natAbs b
def denN (b:Nat):Nat:=[1,1,2,4].getD b 0
def numQ (r:List Nat):Q×List Nat:=(fracQ ((nx 9 r).1 - 4) (denN (nx 4 (nx 9 r).2).1),(nx 4 (nx 9 r).2).2)
structure Q.Tiny (q:Q):Prop where
 ok:q.Ok
 num:q.num≤4
 den:q.den≤4
theorem frac_tiny:∀a,a < 9→∀b,b < 4→(fracQ ((a:Nat) - 4) (denN b)).Ok∧(fracQ ((a:Nat) - 4) (denN b)).num≤4∧(fracQ ((a:Nat) - 4) (denN b)).den≤4:=by decide
theorem numQ_tiny (r:List Nat):(numQ r).1.Tiny:=by
 obtain⟨h1,h2,h3⟩:=frac_tiny _ (nx_lt (n:=9) (by decide) r) _ (nx_lt (n:=4) (by decide) (nx 9 r).2);exact⟨h1,h2,h3⟩
def formT:Nat→Nat→List Tm→List Nat→List Tm×List Nat
 | 0,_,ts,r=>(ts,r)
 | n+1,v,ts,r=>if 0 < (nx 3 r).1 then formT n (v+1) (snoc ts v (numQ (nx 3 r).2).1) (numQ (nx 3 r).2).2 else formT n (v+1) ts (nx 3 r).2
def formQ (vars:Nat) (r:List Nat):Fm×List Nat:=(⟨(formT vars 0 [] (numQ r).2).1,(numQ r).1⟩,(formT vars 0 [] (numQ r).2).2)
structure Fm.Small (f:Fm) (vars:Nat):Prop where
 ok:f.Ok vars
 num:∀t∈f.terms,t.2.Tiny
 const:f.const.Tiny
theorem snoc_small {l:List Tm} {k c:Q} {v:Nat} (h:Fm.Small ⟨l,k⟩ v) (hc:c.Tiny):Fm.Small ⟨snoc l v c,k⟩ (v+1):=by
 refine⟨h.ok.snoc hc.ok,fun t ht=>?_,h.const⟩;unfold snoc at ht;simp only at ht;split at ht
 ·exact h.num t ht
 ·rcases List.mem_append.1 ht with h1 | h1
  ·exact h.num t h1
  ·rw[List.mem_singleton.1 h1];exact hc
theorem formT_small {k:Q}:∀(n v:Nat) (ts:List Tm) (r:List Nat),Fm.Small ⟨ts,k⟩ v→Fm.Small ⟨(formT n v ts r).1,k⟩ (v+n)
 | 0,v,ts,r,h=>h
 | n+1,v,ts,r,h=>by
  unfold formT;rw[show v+(n+1)=v+1+n by omega];split
  ·exact formT_small n (v+1) _ _ (snoc_small h (numQ_tiny _))
  ·exact formT_small n (v+1) _ _ ⟨h.ok.mono (by omega),h.num,h.const⟩
theorem formQ_small (vars:Nat) (r:List Nat):(formQ vars r).1.Small vars:=by
 have h0:Fm.Small ⟨[],(numQ r).1⟩ 0:=⟨⟨fun i s t hs=>(by simp at hs),fun t ht=>(by cases ht),(numQ_tiny r).ok⟩,fun t ht=>(by cases ht),numQ_tiny r⟩;have:=formT_small vars 0 [] (numQ r).2 h0;rw[Nat.zero_add] at this;exact this
def unitsQ:Nat→Nat→List Nat→List Fm×List Nat
 | 0,_,r=>([],r)
 | n+1,v,r=>((formQ v r).1::(unitsQ n (v+1) (formQ v r).2).1,(unitsQ n (v+1) (formQ v r).2).2)
def outsQ:Nat→Nat→List Nat→List Fm×List Nat
 | 0,_,r=>([],r)
 | n+1,v,r=>((formQ v r).1::(outsQ n v (formQ v r).2).1,(outsQ n v (formQ v r).2).2)
structure Gm where
 inputs:Nat
 units:List Fm
 outputs:List Fm
 deriving DecidableEq,Inhabited
def graphQ (r:List Nat):Gm×List Nat:=
 let i:=nx 3 r
 let u:=nx 5 i.2
 let o:=nx 3 u.2
 let us:=unitsQ u.1 (1+i.1) o.2
 let os:=outsQ (1+o.1) (1+i.1+u.1) us.2
 (⟨1+i.1,us.1,os.1⟩,os.2)
structure Gm.Ok (g:Gm):Prop where
 i0:1≤g.inputs
 i9:g.inputs≤3
 u9:g.units.length≤4
 o0:1≤g.outputs.length
 o9:g.outputs.length≤3
 us:∀(j:Nat) (f:Fm),g.units[j]?=some f→f.Small (g.inputs+j)
 os:∀f∈g.outputs,f.Small (g.inputs+g.units.length)
theorem unitsQ_len:∀(n v:Nat) (r:List Nat),(unitsQ n v r).1.length=n
 | 0,_,_=>rfl
 | n+1,v,r=>by unfold unitsQ;rw[List.length_cons,unitsQ_len]
theorem outsQ_len:∀(n v:Nat) (r:List Nat),(outsQ n v r).1.length=n
 | 0,_,_=>rfl
 | n+1,v,r=>by unfold outsQ;rw[List.length_cons,outsQ_len]
theorem unitsQ_at:∀(n v:Nat) (r:List Nat) (j:Nat) (f:Fm),(unitsQ n v r).1[j]?=some f→f.Small (v+j)
 | 0,_,_,j,f,h=>by simp[unitsQ] at h
 | n+1,v,r,0,f,h=>by
  unfold unitsQ at h;obtain rfl:(formQ v r).1=f:=by simpa using h
  exact formQ_small v r
 | n+1,v,r,j+1,f,h=>by
  unfold unitsQ at h;rw[show v+(j+1)=v+1+j by omega];exact unitsQ_at n (v+1) (formQ v r).2 j f (by simpa using h)
theorem outsQ_all:∀(n v:Nat) (r:List Nat),∀f∈(outsQ n v r).1,f.Small v
 | 0,_,_,f,h=>by simp[outsQ] at h
 | n+1,v,r,f,h=>by
  unfold outsQ at h;rcases List.mem_cons.1 h with rfl | h
  ·exact formQ_small v r
  ·exact outsQ_all n v (formQ v r).2 f h
theorem graphQ_ok (r:List Nat):(graphQ r).1.Ok:=by
 have h1:=nx_lt (n:=3) (by decide) r;have h2:=nx_lt (n:=5) (by decide) (nx 3 r).2;have h3:=nx_lt (n:=3) (by decide) (nx 5 (nx 3 r).2).2;unfold graphQ;refine⟨by simp only;omega,by simp only;omega,?_,?_,?_,fun j f hf=>unitsQ_at _ _ _ j f hf,fun f hf=>?_⟩
 ·simp only[unitsQ_len];omega
 ·simp only[outsQ_len];omega
 ·simp only[outsQ_len];omega
 ·have:=outsQ_all _ _ _ f hf;simp only[unitsQ_len];exact this
section
attribute [local go_sem] Oper.semAt_some
structure Gv where
 inputs:Int
 units:Sv
 outs:Sv
abbrev Gv.v (g:Gv):Value:=.agg #[.int .i64 g.inputs,.slice g.units.A g.units.n g.units.c,.slice g.outs.A g.outs.n g.outs.c]
structure Gv.Is (w:World) (g:Gv) (x:Gm):Prop where
 inputs:g.inputs=x.inputs
 units:Forms w g.units x.units
 outs:Forms w g.outs x.outputs
theorem Gv.Is.gr {w w':World} {g:Gv} {x:Gm} (h:g.Is w x) (G:Gr w w'):g.Is w' x:=⟨h.inputs,h.units.gr G,h.outs.gr G⟩
instance kpGv {x:Gv} {q} {w w'}:Kp (x.Is w q) w w' (x.Is w' q):=⟨fun G h=>h.gr G⟩
structure Fm.Sm (f:Fm) (vars:Nat):Prop where
 ok:f.Ok vars
 num:∀t∈f.terms,t.2.Sm
 const:f.const.Sm
structure Gm.Va (g:Gm):Prop where
 i0:1≤g.inputs
 i9:g.inputs≤256
 u9:g.units.length≤1024
 o0:1≤g.outputs.length
 o9:g.outputs.length≤256
 us:∀(j:Nat) (f:Fm),g.units[j]?=some f→f.Sm (g.inputs+j)
 os:∀f∈g.outputs,f.Sm (g.inputs+g.units.length)
theorem Q.Tiny.sm {q:Q} (h:q.Tiny):q.Sm:=Q.Sm.small (nj h.num dx) (nj h.den dx)
theorem Fm.Small.sm {f:Fm} {n:Nat} (h:f.Small n):f.Sm n:=⟨h.ok,fun t ht=>(h.num t ht).sm,h.const.sm⟩
theorem Gm.Ok.va {g:Gm} (h:g.Ok):g.Va:=⟨h.i0,nt h.i9 dx,nt h.u9 dx,h.o0,nt h.o9 dx,fun j f hf=>(h.us j f hf).sm,fun f hf=>(h.os f hf).sm⟩
theorem gclo_any (w:World) (f:Fv) (x:Fm) (vars:Nat) (b:Nat) (hf:f.Is w x) (hx:x.Sm vars) (hb:Bk w b 3 #[.int .i64 vars]):
  Calls Tryz.prog 175 #[f.v,.pointer (some ⟨b,0,none⟩)] w fun e w'=>e=.returned (.bool false)∧Gr w w':=by
 obtain⟨B1,G⟩:=made1 w 37 (f.ar);have HG:=I G;have D_p:=I B1;clear G B1;change Hid _ at hf hx;have v0:=(HG.bk hb).cell 0;have a0_:=D_p.c4;clear hb;simp only[Fv.v] at*;go_enter Tryz.func175,Tryz.ntmps175;go_wp2_with fail;generalize hW:w.alloc (.cells f.ar 37)=W at*;clear hW;go_at_call 73
 refine cm0 (lvalid_any W f x vars (hf.gr HG) hx.ok (fun t ht=>(hx.num t ht).lo) hx.const.lo) fun w1 G1=>?_
 replace HG:=HG.tr G1

 go_wp2;go_ret;exact⟨rfl,HG.out⟩
theorem gidx_any (w:World) (l:Sv) (xs:List Fm) (vars:Nat) (b:Nat) (hl:Forms w l xs) (hx:∀x∈xs,x.Sm vars) (hb:Bk w b 3 #[.int .i64 vars]):
  Calls Tryz.prog 181 #[.slice l.A l.n l.c,.func (.func 175) #[] #[.pointer (some ⟨b,0,none⟩)]] w fun e w'=>e=.returned (.int .i64 (-1))∧Gr w w':=by
 obtain⟨A,n,c⟩:=l;have hn:xs.length=n:=hl.len;have hm:n≤9223372036854775807:=(by obtain⟨_,h1,_⟩:=hl;exact nt h1.cap h1.max);have HL:=I hl;have HX:=I hx;have HB:=I hb;have HN:=I hn;have HM:=I hm;clear hl hx hb hn hm;go_enter Tryz.func181,Tryz.ntmps181;go_wp2_with fail;go_loopw [8] (fun i wr=>∃k:Nat,i=.int .i64 k∧k≤n∧Hid (Gr w wr)) (fun i _=>n - (intOf i).toNat)
 case atStart=>exact⟨0,rfl,nq _,Gr.refl w⟩
 case round=>
  obtain⟨k,rfl,hk,HG⟩:=hrel;by_cases hkn:k < n
  ·obtain⟨q,hq⟩:∃q,xs[k]?=some q:=⟨_,ge (by rw[HN.out];exact hkn)⟩;obtain⟨f,ad,hf,hA,d0,d1,d2,d3⟩:=(HL.gr HG).at hq;simp only at hA;subst hA;have hm9:k < 9223372036854775807:=nk hkn HM;have HC:=I (gclo_any wr f q vars b hf (HX.out q (mg hq)) (HG.bk HB));clear hq hf;simp only[Fv.v] at HC;go_wp2_with fail;refine cm0 HC fun w1 G1=>?_
   have HG1:=I (HG.trans G1);clear HC;go_wp2;go_roundw
   ·exact⟨k+1,by go_num,by omega,HG1⟩
   ·simp[intOf];omega
  ·obtain rfl:k=n:=by omega
   go_wp2;go_ret;exact⟨rfl,HG.out⟩
theorem gcon_any (w:World) (l:Sv) (xs:List Fm) (vars:Nat) (b:Nat) (hl:Forms w l xs) (hx:∀x∈xs,x.Sm vars) (hb:Bk w b 3 #[.int .i64 vars]):
  Calls Tryz.prog 128 #[l.v,.func (.func 175) #[] #[.pointer (some ⟨b,0,none⟩)]] w fun e w'=>e=.returned (.bool false)∧Gr w w':=by
 have H1:=I (gidx_any w l xs vars b hl hx hb);clear hl hx hb;go_enter Tryz.func128,Tryz.ntmps128;go_wp2_with fail;refine cm0 H1 fun w1 G1=>?_
 have HG:=I G1;clear H1;go_wp2;go_ret;exact⟨rfl,HG.out⟩
theorem gall_any (w:World) (l:Sv) (xs:List Fm) (vars:Nat) (hl:Forms w l xs) (hx:∀x∈xs,x.Sm vars):
  Calls Tryz.prog 125 #[l.v,.int .i64 vars] w fun e w'=>e=.returned (.bool true)∧Gr w w':=by
 go_enter Tryz.func125,Tryz.ntmps125;go_wp2_with fail;refine nw1hc fun W HG D_p=>?_
 have G9:=HG.out;have H1:=I (gcon_any _ l xs vars _ (hl.gr G9) hx D_p);clear hl hx;clear G9;refine cm0 H1 fun w1 G1=>?_
 replace HG:=HG.tr G1;clear H1;go_wp2;go_ret;exact⟨rfl,HG.out⟩
theorem gvalid_any (w:World) (g:Gv) (x:Gm) (hg:g.Is w x) (hx:x.Va):
  Calls Tryz.prog 71 #[g.v] w fun e w'=>e=.returned (.bool true)∧Gr w w':=by
 obtain⟨gi,⟨uA,un,uc⟩,⟨oA,on,oc⟩⟩:=g;obtain rfl:gi=x.inputs:=hg.inputs;have hun:x.units.length=un:=hg.units.len;have hon:x.outputs.length=on:=hg.outs.len;have hi:((x.inputs:Int) < 1)=False:=by have:=hx.i0;simp;omega
 have hj:((256:Int) < (x.inputs:Int))=False:=by have:=hx.i9;simp;omega
 have hk:((1024:Int) < (un:Int))=False:=by have:=hx.u9;simp;omega
 have hl:((on:Int) < 1)=False:=by have:=hx.o0;simp;omega
 have hm:((256:Int) < (on:Int))=False:=by have:=hx.o9;simp;omega
 have i1:decide ((x.inputs:Int) < 1)=false:=by simp[hi]
 have i2:decide ((256:Int) < (x.inputs:Int))=false:=by simp[hj]
 have i3:decide ((1024:Int) < (un:Int))=false:=by simp[hk]
 have i4:decide ((on:Int) < 1)=false:=by simp[hl]
 have i5:decide ((256:Int) < (on:Int))=false:=by simp[hm]
 clear hi hj hk hl hm;change Hid _ at hg hx;have HU:=I hun;clear hun hon;simp only[Gv.v] at*;go_enter Tryz.func71,Tryz.ntmps71;go_wp2_with fail;refine nw1h fun W HG D_p=>?_
 obtain⟨a0,a1,a2⟩:=D_p.c3;go_loopw [34] (fun i wr=>∃k:Nat,i=.int .i64 k∧k≤un∧Hid (Gr w wr)∧Hid (Bk wr w.heap.size 27 #[.int .i64 x.inputs,.slice uA un uc,.slice oA on oc])) (fun i _=>un - (intOf i).toNat)
 case atStart=>exact⟨0,rfl,nq _,HG,D_p⟩
 case round=>
  obtain⟨k,rfl,hk,HG2,DP⟩:=hrel;clear HG D_p a0 a1 a2;obtain⟨a0,a1,a2⟩:=DP.c3;by_cases hkn:k < un
  ·obtain⟨q,hq⟩:∃q,x.units[k]?=some q:=⟨_,ge (by rw[HU.out];exact hkn)⟩;obtain⟨f,ad,hf,hA,d0,d1,d2,d3⟩:=(hg.units.gr HG2).at hq;simp only at hA;subst hA;have hs:=hx.us k q hq;have HS:=I hs;have HF:=I hf;have hm9:k≤1024:=nt hk (HU.out▸hx.u9);have hm8:x.inputs≤256:=hx.i9;have hm7:IntKind.i64.wrap ((x.inputs:Int)+(k:Int))=((x.inputs+k:Nat):Int):=by rw[wi _ om];omega
   clear hs hq hf;have G0:=Gr.alloc (Gr.refl wr) (.cells f.ar 37);have B1:=Bk.made wr 37 f.ar;have c0_:=B1.c4;have GT:=I G0;replace a0:=G0.keep a0;clear G0 B1 a1 a2;go_wp2_with fail;clear d0 d1 d2 d3;generalize wr.alloc (.cells f.ar 37)=W3 at*;generalize wr.heap.size=tb at*;refine cm0 (lvalid_any W3 f q (x.inputs+k) (HF.gr GT) HS.ok (fun t ht=>(HS.num t ht).lo) HS.const.lo) fun w1 G1=>?_
   have HG4:=I (HG2.trans (GT.trans G1));have DP4:=I ((GT.trans G1).bk DP);clear a0 c0_;go_wp2;go_roundw
   ·exact⟨k+1,by go_num,by omega,HG4,DP4⟩
   ·simp[intOf];omega
  ·obtain rfl:k=un:=by omega
   have hm9:k≤1024:=HU.out▸hx.u9;have hm8:x.inputs≤256:=hx.i9;have hm7:IntKind.i64.wrap ((x.inputs:Int)+(k:Int))=((x.inputs+k:Nat):Int):=by rw[wi _ om];omega
   have H5:=I (gall_any wr ⟨oA,on,oc⟩ x.outputs (x.inputs+k) (hg.outs.gr HG2) (by rw[← HU.out];exact hx.os));go_wp2_with fail;refine cm0 H5 fun w1 G1=>?_
   have HG3:=I (HG2.trans G1);clear H5;go_wp2;go_ret;exact⟨rfl,HG3.out⟩
theorem r7all_any (w:World) (l:Sv) (xs:List Fm) (vars:Nat) (hl:Forms w l xs) (hx:∀x∈xs,x.Sm vars):
  Calls Tryz.prog 114 #[.slice l.A l.n l.c,.int .i64 vars] w fun e w'=>e=.returned (.bool true)∧Gr w w':=by
 obtain⟨A,n,c⟩:=l;have hn:xs.length=n:=hl.len;have hm:n≤9223372036854775807:=(by obtain⟨_,h1,_⟩:=hl;exact nt h1.cap h1.max);have HL:=I hl;have HX:=I hx;have HN:=I hn;have HM:=I hm;clear hl hx hn hm;go_enter Tryz.func114,Tryz.ntmps114;go_wp2_with fail;go_loopw [5] (fun i wr=>∃k:Nat,i=.int .i64 k∧k≤n∧Hid (Gr w wr)) (fun i _=>n - (intOf i).toNat)
 case atStart=>exact⟨0,rfl,nq _,Gr.refl w⟩
 case round=>
  obtain⟨k,rfl,hk,HG⟩:=hrel;by_cases hkn:k < n
  ·obtain⟨q,hq⟩:∃q,xs[k]?=some q:=⟨_,ge (by rw[HN.out];exact hkn)⟩;obtain⟨f,ad,hf,hA,d0,d1,d2,d3⟩:=(HL.gr HG).at hq;simp only at hA;subst hA;have hm9:k < 9223372036854775807:=nk hkn HM;have hs:=HX.out q (mg hq);have HC:=I (r7valid_any wr f q vars hf hs.ok hs.num hs.const);clear hq hf hs;simp only[Fv.v] at HC;go_wp2_with fail;refine cm0 HC fun w1 G1=>?_
   have HG1:=I (HG.trans G1);clear HC;go_wp2;go_roundw
   ·exact⟨k+1,by go_num,by omega,HG1⟩
   ·simp[intOf];omega
  ·obtain rfl:k=n:=by omega
   go_wp2;go_ret;exact⟨rfl,HG.out⟩
theorem r15valid_any (w:World) (g:Gv) (x:Gm) (hg:g.Is w x) (hx:x.Va):
  Calls Tryz.prog 57 #[g.v] w fun e w'=>e=.returned (.bool true)∧Gr w w':=by
 obtain⟨gi,⟨uA,un,uc⟩,⟨oA,on,oc⟩⟩:=g;obtain rfl:gi=x.inputs:=hg.inputs;have hun:x.units.length=un:=hg.units.len;have hon:x.outputs.length=on:=hg.outs.len;have hi:((x.inputs:Int) < 1)=False:=by have:=hx.i0;simp;omega
 have hj:((256:Int) < (x.inputs:Int))=False:=by have:=hx.i9;simp;omega
 have hk:((1024:Int) < (un:Int))=False:=by have:=hx.u9;simp;omega
 have hl:((on:Int) < 1)=False:=by have:=hx.o0;simp;omega
 have hm:((256:Int) < (on:Int))=False:=by have:=hx.o9;simp;omega
 have i1:decide ((x.inputs:Int) < 1)=false:=by simp[hi]
 have i2:decide ((256:Int) < (x.inputs:Int))=false:=by simp[hj]
 have i3:decide ((1024:Int) < (un:Int))=false:=by simp[hk]
 have i4:decide ((on:Int) < 1)=false:=by simp[hl]
 have i5:decide ((256:Int) < (on:Int))=false:=by simp[hm]
 clear hi hj hk hl hm;change Hid _ at hg hx;have HU:=I hun;clear hun hon;simp only[Gv.v] at*;go_enter Tryz.func57,Tryz.ntmps57;go_wp2_with fail;refine nw1h fun W HG D_p=>?_
 obtain⟨a0,a1,a2⟩:=D_p.c3;go_loopw [3] (fun i wr=>∃k:Nat,i=.int .i64 k∧k≤un∧Hid (Gr w wr)∧Hid (Bk wr w.heap.size 27 #[.int .i64 x.inputs,.slice uA un uc,.slice oA on oc])) (fun i _=>un - (intOf i).toNat)
 case atStart=>exact⟨0,rfl,nq _,HG,D_p⟩
 case round=>
  obtain⟨k,rfl,hk,HG2,DP⟩:=hrel;clear HG D_p a0 a1 a2;obtain⟨a0,a1,a2⟩:=DP.c3;by_cases hkn:k < un
  ·obtain⟨q,hq⟩:∃q,x.units[k]?=some q:=⟨_,ge (by rw[HU.out];exact hkn)⟩;obtain⟨f,ad,hf,hA,d0,d1,d2,d3⟩:=(hg.units.gr HG2).at hq;simp only at hA;subst hA;have hs:=hx.us k q hq;have HS:=I hs;have HF:=I hf;have hm9:k≤1024:=nt hk (HU.out▸hx.u9);have hm8:x.inputs≤256:=hx.i9;have hm7:IntKind.i64.wrap ((x.inputs:Int)+(k:Int))=((x.inputs+k:Nat):Int):=by rw[wi _ om];omega
   clear hs hq hf;go_wp2_with fail;go_upto_region 6 with fail;refine wpr ?_;have kc:=I fun W' (G:Gr wr.drew W')=>G.kk a0 <| G.kk a1 <| G.kk a2 <| G.kk d0 <| G.kk d1 <| ai (G.keep d2) (G.keep d3)
   refine wg 0 (tf 11 0) [0,1,2,3,4,5,6,7,8,9,10] [(9,fun v _=>v=.bool true)] ?_;iterate 9 refine .tk ?_
   refine .dk (fun W1 G1 F1=>r7valid_any W1 f q (x.inputs+k) (HF.gr G1.od) HS.ok (fun t ht=>(HS.num t ht)) HS.const) ?_;rintro _ ⟨_,-,-,rfl⟩;refine .tk ?_;refine .done fun W1 G1 F1=>?_
   clear F1;refine wpe ?_;have HG4:=I (HG2.trans G1.od);have DP4:=I (G1.od.bk DP);clear G1 kc a0 a1 a2 d0 d1 d2 d3;go_wp2;go_roundw
   ·exact⟨k+1,by go_num,by omega,HG4,DP4⟩
   ·simp[intOf];omega
  ·obtain rfl:k=un:=by omega
   have hm9:k≤1024:=HU.out▸hx.u9;have hm8:x.inputs≤256:=hx.i9;have hm7:IntKind.i64.wrap ((x.inputs:Int)+(k:Int))=((x.inputs+k:Nat):Int):=by rw[wi _ om];omega
   have H5:=I (r7all_any wr ⟨oA,on,oc⟩ x.outputs (x.inputs+k) (hg.outs.gr HG2) (by rw[← HU.out];exact hx.os));go_wp2_with fail;refine cm0 H5 fun w1 G1=>?_
   have HG3:=I (HG2.trans G1);clear H5;go_wp2;go_ret;exact⟨rfl,HG3.out⟩
theorem orOne_sl {n:Nat} (h:Sl n):Sl (orOne n):=by
 unfold orOne;split
 ·show (limbs 1).length≤100000;rw[limbs_one dx dx];exact (by decide:1≤100000)
 ·exact h
theorem r3mul_any (w:World) (a b:Rv) (x y:Q) (ha:a.Is w x) (hb:b.Is w y) (h1:Sl x.num) (h2:Sl y.num) (h3:Sl x.den) (h4:Sl y.den):
  Calls Tryz.prog 69 #[a.v,b.v] w fun e w'=>∃r:Rv,e=.returned r.v∧r.Is w' (Q.mul x y)∧Gr w w':=by
 have U1:Hid (Sl x.un):=orOne_sl h3;have U2:Hid (Sl y.un):=orOne_sl h4;have bd:∀m n,Sl m→Sl n→(limbs (m*n)).length≤300000:=fun m n hm hn=>nt (limbs_mul_len m n) (nt (Nat.add_le_add hm hn) dx)
 have HL:=I (bd _ _ h1 h2);have U3:=I (bd _ _ U1 U2);have L1:=I h1;have L2:=I h2;have L3:=I h3;have L4:=I h4;have L5:=I U1.out;have L6:=I U2.out;have hE:Hid (Q.mul x y=quot (x.neg != y.neg) (x.num*y.num) (x.un*y.un)):=rfl;have N1:=I ha.neg;have N2:=I hb.neg;clear h1 h2 h3 h4 bd;simp only[Rv.v] at*;go_enter Tryz.func69,Tryz.ntmps69;go_wp2_with fail;have h9:¬w.heap.size=w.heap.size+1+1:=by omega
 have h8:¬w.heap.size+1=w.heap.size+1+1:=by omega
 have hpo:Hid (w.heap.size≤w.heap.size+1+1):=nt (Nat.le_succ _) (Nat.le_succ _);refine nw3h fun W HG4 C1 C2 C3=>?_
 have HA4:=I (ha.gr HG4);have HB4:=I (hb.gr HG4);clear ha hb;generalize w.heap.size+1+1=r at*;generalize w.heap.size+1=q at*;generalize hp:w.heap.size=p at*;have hPE:=I hp;clear hp;have h6:¬r=p:=fun e=>h9 e.symm
 have h5:¬r=q:=fun e=>h8 e.symm
 have a0_:=C1.c3;have b0_:=C2.c3;have HG0:Hid (Gr W W.drew):=(Gr.refl W).drew;have HM0:=I (rnmul_any W.drew a.num b.num _ _ (HA4.num.gr HG0) (HB4.num.gr HG0) (nt L1 dx) (nt L2 dx));rw[vl,vl] at HM0;have HU1:Hid (∀W2,Gr W W2→Calls Tryz.prog 54 #[a.den.v] W2 fun e w'=>∃y':Sv,e=.returned y'.v∧y'.Num w' (limbs x.un)∧Gr W2 w'):=fun W2 G=>rone_any W2 a.den _ (HA4.den.gr G) (nt L3 dx)
 have HU2:Hid (∀W2,Gr W W2→Calls Tryz.prog 54 #[b.den.v] W2 fun e w'=>∃y':Sv,e=.returned y'.v∧y'.Num w' (limbs y.un)∧Gr W2 w'):=fun W2 G=>rone_any W2 b.den _ (HB4.den.gr G) (nt L4 dx)
 first | (go_region_held3 (fun W=>W.cell? ⟨p,0,none⟩=some (.bool a.neg)∧W.cell? ⟨p,1,none⟩=some a.num.v∧W.cell? ⟨p,2,none⟩=some a.den.v∧W.cell? ⟨q,0,none⟩=some (.bool b.neg)∧W.cell? ⟨q,1,none⟩=some b.num.v∧W.cell? ⟨q,2,none⟩=some b.den.v)
   (first | go_keep | exact⟨hk0.1.1,hk0.1.2.1,hk0.1.2.2,hk0.2.1,hk0.2.2.1,hk0.2.2.2⟩ | exact⟨hk1.1.1,hk1.1.2.1,hk1.1.2.2,hk1.2.1,hk1.2.2.1,hk1.2.2.2⟩ | exact⟨hk2.1.1,hk2.1.2.1,hk2.1.2.2,hk2.2.1,hk2.2.2.1,hk2.2.2.2⟩ | exact⟨hk3.1.1,hk3.1.2.1,hk3.1.2.2,hk3.2.1,hk3.2.2.1,hk3.2.2.2⟩ | exact⟨hk4.1.1,hk4.1.2.1,hk4.1.2.2,hk4.2.1,hk4.2.2.1,hk4.2.2.2⟩)
   (first | (go_at_call 56;refine (HQ.out).mono ?_;rintro e w7 ⟨i,rfl,hi,G8⟩;have HG8:=I (HG7.out.trans G8);have hk4:=ai (HG8.out.bk C1.out).c3 (HG8.out.bk C2.out).c3;have HBs:=I (HG8.out.bk C3.out);obtain⟨r0,r1,r2⟩:=HBs.out.c3;have fz:=HBs.out.frozen;have HII:=I hi;clear hi G8) | (go_at_call 53;refine (HM.out).mono ?_;rintro e w6 ⟨z,rfl,hz,G7⟩;have HG7:=I (HG6.out.trans G7);have hk3:=ai (HG7.out.bk C1.out).c3 (HG7.out.bk C2.out).c3;have HQ:=I (rquot_any w6 (a.neg != b.neg) m z _ _ (HNM2.out.gr G7) hz HL.out (Nat.mul_pos x.un_pos y.un_pos) U3.out);clear hz G7) | (go_at_call 54;refine ((HU2.out w4 HG5.out)).mono ?_;rintro e w5 ⟨v,rfl,hv,G6⟩;have HNM2:=I (HNM1.out.gr G6);have HG6:=I (HG5.out.trans G6);have hk2:=ai (HG6.out.bk C1.out).c3 (HG6.out.bk C2.out).c3;have HM:=I (rnmul_any w5 u v _ _ (HNU.out.gr G6) hv (nt L5.out dx) (nt L6.out dx));rw[vl,vl] at HM;clear hv G6) | (go_at_call 54;refine ((HU1.out w3 HG3.out)).mono ?_;rintro e w4 ⟨u,rfl,hu,G5⟩;have HNM1:=I (HNM.out.gr G5);have HG5:=I (HG3.out.trans G5);have hk1:=ai (HG5.out.bk C1.out).c3 (HG5.out.bk C2.out).c3;have HNU:=I hu;clear hu G5) | (go_at_call 53;refine (HM0.out).mono ?_;rintro e w3 ⟨m,rfl,hm,G4⟩;have HG3:=I (HG0.out.trans G4);have hk0:=ai (HG3.out.bk C1.out).c3 (HG3.out.bk C2.out).c3;have HNM:=I hm;clear hm G4))) | fail
 go_wp2;refine pex ?_;refine ks HBs fun W5 B5 F5=>?_
 have d_:=B5.c3;refine bret Tryz.results69 ?_;exact⟨i,rfl,by rw[hE.out,← N1.out,← N2.out];exact HII.fr F5 HBs (noLimb_rat _ _ _ _ _ _ _),(HG4.trans HG8).fr_at F5 (by rw[hPE.out];exact hpo.out)⟩
abbrev bv (x:Nat):Value:=.int .u8 (x:Int)
def Fd (w:World) (p:Nat) (r:List Nat):Prop:=∃(A:Option Addr) (n c k:Nat) (L:List Nat),Bk w p 135 #[.slice A n c,.int .i64 (k:Int)]∧Sv.Is w ⟨A,n,c⟩ 1 (L.map bv)∧Sv.Ty w ⟨A,n,c⟩ 5∧k≤n∧n≤1000∧L.length=n∧r=L.drop k∧∀x∈L,x < 256
theorem Fd.gr {w w':World} {p:Nat} {r:List Nat} (h:Fd w p r) (G:Gr w w'):Fd w' p r:=by
 obtain⟨A,n,c,k,L,h1,h2,h3,h4⟩:=h;exact⟨A,n,c,k,L,G.bk h1,h2.gr G,h3.gr G,h4⟩
instance kpFd {p r} {w w'}:Kp (Fd w p r) w w' (Fd w' p r):=⟨fun G h=>h.gr G⟩
theorem Fd.fr {w w':World} {p:Nat} {r:List Nat} {X:Nat→Prop} (h:Fd w p r) (F:Fr X w w') (hp:¬X p) (hX:∀b cs fr,X b→w.heap[b]?≠some (.cells cs 5 fr)):Fd w' p r:=by
 obtain⟨A,n,c,k,L,h1,h2,h3,h4⟩:=h;obtain⟨h5,h6⟩:=h2.tf h3 F hX;exact⟨A,n,c,k,L,F.bk h1 hp,h5,h6,h4⟩
theorem Fd.bk {w:World} {p:Nat} {r:List Nat} (h:Fd w p r):∃cs,Bk w p 135 cs:=by
 obtain⟨A,n,c,k,L,h1,_⟩:=h;exact⟨_,h1⟩
abbrev Fp (p:Nat) (w w':World):Prop:=Fr (fun b=>b=p) w w'
theorem Fr.stp {p:Nat} {w w1 w2:World} {X:Nat→Prop} (h:Fp p w w1) (k:Fr X w1 w2) (hX:∀b,b < w1.heap.size→X b→b=p∨w.heap.size≤b):Fp p w w2:=⟨h.bel.trans k.bel,fun b hb hx=>by
 have hb1:=nk hb h.size;rw[k.keep b hb1 (fun e=>by rcases hX b hb1 e with e | e;exact hx e;omega)];exact h.keep b hb hx⟩
theorem Gr.fp {w w':World} {p:Nat} (G:Gr w w'):Fp p w w':=G.fr.none
theorem next_any (w:World) (p n:Nat) (r:List Nat) (hf:Fd w p r) (h0:0 < n) (h9:n≤1000):
  Calls Tryz.prog 30 #[.pointer (some ⟨p,0,none⟩),.int .i64 n] w fun e w'=>e=.returned (.int .i64 (nx n r).1)∧Fd w' p (nx n r).2∧Fp p w w':=by
 obtain⟨A,m,c,k,L,hb,hs,ht,hk,hm,hL,hr,hl⟩:=hf;have HB:=I hb;have HS:=I hs;have HT:=I ht;have HL:=I hL;have HR:=I hr;have HLL:=I hl;clear hb hs ht hL hr hl;obtain⟨a0,a1⟩:=HB.c2;have fz:=HB.frozen;by_cases hkm:k < m
 ·obtain⟨x,hx⟩:∃x,L[k]?=some x:=⟨_,ge (by rw[HL.out];exact hkm)⟩;have hxv:(L.map bv)[k]?=some (bv x):=by rw[List.getElem?_map,hx];rfl
  obtain⟨ad,hA,_,d0⟩:=HS.look hxv;simp only at hA;subst hA;have hx9:=HLL.out x (mg hx);have hge:decide ((m:Int)≤(k:Int))=false:=by simp;omega
  have hw:IntKind.i64.wrap ((k:Int)+1)=((k+1:Nat):Int):=by rw[wi _ om];omega
  have hw2:IntKind.i64.wrap (((k+1:Nat):Int) - 1)=(k:Int):=by rw[wi _ om];omega
  have hw3:IntKind.i64.wrap (x:Int)=(x:Int):=by rw[wi _ om]
  have HRR:Hid (r=x::L.drop (k+1)):=by rw[HR.out,List.drop_eq_getElem?_toList_append,hx];rfl
  have HXV:=I hxv;have hw4:IntKind.i64.wrap (k:Int)=(k:Int):=by rw[wi _ om]
  have hq:(x:Int).tmod (n:Int)=((x % n:Nat):Int):=tmod_nat x n;have hq1:IntKind.i64.wrap ((x % n:Nat):Int)=((x % n:Nat):Int):=by have:=Nat.mod_le x n;rw[wi _ om]
  have hn0:((n:Int) == 0)=false:=by simp;omega
  have hn1:(n:Int)≠0:=by omega
  have hn2:n≠0:=by omega
  clear hxv hx;go_enter Tryz.func30,Tryz.ntmps30;go_upto_region 1 with fail;refine wpr ?_;have kc:=I fun W' (G:Gr w.drew W')=>ai (G.keep a0) (G.keep a1)
  refine wg 0 (tf 10 0) [0,1,2,3,4,5,6,7,8,9] [] ?_;iterate 10 refine .tk ?_
  refine .done fun W1 G1 F1=>?_
  clear F1;refine wpe ?_;have HG:=I G1.od;have B1:=G1.od.bk HB;have fz1:=B1.frozen;clear G1 fz d0 kc a0 a1;obtain⟨a0,a1⟩:=B1.c2;go_wp2_with fail;have F2:=(Fr.set W1 ⟨p,1,none⟩ (.int .i64 ((k:Int)+1)) rfl:Fr (fun b=>b=p) W1 _);have B2:=B1.put 1 (.int .i64 ((k:Int)+1));obtain⟨s2,t2⟩:=(HS.gr HG).tf (HT.gr HG) F2 (fun b cs fr e hh=>Bk.not_ty B1 dx cs fr (e▸hh));obtain⟨ad',hA',_,d0⟩:=s2.look HXV;obtain rfl:ad=ad':=by simpa using hA'
  have HF2:=I ((HG.fp).trans F2);have HB2:=I B2;have HS2:=I s2;have HT2:=I t2;clear F2 B2 s2 t2 hA' B1 fz1 a0 a1;simp only[Array.setIfInBounds,List.size_toArray,List.length_cons,List.length_nil] at HB2;generalize W1.setCell ⟨p,1,none⟩ (.int .i64 ((k:Int)+1))=W2 at*;obtain⟨a0,a1⟩:=HB2.c2;refine wpr ?_;have kc:=I fun W' (G:Gr W2.drew W')=>G.kk a0 <| ai (G.keep a1) (G.keep d0)
  refine wg 0 (tf 15 0) [0,1,2,3,4,5,6,7,8,9,10,11,12,13,14] [] ?_;iterate 15 refine .tk ?_
  refine .done fun W1 G1 F1=>?_
  clear F1;refine wpe ?_;have HG3:=I G1.od;clear G1 kc a0 a1 d0;go_wp2;go_ret;refine⟨?_,⟨some ad,m,c,k+1,L,?_,HS2.gr HG3,HT2.gr HG3,by omega,hm,HL.out,?_,HLL.out⟩,HF2.trans HG3.fp⟩
  ·rw[HRR.out];rfl
  ·have:=HG3.bk HB2;rw[show ((k+1:Nat):Int)=(k:Int)+1 from by omega];exact this
  ·rw[HRR.out];rfl
 ·have hge:decide ((m:Int)≤(k:Int))=true:=by simp;omega
  have HRR:Hid (r=[]):=by rw[HR.out];exact I (List.drop_eq_nil_of_le (by rw[HL.out];omega))
  go_enter Tryz.func30,Tryz.ntmps30;go_upto_region 1 with fail;refine wpr ?_;have kc:=I fun W' (G:Gr w.drew W')=>ai (G.keep a0) (G.keep a1)
  refine wg 0 (tf 10 0) [0,1,2,3,4,5,6,7,8,9] [] ?_;iterate 10 refine .tk ?_
  refine .done fun W1 G1 F1=>?_
  clear F1;refine wpe ?_;have HG:=I G1.od;clear G1 fz kc a0 a1;go_wp2;go_ret;refine⟨?_,⟨A,m,c,k,L,HG.bk HB,HS.gr HG,HT.gr HG,hk,hm,HL.out,?_,HLL.out⟩,HG.fp⟩
  ·rw[HRR.out];rfl
  ·rw[HRR.out];exact (HRR.symm.trans HR)
theorem number_any (w:World) (p:Nat) (r:List Nat) (hf:Fd w p r):
  Calls Tryz.prog 34 #[.pointer (some ⟨p,0,none⟩)] w fun e w'=>∃q:Rv,e=.returned q.v∧q.Is w' (numQ r).1∧Fd w' p (numQ r).2∧Fp p w w':=by
 have HFD:=I hf;clear hf;have hx1:=nx_lt (n:=9) dx r;have hx2:=nx_lt (n:=4) dx (nx 9 r).2;have HN1:Hid ((numQ r).1=fracQ ((nx 9 r).1 - 4) (denN (nx 4 (nx 9 r).2).1)):=rfl;have HM1:Hid ((numQ r).2=(nx 4 (nx 9 r).2).2):=rfl;go_enter Tryz.func34,Tryz.ntmps34;go_wp2_with fail;refine nw1hc fun W HG D_r=>?_
 have N_r0:Hid (w.heap.size≤w.heap.size):=nr _;generalize hr0:w.heap.size=r0 at D_r ⊢;have N_r0:Hid (w.heap.size≤r0):=Nat.le_of_eq hr0;clear hr0;have H1:=I (next_any W p 9 r (HFD.gr HG) dx dx);refine H1.mono ?_;rintro e w1 ⟨rfl,hd1,hf1⟩;generalize hxx:(nx 9 r).1=x at*;have hw1:IntKind.i64.wrap ((x:Int) - 4)=(x:Int) - 4:=by rw[wi _ om]
 have HD1:=I hd1;have HF1:=I (HG.fp.trans hf1);have DR1:=I (hf1.bk D_r (fun e=>by obtain⟨cs,hc⟩:=hd1.bk;obtain⟨cs',hc'⟩:=(HFD.gr HG).bk;exact Bk.ne hc' D_r dx e.symm));clear hd1 hf1 H1 hxx;go_wp2_with fail;have H2:=I (next_any w1 p 4 _ HD1 dx dx);refine H2.mono ?_;rintro e w2 ⟨rfl,hd2,hf2⟩;have DR2:=I (hf2.bk DR1 (fun e=>by obtain⟨cs,hc⟩:=HD1.bk;exact Bk.ne hc DR1 dx e.symm));have HF2:=I (HF1.trans hf2);have HD2:=I hd2;clear hd2 hf2 H2 HD1 DR1 HF1;generalize hjj:(nx 4 (nx 9 r).2).1=j at*;have HM:=HM1;have HN:=HN1;clear hjj HM1 HN1;rcases j with _ | _ | _ | _ | j
 ·have hix:∀W:World,(Instr.index 140 (.agg #[.int .i64 1,.int .i64 1,.int .i64 2,.int .i64 4]) (.int .i64 0)).run Tryz.prog W=.ok (.int .i64 1) W:=fun W=>by kernel_rfl
  have H3:=I (frac_any w2 ((x:Int) - 4) 1 om om dx dx);go_wp2_with fail;refine cm1 H3 fun q w3 HQ G3=>?_
  have HD3:=I (HD2.gr G3);have HF3:=I (HF2.stp G3.fr (fun _ _ h=>h.elim));have DR3:=I (G3.bk DR2);clear H3;have hne:¬w3.heap.size=r0:=fun e=>ni _ (e▸DR3.lt)
  go_upto_region 2 with fail;refine nw1 fun W5 GB C6=>?_
  have Q5:=I (HQ.gr GB);have D5:=I (HD3.gr GB);have P5:=I (HF3.stp GB.fr (fun _ _ h=>h.elim));have R6:=I (GB.bk DR3);clear GB;generalize w3.heap.size=t3 at*;have c0_:=C6.c3;have z0_:=R6.c3;have fz5:=R6.frozen;obtain⟨B6,F6⟩:=R6.put3 (.bool q.neg) q.num.v q.den.v;have Q6:=I (Q5.tf' F6 R6);have D6:=I (D5.fr F6 (fun e=>(by obtain⟨cs,hc⟩:=D5.bk;exact Bk.ne hc R6 dx e)) (fun b cs fr e hh=>Bk.not_ty R6 dx cs fr (e▸hh)));have P6:=I (P5.stp F6 (fun b _ e=>Or.inr (by rw[e];exact N_r0.out)));obtain⟨d0,d1,d2⟩:=B6.c3;clear B6 F6;go_wp2;generalize ((W5.setCell ⟨r0,0,none⟩ (.bool q.neg)).setCell ⟨r0,1,none⟩ q.num.v).setCell ⟨r0,2,none⟩ q.den.v=W6 at*;refine pex ?_;refine bodyPost_ret (by simp[results,Tryz.results34,go_sem,d0,d1,d2];try rfl) rfl ?_;have HE:(numQ r).1=quot (decide ((x:Int) - 4 < 0)) ((x:Int) - 4).natAbs 1:=HN.trans (by unfold fracQ;rfl);rw[HE,HM.out];exact⟨q,rfl,Q6.out,D6.out,P6.out⟩
 ·have hix:∀W:World,(Instr.index 140 (.agg #[.int .i64 1,.int .i64 1,.int .i64 2,.int .i64 4]) (.int .i64 1)).run Tryz.prog W=.ok (.int .i64 1) W:=fun W=>by kernel_rfl
  have H3:=I (frac_any w2 ((x:Int) - 4) 1 om om dx dx);go_wp2_with fail;refine cm1 H3 fun q w3 HQ G3=>?_
  have HD3:=I (HD2.gr G3);have HF3:=I (HF2.stp G3.fr (fun _ _ h=>h.elim));have DR3:=I (G3.bk DR2);clear H3;have hne:¬w3.heap.size=r0:=fun e=>ni _ (e▸DR3.lt)
  go_upto_region 2 with fail;refine nw1 fun W5 GB C6=>?_
  have Q5:=I (HQ.gr GB);have D5:=I (HD3.gr GB);have P5:=I (HF3.stp GB.fr (fun _ _ h=>h.elim));have R6:=I (GB.bk DR3);clear GB;generalize w3.heap.size=t3 at*;have c0_:=C6.c3;have z0_:=R6.c3;have fz5:=R6.frozen;obtain⟨B6,F6⟩:=R6.put3 (.bool q.neg) q.num.v q.den.v;have Q6:=I (Q5.tf' F6 R6);have D6:=I (D5.fr F6 (fun e=>(by obtain⟨cs,hc⟩:=D5.bk;exact Bk.ne hc R6 dx e)) (fun b cs fr e hh=>Bk.not_ty R6 dx cs fr (e▸hh)));have P6:=I (P5.stp F6 (fun b _ e=>Or.inr (by rw[e];exact N_r0.out)));obtain⟨d0,d1,d2⟩:=B6.c3;clear B6 F6;go_wp2;generalize ((W5.setCell ⟨r0,0,none⟩ (.bool q.neg)).setCell ⟨r0,1,none⟩ q.num.v).setCell ⟨r0,2,none⟩ q.den.v=W6 at*;refine pex ?_;refine bodyPost_ret (by simp[results,Tryz.results34,go_sem,d0,d1,d2];try rfl) rfl ?_;have HE:(numQ r).1=quot (decide ((x:Int) - 4 < 0)) ((x:Int) - 4).natAbs 1:=HN.trans (by unfold fracQ;rfl);rw[HE,HM.out];exact⟨q,rfl,Q6.out,D6.out,P6.out⟩
 ·have hix:∀W:World,(Instr.index 140 (.agg #[.int .i64 1,.int .i64 1,.int .i64 2,.int .i64 4]) (.int .i64 2)).run Tryz.prog W=.ok (.int .i64 2) W:=fun W=>by kernel_rfl
  have H3:=I (frac_any w2 ((x:Int) - 4) 2 om om dx dx);go_wp2_with fail;refine cm1 H3 fun q w3 HQ G3=>?_
  have HD3:=I (HD2.gr G3);have HF3:=I (HF2.stp G3.fr (fun _ _ h=>h.elim));have DR3:=I (G3.bk DR2);clear H3;have hne:¬w3.heap.size=r0:=fun e=>ni _ (e▸DR3.lt)
  go_upto_region 2 with fail;refine nw1 fun W5 GB C6=>?_
  have Q5:=I (HQ.gr GB);have D5:=I (HD3.gr GB);have P5:=I (HF3.stp GB.fr (fun _ _ h=>h.elim));have R6:=I (GB.bk DR3);clear GB;generalize w3.heap.size=t3 at*;have c0_:=C6.c3;have z0_:=R6.c3;have fz5:=R6.frozen;obtain⟨B6,F6⟩:=R6.put3 (.bool q.neg) q.num.v q.den.v;have Q6:=I (Q5.tf' F6 R6);have D6:=I (D5.fr F6 (fun e=>(by obtain⟨cs,hc⟩:=D5.bk;exact Bk.ne hc R6 dx e)) (fun b cs fr e hh=>Bk.not_ty R6 dx cs fr (e▸hh)));have P6:=I (P5.stp F6 (fun b _ e=>Or.inr (by rw[e];exact N_r0.out)));obtain⟨d0,d1,d2⟩:=B6.c3;clear B6 F6;go_wp2;generalize ((W5.setCell ⟨r0,0,none⟩ (.bool q.neg)).setCell ⟨r0,1,none⟩ q.num.v).setCell ⟨r0,2,none⟩ q.den.v=W6 at*;refine pex ?_;refine bodyPost_ret (by simp[results,Tryz.results34,go_sem,d0,d1,d2];try rfl) rfl ?_;have HE:(numQ r).1=quot (decide ((x:Int) - 4 < 0)) ((x:Int) - 4).natAbs 2:=HN.trans (by unfold fracQ;rfl);rw[HE,HM.out];exact⟨q,rfl,Q6.out,D6.out,P6.out⟩
 ·have hix:∀W:World,(Instr.index 140 (.agg #[.int .i64 1,.int .i64 1,.int .i64 2,.int .i64 4]) (.int .i64 3)).run Tryz.prog W=.ok (.int .i64 4) W:=fun W=>by kernel_rfl
  have H3:=I (frac_any w2 ((x:Int) - 4) 4 om om dx dx);go_wp2_with fail;refine cm1 H3 fun q w3 HQ G3=>?_
  have HD3:=I (HD2.gr G3);have HF3:=I (HF2.stp G3.fr (fun _ _ h=>h.elim));have DR3:=I (G3.bk DR2);clear H3;have hne:¬w3.heap.size=r0:=fun e=>ni _ (e▸DR3.lt)
  go_upto_region 2 with fail;refine nw1 fun W5 GB C6=>?_
  have Q5:=I (HQ.gr GB);have D5:=I (HD3.gr GB);have P5:=I (HF3.stp GB.fr (fun _ _ h=>h.elim));have R6:=I (GB.bk DR3);clear GB;generalize w3.heap.size=t3 at*;have c0_:=C6.c3;have z0_:=R6.c3;have fz5:=R6.frozen;obtain⟨B6,F6⟩:=R6.put3 (.bool q.neg) q.num.v q.den.v;have Q6:=I (Q5.tf' F6 R6);have D6:=I (D5.fr F6 (fun e=>(by obtain⟨cs,hc⟩:=D5.bk;exact Bk.ne hc R6 dx e)) (fun b cs fr e hh=>Bk.not_ty R6 dx cs fr (e▸hh)));have P6:=I (P5.stp F6 (fun b _ e=>Or.inr (by rw[e];exact N_r0.out)));obtain⟨d0,d1,d2⟩:=B6.c3;clear B6 F6;go_wp2;generalize ((W5.setCell ⟨r0,0,none⟩ (.bool q.neg)).setCell ⟨r0,1,none⟩ q.num.v).setCell ⟨r0,2,none⟩ q.den.v=W6 at*;refine pex ?_;refine bodyPost_ret (by simp[results,Tryz.results34,go_sem,d0,d1,d2];try rfl) rfl ?_;have HE:(numQ r).1=quot (decide ((x:Int) - 4 < 0)) ((x:Int) - 4).natAbs 4:=HN.trans (by unfold fracQ;rfl);rw[HE,HM.out];exact⟨q,rfl,Q6.out,D6.out,P6.out⟩
 ·exact absurd hx2 om
theorem elemB:ElemS Tryz.prog 22 5 1 1:=elem_of (z:=.int .u8 0) (by kernel_rfl) (by kernel_rfl) rfl dx
theorem new_any (w:World) (x:Sv) (L:List Nat) (hx:x.Is w 1 (L.map bv)) (hl:∀y∈L,y < 256) (hn:x.n≤1000):
  Calls Tryz.prog 29 #[x.v] w fun e w'=>∃p:Nat,e=.returned (.pointer (some ⟨p,0,none⟩))∧w.heap.size≤p∧Fd w' p L∧Gr w w':=by
 have hLn:L.length=x.n:=by have:=hx.len;rw[List.length_map] at this;omega
 have HLL:=I hl;have HLN:=I hLn;obtain⟨A,n,c⟩:=x;simp only at hn;have HO:Hid ((w.alloc (.cells #[] 5)).ownsRow w.heap.size 5 1 (.slice (some ⟨w.heap.size,0,none⟩) 0 0) 0 []):=⟨rfl,.inr ⟨w.heap.size,0,#[],rfl,nr _,Bk.made _ _ _,nr _,nq _,rfl,rfl⟩⟩;rcases A with _ | ad
 ·obtain⟨h9,h8⟩:=hx.mk0 rfl;injection h9 with _ h6 h7;subst h6 h7;have hL0:L=[]:=by cases L with | nil=>rfl | cons a l=>simp at h8
  have HL0:=I hL0;clear hx hl hLn h8 hL0;go_enter Tryz.func29,Tryz.ntmps29;go_wp2;go_ret;obtain⟨h1,h2,h3⟩:=made2 w 5 135 #[] #[.slice (some ⟨w.heap.size,0,none⟩) 0 0,.int .i64 0];rw[HL0.out];exact⟨w.heap.size+1,rfl,Nat.le_succ _,⟨some ⟨w.heap.size,0,none⟩,0,0,0,[],h2,⟨rfl,nr _,nq _,(fun e=>by cases e),Sees.nil⟩,(fun ad _ h=>absurd h (ni _)),nr _,nq _,rfl,rfl,fun y hy=>by cases hy⟩,h3⟩
 ·have HC:Hid (∀j u,(L.map bv)[j]?=some u→(w.alloc (.cells #[] 5)).cell? (ad.add j)=some u):=(hx.gr ((Gr.refl w).alloc _)).cells rfl;have HU:Hid (∀u∈L.map bv,u.oneCell'=true):=fun u hu=>by
   obtain⟨y,_,rfl⟩:=List.mem_map.1 hu;rfl
  have H1:=I hx.len;simp only at H1;clear hx hl hLn;go_enter Tryz.func29,Tryz.ntmps29;go_wp2_with (at_builtin;refine wpList_appS elemB rfl _ _ rfl w.heap.size (.slice (some ⟨w.heap.size,0,none⟩) 0 0) 0 [] rfl HO.out ad n c (L.map bv) rfl H1.out HC.out HU.out (by unfold maxLen;omega) om (by simp) ?_;intro v' w' h2 h3 h5;rw[Nat.zero_add,List.nil_append] at h2;obtain⟨y,rfl,hyn,hy,hty⟩:=Sv.of_row h2 dx;have HY:=I hy;have HT:=I hty;have HYN:=I hyn;have HG:=I (Gr.of_own h3);clear h2 h3 h5 hy hty hyn);go_wp2;go_ret;obtain⟨yA,yn,yc⟩:=y;obtain rfl:yn=n:=HYN.out;have hg:=(Gr.refl w').alloc (.cells #[.slice yA yn yc,.int .i64 0] 135);exact⟨_,rfl,HG.size,⟨yA,yn,yc,0,L,Bk.made _ _ _,HY.gr hg,HT.gr hg,nq _,hn,HLN.out,rfl,HLL.out⟩,HG.trans hg⟩
theorem riadd_any (w:World) (a b:Iv) (s t:Bool) (m n:Nat) (ha:a.Is w s m) (hb:b.Is w t n) (hm:(limbs m).length≤300000) (hn:(limbs n).length≤300000):
    Calls Tryz.prog 55 #[a.v,b.v] w fun e w'=>∃r:Iv,e=.returned r.v∧r.Is w' (sadd s m t n).1 (sadd s m t n).2∧Gr w w':=by
  obtain⟨B1,B2,B3,G⟩:=made3 w 118 118 118 #[.bool a.neg,a.mag.v] #[.bool b.neg,b.mag.v] #[.bool false,Nl];have hs:=I ha.neg;have ht:=I hb.neg;have HA:=I (ha.mag.gr G);have HB:=I (hb.mag.gr G);have HG:=I G;have HLM:=I hm;have HLN:=I hn;have hB1:=I B1;have hB2:=I B2;have hB3:=I B3;have a0_:=B1.c2;have b0_:=B2.c2;clear ha hb hm hn G B1 B2 B3;simp only[Iv.v];have HLA:Hid ((limbs m).length≤400000):=nt HLM dx;have HLB:Hid ((limbs n).length≤400000):=nt HLN dx;have HLP:Hid ((limbs (m+n)).length≤1000000):=nt (limbs_add_len m n _ HLM HLN) dx;by_cases hst:s=t
  · have HE:Hid (sadd s m t n=(s&&decide (0 < m+n),m+n)):=by unfold sadd;exact if_pos hst
    have hsd:(a.neg == b.neg)=true:=by rw[hs.out,ht.out,hst];simp
    go_enter Tryz.func55,Tryz.ntmps55;go_wp2_with fail;generalize hW:((w.alloc (.cells #[.bool a.neg,a.mag.v] 118)).alloc (.cells #[.bool b.neg,b.mag.v] 118)).alloc (.cells #[.bool false,Nl] 118)=W at*;clear hW;have hpr:¬w.heap.size=w.heap.size+1+1:=by omega
    have hqr:¬w.heap.size+1=w.heap.size+1+1:=by omega
    have hle:Hid (w.heap.size≤w.heap.size+1+1):=nt (Nat.le_succ _) (Nat.le_succ _);generalize w.heap.size+1+1=r at*;generalize w.heap.size+1=q at*;generalize hp:w.heap.size=p at*;have hPE:=I hp;clear hp;have hpr2:¬r=p:=fun e=>hpr e.symm
    have hqr2:¬r=q:=fun e=>hqr e.symm
    clear a0_ b0_;have a0_:=hB1.c2;have b0_:=hB2.c2;have HM:=I (rnadd_any W.drew a.mag b.mag _ _ (HA.gr (Gr.refl W).drew) (HB.gr (Gr.refl W).drew) HLA HLB);rw[vl,vl] at HM
    first | (go_region_held3 (fun W=>W.cell? ⟨p,0,none⟩=some (.bool a.neg)∧W.cell? ⟨p,1,none⟩=some a.mag.v∧W.cell? ⟨q,0,none⟩=some (.bool b.neg)∧W.cell? ⟨q,1,none⟩=some b.mag.v) (first | go_keep | exact⟨hk1.1,hk1.2,hk2.1,hk2.2⟩ | exact⟨hj1.1,hj1.2,hj2.1,hj2.2⟩)
      (first | (go_at_call 110;refine HM.out.mono ?_;rintro e w1 ⟨z,rfl,hz,G1⟩;have hk1:=(G1.bk hB1.out).c2;have hk2:=(G1.bk hB2.out).c2;have HI:=I (rimake_any w1 a.neg z _ hz HLP.out);have HBr:=I (G1.bk hB3.out);have HG1:=I (HG.out.drew.trans G1);have hB1':=I (G1.bk hB1.out);have hB2':=I (G1.bk hB2.out);clear hz G1)
             | (go_at_call 106;refine HI.mono ?_;rintro e w2 ⟨i,rfl,hi,G2⟩;have hj1:=(G2.bk hB1').c2;have hj2:=(G2.bk hB2').c2;have HBs:=I (G2.bk HBr);obtain⟨r0,r1⟩:=HBs.c2;have fz:=HBs.frozen;have HG2:=I (HG1.trans G2);have HII:=I hi;clear hi G2))) | fail
    go_wp2;refine pex ?_;refine ks HBs fun W5 B5 F5=>?_
    have d_:=B5.c2;refine bret Tryz.results55 ?_;exact⟨i,rfl,by rw[HE.out];exact⟨by rw[HII.neg,hs.out],HII.mag.fr F5 HBs (noLimb_int _ _ _ _)⟩,HG2.fr_at F5 (by rw[hPE.out];exact hle.out)⟩
  · have hsd:(a.neg == b.neg)=false:=by rw[hs.out,ht.out];simpa using hst
    have HC:=I (rnsub_any _ a.mag b.mag _ _ HA HB HLA HLB);rw[vl,vl] at HC;have hle:Hid (w.heap.size≤w.heap.size+1+1):=nt (Nat.le_succ _) (Nat.le_succ _);go_enter Tryz.func55,Tryz.ntmps55;go_wp2_with fail;go_at_call 111
    refine HC.mono ?_;rintro e w1 ⟨G1,⟨hnm,z,rfl,hz⟩ | ⟨hmn,rfl⟩⟩
    · have HG3:=I (HG.trans G1)
      have HR3:=I (G1.bk hB3);obtain⟨x0,x1⟩:=(G1.bk hB1).c2;have HE:Hid (sadd s m t n=(s&&decide (0 < m - n),m - n)):=by
        unfold sadd;rw[if_neg hst,if_neg om];exact rfl
      have HI:=I (rimake_any w1 a.neg z _ hz (nt (limbs_len_mono (Nat.sub_le m n)) (nt HLA dx)));clear hz G1 HC hB1 hB2 hB3 HG HA HB a0_ b0_ hnm;go_wp2_with fail;go_at_call 106
      refine cm1 HI fun i w4 HII G4=>?_
      have HG4:=I (HG3.trans G4);have HBs:=I (G4.bk HR3);obtain⟨r0,r1⟩:=HBs.c2;have fz:=HBs.frozen;clear HI;generalize w.heap.size+1+1=r at*;go_wp2;refine pex ?_;refine ks HBs fun W5 B5 F5=>?_
      have d_:=B5.c2;refine bret Tryz.results55 ?_;exact⟨i,rfl,by rw[HE.out];exact⟨by rw[HII.neg,hs.out],HII.mag.fr F5 HBs (noLimb_int _ _ _ _)⟩,HG4.fr_at F5 hle⟩
    · have HG2:=I (HG.trans G1)
      have hC1:=I (G1.bk hB1);have hC2:=I (G1.bk hB2);have hC3:=I (G1.bk hB3);obtain⟨x0,x1⟩:=hC1.c2;have y0_:=hC2.c2;have HE:Hid (sadd s m t n=(t&&decide (0 < n - m),n - m)):=by
        unfold sadd;rw[if_neg hst,if_pos hmn,dt om,Bool.and_true];exact rfl
      have HD:=I (rnsub_any w1 b.mag a.mag _ _ (HB.gr G1) (HA.gr G1) HLB HLA);rw[vl,vl] at HD;clear G1 HC hB1 hB2 hB3 HG HA HB a0_ b0_;go_wp2_with fail;go_at_call 111
      refine HD.mono ?_;rintro e w3 ⟨G3,⟨_,z,rfl,hz⟩ | ⟨hx,rfl⟩⟩
      · have HG3:=I (HG2.trans G3)
        have HR3:=I (G3.bk hC3);obtain⟨u0,u1⟩:=(G3.bk hC2).c2;have HI:=I (rimake_any w3 b.neg z _ hz (nt (limbs_len_mono (Nat.sub_le n m)) (nt HLB dx)));clear hz G3 HD hC1 hC2 hC3 x0 x1 y0_ hmn;go_wp2_with fail;go_at_call 106
        refine cm1 HI fun i w4 HII G4=>?_
        have HG4:=I (HG3.trans G4);have HBs:=I (G4.bk HR3);obtain⟨r0,r1⟩:=HBs.c2;have fz:=HBs.frozen;clear HI;generalize w.heap.size+1+1=r at*;go_wp2;refine pex ?_;refine ks HBs fun W5 B5 F5=>?_
        have d_:=B5.c2;refine bret Tryz.results55 ?_;exact⟨i,rfl,by rw[HE.out];exact⟨by rw[HII.neg,ht.out],HII.mag.fr F5 HBs (noLimb_int _ _ _ _)⟩,HG4.fr_at F5 hle⟩
      · exact absurd hx om
end
end Go.Proofs.YtbhbainhmfjpdaaGreatDoor
