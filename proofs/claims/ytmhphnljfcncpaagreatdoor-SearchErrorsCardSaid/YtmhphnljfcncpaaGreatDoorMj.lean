/- Walks of the search and of what it calls, part 10. -/
import Derived.Test.YtmhphnljfcncpaaGreatDoorMi
import Derived.Scope
set_option linter.unusedVariables false
set_option linter.unusedSimpArgs false
set_option maxRecDepth 100000
set_option maxHeartbeats 8000000
namespace Go.Proofs.YtmhphnljfcncpaaGreatDoor
open Go.RowKit
section
attribute [local go_sem] Oper.semAt_some
def pv0 (T:Tb):Tb:={ T with piv:=T.piv+1 }
def pv1 (T:Tb) (r e:Nat):Tb:={ pv0 T with basic:=T.basic.set r (nAt T.nonb e),nonb:=T.nonb.set e (nAt T.basic r) }
def pvB (T:Tb) (r e:Nat):Tb:={ pv0 T with basic:=T.basic.set r (nAt T.nonb e) }
def pvF (T:Tb) (r e:Nat) (f:List Q) (i:Nat):Tb:={ pv1 T r e with forms:=rowN T.forms r e f i }
def pvO (T:Tb) (r e:Nat) (f:List Q):Tb:={ pvF T r e f T.forms.length with obj:=subL T.obj e f }
def Tight (S:Ts):Prop:=S.so.c=S.so.n∧∀s∈S.fs,s.c=s.n
def Kept (S S':Ts) (t n:Nat):Prop:=(∀k,S'.X t k→S.X t k∨n≤k)∧(Tight S→Tight S')
theorem Kept.refl (S:Ts) (t n:Nat):Kept S S t n:=⟨fun _ h=>.inl h,fun h=>h⟩
theorem Kept.trans {S S' S'':Ts} {t n m:Nat} (h:Kept S S' t n) (h':Kept S' S'' t m) (hnm:n≤m):Kept S S'' t n:=⟨fun k hk=>by
 rcases h'.1 k hk with h1 | h1
 ·exact h.1 k h1
 ·exact .inr (nt hnm h1),fun h1=>h'.2 (h.2 h1)⟩
theorem frm_len (o:List Q) (e:Nat):(frm o e).length=o.length:=by rw[frm,List.length_set,frmN_len]
theorem tpivot_any (w:World) (B t:Nat) (S:Ts) (T:Tb) (r en:Nat) (h:TabIs w B t S T) (ok:PivOk T r en):
  Calls Tryz.prog 355 #[.pointer (some ⟨t,0,none⟩),iv r,iv en] w fun e w'=>e=.returned (.tuple #[])∧(∃S',TabIs w' B t S' (pivT T r en)∧Kept S S' t w.heap.size)∧Fr (S.X t) w w':=by
 have hp9:=ok.sp;have hr9:r < 100000:=nm ok.sr ok.sm;have he9:en < 100000:=nm ok.se ok.sn;have hBw:B≤w.heap.size:=Nat.le_of_lt (nj h.base h.cell.lt);have HG:=I (Gr.refl w);have HT:=I h;have OK:=I ok;have HBW:=I hBw;clear h ok hBw;go_enter Tryz.func355,Tryz.ntmps355;go_upto_region 0 with fail;replace HG:=I (Gx.of (X:=S.X t) HG.out);obtain⟨t_0,t_1,t_2,t_3,t_4,t_5,t_6⟩:=HT.cell.c7;have tfz:=HT.cell.frozen;go_upto_region 1 with fail;clear tfz t_0 t_1 t_2 t_3 t_4 t_5 t_6;have F5:Fr (fun b=>b=t) w (w.setCell ⟨t,6,none⟩ (.int .i64 ((T.piv:Int)+1))):=Fr.set w ⟨t,6,none⟩ _ rfl;have B5:Bk (w.setCell ⟨t,6,none⟩ (.int .i64 ((T.piv:Int)+1))) t 420 ((pv0 T).cells S):=by
  have h9:=Bk.put HT.cell 6 (.int .i64 ((T.piv:Int)+1));have e9:iv (T.piv+1)=.int .i64 ((T.piv:Int)+1):=by simp[iv]
  show Bk _ t _ #[iv T.vars,iv T.rows,.slice S.sb.A S.sb.n S.sb.c,.slice S.sn.A S.sn.n S.sn.c,.slice S.sf.A S.sf.n S.sf.c,.slice S.so.A S.so.n S.so.c,iv (T.piv+1)];rw[e9];simpa using h9
 replace HT:Hid (TabIs (w.setCell ⟨t,6,none⟩ (.int .i64 ((T.piv:Int)+1))) B t S (pv0 T)):=I (TabIs.setC HT.out F5 B5);replace HG:=I (HG.in F5 (fun k hk=>.inl (.inl hk)));clear F5 B5;generalize w.setCell ⟨t,6,none⟩ (.int .i64 ((T.piv:Int)+1))=w1 at*;obtain⟨s,hs⟩:∃s,S.fs[r]?=some s:=⟨_,ge (by rw[HT.len];exact OK.sr)⟩;obtain⟨o,ho⟩:∃o,rAt T.forms r=o:=⟨_,rfl⟩;have HO:Hid (T.forms[r]?=some o):=I (ho▸rAt_get OK.sr);have HS:=I hs;have FM:Hid (FrmOk o en):=I (ho▸OK.fm);have HEO:=I ho;have hol:o.length < 100000:=ho▸OK.so;have heo:en < o.length:=FM.se;obtain⟨go,co,hs9,_⟩:=(HT.row r s o hs HO.out).form Rv.len (by decide) (qAt_get FM.se);subst hs9;obtain⟨ado,hao⟩:∃ad:Addr,ad=⟨go,0,none⟩:=⟨_,rfl⟩;rw[← hao] at hs HS;obtain⟨af,hAf,f0,hrf⟩:=HT.f.at hs;have HAF:=I hAf;clear hs ho hao;obtain⟨t_0,t_1,t_2,t_3,t_4,t_5,t_6⟩:=HT.cell.c7;simp only[hAf] at t_4;have mk:=makeR o.length (by omega) w1;have GB:Gr w1 (w1.alloc (.cells (madeCells #[.bool false,.slice none 0 0,.slice none 0 0] (o.length*3)) 38)):=(Gr.refl _).alloc _;have HSZ:=I HG.size;have NG9:Hid (¬S.X t w1.heap.size):=I (fun hx=>absurd (HT.lt hx).2 (ni _));replace HT:=I (HT.gr GB);replace HG:=I (HG.trans GB);have HF:Hid (OwnR (w1.alloc (.cells (madeCells #[.bool false,.slice none 0 0,.slice none 0 0] (o.length*3)) 38)) w.heap.size ⟨some ⟨w1.heap.size,0,none⟩,o.length,o.length⟩ (frmN o en 0)):=I ((OwnR.made w1 o.length (by omega)).low HSZ.out);clear GB;go_wp2_with fail;clear mk f0 hAf t_0 t_1 t_2 t_3 t_4 t_5 t_6;generalize w1.alloc (.cells (madeCells #[.bool false,.slice none 0 0,.slice none 0 0] (o.length*3)) 38)=w2 at*;generalize w1.heap.size=gf at*;obtain⟨adf,haf⟩:∃ad:Addr,ad=⟨gf,0,none⟩:=⟨_,rfl⟩;rw[← haf] at HF ⊢;have HADF:=I haf;clear haf;go_loopw [30] (fun s0 wr=>∃(j:Nat),s0=.int .i64 j∧j≤o.length∧Hid (TabIs wr B t S (pv0 T))∧Hid (OwnR wr w.heap.size ⟨some adf,o.length,o.length⟩ (frmN o en j))∧Hid (Gx (S.X t) w wr)) (fun j _=>o.length - (intOf j).toNat)
 case atStart=>exact⟨0,rfl,nq _,HT,HF,HG⟩
 case round=>
  clear HT HF HG;obtain⟨j,rfl,hr1,HT,HF,HG⟩:=hrel;by_cases hin:j < o.length
  ·have hj9:j < 100000:=nm hin hol;have HSJ:=I (smL.at FM.sl hin);obtain⟨p,ar,hp,hA,c0,c1,c2⟩:=(HT.row r _ o HS.out HO.out).rats.at (qAt_get hin);simp only[oq] at hA;subst hA;have HP_p:=I hp;clear hp;have NX_HT_c:Hid (¬S.X t (wr.heap.size)):=I (fun hx=>absurd (HT.lt hx).2 (by omega));have NX_HF_c:Hid (¬Sv.on ⟨some adf,o.length,o.length⟩ (wr.heap.size)):=I (fun hx=>absurd (HF.lt _ hx).2 (by omega));go_upto_region 6 with fail;clear c0 c1 c2;refine nw1 fun w3 GB D_c=>?_
   replace HT:=I (HT.gr GB);replace HF:=I (OwnR.up HF.out GB);replace HP_p:=I (HP_p.gr GB);replace HG:=I (HG.trans GB);clear GB;generalize wr.heap.size=c at*;by_cases hj:j=en
   ·have d_hj:=dt hj;have e_hj:((j) == (en))=true:=beq_iff_eq.2 hj;have n_hj:((j) != (en))=false:=by simp[hj]
    have HE9:Hid (frmN o en (j+1)=frmN o en j):=I (by rw[frmN,if_neg (fun h=>h.1 hj)]);rw[← HE9.out] at HF;clear HE9;clear HP_p;clear D_c;go_wp2;go_roundw
    ·exact⟨j+1,by go_num,by omega,HT,HF,HG⟩
    ·simp[intOf];omega
   ·have d_hj:=df hj;have e_hj:((j) == (en))=false:=beq_eq_false_iff_ne.2 hj;have n_hj:((j) != (en))=true:=bne_iff_ne.2 hj;have n2_hj:((j:Int) != (en:Int))=true:=bne_iff_ne.2 (by omega);have c_:=D_c.c3;go_wp2_with fail;refine cm0 (sign_any w3 p (qAt o j) HP_p.out (nt HSJ.len (by decide))) fun w4 G=>?_
    replace HT:=I (HT.gr G);replace HF:=I (OwnR.up HF.out G);replace HP_p:=I (HP_p.gr G);replace D_c:=G.hb D_c;replace HG:=I (HG.trans G);clear c_;by_cases hs:(qAt o j).sign=0
    ·have d_hs:=dt hs;have e_hs:(((qAt o j).sign) == (0))=true:=beq_iff_eq.2 hs;have n_hs:(((qAt o j).sign) != (0))=false:=by simp[hs]
     have HE9:Hid (frmN o en (j+1)=frmN o en j):=I (by rw[frmN,if_neg (fun h=>h.2 hs)]);rw[← HE9.out] at HF;clear HE9;clear HP_p;clear D_c;go_wp2;go_roundw
     ·exact⟨j+1,by go_num,by omega,HT,HF,HG⟩
     ·simp[intOf];omega
    ·have d_hs:=df hs;have e_hs:(((qAt o j).sign) == (0))=false:=beq_eq_false_iff_ne.2 hs;have n_hs:(((qAt o j).sign) != (0))=true:=bne_iff_ne.2 hs;obtain⟨pe,ar,hp,hA,e0,e1,e2⟩:=(HT.row r _ o HS.out HO.out).rats.at (qAt_get FM.se);simp only[oq] at hA;subst hA;have HP_pe:=I hp;clear hp;go_upto_region 7 with fail;have c_:=D_c.c3;have HSN:=I (FM.sm _ (mg (qAt_get hin)));have HSE:=I (smL.at FM.sl FM.se);refine wpr ?_;have kc:=I fun W' (G:Gr w4.drew W')=>ai (G.kb D_c).c3 <| G.kk e0 <| G.kk e1 <| G.keep e2
     refine wpAny_lt [11] 1 (tf 13 1) [0,1,2,3,4,5,6,7,8,9,10,11,12] [(3,Rv.At ((qAt o j).neg')),(8,Dv.At (Q.div (qAt o j).neg' (qAt o en)))] ?_;iterate 3 refine .tk ?_
     refine .dk (fun W1 G1 F1=>qneg_any W1 p _ (HP_p.gr G1.od) (nt HSJ.len (by decide)) HSJ.ul) ?_;rintro _ ⟨_,-,-,⟨m,rfl,-⟩⟩;iterate 4 refine .tk ?_
     refine .dk (fun W1 G1 F1=>by have fm:=lk F1 0;exact qdiv_any W1 m pe _ _ fm.is (HP_pe.gr G1.od) HSN.len HSE.len (HSN.div HSE.out) HSE.ul FM.sn) ?_;rintro _ ⟨_,-,-,⟨nn,rfl,-⟩⟩;iterate 4 refine .tk ?_
     refine .done fun W1 G1 F1=>?_
     have hm:=lh F1 0;have hn:=lh F1 1;replace kc:=kc.out W1 G1;clear F1 c_ e0 e1 e2;have GB:=G1.od;replace HT:=I (HT.gr GB);replace HF:=I (OwnR.up HF.out GB);replace HP_pe:=I (HP_pe.gr GB);replace HG:=I (HG.trans GB);have HN:=I (hn.is);clear GB G1 hm hn kc;obtain⟨cur9,b9⟩:=Own.bk HF.out (b:=gf) (by (try rw[HADF.out]);rfl);have BK9:=I b9;clear b9;refine wpAny_k 13 fun K hK=>?_
     refine doesAt_wp (K:=fun v W'=>v=undef∧OwnR W' w.heap.size ⟨some adf,o.length,o.length⟩ ((frmN o en j).set j (Q.div (qAt o j).neg' (qAt o en)))∧Fr (fun k=>k=gf) W1 W') (doesAt_elA rfl Rv.len HADF.out HF.out j (a0:=Q.zero) ((by rw[frmN_get _ _ (nr _)];exact List.getElem?_replicate_of_lt hin):(frmN o en j)[j]?=some Q.zero) nn (Q.div (qAt o j).neg' (qAt o en)) (by rfl) (by rfl) HN.out (fun W' F p a hp=>Rv.Is.tf' hp F BK9.out) (by kernel_rfl) (Rv.one _) (fun W' h1 h2=>⟨rfl,h1,h2⟩)) ?_;rintro v w5 ⟨rfl,O2,F2⟩;refine hK.out _ _ ?_;clear hK K;refine ptt ?_;refine wpe ?_;replace HT:=I (HT.st F2 BK9.out (by decide) NG9.out);replace HP_pe:=I (HP_pe.tf' F2 BK9.out);replace HN:=I (HN.tf' F2 BK9.out);replace HG:=I (HG.fr_at F2 HSZ.out);replace HF:=I O2;clear O2 F2 BK9;have HE9:Hid (frmN o en (j+1)=(frmN o en j).set j (Q.div (qAt o j).neg' (qAt o en))):=I (by rw[frmN,if_pos ⟨hj,hs⟩]);rw[← HE9.out] at HF;clear HE9;clear HP_p;clear HP_pe;clear HN;clear D_c;go_wp2;go_roundw
     ·exact⟨j+1,by go_num,by omega,HT,HF,HG⟩
     ·simp[intOf];omega
  ·obtain rfl:j=o.length:=by omega
   obtain⟨pe,ar,hp,hA,e0,e1,e2⟩:=(HT.row r _ o HS.out HO.out).rats.at (qAt_get FM.se);simp only[oq] at hA;subst hA;have HP_pe:=I hp;clear hp;go_upto_region 9 with fail;have HSE:=I (smL.at FM.sl FM.se);have HS1:Hid ((ofQ 1).Sm):=I (smB.sm rfl);refine wpr ?_;have kc:=I fun W' (G:Gr wr.drew W')=>G.kk e0 <| G.kk e1 <| G.keep e2
   refine wpAny_lt [10] 1 (tf 12 1) [0,1,2,3,4,5,6,7,8,9,10,11] [(2,Rv.At (ofQ 1)),(7,Dv.At (Q.div (ofQ 1) (qAt o en)))] ?_;iterate 2 refine .tk ?_
   refine .dk (fun W1 G1 F1=>rof_any W1 1 (by decide) (by decide)) ?_;rintro _ ⟨_,-,-,⟨m,rfl,-⟩⟩;iterate 4 refine .tk ?_
   refine .dk (fun W1 G1 F1=>by have fm:=lk F1 0;exact qdiv_any W1 m pe _ _ fm.is (HP_pe.gr G1.od) HS1.len HSE.len (HS1.div HSE.out) HSE.ul FM.sn) ?_;rintro _ ⟨_,-,-,⟨nn,rfl,-⟩⟩;iterate 4 refine .tk ?_
   refine .done fun W1 G1 F1=>?_
   have hm:=lh F1 0;have hn:=lh F1 1;replace kc:=kc.out W1 G1;clear F1 e0 e1 e2;have GB:=G1.od;replace HT:=I (HT.gr GB);replace HF:=I (OwnR.up HF.out GB);replace HG:=I (HG.trans GB);have HN:=I (hn.is);clear GB G1 hm hn kc;obtain⟨cur9,b9⟩:=Own.bk HF.out (b:=gf) (by (try rw[HADF.out]);rfl);have BK9:=I b9;clear b9;refine wpAny_k 12 fun K hK=>?_
   refine doesAt_wp (K:=fun v W'=>v=undef∧OwnR W' w.heap.size ⟨some adf,o.length,o.length⟩ ((frmN o en o.length).set en (Q.div (ofQ 1) (qAt o en)))∧Fr (fun k=>k=gf) W1 W') (doesAt_elA rfl Rv.len HADF.out HF.out en (a0:=qAt (frmN o en o.length) en) (qAt_get (by rw[frmN_len];exact heo)) nn (Q.div (ofQ 1) (qAt o en)) (by rfl) (by rfl) HN.out (fun W' F p a hp=>Rv.Is.tf' hp F BK9.out) (by kernel_rfl) (Rv.one _) (fun W' h1 h2=>⟨rfl,h1,h2⟩)) ?_;rintro v w3 ⟨rfl,O2,F2⟩;refine hK.out _ _ ?_;clear hK K;refine ptt ?_;refine wpe ?_;replace HT:=I (HT.st F2 BK9.out (by decide) NG9.out);replace HN:=I (HN.tf' F2 BK9.out);replace HG:=I (HG.fr_at F2 HSZ.out);replace HF:=I O2;clear O2 F2 BK9;clear HP_pe;clear HN;obtain⟨f,hf⟩:∃f,frm o en=f:=⟨_,rfl⟩;have HEF:=I hf;replace HF:Hid (OwnR w3 w.heap.size ⟨some adf,o.length,o.length⟩ f):=hf▸HF;have hfl:f.length=o.length:=by rw[← hf];exact frm_len o en
   have HFL:=I hfl;clear hf hfl;have hb9:OwnN w3 B S.sb T.basic:=HT.b;have hn9:OwnN w3 B S.sn T.nonb:=HT.n;have hrb:r < T.basic.length:=by rw[OK.sb];exact OK.sr
   obtain⟨gb,cb,eb,_⟩:=Own.form hb9 (fun _=>rfl) (by decide) (nAt_get hrb);obtain⟨gn,cn,en9,_⟩:=Own.form hn9 (fun _=>rfl) (by decide) (nAt_get OK.se);obtain⟨adb,hadb⟩:∃ad:Addr,ad=⟨gb,0,none⟩:=⟨_,rfl⟩;obtain⟨adn,hadn⟩:∃ad:Addr,ad=⟨gn,0,none⟩:=⟨_,rfl⟩;rw[← hadb] at eb;rw[← hadn] at en9;have HADB:=I hadb;have HADN:=I hadn;have EB:=I eb;have EN:=I en9;rw[eb] at hb9;rw[en9] at hn9;have HB:=I hb9;have HN:=I hn9;obtain⟨ad9,hA9,b0,_⟩:=hb9.at (nAt_get hrb);simp only[oq] at hA9;subst hA9;obtain⟨ad9,hA9,n0,_⟩:=hn9.at (nAt_get OK.se);simp only[oq] at hA9;subst hA9;have he8:en < T.nonb.length:=OK.se;clear hb9 hn9 eb en9 hadb hadn;obtain⟨t_0,t_1,t_2,t_3,t_4,t_5,t_6⟩:=HT.cell.c7;simp only[EB.out] at t_2;simp only[EN.out] at t_3;go_upto_region 10 with fail;have gd:=(Gr.refl w3).drew;have hS1:(fun W'=>W'.cell? ⟨t,2,none⟩=some (.slice (some adb) T.basic.length cb)∧W'.cell? ⟨t,3,none⟩=some (.slice (some adn) T.nonb.length cn)∧W'.cell? (adb.add r)=some (iv (nAt T.basic r))∧W'.cell? (adn.add en)=some (iv (nAt T.nonb en))) w3.drew:=⟨gd.keep t_2,gd.keep t_3,gd.keep b0,gd.keep n0⟩;replace HT:=I (HT.gr gd);replace HF:=I (OwnR.up HF.out gd);replace HB:=I (OwnN.up HB.out gd);replace HN:=I (OwnN.up HN.out gd);replace HG:=I (HG.trans gd);clear gd t_0 t_1 t_2 t_3 t_4 t_5 t_6 b0 n0;refine wp_region_T [3,8,13,16,20,23] (fun _=>True) (fun W'=>W'.cell? ⟨t,2,none⟩=some (.slice (some adb) T.basic.length cb)∧W'.cell? ⟨t,3,none⟩=some (.slice (some adn) T.nonb.length cn)∧W'.cell? (adb.add r)=some (iv (nAt T.basic r))∧W'.cell? (adn.add en)=some (iv (nAt T.nonb en))) (by kernel_rfl) ?_;show anyT [3,8,13,16,20,23] _ _ _ _ _ 28 _ _ _;generalize w3.drew=W2 at*;refine anyT.tk 0 trivial ?_;refine anyT.tk 1 trivial ?_;refine anyT.tk 2 trivial ?_;refine anyT.tt 3 ⟨trivial,hS1⟩ ?_;refine anyT.tk 4 trivial ?_;refine anyT.tk 5 trivial ?_;refine anyT.tk 6 trivial ?_;refine anyT.tk 7 trivial ?_;refine anyT.tt 8 ⟨trivial,hS1⟩ ?_;refine anyT.tk 9 trivial ?_;refine anyT.tk 10 trivial ?_;refine anyT.tk 11 trivial ?_;refine anyT.tk 12 trivial ?_;refine anyT.tt 13 ⟨trivial,hS1⟩ ?_;refine anyT.tk 14 trivial ?_;refine anyT.tk 15 trivial ?_;refine anyT.tt 16 ⟨trivial,hS1⟩ ?_;refine anyT.tk 17 trivial ?_;refine anyT.tk 18 trivial ?_;refine anyT.tk 19 trivial ?_;refine anyT.tt 20 ⟨trivial,hS1⟩ ?_;refine anyT.tk 21 trivial ?_;refine anyT.tk 22 trivial ?_;refine anyT.tt 23 ⟨trivial,hS1⟩ ?_;refine anyT.tk 24 trivial ?_;clear hS1;refine anyT.k 25 fun K hK=>?_
   refine doesAt_wp (K:=fun v W'=>v=undef∧OwnN W' B ⟨some adb,T.basic.length,cb⟩ (T.basic.set r (nAt T.nonb en))∧Fr (fun k=>k=gb) W2 W') (doesAt_one rfl (fun _=>rfl) HADB.out HB.out r (a0:=nAt T.basic r) (nAt_get hrb) (nAt T.nonb en) (nAt T.nonb en) rfl rfl (fun _ _ _ _ e=>e) (by rfl) (by rfl) (fun old9 hold hfz=>run_stI _ _ _ old9 hold hfz) (fun W' h1 h2=>⟨rfl,h1,h2⟩)) ?_;rintro v W3 ⟨rfl,O2,F2⟩;obtain⟨cur9,b9⟩:=Own.bk HB.out (b:=gb) (by rw[HADB.out];rfl);have hon:∀k,k=gb→S.sb.on k:=fun k hk=>by rw[EB.out,HADB.out,hk];rfl
   replace HT:Hid (TabIs W3 B t S (pvB T r en)):=I (TabIs.setB HT.out (by rw[EB.out];exact O2) (F2.wide fun k _ hk=>hon k hk));replace HF:=I (OwnR.st HF.out F2 b9);replace HN:Hid (OwnN W3 B ⟨some adn,T.nonb.length,cn⟩ T.nonb):=I (by have:=HT.n;rw[EN.out] at this;exact this);replace HG:=I (HG.in F2 (fun k hk=>.inl (.inr (.inl (hon k hk)))));clear hon O2 F2 b9 HB;refine hK.out _ _ ⟨⟨trivial,fun _=>Or.inr (by kernel_rfl)⟩,?_⟩;clear hK K;refine ptt ?_;refine anyT.tk 26 trivial ?_;refine anyT.k 27 fun K hK=>?_
   refine doesAt_wp (K:=fun v W'=>v=undef∧OwnN W' B ⟨some adn,T.nonb.length,cn⟩ (T.nonb.set en (nAt T.basic r))∧Fr (fun k=>k=gn) W3 W') (doesAt_one rfl (fun _=>rfl) HADN.out HN.out en (a0:=nAt T.nonb en) (nAt_get he8) (nAt T.basic r) (nAt T.basic r) rfl rfl (fun _ _ _ _ e=>e) (by rfl) (by rfl) (fun old9 hold hfz=>run_stI _ _ _ old9 hold hfz) (fun W' h1 h2=>⟨rfl,h1,h2⟩)) ?_;rintro v W4 ⟨rfl,O2,F2⟩;obtain⟨cur9,b9⟩:=Own.bk HN.out (b:=gn) (by rw[HADN.out];rfl);have hon:∀k,k=gn→S.sn.on k:=fun k hk=>by rw[EN.out,HADN.out,hk];rfl
   replace HT:Hid (TabIs W4 B t S (pvF T r en f 0)):=I (TabIs.setN HT.out (by rw[EN.out];exact O2) (F2.wide fun k _ hk=>hon k hk));replace HF:=I (OwnR.st HF.out F2 b9);replace HG:=I (HG.in F2 (fun k hk=>.inl (.inr (.inr (.inl (hon k hk))))));clear hon O2 F2 b9 HN;refine hK.out _ _ ⟨⟨trivial,fun _=>Or.inr (by kernel_rfl)⟩,?_⟩;clear hK K;refine ptt ?_;refine anyT.done (by kernel_rfl) ?_;have HFLN:Hid (S.sf.n=T.forms.length):=I (by have h1:=Own.len HT.f (fun _=>rfl) (by decide);have h2:=HT.len;rw[← h1,h2];rfl);obtain⟨t_0,t_1,t_2,t_3,t_4,t_5,t_6⟩:=HT.cell.c7;simp only[HAF.out,HFLN.out] at t_4;go_wp2_with fail;go_loopw [100] (fun s0 wr=>∃(i:Nat),s0=.int .i64 i∧i≤T.forms.length∧Hid (TabIs wr B t S (pvF T r en f i))∧Hid (OwnR wr w.heap.size ⟨some adf,o.length,o.length⟩ f)∧Hid (Gx (S.X t) w wr)) (fun i _=>T.forms.length - (intOf i).toNat)
   case atStart=>exact⟨0,rfl,nq _,HT,HF,HG⟩
   case round=>
    clear HT HF HG t_0 t_1 t_2 t_3 t_4 t_5 t_6;obtain⟨i,rfl,hr1,HT,HF,HG⟩:=hrel;by_cases hin:i < T.forms.length
    ·have hi9:i < 100000:=nm hin OK.sm;by_cases hir:i=r
     ·have d_hir:=dt hir;have e_hir:((i) == (r))=true:=beq_iff_eq.2 hir;have n_hir:((i) != (r))=false:=by simp[hir]
      have HE9:Hid (pvF T r en f (i+1)=pvF T r en f i):=I (by unfold pvF;rw[rowN,if_pos hir]);rw[← HE9.out] at HT;clear HE9;go_wp2;go_roundw
      ·exact⟨i+1,by go_num,by omega,HT,HF,HG⟩
      ·simp[intOf];omega
     ·have d_hir:=df hir;have e_hir:((i) == (r))=false:=beq_eq_false_iff_ne.2 hir;have n_hir:((i) != (r))=true:=bne_iff_ne.2 hir;have n2_hj:((i:Int) != (r:Int))=true:=bne_iff_ne.2 (by omega);have hl:(rowN T.forms r en f i)[i]?=some (rAt T.forms i):=(rowN_get _ _ _ _ (nr _)).trans (rAt_get hin);obtain⟨si,hsi⟩:∃si,S.fs[i]?=some si:=⟨_,ge (by rw[HT.len];show i < (rowN T.forms r en f i).length;rw[rowN_len];exact hin)⟩;have hok:SubOk (rAt T.forms i) en f:=by have:=OK.row i hin;rw[HEO.out,HEF.out] at this;exact this
      obtain⟨gi,ci,es,_⟩:=Own.form (HT.row i si _ hsi hl) Rv.len (by decide) (qAt_get hok.se);obtain⟨adi,hadi⟩:∃ad:Addr,ad=⟨gi,0,none⟩:=⟨_,rfl⟩;rw[← hadi] at es;subst es;obtain⟨af9,hAf9,g0,_⟩:=HT.f.at hsi;rw[HAF.out,oq] at hAf9;subst hAf9;have HROW:=I (HT.row i _ _ hsi hl);have HOKI:=I hok;have HADI:=I hadi;have HSI:=I hsi;have HL:=I hl;have HYI:Hid (¬Sv.on ⟨some adf,o.length,o.length⟩ gi):=I (fun hy=>NG9.out (by
       have h1:gf=gi:=by rw[HADF.out] at hy;injection hy
       rw[h1];exact TabIs.inX (mg hsi) (by rw[hadi];rfl)))
      clear hsi hl hok hadi;obtain⟨t_0,t_1,t_2,t_3,t_4,t_5,t_6⟩:=HT.cell.c7;simp only[HAF.out,HFLN.out] at t_4;go_wp2_with fail;refine (tsubst_any wr B w.heap.size gi _ ci en adi ⟨some adf,o.length,o.length⟩ (rAt T.forms i) f HADI.out HROW.out HF.out (fun hy=>?_) HOKI.out (by rw[← HOKI.len,HFL.out];exact hol)).mono ?_
      ·exact HYI.out hy
      rintro e w8 ⟨rfl,O,F9⟩;have HO9:=I O;have HF9:=I F9;clear O F9;obtain⟨cur9,b9⟩:=Own.bk HROW.out (b:=gi) (by rw[HADI.out];rfl);have hon:∀k,k=gi→Sv.on ⟨some adi,(rAt T.forms i).length,ci⟩ k:=fun k hk=>by rw[HADI.out,hk];rfl
      have HE9:pvF T r en f (i+1)={ pvF T r en f i with forms:=(rowN T.forms r en f i).set i (subL (rAt T.forms i) en f) }:=by unfold pvF;rw[rowN,if_neg hir]
      replace HT:Hid (TabIs w8 B t S (pvF T r en f (i+1))):=I (by rw[HE9];exact TabIs.setRow HT.out HSI.out HL.out HO9.out (HF9.wide fun k _ hk=>hon k hk));replace HF:=I (OwnR.stx HF.out HF9.out b9 (by decide) HYI.out);replace HG:=I (HG.in HF9.out (fun k hk=>.inl (TabIs.inX (mg HSI.out) (hon k hk))));clear hon b9 HE9 HO9 HF9 HROW HL g0 t_0 t_1 t_2 t_3 t_4 t_5 t_6;go_wp2;go_roundw
      ·exact⟨i+1,by go_num,by omega,HT,HF,HG⟩
      ·simp[intOf];omega
    ·obtain rfl:i=T.forms.length:=by omega
     have hok:SubOk T.obj en f:=by have:=OK.obj;rw[HEO.out,HEF.out] at this;exact this
     have ho9:OwnR wr B S.so T.obj:=HT.o;obtain⟨gi,ci,es,_⟩:=Own.form ho9 Rv.len (by decide) (qAt_get hok.se);obtain⟨adi,hadi⟩:∃ad:Addr,ad=⟨gi,0,none⟩:=⟨_,rfl⟩;rw[← hadi] at es;have EO:=I es;have HROW:Hid (OwnR wr B ⟨some adi,T.obj.length,ci⟩ T.obj):=I (es▸ho9);have HOKI:=I hok;have HADI:=I hadi;have HYI:Hid (¬Sv.on ⟨some adf,o.length,o.length⟩ gi):=I (fun hy=>NG9.out (by
      have h1:gf=gi:=by rw[HADF.out] at hy;injection hy
      rw[h1];exact .inr (.inr (.inr (.inr (.inl (by rw[es,hadi];rfl)))))))
     clear hok hadi es ho9;obtain⟨t_0,t_1,t_2,t_3,t_4,t_5,t_6⟩:=HT.cell.c7;simp only[EO.out] at t_5;go_wp2_with fail;refine (tsubst_any wr B w.heap.size gi _ ci en adi ⟨some adf,o.length,o.length⟩ (T.obj) f HADI.out HROW.out HF.out (fun hy=>?_) HOKI.out (by rw[← HOKI.len,HFL.out];exact hol)).mono ?_
     ·exact HYI.out hy
     rintro e w8 ⟨rfl,O,F9⟩;have HO9:=I O;have HF9:=I F9;clear O F9;obtain⟨cur9,b9⟩:=Own.bk HROW.out (b:=gi) (by rw[HADI.out];rfl);have hon:∀k,k=gi→S.so.on k:=fun k hk=>by rw[EO.out,HADI.out,hk];rfl
     replace HT:Hid (TabIs w8 B t S (pvO T r en f)):=I (TabIs.setObj HT.out (by rw[EO.out];exact HO9.out) (HF9.wide fun k _ hk=>hon k hk));replace HF:=I (OwnR.stx HF.out HF9.out b9 (by decide) HYI.out);replace HG:=I (HG.in HF9.out (fun k hk=>.inl (.inr (.inr (.inr (.inr (.inl (hon k hk))))))));clear hon b9 HO9 HF9 HROW t_0 t_1 t_2 t_3 t_4 t_5 t_6;have hrf9:r < T.forms.length:=OK.sr;have hsl:S.fs.length=T.forms.length:=by rw[HT.len];show (rowN T.forms r en f T.forms.length).length=_;rw[rowN_len]
     obtain⟨gsf,csf,esf,_⟩:=Own.form HT.f (fun _=>rfl) (by decide) HS.out;have hadsf:af=⟨gsf,0,none⟩:=by have h9:=HAF.out;rw[esf] at h9;injection h9 with h9;exact h9.symm
     rw[← hadsf,hsl] at esf;have HADS:=I hadsf;have EF:=I esf;have HSF:Hid (OwnS w8 B ⟨some af,T.forms.length,csf⟩ S.fs):=I (esf▸HT.f);clear hadsf esf hsl;obtain⟨t_0,t_1,t_2,t_3,t_4,t_5,t_6⟩:=HT.cell.c7;simp only[EF.out] at t_4;obtain⟨cur9,b9⟩:=Own.bk HSF.out (b:=gsf) (by (try rw[HADS.out]);rfl);have BK9:=I b9;clear b9;go_wp2_with (refine wpList_one rfl rfl rfl (fun _=>rfl) HADS.out HSF.out r (a0:=⟨some ado,o.length,co⟩) HS.out ⟨some adf,o.length,o.length⟩ ⟨some adf,o.length,o.length⟩ rfl rfl (fun _ _ _ _ e=>e) (by rfl) (by rfl) (fun old9 hold hfz=>run_stS _ _ _ _ _ old9 hold hfz) ?_;intro w21 O2 F2);replace HT:=I ((TabIs.setF (i:=r) (s:=⟨some adf,o.length,o.length⟩) (l:=f) HT.out (by show r < (rowN T.forms r en f T.forms.length).length;rw[rowN_len];exact hrf9) (by rw[EF.out];exact O2) (F2.wide fun k _ hk=>by rw[EF.out,HADS.out,hk];rfl) (HF.low HBW.out) (fun k hk hx=>NG9.out (by have h1:gf=k:=by {rw[HADF.out] at hk;injection hk};rw[h1];exact hx))));replace HG:=I (HG.in F2 (fun k hk=>.inl (.inr (.inr (.inr (.inl (by rw[EF.out,HADS.out,hk];rfl)))))));clear O2 F2 BK9 t_0 t_1 t_2 t_3 t_4 t_5 t_6;go_wp2;refine pex ?_
     first | (refine bodyPost_ret (results_none rfl _ _ _) rfl ?_) | (refine bodyPost_end (results_none rfl _ _ _) rfl ?_)
     refine⟨rfl,⟨{ S with fs:=S.fs.set r ⟨some adf,o.length,o.length⟩ },?_,?_⟩,HG.fr⟩
     ·have h9:=HT.out;obtain rfl:=HEO.out;obtain rfl:=HEF.out;exact h9
     ·refine⟨?_,fun h=>⟨h.1,fun s hs=>by
       rcases List.mem_or_eq_of_mem_set hs with h1 | rfl
       ·exact h.2 s h1
       ·rfl⟩⟩
      rintro k (hk | hk | hk | hk | hk | ⟨s,hs,hk⟩)
      ·exact .inl (.inl hk)
      ·exact .inl (.inr (.inl hk))
      ·exact .inl (.inr (.inr (.inl hk)))
      ·exact .inl (.inr (.inr (.inr (.inl hk))))
      ·exact .inl (.inr (.inr (.inr (.inr (.inl hk)))))
      ·rcases List.mem_or_eq_of_mem_set hs with h1 | rfl
       ·exact .inl (TabIs.inX h1 hk)
       ·refine .inr ?_;rw[HADF.out] at hk;injection hk with hk;rw[← hk];exact HSZ.out
def lnK (ts:List Tm) (n:Nat):Nat→List Q
 | 0=>List.replicate (n+1) Q.zero
 | k+1=>match ts[k]? with
  | some t=>(lnK ts n k).set t.1.toNat t.2
  | none=>lnK ts n k
theorem lnK_len (ts:List Tm) (n:Nat):∀k,(lnK ts n k).length=n+1
 | 0=>List.length_replicate
 | k+1=>by
  rw[lnK];split
  ·rw[List.length_set];exact lnK_len ts n k
  ·exact lnK_len ts n k
def lineT (n:Nat) (x:Fm):List Q:=(lnK x.terms n x.terms.length).set n x.const
def duN (T:Tb) (l:List Q):Nat→List Q
 | 0=>List.replicate T.rows Q.zero
 | j+1=>if T.vars≤nAt T.nonb j∧nAt T.nonb j - T.vars < T.rows then (duN T l j).set (nAt T.nonb j - T.vars) (qAt l j) else duN T l j
theorem duN_len (T:Tb) (l:List Q):∀j,(duN T l j).length=T.rows
 | 0=>List.length_replicate
 | j+1=>by
  rw[duN];split
  ·rw[List.length_set];exact duN_len T l j
  ·exact duN_len T l j
def poN (T:Tb):Nat→List Q
 | 0=>List.replicate T.vars Q.zero
 | j+1=>if nAt T.basic j < T.vars then (poN T j).set (nAt T.basic j) (qAt (rAt T.forms j) T.nonb.length) else poN T j
theorem poN_len (T:Tb):∀j,(poN T j).length=T.vars
 | 0=>List.length_replicate
 | j+1=>by
  rw[poN];split
  ·rw[List.length_set];exact poN_len T j
  ·exact poN_len T j
theorem tline_any (w:World) (t n c:Nat) (A:Option Addr) (c0 c1 c2 c4 c5 c6:Value) (f:Fv) (x:Fm) (hb:Bk w t 420 #[c0,c1,c2,.slice A n c,c4,c5,c6]) (hf:f.Is w x) (hx:∀s∈x.terms,0≤s.1∧s.1.toNat≤n) (hn:n < 100000):
  Calls Tryz.prog 354 #[.pointer (some ⟨t,0,none⟩),f.v] w fun e w'=>∃y:Sv,e=.returned y.v∧OwnR w' (nsz w) y (lineT n x)∧y.c=y.n∧Gr w w':=by
 obtain⟨⟨xA,xn,xc⟩,fc⟩:=f;have hxn:x.terms.length=xn:=hf.terms.len;have hm:xn≤9223372036854775807:=(by obtain⟨_,h1,_⟩:=hf.terms;exact nt h1.cap h1.max);have HF:=I (hf.terms);have HB:=I hb;have HX:=I hx;have HXN:=I hxn;have HM:=I hm;clear hb hx hxn hm;simp only[Rv.v,Fv.v] at*;go_enter Tryz.func354,Tryz.ntmps354;go_upto_region 1 with fail;refine nw1h fun W HG D_p=>?_
 have HK:=I ((hf.const).gr HG);clear hf;have p_:=D_p.c4;clear p_;obtain⟨t_0,t_1,t_2,t_3,t_4,t_5,t_6⟩:=(HG.bk HB).c7;clear t_0 t_1 t_2 t_4 t_5 t_6;have mk:=makeR (n+1) (by omega) W
 push_cast at mk
 have GB:Gr W (W.alloc (.cells (madeCells Rl ((n+1)*3)) 38)):=(Gr.refl _).alloc _;have HSZ_gl:Hid (nsz w≤W.heap.size):=I HG.size;have L9_p:=I D_p.lt;obtain⟨HK,D_p,HG⟩:=GB.u3 HK D_p HG;have HL:Hid (OwnR (W.alloc (.cells (madeCells Rl ((n+1)*3)) 38)) (nsz w) ⟨some ⟨W.heap.size,0,none⟩,n+1,n+1⟩ (List.replicate (n+1) Q.zero)):=I ((OwnR.made W (n+1) (by omega)).low HSZ_gl);clear GB;go_upto_region 2 with fail;clear mk t_3;generalize W.alloc (.cells (madeCells Rl ((n+1)*3)) 38)=w1 at*;generalize W.heap.size=gl at*;obtain⟨adl,haf⟩:∃ad:Addr,ad=⟨gl,0,none⟩:=⟨_,rfl⟩;rw[← haf] at HL ⊢;have HAD_HL:=I haf;clear haf;have NX_HL_p:Hid (¬Sv.on ⟨some adl,n+1,n+1⟩ w.heap.size):=I (fun hx=>by rw[HAD_HL.out] at hx;have h1:gl=w.heap.size:=(by injection hx);have h2:w.heap.size < gl:=L9_p.out;omega);clear L9_p;have p_:=D_p.c4;go_wp2_with fail;go_loopw [18] (fun s0 wr=>∃(k:Nat),s0=.int .i64 k∧k≤xn∧Hid (fc.Is wr x.const)∧Hid (OwnR wr (nsz w) ⟨some adl,n+1,n+1⟩ (lnK x.terms n k))∧Hid (Gr w wr)∧Hid (Bk wr w.heap.size 40 #[.slice xA xn xc,.bool fc.neg,fc.num.v,fc.den.v])) (fun k _=>xn - (intOf k).toNat)
 case atStart=>exact⟨0,rfl,nq _,HK,HL,HG,D_p⟩
 case round=>
  clear HK HL HG D_p p_;obtain⟨k,rfl,hr1,HK,HL,HG,D_p⟩:=hrel;by_cases hkn:k < xn
  ·obtain⟨s,hs⟩:∃s,x.terms[k]?=some s:=⟨_,ge (by rw[HXN.out];exact hkn)⟩;obtain⟨t1,ad,ht,hA,d0,d1,d2,d3⟩:=(HF.gr (HG.out)).at hs;simp only at hA;subst hA;have hm9:k < 9223372036854775807:=nk hkn HM;have HSK:=I hs;obtain⟨o3,o4⟩:=HX.out s (mg hs);have hvar:=ht.var;obtain⟨j,hj⟩:∃j:Nat,(j:Int)=s.1:=⟨s.1.toNat,Int.toNat_of_nonneg o3⟩;rw[← hj] at hvar o4;rw[Int.toNat_natCast] at o4;have HJ:=I hj;have hj9:j < n+1:=Nat.lt_succ_of_le o4;have HT:=I ht.coef;obtain⟨⟨tv,tc⟩,rfl⟩:∃t':Tv,t'=t1:=⟨t1,rfl⟩;simp only at hvar HT d0 d1 d2 d3;subst hvar;clear hs ht hj o3 o4;have L9_p:=D_p.lt;have NX_HL_tb:Hid (¬Sv.on ⟨some adl,n+1,n+1⟩ (wr.heap.size)):=I (fun hx=>absurd (HL.lt _ hx).2 (by omega));clear L9_p;go_upto_region 5 with fail;clear d0 d1 d2 d3;refine nw1 fun w2 GB D_tb=>?_
   replace HK:=I (HK.gr GB);replace HL:=I (OwnR.up HL GB);obtain⟨HT,D_p,HG⟩:=GB.u3 HT D_p HG;clear GB;generalize wr.heap.size=tb at*;have tb_:=D_tb.c4;obtain⟨cur9,b9⟩:=Own.bk HL (b:=gl) (by (try rw[HAD_HL.out]);rfl);have BK9:=I b9;clear b9;go_wp2_with (refine wpList_elA rfl rfl rfl Rv.len HAD_HL.out HL.out j (a0:=qAt (lnK x.terms n k) j) (qAt_get (by rw[lnK_len];exact hj9)) tc (s.2) (by rfl) (by rfl) HT.out (fun W' F p a hp=>Rv.Is.tf' hp F BK9) (by kernel_rfl) (Rv.one _) ?_;intro w3 O2 F2);replace HK:=I (HK.tf' F2 BK9);replace HG:=HG.fa F2 HSZ_gl;replace D_p:=I (F2.bk D_p (fun e=>NX_HL_p.out (by (try rw[HAD_HL.out]);rw[show w.heap.size=_ from e];rfl)));replace HL:=I O2;clear O2 F2 BK9 tb_;have HE9:Hid (lnK x.terms n (k+1)=(lnK x.terms n k).set j s.2):=I (by rw[lnK,HSK.out];show List.set _ s.1.toNat _=_;rw[← HJ.out,Int.toNat_natCast]);rw[← HE9.out] at HL;clear HE9;clear HT;clear D_tb;go_wp2;go_roundw
   ·exact⟨k+1,by go_num,by omega,HK,HL,HG,D_p⟩
   ·simp[intOf];omega
  ·obtain rfl:k=xn:=by omega
   have p_:=D_p.c4;have hw1:IntKind.i64.wrap ((n:Int)+1 - 1)=(n:Int):=by rw[wi _ (by omega)];omega
   obtain⟨cur9,b9⟩:=Own.bk HL (b:=gl) (by (try rw[HAD_HL.out]);rfl);have BK9:=I b9;clear b9;go_wp2_with (refine wpList_elA rfl rfl rfl Rv.len HAD_HL.out HL.out n (a0:=qAt (lnK x.terms n k) n) (qAt_get (by rw[lnK_len];exact Nat.lt_succ_self n)) fc (x.const) (by rfl) (by rfl) HK.out (fun W' F p a hp=>Rv.Is.tf' hp F BK9) (by kernel_rfl) (Rv.one _) ?_;intro w2 O2 F2);replace HG:=HG.fa F2 HSZ_gl;replace HL:=I O2;clear O2 F2 BK9 p_;go_wp2;go_ret;exact⟨⟨some adl,n+1,n+1⟩,rfl,by rw[lineT,HXN.out];exact HL.out,rfl,HG.out⟩
theorem tdual_any (w:World) (B t:Nat) (S:Ts) (T:Tb) (x:Sv) (l:List Q) (h:TabIs w B t S T) (hx:OwnR w B x l) (hl:l.length=T.nonb.length+1) (hn:T.nonb.length < 100000) (hr:T.rows < 100000) (hv:T.vars < 100000) (hnn:∀v∈T.nonb,v < 1000000):
  Calls Tryz.prog 306 #[.pointer (some ⟨t,0,none⟩),.slice x.A x.n x.c] w fun e w'=>∃y:Sv,e=.returned y.v∧OwnR w' (nsz w) y (duN T l T.nonb.length)∧Gr w w':=by
 obtain⟨xA,xn,xc⟩:=x;have hnl:S.sn.n=T.nonb.length:=(h.n.len (fun _=>rfl) (by decide)).symm;have hxn:l.length=xn:=hx.len Rv.len (by decide);obtain⟨aN,haN⟩:∃a,S.sn.A=a:=⟨_,rfl⟩;have HG:=I (Gr.refl w);have HT:=I h;have HX:=I hx;have HNL:=I hnl;have HAN:=I haN;have HXN:=I hxn;change Hid _ at hl hnn;clear h hx hnl haN hxn;go_enter Tryz.func306,Tryz.ntmps306;go_upto_region 1 with fail;obtain⟨t_0,t_1,t_2,t_3,t_4,t_5,t_6⟩:=HT.cell.c7;have mk:=makeR (T.rows) (by omega) w;have GB:Gr w (w.alloc (.cells (madeCells #[.bool false,.slice none 0 0,.slice none 0 0] ((T.rows)*3)) 38)):=(Gr.refl _).alloc _;have HSZ_gl:Hid (nsz w≤w.heap.size):=I HG.size;have NG_HT_gl:Hid (¬S.X t w.heap.size):=I (fun hx=>absurd (HT.lt hx).2 (ni _));have NG_HX_gl:Hid (¬Sv.on ⟨xA,xn,xc⟩ w.heap.size):=I (fun hx=>absurd (HX.lt _ hx).2 (ni _));replace HT:=I (HT.gr GB);replace HX:=I (OwnR.up HX GB);replace HG:=HG.tr GB;have HL:Hid (OwnR (w.alloc (.cells (madeCells Rl ((T.rows)*3)) 38)) (nsz w) ⟨some ⟨w.heap.size,0,none⟩,T.rows,T.rows⟩ (List.replicate (T.rows) Q.zero)):=I ((OwnR.made w (T.rows) (by omega)).low HSZ_gl);clear GB;go_upto_region 2 with fail;clear mk t_0 t_1 t_2 t_3 t_4 t_5 t_6;generalize w.alloc (.cells (madeCells #[.bool false,.slice none 0 0,.slice none 0 0] ((T.rows)*3)) 38)=w1 at*;generalize w.heap.size=gl at*;obtain⟨adl,haf⟩:∃ad:Addr,ad=⟨gl,0,none⟩:=⟨_,rfl⟩;rw[← haf] at HL ⊢;have HAD_HL:=I haf;clear haf;obtain⟨t_0,t_1,t_2,t_3,t_4,t_5,t_6⟩:=HT.cell.c7;simp only[HNL.out,HAN.out] at t_3;go_wp2_with fail;go_loopw [19] (fun s0 wr=>∃(j:Nat),s0=.int .i64 j∧j≤T.nonb.length∧Hid (TabIs wr B t S T)∧Hid (OwnR wr B ⟨xA,xn,xc⟩ l)∧Hid (OwnR wr (nsz w) ⟨some adl,T.rows,T.rows⟩ (duN T l j))∧Hid (Gr w wr)) (fun j _=>T.nonb.length - (intOf j).toNat)
 case atStart=>exact⟨0,rfl,nq _,HT,HX,HL,HG⟩
 case round=>
  clear HT HX HL HG t_0 t_1 t_2 t_3 t_4 t_5 t_6;obtain⟨j,rfl,hr1,HT,HX,HL,HG⟩:=hrel;by_cases hin:j < T.nonb.length
  ·have HV:=I (nAt_get hin);have hj9:j < 100000:=nm hin hn;have hjx:j < xn:=by have:=hl.out;have:=HXN.out;omega
   have HQ:=I (qAt_get (l:=l) (i:=j) (by have:=hl.out;omega));obtain⟨an,hAn,n0,hrn⟩:=HT.n.at HV;rw[HAN.out] at hAn;subst hAn;have hv9:nAt T.nonb j < 1000000:=hnn.out _ (mg HV.out);obtain⟨ad,hA⟩:∃ad,xA=some ad:=by obtain⟨c,ad,hc,hA,q0,q1,q2⟩:=HX.rats.at HQ;exact⟨ad,hA⟩
   subst hA;obtain⟨v,hv8⟩:∃v,nAt T.nonb j=v:=⟨_,rfl⟩;have HV8:=I hv8;rw[hv8] at n0 hv9;clear hv8;obtain⟨t_0,t_1,t_2,t_3,t_4,t_5,t_6⟩:=HT.cell.c7;simp only[HNL.out,HAN.out] at t_3;by_cases hlow:v < T.vars
   ·have d_hlow:=dt hlow;have hw1:IntKind.i64.wrap ((v:Int) - (T.vars:Int))=(v:Int) - (T.vars:Int):=by rw[wi _ (by omega)]
    have hw2:decide ((0:Int)≤(v:Int) - (T.vars:Int))=false:=df (by omega);have hw3:¬(0:Int)≤(v:Int) - (T.vars:Int):=by omega
    have HE9:Hid (duN T l (j+1)=duN T l j):=I (by rw[duN,HV8.out,if_neg (fun h=>absurd h.1 (by omega))]);rw[← HE9.out] at HL;clear HE9;go_wp2;go_roundw
    ·exact⟨j+1,by go_num,by omega,HT,HX,HL,HG⟩
    ·simp[intOf];omega
   ·have d_hlow:=df hlow;obtain⟨k,hk⟩:∃k,v=T.vars+k:=⟨v - T.vars,by omega⟩;subst hk;have hw1:IntKind.i64.wrap (((T.vars+k:Nat):Int) - (T.vars:Int))=(k:Int):=by rw[wi _ (by omega)];omega
    have hw0:IntKind.i64.wrap ((T.vars:Int)+(k:Int) - (T.vars:Int))=(k:Int):=by rw[wi _ (by omega)];omega
    have hw2:(0:Int)≤(k:Int):=by omega
    have hk9:k < 1000000:=by omega
    by_cases hkr:k < T.rows
    ·have d_hkr:=dt hkr;obtain⟨c,ad1,hc,hA,q0,q1,q2⟩:=HX.rats.at HQ;simp only[oq] at hA;subst hA;have HC:=I hc;clear hc;obtain⟨cur9,b9⟩:=Own.bk HL (b:=gl) (by (try rw[HAD_HL.out]);rfl);have BK9:=I b9;clear b9;go_wp2_with (refine wpList_elA rfl rfl rfl Rv.len HAD_HL.out HL.out k (a0:=qAt (duN T l j) k) (qAt_get (by rw[duN_len];exact hkr)) c (qAt l j) (by rfl) (by rfl) HC.out (fun W' F p a hp=>Rv.Is.tf' hp F BK9) (by kernel_rfl) (Rv.one _) ?_;intro w2 O2 F2);replace HT:=I (HT.st F2 BK9 (by decide) NG_HT_gl);replace HX:=I (HX.stx F2 BK9 (by decide) NG_HX_gl);replace HG:=HG.fa F2 HSZ_gl;replace HL:=I O2;clear O2 F2 BK9 n0 t_0 t_1 t_2 t_3 t_4 t_5 t_6 q0 q1 q2;have HE9:Hid (duN T l (j+1)=(duN T l j).set k (qAt l j)):=I (by rw[duN,HV8.out,if_pos ⟨Nat.le_add_right _ _,by omega⟩,Nat.add_sub_cancel_left]);rw[← HE9.out] at HL;clear HE9;clear HC;go_wp2;go_roundw
     ·exact⟨j+1,by go_num,by omega,HT,HX,HL,HG⟩
     ·simp[intOf];omega
    ·have d_hkr:=df hkr;have HE9:Hid (duN T l (j+1)=duN T l j):=I (by rw[duN,HV8.out,if_neg (fun h=>absurd h.2 (by omega))]);rw[← HE9.out] at HL;clear HE9;go_wp2;go_roundw
     ·exact⟨j+1,by go_num,by omega,HT,HX,HL,HG⟩
     ·simp[intOf];omega
  ·obtain rfl:j=T.nonb.length:=by omega
   go_wp2;go_ret;exact⟨⟨some adl,T.rows,T.rows⟩,rfl,HL.out,HG.out⟩
theorem tpoint_any (w:World) (B t:Nat) (S:Ts) (T:Tb) (h:TabIs w B t S T) (ok:TabOk T):
  Calls Tryz.prog 302 #[.pointer (some ⟨t,0,none⟩)] w fun e w'=>∃y:Sv,e=.returned y.v∧OwnR w' (nsz w) y (poN T T.basic.length)∧Gr w w':=by
 have hbl:S.sb.n=T.basic.length:=(h.b.len (fun _=>rfl) (by decide)).symm;obtain⟨aB,haB⟩:∃a,S.sb.A=a:=⟨_,rfl⟩;have hv9:=ok.v;have HG:=I (Gr.refl w);have HT:=I h;have HBL:=I hbl;have HAB:=I haB;have OK:=I ok;clear h hbl haB ok;go_enter Tryz.func302,Tryz.ntmps302;go_upto_region 1 with fail;obtain⟨t_0,t_1,t_2,t_3,t_4,t_5,t_6⟩:=HT.cell.c7;have mk:=makeR (T.vars) (by omega) w;have GB:Gr w (w.alloc (.cells (madeCells Rl ((T.vars)*3)) 38)):=(Gr.refl _).alloc _;have HSZ_gl:Hid (nsz w≤w.heap.size):=I HG.size;have NG_HT_gl:Hid (¬S.X t w.heap.size):=I (fun hx=>absurd (HT.lt hx).2 (ni _));replace HT:=I (HT.gr GB);replace HG:=HG.tr GB;have HL:Hid (OwnR (w.alloc (.cells (madeCells Rl ((T.vars)*3)) 38)) (nsz w) ⟨some ⟨w.heap.size,0,none⟩,T.vars,T.vars⟩ (List.replicate (T.vars) Q.zero)):=I ((OwnR.made w (T.vars) (by omega)).low HSZ_gl);clear GB;go_upto_region 2 with fail;clear mk t_0 t_1 t_2 t_3 t_4 t_5 t_6;generalize w.alloc (.cells (madeCells Rl ((T.vars)*3)) 38)=w1 at*;generalize w.heap.size=gl at*;obtain⟨adl,haf⟩:∃ad:Addr,ad=⟨gl,0,none⟩:=⟨_,rfl⟩;rw[← haf] at HL ⊢;have HAD_HL:=I haf;clear haf;obtain⟨t_0,t_1,t_2,t_3,t_4,t_5,t_6⟩:=HT.cell.c7;simp only[HBL.out,HAB.out] at t_2;go_wp2_with fail;go_loopw [16] (fun s0 wr=>∃(j:Nat),s0=.int .i64 j∧j≤T.basic.length∧Hid (TabIs wr B t S T)∧Hid (OwnR wr (nsz w) ⟨some adl,T.vars,T.vars⟩ (poN T j))∧Hid (Gr w wr)) (fun j _=>T.basic.length - (intOf j).toNat)
 case atStart=>exact⟨0,rfl,nq _,HT,HL,HG⟩
 case round=>
  clear HT HL HG t_0 t_1 t_2 t_3 t_4 t_5 t_6;obtain⟨j,rfl,hr1,HT,HL,HG⟩:=hrel;by_cases hin:j < T.basic.length
  ·have HV:=I (nAt_get hin);have hif:j < T.forms.length:=by rw[← OK.b];exact hin
   have hj9:j < 100000:=nm hif OK.m;have HFJ:=I (rAt_get hif);have hqc:T.nonb.length < (rAt T.forms j).length:=by rw[(OK.row j hif).2];exact Nat.lt_succ_self _
   have HQC:=I (qAt_get hqc);obtain⟨s,hs⟩:∃s,S.fs[j]?=some s:=⟨_,ge (by rw[HT.len];exact hif)⟩;have HS:=I hs;obtain⟨an,hAn,n0,hrn⟩:=HT.b.at HV;rw[HAB.out] at hAn;subst hAn;clear hs;obtain⟨t_0,t_1,t_2,t_3,t_4,t_5,t_6⟩:=HT.cell.c7;simp only[HBL.out,HAB.out] at t_2;by_cases hf:nAt T.basic j < T.vars
   ·have d_hf:=dt hf;go_wp2_with fail;refine cm0 (tfree_any wr B t S T (nAt T.basic j) HT) fun w2 G=>?_
    replace HT:=I (HT.gr G);replace HL:=I (OwnR.up HL G);replace HG:=HG.tr G;clear n0 t_0 t_1 t_2 t_3 t_4 t_5 t_6;go_wp2_with fail;refine cm1 (tconst_any w2 B t S T j _ _ _ HT HS HFJ HQC) fun cv w3 HC G=>?_
    replace HT:=I (HT.gr G);replace HL:=I (OwnR.up HL G);replace HG:=HG.tr G

    obtain⟨cur9,b9⟩:=Own.bk HL (b:=gl) (by (try rw[HAD_HL.out]);rfl);have BK9:=I b9;clear b9;go_wp2_with (refine wpList_elA rfl rfl rfl Rv.len HAD_HL.out HL.out (nAt T.basic j) (a0:=qAt (poN T j) (nAt T.basic j)) (qAt_get (by rw[poN_len];exact hf)) cv (qAt (rAt T.forms j) T.nonb.length) (by rfl) (by rfl) HC.out (fun W' F p a hp=>Rv.Is.tf' hp F BK9) (by kernel_rfl) (Rv.one _) ?_;intro w4 O2 F2);replace HT:=I (HT.st F2 BK9 (by decide) NG_HT_gl);replace HG:=HG.fa F2 HSZ_gl;replace HL:=I O2;clear O2 F2 BK9;have HE9:Hid (poN T (j+1)=(poN T j).set (nAt T.basic j) (qAt (rAt T.forms j) T.nonb.length)):=I (by rw[poN,if_pos hf]);rw[← HE9.out] at HL;clear HE9;clear HC;go_wp2;go_roundw
    ·exact⟨j+1,by go_num,by omega,HT,HL,HG⟩
    ·simp[intOf];omega
   ·have d_hf:=df hf;go_wp2_with fail;refine cm0 (tfree_any wr B t S T (nAt T.basic j) HT) fun w2 G=>?_
    replace HT:=I (HT.gr G);replace HL:=I (OwnR.up HL G);replace HG:=HG.tr G;clear n0 t_0 t_1 t_2 t_3 t_4 t_5 t_6;have HE9:Hid (poN T (j+1)=poN T j):=I (by rw[poN,if_neg hf]);rw[← HE9.out] at HL;clear HE9;go_wp2;go_roundw
    ·exact⟨j+1,by go_num,by omega,HT,HL,HG⟩
    ·simp[intOf];omega
  ·obtain rfl:j=T.basic.length:=by omega
   go_wp2;go_ret;exact⟨⟨some adl,T.vars,T.vars⟩,rfl,HL.out,HG.out⟩
theorem ncs_one (n:Nat):∀u∈ncs n,u.oneCell'=true:=fun u hu=>by rw[mj hu];rfl
theorem iclone_any (w:World) (x:Sv) (l:List _) (h:Rows ncs (fun _ (p a:Nat)=>p=a) 3 1 w x l) (hn:x.n≤1000000):
  Calls Tryz.prog 295 #[x.v] w fun e w'=>∃y:Sv,e=.returned y.v∧OwnN w' (nsz w) y l∧Gr w w':=by
 obtain⟨ts,h,t2,t3,_⟩:=h;have h1:∀u∈(ts.flatMap fun p=>ncs p.1),u.oneCell'=true:=fun u hu=>by obtain⟨p,_,hp⟩:=List.mem_flatMap.1 hu;exact ncs_one _ u hp
 obtain⟨A,n,c⟩:=x;simp only at hn;have heq:=fun (W:World) (A:Option Addr) (n c:Nat)=>Lib.run_eql_slice_nil (P:=Tryz.prog) W 220 3 A n c 0 0 elemI.ht
 rcases A with _ | ad
 ·obtain⟨h9,h8⟩:=h.mk0 rfl;injection h9 with _ h7 h6;subst h7 h6;have h5:ts=[]:=by
   cases ts with
   | nil=>rfl
   | cons p r=>exact absurd (congrArg List.length h8) (by rw[List.flatMap_cons,List.length_append,show (ncs p.1).length=1 from rfl,List.length_nil];omega)
  subst h5;have HT:=I t2;clear h h1 t2 t3 h8;go_enter Tryz.func295,Tryz.ntmps295;go_wp2;go_ret;exact⟨Sv.none,rfl,by rw[HT.out];exact Own.nil _ _,Gr.refl w⟩
 ·have HO:Hid ((w.alloc (.cells #[] 3)).ownsRow w.heap.size 3 1 (.slice (some ⟨w.heap.size,0,none⟩) 0 0) 0 []):=⟨rfl,.inr ⟨w.heap.size,0,#[],rfl,nr _,Bk.made _ _ _,nr _,nq _,rfl,rfl⟩⟩;have HC:Hid (∀j u,(ts.flatMap fun p=>ncs p.1)[j]?=some u→(w.alloc (.cells #[] 3)).cell? (ad.add j)=some u):=(h.gr ((Gr.refl w).alloc _)).cells rfl;have HU:=I h1;have H1:=I h.len;have HT:=I t2;have HS:=I t3;simp only at H1;clear h h1 t2 t3;go_enter Tryz.func295,Tryz.ntmps295;go_wp2_with (at_builtin;refine wpList_appS elemI rfl _ _ rfl w.heap.size (.slice (some ⟨w.heap.size,0,none⟩) 0 0) 0 [] rfl HO.out ad n c (ts.flatMap fun p=>ncs p.1) rfl H1.out HC.out HU.out (by unfold maxLen;omega) (by omega) (by simp) ?_;intro v' w' h2 h3 h5);go_wp2;go_ret;rw[Nat.zero_add,List.nil_append] at h2;have G:=Gr.of_own h3;obtain⟨yA,yc,e9⟩:=rw_form h2;subst e9;exact⟨⟨yA,n,yc⟩,rfl,⟨ts,h2,HT.out,fun p hp=>(HS.out p hp)⟩,G⟩
theorem rclone_any (w:World) (x:Sv) (l:List _) (h:Rows Rv.cs (fun w (r:Rv) (q:Q)=>r.Is w q) 38 3 w x l) (hn:x.n≤1000000):
  Calls Tryz.prog 94 #[x.v] w fun e w'=>∃y:Sv,e=.returned y.v∧OwnR w' (nsz w) y l∧Gr w w':=by
 obtain⟨ts,h,t2,t3,_⟩:=h;have h1:∀u∈(ts.flatMap fun p=>Rv.cs p.1),u.oneCell'=true:=fun u hu=>by obtain⟨p,_,hp⟩:=List.mem_flatMap.1 hu;exact Rv.one _ u hp
 obtain⟨A,n,c⟩:=x;simp only at hn;have heq:=fun (W:World) (A:Option Addr) (n c:Nat)=>Lib.run_eql_slice_nil (P:=Tryz.prog) W 31 38 A n c 0 0 elemR.ht
 rcases A with _ | ad
 ·obtain⟨h9,h8⟩:=h.mk0 rfl;injection h9 with _ h7 h6;subst h7 h6;have h5:ts=[]:=by
   cases ts with
   | nil=>rfl
   | cons p r=>exact absurd (congrArg List.length h8) (by rw[List.flatMap_cons,List.length_append,show (Rv.cs p.1).length=3 from rfl,List.length_nil];omega)
  subst h5;have HT:=I t2;clear h h1 t2 t3 h8;go_enter Tryz.func94,Tryz.ntmps94;go_wp2;go_ret;exact⟨Sv.none,rfl,by rw[HT.out];exact Own.nil _ _,Gr.refl w⟩
 ·have HO:Hid ((w.alloc (.cells #[] 38)).ownsRow w.heap.size 38 3 (.slice (some ⟨w.heap.size,0,none⟩) 0 0) 0 []):=⟨rfl,.inr ⟨w.heap.size,0,#[],rfl,nr _,Bk.made _ _ _,nr _,nq _,rfl,rfl⟩⟩;have HC:Hid (∀j u,(ts.flatMap fun p=>Rv.cs p.1)[j]?=some u→(w.alloc (.cells #[] 38)).cell? (ad.add j)=some u):=(h.gr ((Gr.refl w).alloc _)).cells rfl;have HU:=I h1;have H1:=I h.len;have HT:=I t2;have HS:=I t3;simp only at H1;clear h h1 t2 t3;go_enter Tryz.func94,Tryz.ntmps94;go_wp2_with (at_builtin;refine wpList_appS elemR rfl _ _ rfl w.heap.size (.slice (some ⟨w.heap.size,0,none⟩) 0 0) 0 [] rfl HO.out ad n c (ts.flatMap fun p=>Rv.cs p.1) rfl H1.out HC.out HU.out (by unfold maxLen;omega) (by omega) (by simp) ?_;intro v' w' h2 h3 h5);go_wp2;go_ret;rw[Nat.zero_add,List.nil_append] at h2;have G:=Gr.of_own h3;obtain⟨yA,yc,e9⟩:=rw_form h2;subst e9;exact⟨⟨yA,n,yc⟩,rfl,⟨ts,h2,HT.out,fun p hp=>(HS.out p hp).gr G⟩,G⟩
def relF (T:Tb) (e:Nat):Nat→Nat→Option Nat
 | 0,_=>none
 | n+1,r=>if T.vars≤nAt T.basic r∧(qAt (rAt T.forms r) e).sign≠0 then some r else relF T e n (r+1)
def relG (N:List Nat):Nat→Nat→Tb→Option Tb
 | 0,_,T=>some T
 | n+1,e,T=>if tabOk T&&decide (N.length=T.nonb.length) then
   if nAt N e < T.vars then
    match relF T e T.basic.length 0 with
    | some r=>if pivOk T r e then relG N n (e+1) (pivT T r e) else none
    | none=>relG N n (e+1) T
   else relG N n (e+1) T
  else none
theorem OwnN.fr {X:Nat→Prop} {w w':World} {B:Nat} {x:Sv} {l:List Nat} (h:OwnN w B x l) (F:Fr X w w') (hx:∀k,x.on k→¬X k):OwnN w' B x l:=
 Own.go h (fun _ _ e=>e) fun b hb=>F.keep b (h.lt b hb).2 (hx b hb)
def Off (x:Sv) (S:Ts) (t:Nat):Prop:=∀k,x.on k→¬S.X t k
theorem Off.kept {x:Sv} {S S':Ts} {t n:Nat} (h:Off x S t) (hk:Kept S S' t n) (hl:∀k,x.on k→k < n):Off x S' t:=fun k hx hX=>by
 rcases hk.1 k hX with h1 | h1
 ·exact h k hx h1
 ·have:=hl k hx;omega
theorem trel_any (w:World) (B t:Nat) (S:Ts) (T Tz:Tb) (h:TabIs w B t S T) (ok:relG T.nonb T.nonb.length 0 T=some Tz) (hn:T.nonb.length < 100000):
  Calls Tryz.prog 299 #[.pointer (some ⟨t,0,none⟩)] w fun e w'=>e=.returned (.tuple #[])∧(∃S',TabIs w' B t S' Tz∧Kept S S' t (nsz w))∧Fr (S.X t) w w':=by
 have hnl:S.sn.n=T.nonb.length:=(h.n.len (fun _=>rfl) (by decide)).symm;have HG:=I (Gr.refl w);have HT:=I h;have OK:=I ok;have HNL:=I hnl;clear h ok hnl;go_enter Tryz.func299,Tryz.ntmps299;go_upto_region 0 with fail;obtain⟨t_0,t_1,t_2,t_3,t_4,t_5,t_6⟩:=HT.out.cell.c7;rw[HNL.out] at t_3;have h0:Hid (∀k,S.X t k→k < w.heap.size):=I (fun k hk=>(HT.out.lt hk).2);have HCL:=I (iclone_any w ⟨S.sn.A,T.nonb.length,S.sn.c⟩ T.nonb (by have h9:=HT.out.n.rows (by decide);rw[show S.sn=⟨S.sn.A,T.nonb.length,S.sn.c⟩ from by rw[← HNL.out]] at h9;exact h9) (by show T.nonb.length≤1000000;omega));go_wp2_with fail;refine cm1 (HCL.out) fun z w1 HZ G=>?_
 replace HT:=I (HT.out.gr G);replace HG:=I (HG.out.trans G);clear t_0 t_1 t_2 t_3 t_4 t_5 t_6;obtain⟨zA,zn,zc⟩:=z;have hzn:zn=T.nonb.length:=(HZ.out.len (fun _=>rfl) (by decide)).symm;subst hzn;have HOFF:Hid (Off ⟨zA,T.nonb.length,zc⟩ S t):=I (fun k hk hX=>by have h1:=(HZ.out.lt k hk).1;have h2:k < w.heap.size:=(h0.out k hX);unfold nsz at h1;omega);have HKP:Hid (Kept S S t (nsz w)):=I (Kept.refl _ _ _);replace HG:=I (Gx.of (X:=S.X t) HG.out);simp only[Sv.v];go_wp2_with fail;go_loopw [12] (fun s0 wr=>∃(j:Nat) (S1:Ts) (T1:Tb),s0=.int .i64 j∧j≤T.nonb.length∧Hid (relG T.nonb (T.nonb.length - j) j T1=some Tz)∧Hid (Off ⟨zA,T.nonb.length,zc⟩ S1 t)∧Hid (Kept S S1 t (nsz w))∧Hid (TabIs wr B t S1 T1)∧Hid (OwnN wr (nsz w) ⟨zA,T.nonb.length,zc⟩ T.nonb)∧Hid (Gx (S.X t) w wr)) (fun j _=>T.nonb.length - (intOf j).toNat)
 case atStart=>exact⟨0,S,T,rfl,nq _,OK,HOFF,HKP,HT,HZ,HG⟩
 case round=>
  clear HT HZ HG;obtain⟨j,S1,T1,rfl,hr1,OK,HOFF,HKP,HT,HZ,HG⟩:=hrel;by_cases hin:j < T.nonb.length
  ·have hj9:j < 100000:=nm hin hn;have ok1:=OK.out;rw[show T.nonb.length - j=(T.nonb.length - (j+1))+1 from by omega,relG] at ok1;split at ok1
   case isFalse=>cases ok1
   rename_i hok9
   rw[be,de] at hok9;obtain⟨hok1,hok2⟩:=hok9;have TOK:=I (tabOk.ok hok1);have HNE:=I hok2;have HV:=I (nAt_get hin);obtain⟨az,hAz,n0,hrz⟩:=HZ.out.at HV.out;simp only at hAz;subst hAz;clear hok1 hok2 OK;go_wp2_with fail;refine cm0 (tfree_any wr B t S1 T1 (nAt T.nonb j) HT.out) fun w2 G=>?_
   replace HT:=I (HT.out.gr G);replace HZ:=I (OwnN.up HZ.out G);replace HG:=I (HG.out.trans G);clear n0;by_cases hf:nAt T.nonb j < T1.vars
   ·have d_hf:=dt hf;rw[if_pos hf] at ok1;have OK1:=I ok1;have hbl:S1.sb.n=T1.basic.length:=(HT.out.b.len (fun _=>rfl) (by decide)).symm;have HBL:=I hbl;obtain⟨aB,haB⟩:∃a,S1.sb.A=a:=⟨_,rfl⟩;have HAB:=I haB;clear ok1 hbl haB;obtain⟨t_0,t_1,t_2,t_3,t_4,t_5,t_6⟩:=HT.out.cell.c7;simp only[HBL.out,HAB.out] at t_2;go_wp2_with fail;go_loopw [26] (fun s0 wr=>∃(r:Nat),s0=.int .i64 r∧r≤T1.basic.length∧Hid (relF T1 j (T1.basic.length - r) r=relF T1 j T1.basic.length 0)∧Hid (TabIs wr B t S1 T1)∧Hid (OwnN wr (nsz w) ⟨some az,T.nonb.length,zc⟩ T.nonb)∧Hid (Gx (S.X t) w wr)) (fun r _=>T1.basic.length - (intOf r).toNat)
    case atStart=>exact⟨0,rfl,nq _,I rfl,HT,HZ,HG⟩
    case round=>
     clear HT HZ HG t_0 t_1 t_2 t_3 t_4 t_5 t_6;obtain⟨r,rfl,hr1,HRF,HT,HZ,HG⟩:=hrel;by_cases hrn:r < T1.basic.length
     ·have hif:r < T1.forms.length:=by rw[← TOK.out.b];exact hrn
      have hr9:r < 100000:=nm hif TOK.out.m;have HVR:=I (nAt_get hrn);have HFJ:=I (rAt_get hif);have hql:j < (rAt T1.forms r).length:=by rw[(TOK.out.row r hif).2,← HNE.out];exact Nat.lt_succ_of_lt hin
      have HQ:=I (qAt_get hql);have HSE:=I (smL.at (TOK.out.row r hif).1 hql);obtain⟨s,hs⟩:∃s,S1.fs[r]?=some s:=⟨_,ge (by rw[HT.out.len];exact hif)⟩;have HS:=I hs;obtain⟨ad,hA⟩:∃ad,s.A=some ad:=by obtain⟨c,ad,hc,hA,q0,q1,q2⟩:=(HT.out.row r s _ hs HFJ.out).rats.at HQ.out;exact⟨ad,hA⟩
      obtain⟨sA,sn,sc⟩:=s;simp only at hA;subst hA;have hsn:sn=(rAt T1.forms r).length:=((HT.out.row r _ _ hs HFJ.out).len Rv.len (by decide)).symm;have hes:j < sn:=by rw[hsn];exact hql
      have hrf:=HRF.out;rw[show T1.basic.length - r=(T1.basic.length - (r+1))+1 from by omega,relF] at hrf;have HRF1:=I hrf;obtain⟨ab,hAb,b0,_⟩:=HT.out.b.at HVR.out;rw[HAB.out] at hAb;subst hAb;clear hs hsn hrf HRF;clear b0;obtain⟨t_0,t_1,t_2,t_3,t_4,t_5,t_6⟩:=HT.out.cell.c7;obtain⟨ab2,hAb,b0,hrb⟩:=HT.out.b.at HVR.out;rw[HAB.out,oq] at hAb;subst hAb;simp only[HBL.out,HAB.out] at t_2;go_wp2_with fail;refine cm0 (tfree_any wr B t S1 T1 (nAt T1.basic r) HT.out) fun w3 G=>?_
      replace HT:=I (HT.out.gr G);replace HZ:=I (OwnN.up HZ.out G);replace HG:=I (HG.out.trans G);clear t_0 t_1 t_2 t_3 t_4 t_5 t_6 b0;by_cases hb:nAt T1.basic r < T1.vars
      ·have d_hb:=dt hb;have HRF:=HRF1.out;rw[if_neg (fun h=>absurd h.1 (by omega))] at HRF;replace HRF:=I HRF;go_wp2;go_roundw
       ·exact⟨r+1,by go_num,by omega,HRF,HT,HZ,HG⟩
       ·simp[intOf];omega
      ·have d_hb:=df hb;obtain⟨t_0,t_1,t_2,t_3,t_4,t_5,t_6⟩:=HT.out.cell.c7;obtain⟨ab2,hAb,b0,hrb⟩:=HT.out.b.at HVR.out;rw[HAB.out,oq] at hAb;subst hAb;simp only[HBL.out,HAB.out] at t_2;obtain⟨af,hAf,f0,hrf⟩:=HT.out.f.at HS.out;obtain⟨c,ad1,hc,hA,q0,q1,q2⟩:=(HT.out.row r _ _ HS.out HFJ.out).rats.at HQ.out;simp only[oq] at hA;subst hA;simp only[hAf] at t_4;have HC:=I hc;clear hc;go_wp2_with fail;refine cm0 (sign_any w3 c (qAt (rAt T1.forms r) j) HC.out (nt HSE.out.len (by decide))) fun w4 G=>?_
       replace HT:=I (HT.out.gr G);replace HZ:=I (OwnN.up HZ.out G);replace HG:=I (HG.out.trans G);clear t_0 t_1 t_2 t_3 t_4 t_5 t_6 b0 f0 q0 q1 q2;by_cases hz:(qAt (rAt T1.forms r) j).sign=0
       ·have d_hz:=dt hz;have e_hz:(((qAt (rAt T1.forms r) j).sign) == (0))=true:=beq_iff_eq.2 hz;have n_hz:(((qAt (rAt T1.forms r) j).sign) != (0))=false:=by simp[hz]
        have HRF:=HRF1.out;rw[if_neg (fun h=>h.2 hz)] at HRF;replace HRF:=I HRF;go_wp2;go_roundw
        ·exact⟨r+1,by go_num,by omega,HRF,HT,HZ,HG⟩
        ·simp[intOf];omega
       ·have d_hz:=df hz;have e_hz:(((qAt (rAt T1.forms r) j).sign) == (0))=false:=beq_eq_false_iff_ne.2 hz;have n_hz:(((qAt (rAt T1.forms r) j).sign) != (0))=true:=bne_iff_ne.2 hz;clear HC;have hrf:=HRF1.out;rw[if_pos ⟨by omega,hz⟩] at hrf;have ok2:=OK1.out;rw[← hrf] at ok2
        dsimp only at ok2
        split at ok2
        case isFalse=>cases ok2
        rename_i hpk
        have PK:=I (pivOk.ok hpk);have OK:=I ok2;clear ok2 hpk hrf;go_wp2_with fail;refine (tpivot_any w4 B t S1 T1 r j HT.out PK.out).mono ?_;rintro e w9 ⟨rfl,⟨S2,hT,hK⟩,F9⟩;have HZ2:=I (OwnN.fr HZ.out F9 HOFF.out);have HOFF2:Hid (Off ⟨some az,T.nonb.length,zc⟩ S2 t):=I (HOFF.out.kept hK (fun k hk=>(HZ.out.lt k hk).2));have HKP2:Hid (Kept S S2 t (nsz w)):=I (HKP.out.trans hK HG.out.size);have HG2:=I (HG.out.in F9 (fun k hk=>HKP.out.1 k hk));have HT2:=I hT;clear hT hK F9 HT HZ HG;go_wp2;refine pex ?_;go_wp2;go_roundw
        ·exact⟨j+1,S2,pivT T1 r j,by go_num,by omega,OK,HOFF2,HKP2,HT2,HZ2,HG2⟩
        ·simp[intOf];omega
     ·obtain rfl:r=T1.basic.length:=by omega
      have ok2:=OK1.out;rw[← HRF.out,Nat.sub_self,relF] at ok2;have OK:=I ok2;clear ok2;go_wp2;go_roundw
      ·exact⟨j+1,S1,T1,by go_num,by omega,OK,HOFF,HKP,HT,HZ,HG⟩
      ·simp[intOf];omega
   ·have d_hf:=df hf;rw[if_neg hf] at ok1;have OK:=I ok1;clear ok1;go_wp2;go_roundw
    ·exact⟨j+1,S1,T1,by go_num,by omega,OK,HOFF,HKP,HT,HZ,HG⟩
    ·simp[intOf];omega
  ·obtain rfl:j=T.nonb.length:=by omega
   have ok1:=OK.out;rw[Nat.sub_self,relG] at ok1;injection ok1 with ok1;subst ok1;go_wp2;refine pex ?_
   first | (refine bodyPost_ret (results_none rfl _ _ _) rfl ?_) | (refine bodyPost_end (results_none rfl _ _ _) rfl ?_)
   exact⟨rfl,⟨S1,HT.out,HKP.out⟩,HG.out.fr⟩
def pvW (w:World) (t:Nat):Nat:=match w.cell? ⟨t,6,none⟩ with
 | some (.int _ n)=>n.toNat
 | _=>0
theorem TabIs.pv {w:World} {B t:Nat} {S:Ts} {T:Tb} (h:TabIs w B t S T):pvW w t=T.piv:=by
 obtain⟨_,_,_,_,_,_,t6⟩:=h.cell.c7;unfold pvW;rw[t6];rfl
theorem tminV_any (w:World) (B t N tb ab ub:Nat) (S:Ts) (T Tz:Tb) (line:Tb→List Q) (Ev:World→Ts→Prop) (h:TabIs w B t S T) (hE:Ev w S) (hEg:∀w1 w2 S1,Ev w1 S1→Gr w1 w2→Ev w2 S1) (hEp:∀w1 w2 S1 S2 T1,TabIs w1 B t S1 T1→Ev w1 S1→Fr (S1.X t) w1 w2→Kept S1 S2 t w1.heap.size→Ev w2 S2) (hc:∀w1 S1 T1,TabIs w1 B t S1 T1→Ev w1 S1→TabOk T1→(line T1).length=T1.nonb.length+1→Calls Tryz.prog 358 #[.pointer (some ⟨tb,0,none⟩),.pointer (some ⟨ab,0,none⟩),.pointer (some ⟨ub,0,none⟩)] w1 fun e w2=>∃y:Sv,e=.returned y.v∧Rats w2 y (line T1)∧Gr w1 w2) (ok:minT line N T=some Tz):
  Calls Tryz.prog 304 #[.pointer (some ⟨t,0,none⟩),.func (.func 358) #[] #[.pointer (some ⟨tb,0,none⟩),.pointer (some ⟨ab,0,none⟩),.pointer (some ⟨ub,0,none⟩)]] w fun e w'=>e=.returned (.tuple #[.int .i64 (-1),.bool true])∧(∃S',TabIs w' B t S' Tz∧Kept S S' t (nsz w)∧Ev w' S')∧Fr (S.X t) w w':=by
 have HG:=I (Gr.refl w);have HT:=I h;have HEV:=I hE;change Hid _ at hEg hEp hc;have OK:=I ok;clear h hE ok;go_enter Tryz.func304,Tryz.ntmps304;go_wp2_with fail;have HKP:Hid (Kept S S t (nsz w)):=I (Kept.refl _ _ _);replace HG:=I (Gx.of (X:=S.X t) HG);refine wp_scope_straight (wp_seq (wp_label ?_));simp only[Exit.then];go_wp2_with fail;go_loopw [] (fun   wr=>∃(k:Nat) (S1:Ts) (T1:Tb),Hid (minT line k T1=some Tz)∧Hid (Kept S S1 t (nsz w))∧Hid (T1.piv+k=T.piv+N)∧Hid (TabIs wr B t S1 T1)∧Hid (Ev wr S1)∧Hid (Gx (S.X t) w wr)) (fun wv=>T.piv+N - pvW wv t)
 case atStart=>exact⟨N,S,T,OK,HKP,I rfl,HT,HEV,HG⟩
 case round=>
  clear HT HEV HG;obtain⟨k,S1,T1,OK,HKP,HPN,HT,HEV,HG⟩:=hrel;have HPV0:=I (TabIs.pv HT);obtain⟨k,rfl⟩:∃k',k=k'+1:=by
   rcases k with _ | k
   ·have:=OK.out;rw[minT] at this;cases this
   ·exact⟨k,rfl⟩
  have ok1:=OK.out;rw[minT] at ok1;split at ok1
  case isFalse=>cases ok1
  rename_i hok9
  simp only[be,de] at hok9;obtain⟨⟨⟨hok1,hok2⟩,hok3⟩,hok4⟩:=hok9;have TOK:=I (tabOk.ok hok1);have HSL:=I hok3;have HLL:=I hok4;have hpi:((T1.piv:Int)≤65536):=by omega
  have d_pi:decide ((T1.piv:Int)≤65536)=true:=dt hpi;have d_pn:decide (T1.piv≤65536)=true:=dt hok2;have OK1:=I ok1;clear ok1 hok1 hok3 hok4 OK;obtain⟨t_0,t_1,t_2,t_3,t_4,t_5,t_6⟩:=HT.cell.c7;go_wp2_with fail;refine cm1 (hc.out wr S1 T1 HT HEV TOK HLL) fun y w1 HY G=>?_
  replace HT:=I (HT.gr G);replace HEV:=I (hEg.out _ _ _ HEV G);replace HG:=I (HG.trans G);clear t_0 t_1 t_2 t_3 t_4 t_5 t_6;have ok1:=OK1.out;simp only[Sv.v];go_wp2_with fail;refine cm0 (tenter_any w1 B t S1 T1 y (line T1) HT HY HLL HSL TOK.n) fun w2 G=>?_
  replace HT:=I (HT.gr G);replace HEV:=I (hEg.out _ _ _ HEV G);replace HG:=I (HG.trans G)

  clear HY;obtain⟨o,ho⟩:∃o,entT T1 (line T1)=o:=⟨_,rfl⟩;rw[ho] at ok1 ⊢;clear ho;rcases o with _ | en
  ·injection ok1 with ok1;subst ok1;simp only[optI];go_upto_region 8 with fail;obtain⟨t_0,t_1,t_2,t_3,t_4,t_5,t_6⟩:=HT.cell.c7;refine wpr ?_;have kc:=I fun W' (G:Gr w2.drew W')=>ai (G.keep t_0) (G.keep t_6)
   refine wg 0 (tf 7 0) [0,1,2,3,4,5,6] [] ?_;iterate 7 refine .tk ?_
   refine .done fun W1 G1 F1=>?_
   clear F1;refine wpe ?_;have GB:=G1.od;replace HT:=I (HT.gr GB);replace HEV:=I (hEg.out _ _ _ HEV GB);replace HG:=I (HG.trans GB);clear GB G1 kc t_0 t_6;go_wp2;(try simp only[Exit.inBlock,Exit.then,Exit.noGoto])
   refine bret Tryz.results304 ?_;exact⟨rfl,⟨S1,HT.out,HKP.out,HEV.out⟩,HG.fr⟩
  ·dsimp only at ok1
   split at ok1
   case isFalse=>cases ok1
   rename_i hle
   have LOK:=I (leaOk.ok hle);have he9:en < 100000:=nm LOK.se TOK.n;have hen:¬((en:Int) < 0):=by omega
   simp only[optI];go_wp2_with fail;refine cm0 (tleave_any w2 B t S1 T1 en HT TOK LOK) fun w3 G=>?_
   replace HT:=I (HT.gr G);replace HEV:=I (hEg.out _ _ _ HEV G);replace HG:=I (HG.trans G)

   obtain⟨o,ho⟩:∃o,leaT T1 en=o:=⟨_,rfl⟩;rw[ho] at ok1 ⊢;clear ho;rcases o with _ | r
   ·cases ok1
   dsimp only at ok1
   split at ok1
   case isFalse=>cases ok1
   rename_i hpk
   have PK:=I (pivOk.ok hpk);have OK:=I ok1;have hr9:r < 100000:=nm PK.sr PK.sm;have hrn:¬((r:Int) < 0):=by omega
   simp only[optI];clear ok1 hpk;go_wp2_with fail;refine (tpivot_any w3 B t S1 T1 r en HT PK).mono ?_;rintro e w9 ⟨rfl,⟨S2,hT,hK⟩,F9⟩;have HEV2:=I (hEp.out _ _ _ S2 _ HT HEV F9 hK);have HKP2:Hid (Kept S S2 t (nsz w)):=I (HKP.trans hK HG.size);have HG2:=I (HG.in F9 (fun k hk=>HKP.1 k hk));have HT2:=I hT;have HPV:=I (TabIs.pv hT);clear hT hK F9 HT HEV HG;have HP0:Hid (pvW wr t=T1.piv):=HPV0;go_wp2;go_roundw
   ·exact⟨k,S2,pivT T1 r en,OK,HKP2,I (by have:=HPN.out;show T1.piv+1+k=_;omega),HT2,HEV2,HG2⟩
   ·rw[HPV.out,HP0.out];show T.piv+N - (T1.piv+1) < _;have:=HPN.out;omega
theorem tminO_any (w:World) (B t N tb:Nat) (S:Ts) (T Tz:Tb) (line:Tb→List Q) (Ev:World→Ts→Prop) (h:TabIs w B t S T) (hE:Ev w S) (hEg:∀w1 w2 S1,Ev w1 S1→Gr w1 w2→Ev w2 S1) (hEp:∀w1 w2 S1 S2 T1,TabIs w1 B t S1 T1→Ev w1 S1→Fr (S1.X t) w1 w2→Kept S1 S2 t w1.heap.size→Ev w2 S2) (hc:∀w1 S1 T1,TabIs w1 B t S1 T1→Ev w1 S1→TabOk T1→(line T1).length=T1.nonb.length+1→Calls Tryz.prog 305 #[.pointer (some ⟨tb,0,none⟩)] w1 fun e w2=>∃y:Sv,e=.returned y.v∧Rats w2 y (line T1)∧Gr w1 w2) (ok:minT line N T=some Tz):
  Calls Tryz.prog 304 #[.pointer (some ⟨t,0,none⟩),.func (.func 305) #[] #[.pointer (some ⟨tb,0,none⟩)]] w fun e w'=>e=.returned (.tuple #[.int .i64 (-1),.bool true])∧(∃S',TabIs w' B t S' Tz∧Kept S S' t (nsz w)∧Ev w' S')∧Fr (S.X t) w w':=by
 have HG:=I (Gr.refl w);have HT:=I h;have HEV:=I hE;change Hid _ at hEg hEp hc;have OK:=I ok;clear h hE ok;go_enter Tryz.func304,Tryz.ntmps304;go_wp2_with fail;have HKP:Hid (Kept S S t (nsz w)):=I (Kept.refl _ _ _);replace HG:=I (Gx.of (X:=S.X t) HG);refine wp_scope_straight (wp_seq (wp_label ?_));simp only[Exit.then];go_wp2_with fail;go_loopw [] (fun   wr=>∃(k:Nat) (S1:Ts) (T1:Tb),Hid (minT line k T1=some Tz)∧Hid (Kept S S1 t (nsz w))∧Hid (T1.piv+k=T.piv+N)∧Hid (TabIs wr B t S1 T1)∧Hid (Ev wr S1)∧Hid (Gx (S.X t) w wr)) (fun wv=>T.piv+N - pvW wv t)
 case atStart=>exact⟨N,S,T,OK,HKP,I rfl,HT,HEV,HG⟩
 case round=>
  clear HT HEV HG;obtain⟨k,S1,T1,OK,HKP,HPN,HT,HEV,HG⟩:=hrel;have HPV0:=I (TabIs.pv HT);obtain⟨k,rfl⟩:∃k',k=k'+1:=by
   rcases k with _ | k
   ·have:=OK.out;rw[minT] at this;cases this
   ·exact⟨k,rfl⟩
  have ok1:=OK.out;rw[minT] at ok1;split at ok1
  case isFalse=>cases ok1
  rename_i hok9
  simp only[be,de] at hok9;obtain⟨⟨⟨hok1,hok2⟩,hok3⟩,hok4⟩:=hok9;have TOK:=I (tabOk.ok hok1);have HSL:=I hok3;have HLL:=I hok4;have hpi:((T1.piv:Int)≤65536):=by omega
  have d_pi:decide ((T1.piv:Int)≤65536)=true:=dt hpi;have d_pn:decide (T1.piv≤65536)=true:=dt hok2;have OK1:=I ok1;clear ok1 hok1 hok3 hok4 OK;obtain⟨t_0,t_1,t_2,t_3,t_4,t_5,t_6⟩:=HT.cell.c7;go_wp2_with fail;refine cm1 (hc.out wr S1 T1 HT HEV TOK HLL) fun y w1 HY G=>?_
  replace HT:=I (HT.gr G);replace HEV:=I (hEg.out _ _ _ HEV G);replace HG:=I (HG.trans G);clear t_0 t_1 t_2 t_3 t_4 t_5 t_6;have ok1:=OK1.out;simp only[Sv.v];go_wp2_with fail;refine cm0 (tenter_any w1 B t S1 T1 y (line T1) HT HY HLL HSL TOK.n) fun w2 G=>?_
  replace HT:=I (HT.gr G);replace HEV:=I (hEg.out _ _ _ HEV G);replace HG:=I (HG.trans G)

  clear HY;obtain⟨o,ho⟩:∃o,entT T1 (line T1)=o:=⟨_,rfl⟩;rw[ho] at ok1 ⊢;clear ho;rcases o with _ | en
  ·injection ok1 with ok1;subst ok1;simp only[optI];go_upto_region 8 with fail;obtain⟨t_0,t_1,t_2,t_3,t_4,t_5,t_6⟩:=HT.cell.c7;refine wpr ?_;have kc:=I fun W' (G:Gr w2.drew W')=>ai (G.keep t_0) (G.keep t_6)
   refine wg 0 (tf 7 0) [0,1,2,3,4,5,6] [] ?_;iterate 7 refine .tk ?_
   refine .done fun W1 G1 F1=>?_
   clear F1;refine wpe ?_;have GB:=G1.od;replace HT:=I (HT.gr GB);replace HEV:=I (hEg.out _ _ _ HEV GB);replace HG:=I (HG.trans GB);clear GB G1 kc t_0 t_6;go_wp2;(try simp only[Exit.inBlock,Exit.then,Exit.noGoto])
   refine bret Tryz.results304 ?_;exact⟨rfl,⟨S1,HT.out,HKP.out,HEV.out⟩,HG.fr⟩
  ·dsimp only at ok1
   split at ok1
   case isFalse=>cases ok1
   rename_i hle
   have LOK:=I (leaOk.ok hle);have he9:en < 100000:=nm LOK.se TOK.n;have hen:¬((en:Int) < 0):=by omega
   simp only[optI];go_wp2_with fail;refine cm0 (tleave_any w2 B t S1 T1 en HT TOK LOK) fun w3 G=>?_
   replace HT:=I (HT.gr G);replace HEV:=I (hEg.out _ _ _ HEV G);replace HG:=I (HG.trans G)

   obtain⟨o,ho⟩:∃o,leaT T1 en=o:=⟨_,rfl⟩;rw[ho] at ok1 ⊢;clear ho;rcases o with _ | r
   ·cases ok1
   dsimp only at ok1
   split at ok1
   case isFalse=>cases ok1
   rename_i hpk
   have PK:=I (pivOk.ok hpk);have OK:=I ok1;have hr9:r < 100000:=nm PK.sr PK.sm;have hrn:¬((r:Int) < 0):=by omega
   simp only[optI];clear ok1 hpk;go_wp2_with fail;refine (tpivot_any w3 B t S1 T1 r en HT PK).mono ?_;rintro e w9 ⟨rfl,⟨S2,hT,hK⟩,F9⟩;have HEV2:=I (hEp.out _ _ _ S2 _ HT HEV F9 hK);have HKP2:Hid (Kept S S2 t (nsz w)):=I (HKP.trans hK HG.size);have HG2:=I (HG.in F9 (fun k hk=>HKP.1 k hk));have HT2:=I hT;have HPV:=I (TabIs.pv hT);clear hT hK F9 HT HEV HG;have HP0:Hid (pvW wr t=T1.piv):=HPV0;go_wp2;go_roundw
   ·exact⟨k,S2,pivT T1 r en,OK,HKP2,I (by have:=HPN.out;show T1.piv+1+k=_;omega),HT2,HEV2,HG2⟩
   ·rw[HPV.out,HP0.out];show T.piv+N - (T1.piv+1) < _;have:=HPN.out;omega
end
section
variable {α β:Type} {cs:β→List Value} {Is:World→β→α→Prop} {e k:Nat} {w:World} {B:Nat} {x:Sv} {xs:List α}
theorem Own.app3 {P:Program} {t bytes:Nat} (h:ElemS P t e k bytes) {o:Oper} {a:Act} {K:Act→World→Prop} {Q:Exit→Act→World→Prop} (s xo:Operand) (ho:o.op=.call { callee:=.builtin .append,args:=#[s,xo],argTypes:=#[t,t] }) (hs:a.eval s=x.v) (hz:Own cs Is e k w B x xs) (ad:Addr) (c:Nat) (b:β) (u:α)
  (hx:a.eval xo=.slice (some ad) 1 c) (hb:Is w b u) (hlen:(cs b).length=k) (hcell:∀j v,(cs b)[j]?=some v→w.cell? (ad.add j)=some v) (h1:∀v∈cs b,v.oneCell'=true) (h63:x.n+1≤maxLen) (hbytes:(x.n+1)*bytes≤140737488355328) (hB:B≤w.heap.size) (hI:∀w',Fr (fun b=>x.on b) w w'→∀p a,Is w p a→Is w' p a)
  (hK:∀(y:Sv) (w':World),y.n=x.n+1→Own cs Is e k w' B y (xs++[u])→Fr (fun b=>x.on b) w w'→(∀k,y.on k→x.on k∨w.heap.size≤k)→K (a.put o.dst y.v) w'):o.wp P a w K Q:=by
 obtain⟨i,z,hi,hzz,hsz,hby,hzs⟩:=h.hi;have hz':=hz;obtain⟨ts,t1,t2,t3⟩:=hz';obtain⟨v',w',hrun,h2,h3,_,h5⟩:=run_append_own_at (P:=P) w B t o.type e i z k bytes h.ht hi hzz hsz hby hzs h.pos _ x.n _ t1 ad 1 c (cs b) (by rw[hlen,Nat.one_mul]) hcell h1 h63 hbytes hB;have F:=fr_own0 h3;obtain⟨y,rfl,hyn,hy⟩:=hz.push ts t2 t3 hb h2 (hI w' F);unfold Oper.wp execOp;simp only[ho,resolve,invoke,builtin,Sem.run_bind,Sem.run_pure,Result.andThen_ok,List.map_toArray,List.map_cons,List.map_nil,hs,hx,hrun];refine hK y w' hyn hy F fun k hk=>?_
 have hk':y.v.ownBlock=some k:=hk;rcases h5 with h5 | h5
 ·rw[h5] at hk';exact .inl hk'
 ·rw[h5] at hk';injection hk' with hk';exact .inr (by omega)
theorem wpList_app3 {P:Program} {t bytes:Nat} {ops:Array Oper} {rest:List Oper} (h:ElemS P t e k bytes) {o:Oper} {a:Act} {Q:Exit→Act→World→Prop} (hgd:o.guard=none) (s xo:Operand) (ho:o.op=.call { callee:=.builtin .append,args:=#[s,xo],argTypes:=#[t,t] }) (hs:a.eval s=x.v) (hz:Own cs Is e k w B x xs) (ad:Addr) (c:Nat) (b:β) (u:α)
  (hx:a.eval xo=.slice (some ad) 1 c) (hb:Is w b u) (hlen:(cs b).length=k) (hcell:∀j v,(cs b)[j]?=some v→w.cell? (ad.add j)=some v) (h1:∀v∈cs b,v.oneCell'=true) (h63:x.n+1≤maxLen) (hbytes:(x.n+1)*bytes≤140737488355328) (hB:B≤w.heap.size) (hI:∀w',Fr (fun b=>x.on b) w w'→∀p a,Is w p a→Is w' p a)
  (hK:∀(y:Sv) (w':World),y.n=x.n+1→Own cs Is e k w' B y (xs++[u])→Fr (fun b=>x.on b) w w'→(∀k,y.on k→x.on k∨w.heap.size≤k)→wpList P ops Q rest (a.put o.dst y.v) w'):wpList P ops Q (o::rest) a w:=
 wpList_plain hgd fun K hK'=>Own.app3 h s xo ho hs hz ad c b u hx hb hlen hcell h1 h63 hbytes hB hI fun y w' h1 h2 h3 h4=>hK' _ _ (hK y w' h1 h2 h3 h4)
end
theorem OwnN.st {w w':World} {B p ty:Nat} {x:Sv} {l:List Nat} {us:Array Value} (h:OwnN w B x l) (F:Fr (fun b=>b=p) w w') (hb:Bk w p ty us) (hu:ty≠3:=by decide):OwnN w' B x l:=
 Own.go h (fun _ _ e=>e) fun b hb'=>F.keep b (h.lt b hb').2 fun e=>h.ne hb hu (e▸hb')
theorem OwnS.st {w w':World} {B p ty:Nat} {x:Sv} {l:List Sv} {us:Array Value} (h:OwnS w B x l) (F:Fr (fun b=>b=p) w w') (hb:Bk w p ty us) (hu:ty≠31:=by decide):OwnS w' B x l:=
 Own.go h (fun _ _ e=>e) fun b hb'=>F.keep b (h.lt b hb').2 fun e=>h.ne hb hu (e▸hb')
section
variable {w w' w'':World} {B t:Nat} {S:Ts} {T:Tb}
theorem TabIs.newN (h:TabIs w B t S T) {y:Sv} {l':List Nat} (F:Fr (fun b=>S.sn.on b) w w') (hy:∀k,y.on k→S.sn.on k∨w.heap.size≤k) (F2:Fr (fun b=>b=t) w' w'') (ho:OwnN w'' B y l') (hc:Bk w'' t 420 ({ T with nonb:=l' }.cells { S with sn:=y })):TabIs w'' B t { S with sn:=y } { T with nonb:=l' }:=by
 have hI:=h.rv (Fr.trans (F.wide fun b _ hb=>(.inr (.inr (.inl hb)):S.X t b)) (F2.wide fun b _ hb=>(.inl hb:S.X t b)));have hk:∀k,k < w.heap.size→¬S.sn.on k→¬k=t→w''.heap[k]?=w.heap[k]?:=fun k h1 h2 h3=>(F2.keep k (nk h1 F.size) h3).trans (F.keep k h1 h2)
 have hn:∀{ty:Nat} {cs:Array Value} {k:Nat},Bk w k ty cs→ty≠420→¬k=t:=fun hk ht e=>Bk.ne hk h.cell ht e
 refine⟨h.base,hc,Own.go h.b (fun _ _ e=>e) fun b hb=>hk b (h.b.lt b hb).2 (h.bn b hb) ?_,ho,Own.go h.f (fun _ _ e=>e) fun b hb=>hk b (h.f.lt b hb).2 (h.f.far h.n (by decide) hb) ?_,
  Own.go h.o hI fun b hb=>hk b (h.o.lt b hb).2 (h.o.far h.n (by decide) hb) ?_,h.len,fun j sj lj h1 h2=>?_,fun k hb hk'=>?_,h.apart,h.fo⟩
 ·obtain⟨c,hc⟩:=h.b.bk hb;exact hn hc (by decide)
 ·obtain⟨c,hc⟩:=h.f.bk hb;exact hn hc (by decide)
 ·obtain⟨c,hc⟩:=h.o.bk hb;exact hn hc (by decide)
 ·have hj:=h.row j sj lj h1 h2;exact Own.go hj hI fun b hb=>hk b (hj.lt b hb).2 (hj.far h.n (by decide) hb) (by obtain⟨c,hc⟩:=hj.bk hb;exact hn hc (by decide))
 ·rcases hy k hk' with h1 | h1
  ·exact h.bn k hb h1
  ·have:=(h.b.lt k hb).2;omega
theorem TabIs.newB (h:TabIs w B t S T) {y:Sv} {l':List Nat} (F:Fr (fun b=>S.sb.on b) w w') (hy:∀k,y.on k→S.sb.on k∨w.heap.size≤k) (F2:Fr (fun b=>b=t) w' w'') (ho:OwnN w'' B y l') (hc:Bk w'' t 420 ({ T with basic:=l' }.cells { S with sb:=y })):TabIs w'' B t { S with sb:=y } { T with basic:=l' }:=by
 have hI:=h.rv (Fr.trans (F.wide fun b _ hb=>(.inr (.inl hb):S.X t b)) (F2.wide fun b _ hb=>(.inl hb:S.X t b)));have hk:∀k,k < w.heap.size→¬S.sb.on k→¬k=t→w''.heap[k]?=w.heap[k]?:=fun k h1 h2 h3=>(F2.keep k (nk h1 F.size) h3).trans (F.keep k h1 h2)
 have hn:∀{ty:Nat} {cs:Array Value} {k:Nat},Bk w k ty cs→ty≠420→¬k=t:=fun hk ht e=>Bk.ne hk h.cell ht e
 refine⟨h.base,hc,ho,Own.go h.n (fun _ _ e=>e) fun b hb=>hk b (h.n.lt b hb).2 (fun e=>h.bn b e hb) ?_,Own.go h.f (fun _ _ e=>e) fun b hb=>hk b (h.f.lt b hb).2 (h.f.far h.b (by decide) hb) ?_,
  Own.go h.o hI fun b hb=>hk b (h.o.lt b hb).2 (h.o.far h.b (by decide) hb) ?_,h.len,fun j sj lj h1 h2=>?_,fun k hb hk'=>?_,h.apart,h.fo⟩
 ·obtain⟨c,hc⟩:=h.n.bk hb;exact hn hc (by decide)
 ·obtain⟨c,hc⟩:=h.f.bk hb;exact hn hc (by decide)
 ·obtain⟨c,hc⟩:=h.o.bk hb;exact hn hc (by decide)
 ·have hj:=h.row j sj lj h1 h2;exact Own.go hj hI fun b hb=>hk b (hj.lt b hb).2 (hj.far h.b (by decide) hb) (by obtain⟨c,hc⟩:=hj.bk hb;exact hn hc (by decide))
 ·rcases hy k hb with h1 | h1
  ·exact h.bn k h1 hk'
  ·have:=(h.n.lt k hk').2;omega
theorem TabIs.newO (h:TabIs w B t S T) {y:Sv} {l':List Q} (F:Fr (fun b=>S.so.on b) w w') (hy:∀k,y.on k→S.so.on k∨¬S.X t k) (F2:Fr (fun b=>b=t) w' w'') (ho:OwnR w'' B y l') (hc:Bk w'' t 420 ({ T with obj:=l' }.cells { S with so:=y })):TabIs w'' B t { S with so:=y } { T with obj:=l' }:=by
 have hI:=h.rv (Fr.trans (F.wide fun b _ hb=>(.inr (.inr (.inr (.inr (.inl hb)))):S.X t b)) (F2.wide fun b _ hb=>(.inl hb:S.X t b)));have hk:∀k,k < w.heap.size→¬S.so.on k→¬k=t→w''.heap[k]?=w.heap[k]?:=fun k h1 h2 h3=>(F2.keep k (nk h1 F.size) h3).trans (F.keep k h1 h2)
 have hn:∀{ty:Nat} {cs:Array Value} {k:Nat},Bk w k ty cs→ty≠420→¬k=t:=fun hk ht e=>Bk.ne hk h.cell ht e
 refine⟨h.base,hc,Own.go h.b (fun _ _ e=>e) fun b hb=>hk b (h.b.lt b hb).2 (h.b.far h.o (by decide) hb) ?_,Own.go h.n (fun _ _ e=>e) fun b hb=>hk b (h.n.lt b hb).2 (h.n.far h.o (by decide) hb) ?_,Own.go h.f (fun _ _ e=>e) fun b hb=>hk b (h.f.lt b hb).2 (h.f.far h.o (by decide) hb) ?_,
  ho,h.len,fun j sj lj h1 h2=>?_,h.bn,h.apart,fun s k hs hk' hy'=>?_⟩
 ·obtain⟨c,hc⟩:=h.b.bk hb;exact hn hc (by decide)
 ·obtain⟨c,hc⟩:=h.n.bk hb;exact hn hc (by decide)
 ·obtain⟨c,hc⟩:=h.f.bk hb;exact hn hc (by decide)
 ·have hj:=h.row j sj lj h1 h2;exact Own.go hj hI fun b hb=>hk b (hj.lt b hb).2 (h.fo sj b (mg h1) hb) (by obtain⟨c,hc⟩:=hj.bk hb;exact hn hc (by decide))
 ·rcases hy k hy' with h1 | h1
  ·exact h.fo s k hs hk' h1
  ·exact h1 (TabIs.inX (S:=S) hs hk')
theorem TabIs.newF (h:TabIs w B t S T) {y s:Sv} {l:List Q} (F:Fr (fun b=>S.sf.on b) w w') (hy:∀k,y.on k→S.sf.on k∨w.heap.size≤k) (F2:Fr (fun b=>b=t) w' w'') (ho:OwnS w'' B y (S.fs++[s])) (hr:OwnR w'' B s l) (hx:∀k,s.on k→¬S.X t k) (hc:Bk w'' t 420 (T.cells { S with sf:=y })):TabIs w'' B t { S with sf:=y,fs:=S.fs++[s] } { T with forms:=T.forms++[l] }:=by
 have hI:=h.rv (Fr.trans (F.wide fun b _ hb=>(.inr (.inr (.inr (.inl hb))):S.X t b)) (F2.wide fun b _ hb=>(.inl hb:S.X t b)));have hk:∀k,k < w.heap.size→¬S.sf.on k→¬k=t→w''.heap[k]?=w.heap[k]?:=fun k h1 h2 h3=>(F2.keep k (nk h1 F.size) h3).trans (F.keep k h1 h2)
 have hn:∀{ty:Nat} {cs:Array Value} {k:Nat},Bk w k ty cs→ty≠420→¬k=t:=fun hk ht e=>Bk.ne hk h.cell ht e
 have hlen:=h.len;have hat:∀{i:Nat} {si:Sv},(S.fs++[s])[i]?=some si→(S.fs[i]?=some si∧i < S.fs.length)∨(i=S.fs.length∧si=s):=fun {i si} hi=>by
  rcases Nat.lt_or_ge i S.fs.length with h1 | h1
  ·rw[List.getElem?_append_left h1] at hi;exact .inl ⟨hi,h1⟩
  ·rw[List.getElem?_append_right h1] at hi;have h2:=(gs hi).1;simp only[List.length_cons,List.length_nil,Nat.zero_add] at h2;have h3:i=S.fs.length:=by omega
   subst h3;rw[Nat.sub_self] at hi;injection hi with hi;exact .inr ⟨rfl,hi.symm⟩
 refine⟨h.base,hc,Own.go h.b (fun _ _ e=>e) fun b hb=>hk b (h.b.lt b hb).2 (h.b.far h.f (by decide) hb) ?_,Own.go h.n (fun _ _ e=>e) fun b hb=>hk b (h.n.lt b hb).2 (h.n.far h.f (by decide) hb) ?_,ho,
  Own.go h.o hI fun b hb=>hk b (h.o.lt b hb).2 (h.o.far h.f (by decide) hb) ?_,by simp only[List.length_append,List.length_cons,List.length_nil];omega,fun j sj lj h1 h2=>?_,h.bn,fun i j si sj k hi hj ki kj=>?_,fun sk k hsk hk'=>?_⟩
 ·obtain⟨c,hc⟩:=h.b.bk hb;exact hn hc (by decide)
 ·obtain⟨c,hc⟩:=h.n.bk hb;exact hn hc (by decide)
 ·obtain⟨c,hc⟩:=h.o.bk hb;exact hn hc (by decide)
 ·rcases hat h1 with ⟨h3,h4⟩ | ⟨rfl,rfl⟩
  ·rw[List.getElem?_append_left (by omega)] at h2;have hj:=h.row j sj lj h3 h2;exact Own.go hj hI fun b hb=>hk b (hj.lt b hb).2 (hj.far h.f (by decide) hb) (by obtain⟨c,hc⟩:=hj.bk hb;exact hn hc (by decide))
  ·rw[List.getElem?_append_right (by omega),hlen,Nat.sub_self] at h2;injection h2 with h2;exact h2▸hr
 ·rcases hat hi with ⟨h3,h4⟩ | ⟨rfl,rfl⟩
  ·rcases hat hj with ⟨h5,h6⟩ | ⟨rfl,rfl⟩
   ·exact h.apart i j si sj k h3 h5 ki kj
   ·exact absurd (TabIs.inX (mg h3) ki) (hx k kj)
  ·rcases hat hj with ⟨h5,h6⟩ | ⟨rfl,rfl⟩
   ·exact absurd (TabIs.inX (mg h5) kj) (hx k ki)
   ·rfl
 ·rcases List.mem_append.1 hsk with hm | hm
  ·exact h.fo sk k hm hk'
  ·rw[mj hm] at hk';exact fun e=>hx k hk' (.inr (.inr (.inr (.inr (.inl e)))))
end
section
attribute [local go_sem] Oper.semAt_some
theorem elemSv:ElemS Tryz.prog 418 31 1 24:=elem_of (z:=.slice none 0 0) (by kernel_rfl) (by kernel_rfl) rfl (by decide)
theorem scs_one (s:Sv):∀u∈scs s,u.oneCell'=true:=fun u hu=>by rw[mj hu];rfl
def stT (V:Nat) (F:List Fm) (n i:Nat):Tb:=⟨V,F.length,(List.range i).map (V+·),List.range n,(F.take i).map (lineT V),[],0⟩
def setT (V:Nat) (F:List Fm) (x:Fm):Tb:={ stT V F V F.length with obj:=lineT V x }
def S00:Ts:=⟨Sv.none,Sv.none,Sv.none,Sv.none,[]⟩
def TmOk (V:Nat) (x:Fm):Prop:=∀s∈x.terms,0≤s.1∧s.1.toNat < V
theorem tsetup_any (w:World) (V:Nat) (z:Sv) (fs:List Fm) (o:Fv) (x:Fm) (hz:Forms w z fs) (ho:o.Is w x) (hV:V < 1000) (hF:fs.length < 1000) (hv:∀f∈fs,TmOk V f) (hvo:TmOk V x):
  Calls Tryz.prog 298 #[.agg #[iv V,.slice z.A z.n z.c,.slice o.terms.A o.terms.n o.terms.c,.bool o.const.neg,.slice o.const.num.A o.const.num.n o.const.num.c,.slice o.const.den.A o.const.den.n o.const.den.c]] w fun e w'=>∃t S,e=.returned (.pointer (some ⟨t,0,none⟩))∧TabIs w' (nsz w) t S (setT V fs x)∧Tight S∧Gr w w':=by
 obtain⟨zA,zn,zc⟩:=z;have hzn:fs.length=zn:=hz.len;have HZ:=I hz;change Hid _ at ho hv;have HZN:=I hzn;have HVO:=I hvo;clear hz hzn hvo;go_enter Tryz.func298,Tryz.ntmps298;go_upto_region 1 with fail;refine nw1h fun W HG D_p=>?_
 obtain⟨p_0,p_1,p_2,p_3,p_4,p_5⟩:=D_p.c6;have N_t:=HG.hs;have X_p_t:=D_p.nn;go_upto_region 2 with fail;clear p_0 p_1 p_2 p_3 p_4 p_5;refine nw1 fun w1 GB D_t=>?_
 replace D_p:=GB.hb D_p;replace HG:=HG.tr GB;clear GB;generalize W.heap.size=t at*;have hzn9:zn < 1000:=by rw[← HZN.out];exact hF
 have HT:Hid (TabIs w1 (nsz w) t S00 (stT V fs 0 0)):=I ⟨N_t.out,by have h9:=D_t.out;rw[← HZN.out] at h9;exact h9,Own.nil _ _,Own.nil _ _,Own.nil _ _,Own.nil _ _,rfl,fun i s l h=>(by cases h),fun k h=>(by cases h),fun i j si sj k h=>(by cases h),fun s k h=>(by cases h)⟩;clear D_t;obtain⟨p_0,p_1,p_2,p_3,p_4,p_5⟩:=D_p.c6;go_wp2_with fail;go_loopw [16] (fun s0 wr=>∃(j:Nat) (S1:Ts),s0=.int .i64 j∧j≤V∧Hid (Tight S1)∧Hid (TabIs wr (nsz w) t S1 (stT V fs j 0))∧Hid (Gr w wr)∧Hid (Bk wr w.heap.size 348 #[iv V,.slice zA zn zc,o.terms.v,.bool o.const.neg,o.const.num.v,o.const.den.v])) (fun j _=>V - (intOf j).toNat)
 case atStart=>exact⟨0,S00,rfl,nq _,I ⟨rfl,fun s h=>(by cases h)⟩,HT,HG,D_p⟩
 case round=>
  clear HT HG D_p p_0 p_1 p_2 p_3 p_4 p_5;obtain⟨j,S1,rfl,hr1,HTI,HT,HG,D_p⟩:=hrel;by_cases hin:j < V
  ·have hj9:j < 1000:=nm hin hV;obtain⟨t_0,t_1,t_2,t_3,t_4,t_5,t_6⟩:=HT.cell.c7;obtain⟨B1,GB⟩:=made1 wr 3 #[iv j];obtain⟨HT,D_p,HG⟩:=GB.u3 HT D_p HG;have BC:=I (bk_cells B1);have HNL:Hid (S1.sn.n=j):=I (by have h9:=Own.len HT.n (fun _=>rfl) (by decide);rw[← h9];exact List.length_range);have HSZ:Hid (nsz w≤(wr.alloc (.cells #[iv j] 3)).heap.size):=I HG.size;clear GB B1;go_upto_region 6 with (refine wpList_app3 elemI rfl _ _ (by rfl) (by rfl) HT.n ⟨wr.heap.size,0,none⟩ 1 j j (by rfl) rfl rfl BC.out (ncs_one j) (by unfold maxLen;have:=HNL.out;omega) (by have:=HNL.out;omega) HSZ.out (fun _ _ _ _ e=>e) ?_;intro y w5 hyn hO hF hY;have D5:=I (hF.bk HT.cell (fun e=>HT.n.ne HT.cell (by decide) e));have HO5:=I hO;have HF5:=I hF;have HY5:=I hY;clear hyn hO hF hY;have fz9:=D5.frozen;have o9:=D5.c7.2.2.2.1)
   clear fz9 o9 BC HNL HSZ t_0 t_1 t_2 t_3 t_4 t_5 t_6;have F2:Fr (fun b=>b=t) w5 (w5.setCell ⟨t,3,none⟩ (.slice y.A y.n y.c)):=Fr.set w5 ⟨t,3,none⟩ _ rfl;have B5:=D5.put 3 (.slice y.A y.n y.c);have HE9:stT V fs (j+1) 0={ stT V fs j 0 with nonb:=List.range j++[j] }:=by unfold stT;rw[List.range_succ]
   replace HG:=I ((HG.step HF5 (fun b _ e=>(HT.n.lt b e).1)).fr_at F2 N_t);replace D_p:=I (F2.bk (HF5.bk D_p (fun e=>HT.n.ne D_p (by decide) e)) X_p_t);replace HT:Hid (TabIs _ (nsz w) t { S1 with sn:=y } (stT V fs (j+1) 0)):=I (by rw[HE9];exact TabIs.newN HT HF5 HY5 F2 (OwnN.st HO5 F2 D5) (by simpa using B5));clear F2 B5 HE9 D5 HO5 HF5 HY5;generalize w5.setCell ⟨t,3,none⟩ (.slice y.A y.n y.c)=w6 at*;go_wp2;go_roundw
   ·exact⟨j+1,{ S1 with sn:=y },by go_num,by omega,HTI,HT,HG,D_p⟩
   ·simp[intOf];omega
  ·obtain rfl:V=j:=by omega
   obtain⟨p_0,p_1,p_2,p_3,p_4,p_5⟩:=D_p.c6;go_wp2_with fail;go_loopw [33] (fun s0 wr=>∃(i:Nat) (S2:Ts),s0=.int .i64 i∧i≤zn∧Hid (Tight S2)∧Hid (TabIs wr (nsz w) t S2 (stT V fs V i))∧Hid (Gr w wr)∧Hid (Bk wr w.heap.size 348 #[iv V,.slice zA zn zc,o.terms.v,.bool o.const.neg,o.const.num.v,o.const.den.v])) (fun i _=>zn - (intOf i).toNat)
   case atStart=>exact⟨0,S1,rfl,nq _,HTI,HT,HG,D_p⟩
   case round=>
    clear HT HG D_p p_0 p_1 p_2 p_3 p_4 p_5;obtain⟨i,S2,rfl,hr1,HTI,HT,HG,D_p⟩:=hrel;by_cases hin:i < zn
    ·have hi9:i < 1000:=nm hin hzn9;obtain⟨x1,hx1⟩:∃x1,fs[i]?=some x1:=⟨_,ge (by rw[HZN.out];exact hin)⟩;obtain⟨f,ad,hf,hA,d0,d1,d2,d3⟩:=(HZ.gr HG).at hx1;simp only at hA;subst hA;have HXI:=I hx1;have HVI:=I (hv.out x1 (mg hx1));have HFI:=I hf;clear hf hx1;go_upto_region 10 with fail;clear d0 d1 d2 d3;refine nw1 fun w2 GB D_r=>?_
     obtain⟨HT,HFI,D_p,HG⟩:=GB.u4 HT HFI D_p HG;clear GB;generalize wr.heap.size=r at*;obtain⟨p_0,p_1,p_2,p_3,p_4,p_5⟩:=D_p.c6;obtain⟨t_0,t_1,t_2,t_3,t_4,t_5,t_6⟩:=HT.cell.c7;have GD:=(Gr.refl w2).drew;have hS0:(fun W=>W.cell? ⟨t,2,none⟩=some (.slice S2.sb.A S2.sb.n S2.sb.c)∧W.cell? ⟨w.heap.size,0,none⟩=some (iv V)) w2.drew:=⟨GD.keep t_2,GD.keep p_0⟩;obtain⟨HT,HFI,D_p,D_r,HG⟩:=GD.u5 HT HFI D_p D_r HG;clear GD p_0 p_1 p_2 p_3 p_4 p_5 t_0 t_1 t_2 t_3 t_4 t_5 t_6;refine wp_region_T [4,6] (fun _=>True) (fun W=>W.cell? ⟨t,2,none⟩=some (.slice S2.sb.A S2.sb.n S2.sb.c)∧W.cell? ⟨w.heap.size,0,none⟩=some (iv V)) (by kernel_rfl) ?_;show anyT [4,6] _ _ _ _ _ 14 _ _ _;generalize w2.drew=v0 at*;refine anyT.tk 0 trivial ?_;refine anyT.tk 1 trivial ?_;refine anyT.tk 2 trivial ?_;refine anyT.tk 3 trivial ?_;refine anyT.tt 4 ⟨trivial,hS0⟩ ?_;refine anyT.tk 5 trivial ?_;refine anyT.tt 6 ⟨trivial,hS0⟩ ?_;refine anyT.tk 7 trivial ?_;refine anyT.tk 8 trivial ?_;have HNL:Hid (S2.sb.n=i):=I (by have h9:=Own.len HT.b (fun _=>rfl) (by decide);rw[← h9];show ((List.range i).map _).length=i;rw[List.length_map,List.length_range]);have hw1:IntKind.i64.wrap ((V:Int)+(i:Int))=(V:Int)+(i:Int):=wi _ (by omega);obtain⟨B1,GB⟩:=made1 v0 3 #[.int .i64 ((V:Int)+(i:Int))];obtain⟨HT,HFI,D_p,D_r,HG⟩:=GB.u5 HT HFI D_p D_r HG;have BC:=I (bk_cells B1);clear GB B1;refine anyT.k 9 fun K hK=>?_
     go_simp;refine hK.out _ _ ⟨⟨trivial,fun _=>Or.inl (⟨HT.cell.cell 2,D_p.cell 0⟩)⟩,?_⟩;clear hK K;refine ptt ?_;generalize v0.alloc (.cells #[.int .i64 ((V:Int)+(i:Int))] 3)=w3 at*;generalize v0.heap.size=nb at*;have BC2:Hid (∀j v,(ncs (V+i))[j]?=some v→w3.cell? ((⟨nb,0,none⟩:Addr).add j)=some v):=I (by have e9:ncs (V+i)=[.int .i64 ((V:Int)+(i:Int))]:=(by simp[ncs,iv]);rw[e9];exact BC.out);clear BC;have BC:=BC2;clear BC2;have HSZ:Hid (nsz w≤w3.heap.size):=I HG.size;refine anyT.k 10 fun K hK=>?_
     refine Own.app3 elemI _ _ (by rfl) (by rfl) HT.b ⟨nb,0,none⟩ 1 (V+i) (V+i) (by rfl) rfl rfl BC.out (ncs_one _) (by unfold maxLen;have:=HNL.out;omega) (by have:=HNL.out;omega) HSZ.out (fun _ _ _ _ e=>e) (fun y w4 hyn hO hF hY=>?_);have D5:=I (hF.bk HT.cell (fun e=>HT.b.ne HT.cell (by decide) e));have HO5:=I hO;have HF5:=I hF;have HY5:=I hY;clear hyn hO hF hY BC HSZ;replace D_p:=I (HF5.bk D_p (fun e=>HT.b.ne D_p (by decide) e));replace D_r:=I (HF5.bk D_r (fun e=>HT.b.ne D_r (by decide) e));refine hK.out _ _ ⟨⟨trivial,fun _=>Or.inl (⟨D5.cell 2,D_p.cell 0⟩)⟩,?_⟩;clear hK K;refine ptt ?_;refine anyT.tk 11 trivial ?_;refine anyT.tk 12 trivial ?_;clear hS0;refine anyT.k 13 fun K hK=>?_
     have fz9:=D5.frozen;have o9:=D5.c7.2.2.1;go_simp;refine hK.out _ _ ⟨⟨trivial,fun _=>Or.inr (by kernel_rfl)⟩,?_⟩;clear hK K;refine ptt ?_;refine anyT.done (by kernel_rfl) ?_;have F2:Fr (fun b=>b=t) w4 (w4.setCell ⟨t,2,none⟩ (.slice y.A y.n y.c)):=Fr.set w4 ⟨t,2,none⟩ _ rfl;have B5:=D5.put 2 (.slice y.A y.n y.c);have HE9:stT V fs V i=stT V fs V i:=rfl;replace HG:=I ((HG.step HF5 (fun b _ e=>(HT.b.lt b e).1)).fr_at F2 N_t);replace D_p:=I (F2.bk D_p (fun e=>Bk.ne D_p D5 (by decide) e));replace D_r:=I (F2.bk D_r (fun e=>Bk.ne D_r D5 (by decide) e));have HTO:=HT;replace HT:Hid (TabIs _ (nsz w) t { S2 with sb:=y } { stT V fs V i with basic:=(List.range i).map (V+·)++[V+i] }):=I (TabIs.newB HT HF5 HY5 F2 (OwnN.st HO5 F2 D5) (by simpa using B5));replace HFI:=I (Fv.Is.tf' (HFI.tf HF5 (fun b cs fr hb hh=>by obtain⟨c,hc⟩:=HTO.b.bk hb;exact Bk.not_ty hc (by decide) _ _ hh) (fun b cs fr hb hh=>by obtain⟨c,hc⟩:=HTO.b.bk hb;exact Bk.not_ty hc (by decide) _ _ hh)) F2 D5);clear F2 B5 HE9 D5 HO5 HF5 HY5 HNL HTO;generalize w4.setCell ⟨t,2,none⟩ (.slice y.A y.n y.c)=w5 at*;obtain⟨S3,hS3⟩:∃S3,{ S2 with sb:=y }=S3:=⟨_,rfl⟩;have HT3:Hid (Tight S3):=I (by rw[← hS3];exact HTI.out);rw[hS3] at HT;clear hS3;obtain⟨r_0,r_1,r_2,r_3⟩:=D_r.c4;obtain⟨t_0,t_1,t_2,t_3,t_4,t_5,t_6⟩:=HT.cell.c7;go_upto_region 11 with fail;have GD:=(Gr.refl w5).drew;have hS0:(fun W=>W.cell? ⟨t,4,none⟩=some (.slice S3.sf.A S3.sf.n S3.sf.c)∧W.cell? ⟨r,0,none⟩=some (.slice f.terms.A f.terms.n f.terms.c)∧W.cell? ⟨r,1,none⟩=some (.bool f.const.neg)∧W.cell? ⟨r,2,none⟩=some (.slice f.const.num.A f.const.num.n f.const.num.c)∧W.cell? ⟨r,3,none⟩=some (.slice f.const.den.A f.const.den.n f.const.den.c)) w5.drew:=⟨GD.keep t_4,GD.keep r_0,GD.keep r_1,GD.keep r_2,GD.keep r_3⟩;obtain⟨HT,HFI,D_p,D_r,HG⟩:=GD.u5 HT HFI D_p D_r HG;clear GD r_0 r_1 r_2 r_3 t_0 t_1 t_2 t_3 t_4 t_5 t_6;refine wp_region_T [4,6] (fun _=>True) (fun W=>W.cell? ⟨t,4,none⟩=some (.slice S3.sf.A S3.sf.n S3.sf.c)∧W.cell? ⟨r,0,none⟩=some (.slice f.terms.A f.terms.n f.terms.c)∧W.cell? ⟨r,1,none⟩=some (.bool f.const.neg)∧W.cell? ⟨r,2,none⟩=some (.slice f.const.num.A f.const.num.n f.const.num.c)∧W.cell? ⟨r,3,none⟩=some (.slice f.const.den.A f.const.den.n f.const.den.c)) (by kernel_rfl) ?_;show anyT [4,6] _ _ _ _ _ 13 _ _ _;generalize w5.drew=v0 at*;refine anyT.tk 0 trivial ?_;refine anyT.tk 1 trivial ?_;refine anyT.tk 2 trivial ?_;refine anyT.tk 3 trivial ?_;refine anyT.tt 4 ⟨trivial,hS0⟩ ?_;refine anyT.tk 5 trivial ?_;refine anyT.tt 6 ⟨trivial,hS0⟩ ?_;have HN3:Hid (S3.sn.n=V):=I (by have h9:=Own.len HT.n (fun _=>rfl) (by decide);rw[← h9];exact List.length_range);have HX0:Hid (∀k,S3.X t k→k < nsz v0):=I (fun k hk=>(HT.lt hk).2);have HG0:Hid (nsz w≤nsz v0):=I HG.size;refine anyT.k 7 fun K hK=>?_
     refine doesAt_wp (K:=fun v W=>∃y:Sv,v=y.v∧OwnR W (nsz v0) y (lineT V x1)∧y.c=y.n∧Gr v0 W) (doesAt_enter (f:=354) (args:=#[.pointer (some ⟨t,0,none⟩),.agg #[.slice f.terms.A f.terms.n f.terms.c,.bool f.const.neg,.slice f.const.num.A f.const.num.n f.const.num.c,.slice f.const.den.A f.const.den.n f.const.den.c]]) (by go_simp;try (first | with_reducible rfl | rfl)) ((tline_any v0 t V S3.sn.c S3.sn.A _ _ _ _ _ _ f x1 (by have h9:=HT.cell;unfold Tb.cells at h9;rw[HN3.out] at h9;exact h9) HFI (fun s hs=>⟨(HVI.out s hs).1,Nat.le_of_lt (HVI.out s hs).2⟩) (by omega)).mono ?_)) ?_
     ·rintro e w' ⟨y,rfl,hO,hy9,G⟩;exact⟨_,rfl,y,rfl,hO,hy9,G⟩
     rintro v w6 ⟨l9,rfl,hO,hy9,G⟩;obtain⟨HT,HG,D_p,D_r⟩:=G.u4 HT HG D_p D_r;have HLW:Hid (∀k,S3.X t k→k < nsz v0):=HX0;have HL9:Hid (OwnR w6 (nsz w) l9 (lineT V x1)):=I (hO.low HG0);have HLX:Hid (∀k,l9.on k→¬S3.X t k):=I (fun k hk hx=>by have h1:=(hO.lt k hk).1;have h2:=HX0.out k hx;omega);have HY9:=I hy9;clear hO G hS0 HLW HX0 HG0 hy9;refine hK.out _ _ ⟨⟨trivial,fun _=>Or.inl (⟨HT.cell.cell 4,D_r.cell 0,D_r.cell 1,D_r.cell 2,D_r.cell 3⟩)⟩,?_⟩;clear hK K;refine ptt ?_;have HNL:Hid (S3.sf.n=i):=I (by have h9:=Own.len HT.f (fun _=>rfl) (by decide);have h8:=HT.len;rw[← h9,h8];show ((fs.take i).map _).length=i;rw[List.length_map,List.length_take,HZN.out];omega);simp only[Sv.v];obtain⟨B1,GB⟩:=made1 w6 31 #[.slice l9.A l9.n l9.c];replace HT:=I (HT.gr GB);replace HL9:=I (OwnR.up HL9 GB);obtain⟨D_p,D_r,HG⟩:=GB.u3 D_p D_r HG;have BC:=I (bk_cells B1);clear GB B1;refine anyT.k 8 fun K hK=>?_
     go_simp;refine hK.out _ _ ⟨⟨trivial,fun _=>Or.inl (⟨HT.cell.cell 4,D_r.cell 0,D_r.cell 1,D_r.cell 2,D_r.cell 3⟩)⟩,?_⟩;clear hK K;refine ptt ?_;generalize w6.alloc (.cells #[.slice l9.A l9.n l9.c] 31)=w7 at*;generalize w6.heap.size=nb at*;have HSZ:Hid (nsz w≤w7.heap.size):=I HG.size;refine anyT.k 9 fun K hK=>?_
     refine Own.app3 elemSv _ _ (by rfl) (by rfl) HT.f ⟨nb,0,none⟩ 1 l9 l9 (by rfl) rfl rfl BC.out (scs_one _) (by unfold maxLen;have:=HNL.out;omega) (by have:=HNL.out;omega) HSZ.out (fun _ _ _ _ e=>e) (fun y w8 hyn hO hF hY=>?_);have D5:=I (hF.bk HT.cell (fun e=>HT.f.ne HT.cell (by decide) e));have HO5:=I hO;have HF5:=I hF;have HY5:=I hY;clear hyn hO hF hY BC HSZ;replace D_p:=I (HF5.bk D_p (fun e=>HT.f.ne D_p (by decide) e));replace D_r:=I (HF5.bk D_r (fun e=>HT.f.ne D_r (by decide) e));refine hK.out _ _ ⟨⟨trivial,fun _=>Or.inl (⟨D5.cell 4,D_r.cell 0,D_r.cell 1,D_r.cell 2,D_r.cell 3⟩)⟩,?_⟩;clear hK K;refine ptt ?_;refine anyT.tk 10 trivial ?_;refine anyT.tk 11 trivial ?_;refine anyT.k 12 fun K hK=>?_
     have fz9:=D5.frozen;have o9:=D5.c7.2.2.2.2.1;go_simp;refine hK.out _ _ ⟨⟨trivial,fun _=>Or.inr (by kernel_rfl)⟩,?_⟩;clear hK K;refine ptt ?_;refine anyT.done (by kernel_rfl) ?_;have F2:Fr (fun b=>b=t) w8 (w8.setCell ⟨t,4,none⟩ (.slice y.A y.n y.c)):=Fr.set w8 ⟨t,4,none⟩ _ rfl;have B5:=D5.put 4 (.slice y.A y.n y.c);have HE9:stT V fs V (i+1)={ stT V fs V i with basic:=(List.range i).map (V+·)++[V+i],forms:=(fs.take i).map (lineT V)++[lineT V x1] }:=by unfold stT;rw[List.range_succ,List.map_append,List.take_add_one,HXI.out,List.map_append];rfl
     replace HG:=I ((HG.step HF5 (fun b _ e=>(HT.f.lt b e).1)).fr_at F2 N_t);replace D_p:=I (F2.bk D_p (fun e=>Bk.ne D_p D5 (by decide) e));have HTO:=HT;replace HL9:Hid (OwnR (w8.setCell ⟨t,4,none⟩ y.v) (nsz w) l9 (lineT V x1)):=I (OwnR.st (Own.go HL9 (fun r q hr=>hr.tf HF5 (fun b cs fr hb hh=>by obtain⟨c,hc⟩:=HTO.f.bk hb;exact Bk.not_ty hc (by decide) _ _ hh)) (fun b hb=>HF5.keep b (HL9.lt b hb).2 (fun e=>HLX.out b hb (.inr (.inr (.inr (.inl e))))))) F2 D5);replace HT:Hid (TabIs _ (nsz w) t { S3 with sf:=y,fs:=S3.fs++[l9] } (stT V fs V (i+1))):=I (by rw[HE9];exact TabIs.newF HT HF5 HY5 F2 (OwnS.st HO5 F2 D5) HL9 HLX (by simpa using B5));clear F2 B5 HE9 D5 HO5 HF5 HY5 HNL HTO HL9 HLX HFI;generalize w8.setCell ⟨t,4,none⟩ (.slice y.A y.n y.c)=w9 at*;have HTI4:Hid (Tight { S3 with sf:=y,fs:=S3.fs++[l9] }):=I ⟨HT3.1,fun s hs=>by
      rcases List.mem_append.1 hs with h1 | h1
      ·exact HT3.2 s h1
      ·rw[mj h1];exact HY9.out⟩
     go_wp2;go_roundw
     ·exact⟨i+1,{ S3 with sf:=y,fs:=S3.fs++[l9] },by go_num,by omega,HTI4,HT,HG,D_p⟩
     ·simp[intOf];omega
    ·obtain rfl:i=zn:=by omega
     obtain⟨p_0,p_1,p_2,p_3,p_4,p_5⟩:=D_p.c6;have HN3:Hid (S2.sn.n=V):=I (by have h9:=Own.len HT.n (fun _=>rfl) (by decide);rw[← h9];exact List.length_range);have HO2:=I (ho.gr HG);go_wp2_with fail;have HX0:Hid (∀k,S2.X t k→k < nsz wr):=I (fun k hk=>(HT.lt hk).2);have HG0:Hid (nsz w≤nsz wr):=I HG.size;refine (tline_any wr t V S2.sn.c S2.sn.A _ _ _ _ _ _ o x (by have h9:=HT.cell;unfold Tb.cells at h9;rw[HN3.out] at h9;exact h9) HO2 (fun s hs=>⟨(HVO.out s hs).1,Nat.le_of_lt (HVO.out s hs).2⟩) (by omega)).mono ?_;rintro e w2 ⟨y,rfl,hO,hy9,G⟩;replace HT:=I (HT.gr G);replace HG:=HG.tr G;have HL9:=I hO;have HY9:=I hy9;clear G hO p_0 p_1 p_2 p_3 p_4 p_5 hy9;obtain⟨t_0,t_1,t_2,t_3,t_4,t_5,t_6⟩:=HT.cell.c7;simp only[Sv.v];have fz9:=HT.cell.frozen;go_upto_region 14 with fail;have F2:Fr (fun b=>b=t) w2 (w2.setCell ⟨t,5,none⟩ (.slice y.A y.n y.c)):=Fr.set w2 ⟨t,5,none⟩ _ rfl;have B5:=HT.cell.put 5 (.slice y.A y.n y.c);replace HG:=HG.fa F2 N_t;have HE9:setT V fs x={ stT V fs V i with obj:=lineT V x }:=by unfold setT;rw[HZN.out]
     replace HT:Hid (TabIs _ (nsz w) t { S2 with so:=y } (setT V fs x)):=I (by rw[HE9];exact TabIs.newO HT (Fr.refl _ _) (fun k hk=>.inr (fun hx=>by have h1:=(HL9.lt k hk).1;have h2:=HX0.out k hx;omega)) F2 (OwnR.st (HL9.low HG0) F2 HT.cell) (by simpa using B5));clear fz9 F2 B5 HE9 t_0 t_1 t_2 t_3 t_4 t_5 t_6;generalize w2.setCell ⟨t,5,none⟩ (.slice y.A y.n y.c)=w9 at*;go_wp2;go_ret;exact⟨t,{ S2 with so:=y },rfl,HT.out,⟨HY9.out,HTI.2⟩,HG.out⟩
end
end Go.Proofs.YtmhphnljfcncpaaGreatDoor
