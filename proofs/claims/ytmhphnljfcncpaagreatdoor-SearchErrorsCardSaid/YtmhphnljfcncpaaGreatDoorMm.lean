/- Walks of the search and of what it calls, part 13. -/
import Derived.Test.YtmhphnljfcncpaaGreatDoorMl
set_option linter.unusedVariables false
set_option linter.unusedSimpArgs false
set_option maxRecDepth 100000
set_option maxHeartbeats 8000000
namespace Go.Proofs.YtmhphnljfcncpaaGreatDoor
open Go.RowKit
section
attribute [local go_sem] Oper.semAt_some
def preQ (v:List Q) (f:Fm):Q:=canonQ (evalT v f.const f.terms)
def runV:List Q→List Fm→List Q
 | v,[]=>v
 | v,f::r=>runV (v++[Q.max Q.zero (preQ v f)]) r
def RunOk:List Q→List Fm→Prop
 | _,[]=>True
 | v,f::r=>(EvalOk v f.const f.terms∧(preQ v f).Sm)∧RunOk (v++[Q.max Q.zero (preQ v f)]) r
theorem grun_any (w:World) (g:Gv) (x:Gm) (z:Sv) (xs:List Q) (hg:g.Is w x) (hx:x.Va) (hz:Rats w z xs) (hl:xs.length=x.inputs) (hs:∀q∈xs,q.Sm) (hu:x.units.length < 1000) (ok:RunOk (xs.map canonQ) x.units):
  Calls Tryz.prog 238 #[g.v,.slice z.A z.n z.c] w fun e w'=>∃y p:Sv,e=.returned (.tuple #[y.v,p.v,.int .i64 0])∧OwnR w' (nsz w) y (runV (xs.map canonQ) x.units)∧Gr w w':=by
 obtain⟨gi,⟨uA,un,uc⟩,qo⟩:=g;obtain⟨zA,zn,zc⟩:=z;have hzn:xs.length=zn:=hz.len;have hgi:gi=(zn:Int):=by have h9:gi=(x.inputs:Int):=hg.inputs;omega
 subst hgi;have hun:x.units.length=un:=hg.units.len;have hi9:zn≤256:=by have:=hx.i9;omega
 have hun9:un < 1000:=by omega
 change Hid _ at hg hs;have HX:=I hx;have HZ:=I hz;have OK:=I ok;have HUN:=I hun;have HZN:=I hzn;clear hx hz ok hun hzn;simp only[Gv.v,Sv.v] at*;go_enter Tryz.func238,Tryz.ntmps238;go_wp2_with fail;refine nw1hc fun W HG D_p=>?_
 have p_:=D_p.c3;refine cm0 (gvalid_any W ⟨(zn:Int),⟨uA,un,uc⟩,qo⟩ x (hg.gr HG) HX) fun w1 G=>?_
 replace D_p:=G.hb D_p;replace HG:=HG.tr G;clear p_;have p_:=D_p.c3;go_wp2_with fail;have HV:Hid (OwnR w1 w.heap.size Sv.none []):=I (Own.nil _ _);go_loopw [4,25] (fun s0 s1 wr=>∃(j:Nat) (y:Sv),s0=.slice y.A y.n y.c∧s1=.int .i64 j∧j≤zn∧Hid (OwnR wr w.heap.size y ((xs.take j).map canonQ))∧Hid (Gr w wr)∧Hid (Bk wr w.heap.size 30 #[.int .i64 (zn:Int),.slice uA un uc,.slice qo.A qo.n qo.c])) (fun _ j _=>zn - (intOf j).toNat)
 case atStart=>exact⟨0,Sv.none,rfl,rfl,nq _,HV,HG,D_p⟩
 case round=>
  clear HV HG D_p p_;obtain⟨j,y,rfl,rfl,hr2,HV,HG,D_p⟩:=hrel;by_cases hin:j < zn
  ·obtain⟨qa,hqa⟩:∃q,xs[j]?=some q:=⟨_,ge (by rw[HZN.out];exact hin)⟩;have HQA:=I hqa;have HSA:=I (hs.out qa (mg hqa));obtain⟨av,adx,hav,hA,a0,a1,a2⟩:=(HZ.gr HG).at hqa;simp only at hA;subst hA;have HAV:=I hav;have hj9:j < 256:=by omega
   clear hav hqa;go_upto_region 6 with fail;clear a0 a1 a2;refine nw1 fun w2 GB D_v=>?_
   replace HV:=I (OwnR.up HV GB);obtain⟨HAV,D_p,HG⟩:=GB.u3 HAV D_p HG;clear GB;generalize wr.heap.size=v at*;have v_:=D_v.c3;go_wp2_with fail;refine cm1 (canon9_any w2 av qa HAV HSA) fun cv w3 HC G=>?_
   replace HV:=I (OwnR.up HV G);replace D_p:=G.hb D_p;replace HG:=HG.tr G;clear v_;simp only[Rv.v];clear HAV;have HYL:Hid (y.n≤1000):=I (by have h9:=HV.len Rv.len (by decide);rw[← h9,List.length_map,List.length_take];omega);obtain⟨B1,GB⟩:=made1 w3 38 #[.bool cv.neg,.slice cv.num.A cv.num.n cv.num.c,.slice cv.den.A cv.den.n cv.den.c];replace HV:=I (OwnR.up HV GB);obtain⟨HC,D_p,HG⟩:=GB.u3 HC D_p HG;have BC:=I (bk_cells B1);have LB:=I HG.size;have HNS:Hid (w3.heap.size≤(w3.alloc (.cells #[.bool cv.neg,.slice cv.num.A cv.num.n cv.num.c,.slice cv.den.A cv.den.n cv.den.c] 38)).heap.size):=I GB.size;clear GB B1;go_wp2_with (at_builtin;go_loud (refine wpList_app3 elemR rfl _ _ (by rfl) (by rfl) HV.out ⟨w3.heap.size,0,none⟩ 1 cv (canonQ qa) (by rfl) HC.out rfl BC.out (Rv.one _) (by unfold maxLen;have:=HYL.out;omega) (by have:=HYL.out;omega) LB.out (fun W' F p a hp=>hp.tf F (fun b cs fr e hh=>by obtain⟨cur,hc⟩:=Own.bk HV e;exact Bk.not_ty hc (by decide) _ _ hh)) ?_);intro y2 w4 hyn hO hF hY;have HYO:=I hO;have HF5:=I hF;have HY5:=I hY;have HYN:=I hyn;clear hyn hO hF hY);replace D_p:=I (HF5.bk D_p (fun e=>HV.ne D_p (by decide) e));replace HG:=I (HG.step HF5 (fun b _ e=>(HV.lt b e).1));replace HV:=HYO;clear HYO HF5 HY5 BC LB HNS;clear HC;have HE9:(xs.take j).map canonQ++[canonQ qa]=(xs.take (j+1)).map canonQ:=by rw[List.take_add_one,HQA.out,List.map_append];rfl
   rw[HE9] at HV;clear HE9;go_roundw
   ·exact⟨j+1,y2,by go_num,by go_num,by omega,HV,HG,D_p⟩
   ·simp[intOf];omega
  ·obtain rfl:j=zn:=by omega
   rw[List.take_of_length_le (by rw[HZN.out];exact nr _)] at HV;have p_:=D_p.c3;go_wp2_with fail;have HP:Hid (OwnR wr w.heap.size Sv.none []):=I (Own.nil _ _);have HDJ:Hid (∀k,(y:Sv).on k→¬(Sv.none:Sv).on k):=I (fun k _ h=>by cases h);go_loopw [4,5,38] (fun s0 s1 s2 wr=>∃(i:Nat) (yv:Sv) (v:List Q) (yp:Sv) (pl:List Q),s0=.slice yv.A yv.n yv.c∧s1=.slice yp.A yp.n yp.c∧s2=.int .i64 i∧i≤un∧Hid (∀k,(yv:Sv).on k→¬(yp:Sv).on k)∧Hid (RunOk v (x.units.drop i))∧Hid (runV v (x.units.drop i)=runV (xs.map canonQ) x.units)∧Hid (v.length=j+i)∧Hid (pl.length=i)∧Hid (OwnR wr w.heap.size yv v)∧Hid (OwnR wr w.heap.size yp pl)∧Hid (Gr w wr)∧Hid (Bk wr w.heap.size 30 #[.int .i64 (j:Int),.slice uA un uc,.slice qo.A qo.n qo.c])) (fun _ _ i _=>un - (intOf i).toNat)
   case atStart=>exact⟨0,y,xs.map canonQ,Sv.none,[],rfl,rfl,rfl,nq _,HDJ,OK,I rfl,I (by rw[List.length_map];exact HZN.out),I rfl,HV,HP,HG,D_p⟩
   case round=>
    clear HV HP HG D_p p_;obtain⟨i,yv,v,yp,pl,rfl,rfl,rfl,hr3,HDJ,HRO,HRV,HLV,HLP,HV,HP,HG,D_p⟩:=hrel;by_cases hin2:i < un
    ·obtain⟨fm,hfm⟩:∃f,x.units[i]?=some f:=⟨_,ge (by rw[HUN.out];exact hin2)⟩;have HDR:Hid (x.units.drop i=fm::x.units.drop (i+1)):=by rw[List.drop_eq_getElem?_toList_append,hfm];exact rfl
     rw[HDR.out] at HRO HRV;have HE1:=I HRO.1.1;have HE2:=I HRO.1.2;have HRO1:=I HRO.2;have HRV1:Hid (runV (v++[Q.max Q.zero (preQ v fm)]) (x.units.drop (i+1))=runV (xs.map canonQ) x.units):=I (by have h9:=HRV.out;rw[runV] at h9;exact h9);obtain⟨f,adf,hff,hA,d0,d1,d2,d3⟩:=(hg.units.gr HG).at hfm;simp only at hA;subst hA;have HFF:=I hff;have hi8:i < 1000:=by omega
     clear hff hfm HDR HRO HRV;go_upto_region 11 with fail;clear d0 d1 d2 d3;refine nw1 fun w2 GB D_ff=>?_
     replace HV:=I (OwnR.up HV GB);replace HP:=I (OwnR.up HP GB);obtain⟨HFF,D_p,HG⟩:=GB.u3 HFF D_p HG;clear GB;generalize wr.heap.size=ff at*;have ff_:=D_ff.c4;go_wp2_with fail;refine cm1 (eval_any w2 f fm yv v HFF HV.rats HE1) fun pv w3 HPV G=>?_
     replace HV:=I (OwnR.up HV G);replace HP:=I (OwnR.up HP G);replace D_p:=G.hb D_p;replace HG:=HG.tr G;clear ff_;simp only[Rv.v];clear HFF;have LPB:Hid (∀k,(yp:Sv).on k→k < w3.heap.size):=I (fun k hk=>(HP.lt k hk).2);go_upto_region 12 with fail;refine nw1 fun w4 GB D_pb=>?_
     replace HV:=I (OwnR.up HV GB);replace HP:=I (OwnR.up HP GB);obtain⟨HPV,D_p,HG⟩:=GB.u3 HPV D_p HG;clear GB;generalize w3.heap.size=pb at*;have pb_:=D_pb.c3;have HYL:Hid (yv.n≤2000):=I (by have h9:=HV.len Rv.len (by decide);have:=HLV.out;omega);have HPL:Hid (yp.n≤2000):=I (by have h9:=HP.len Rv.len (by decide);have:=HLP.out;omega);have HDK:Hid (∀k,(yp:Sv).on k→¬(yv:Sv).on k):=I (fun k h1 h2=>HDJ.out k h2 h1);have LX_HDK:Hid (∀k,(yv:Sv).on k→k < w4.heap.size):=I (fun k hk=>(HV.lt k hk).2);clear HDJ;obtain⟨B1,GB⟩:=made1 w4 38 #[.bool pv.neg,.slice pv.num.A pv.num.n pv.num.c,.slice pv.den.A pv.den.n pv.den.c];replace HV:=I (OwnR.up HV GB);replace HP:=I (OwnR.up HP GB);obtain⟨HPV,D_p,D_pb,HG⟩:=GB.u4 HPV D_p D_pb HG;have BC:=I (bk_cells B1);have LB:=I HG.size;have HNS:Hid (w4.heap.size≤(w4.alloc (.cells #[.bool pv.neg,.slice pv.num.A pv.num.n pv.num.c,.slice pv.den.A pv.den.n pv.den.c] 38)).heap.size):=I GB.size;clear GB B1;go_upto_region 13 with (at_builtin;go_loud (refine wpList_app3 elemR rfl _ _ (by rfl) (by rfl) HP.out ⟨w4.heap.size,0,none⟩ 1 pv (preQ v fm) (by rfl) HPV.out rfl BC.out (Rv.one _) (by unfold maxLen;have:=HPL.out;omega) (by have:=HPL.out;omega) LB.out (fun W' F p a hp=>hp.tf F (fun b cs fr e hh=>by obtain⟨cur,hc⟩:=Own.bk HP e;exact Bk.not_ty hc (by decide) _ _ hh)) ?_);intro yp2 w5 hyn hO hF hY;have HYO:=I hO;have HF5:=I hF;have HY5:=I hY;have HYN:=I hyn;clear hyn hO hF hY)
     have N_HDK:Hid (∀k,(yp2:Sv).on k→¬(yv:Sv).on k):=I (fun k hk hx=>(HY5.out k hk).elim (fun h1=>HDK.out k h1 hx) (fun h1=>by have h2:=LX_HDK.out k hx;have h3:=HNS.out;omega));replace HV:=I (OwnR.other HV HP HF5 (fun b h1 h2=>HDK.out b h2 h1));replace HPV:=I (HPV.tf HF5 (fun b cs fr e hh=>by obtain⟨cur,hc⟩:=Own.bk HP e;exact Bk.not_ty hc (by decide) _ _ hh));replace D_p:=I (HF5.bk D_p (fun e=>HP.ne D_p (by decide) e));replace D_pb:=I (HF5.bk D_pb (fun e=>ni _ (LPB.out _ e)));replace HG:=I (HG.step HF5 (fun b _ e=>(HP.lt b e).1));replace HP:=HYO;clear HYO HF5 HY5 BC LB HNS pb_;clear HDK;have HDK:=N_HDK;clear N_HDK LX_HDK;have HYN9:=HYN;clear HYN LPB;have pb_:=D_pb.c3;go_wp2_with fail;refine cm1 (qmax_any w5 Rv.nil pv Q.zero (preQ v fm) (Rv.Is.zero _) HPV (by simp[Q.zero,limbs]) HE2.len (by simp[Q.zero,Q.un,B32]) HE2.ul) fun mv w6 HMX G=>?_
     replace HV:=I (OwnR.up HV G);replace HP:=I (OwnR.up HP G);replace D_p:=G.hb D_p;replace HG:=HG.tr G;clear pb_;simp only[Rv.v];have HDJ:Hid (∀k,(yv:Sv).on k→¬(yp2:Sv).on k):=I (fun k h1 h2=>HDK.out k h2 h1);have LX_HDJ:Hid (∀k,(yp2:Sv).on k→k < w6.heap.size):=I (fun k hk=>(HP.lt k hk).2);clear HDK;clear HPV;obtain⟨B1,GB⟩:=made1 w6 38 #[.bool mv.neg,.slice mv.num.A mv.num.n mv.num.c,.slice mv.den.A mv.den.n mv.den.c];replace HV:=I (OwnR.up HV GB);replace HP:=I (OwnR.up HP GB);obtain⟨HMX,D_p,HG⟩:=GB.u3 HMX D_p HG;have BC:=I (bk_cells B1);have LB:=I HG.size;have HNS:Hid (w6.heap.size≤(w6.alloc (.cells #[.bool mv.neg,.slice mv.num.A mv.num.n mv.num.c,.slice mv.den.A mv.den.n mv.den.c] 38)).heap.size):=I GB.size;clear GB B1;go_wp2_with (at_builtin;go_loud (refine wpList_app3 elemR rfl _ _ (by rfl) (by rfl) HV.out ⟨w6.heap.size,0,none⟩ 1 mv (Q.max Q.zero (preQ v fm)) (by rfl) HMX.out rfl BC.out (Rv.one _) (by unfold maxLen;have:=HYL.out;omega) (by have:=HYL.out;omega) LB.out (fun W' F p a hp=>hp.tf F (fun b cs fr e hh=>by obtain⟨cur,hc⟩:=Own.bk HV e;exact Bk.not_ty hc (by decide) _ _ hh)) ?_);intro yv2 w7 hyn hO hF hY;have HYO:=I hO;have HF5:=I hF;have HY5:=I hY;have HYN:=I hyn;clear hyn hO hF hY);have N_HDJ:Hid (∀k,(yv2:Sv).on k→¬(yp2:Sv).on k):=I (fun k hk hx=>(HY5.out k hk).elim (fun h1=>HDJ.out k h1 hx) (fun h1=>by have h2:=LX_HDJ.out k hx;have h3:=HNS.out;omega));replace HP:=I (OwnR.other HP HV HF5 (fun b h1 h2=>HDJ.out b h2 h1));replace D_p:=I (HF5.bk D_p (fun e=>HV.ne D_p (by decide) e));replace HG:=I (HG.step HF5 (fun b _ e=>(HV.lt b e).1));replace HV:=HYO;clear HYO HF5 HY5 BC LB HNS;clear HDJ;have HDJ:=N_HDJ;clear N_HDJ LX_HDJ;go_roundw
     ·exact⟨i+1,yv2,_,yp2,_,by go_num,by go_num,by go_num,by omega,HDJ,HRO1,HRV1,I (by have:=HLV.out;rw[List.length_append,List.length_singleton];omega),I (by have:=HLP.out;rw[List.length_append,List.length_singleton];omega),HV,HP,HG,D_p⟩
     ·simp[intOf];omega
    ·obtain rfl:i=un:=by omega
     rw[List.drop_eq_nil_of_le (by rw[HUN.out];exact nr _)] at HRV;have HEV:Hid (runV (xs.map canonQ) x.units=v):=I HRV.symm;go_wp2;refine pex ?_;refine bret Tryz.results238 ?_;exact⟨yv,yp,rfl,by rw[HEV.out];exact HV.out,HG.out⟩
theorem gvalues_any (w:World) (g:Gv) (x:Gm) (z:Sv) (xs:List Q) (hg:g.Is w x) (hx:x.Va) (hz:Rats w z xs) (hl:xs.length=x.inputs) (hs:∀q∈xs,q.Sm) (hu:x.units.length < 1000) (ok:RunOk (xs.map canonQ) x.units):
  Calls Tryz.prog 158 #[g.v,z.v] w fun e w'=>∃y:Sv,e=.returned (.tuple #[y.v,.int .i64 0])∧Rats w' y (runV (xs.map canonQ) x.units)∧Gr w w':=by
 have HGG:=I hg;have HZ:=I hz;clear hg hz;simp only[Gv.v] at*;go_enter Tryz.func158,Tryz.ntmps158;go_wp2_with fail;refine nw1hc fun W HG D_p=>?_
 have p_:=D_p.c3;refine (grun_any W g x z xs (HGG.gr HG) hx (HZ.gr HG) hl hs hu ok).mono ?_;rintro e w1 ⟨y,p9,rfl,hy,G⟩;replace HG:=HG.tr G;have HY:=I hy;clear G hy p_;simp only[Sv.v];go_wp2;refine pex ?_;refine bret Tryz.results158 ?_;exact⟨y,rfl,HY.rats,HG.out⟩
section
variable {P:Program}
theorem wp_copy_run (w:World) {o:Oper} {a:Act} {K:Act→World→Prop} {Q:Exit→Act→World→Prop} (d s:Operand) (t t':TypeId)
  (ho:o.op=.call { callee:=.builtin .copy,args:=#[d,s],argTypes:=#[t,t'] }) (v u:Value) (hd:a.eval d=v) (hs:a.eval s=u) {v':Value} {w':World}
  (hr:(Builtin.copy_ #[t,t'] o.type #[v,u]).run P w=.ok v' w') (h:K (a.put o.dst v') w'):o.wp P a w K Q:=by
 unfold Oper.wp execOp;simp only[ho,resolve,invoke,builtin,Sem.run_bind,Sem.run_pure,Result.andThen_ok,List.map_toArray,List.map_cons,List.map_nil,hd,hs,hr];exact h
theorem wpList_copy_run (w:World) {ops:Array Oper} {rest:List Oper} {o:Oper} {a:Act} {Q:Exit→Act→World→Prop} (hgd:o.guard=none) (d s:Operand) (t t':TypeId)
  (ho:o.op=.call { callee:=.builtin .copy,args:=#[d,s],argTypes:=#[t,t'] }) (v u:Value) (hd:a.eval d=v) (hs:a.eval s=u) {v':Value} {w':World}
  (hr:(Builtin.copy_ #[t,t'] o.type #[v,u]).run P w=.ok v' w') (h:wpList P ops Q rest (a.put o.dst v') w'):wpList P ops Q (o::rest) a w:=
 wpList_plain hgd fun _ hK=>wp_copy_run w d s t t' ho v u hd hs hr (hK _ _ h)
end
theorem ins_flat {α:Type} {F:α→List Value} (hF:∀a,(F a).length=3) (ts:List α) (p:α) (i n:Nat) (hl:ts.length=n) (hi:i < n) (R:List Value) (hR:R.length=(n+1)*3) (h0:R.take (i*3)=(ts.flatMap F).take (i*3)):
  ((R.take (i*3)++F p++R.drop (i*3+(F p).length)).take ((i+1)*3)++(ts.flatMap F).drop (i*3)++(R.take (i*3)++F p++R.drop (i*3+(F p).length)).drop ((i+1)*3+((ts.flatMap F).drop (i*3)).length))=(ts.take i++[p]++ts.drop i).flatMap F:=by
 have hlen:(ts.flatMap F).length=n*3:=by rw[flat_len (k:=3) hF,hl]
 have e1:(R.take (i*3)++F p).length=(i+1)*3:=by rw[List.length_append,hF,List.length_take,hR];omega
 have e2:(R.take (i*3)++F p++R.drop (i*3+(F p).length)).take ((i+1)*3)=R.take (i*3)++F p:=by
  rw[List.take_append_of_le_length (by omega),List.take_of_length_le (by omega)]
 have e3:(R.take (i*3)++F p++R.drop (i*3+(F p).length)).drop ((i+1)*3+((ts.flatMap F).drop (i*3)).length)=[]:=by
  apply List.drop_of_length_le
  rw[List.length_append,e1,List.length_drop,List.length_drop,hF,hR,hlen];omega
 rw[e2,e3,List.append_nil,h0,List.flatMap_append,List.flatMap_append,flat_takeK hF,flat_dropK hF];simp
theorem tins_any (w:World) (B b i:Nat) (x:Sv) (l:List Q) (r:Rv) (q:Q) (h:OwnR w B x l) (hx:x.c=x.n) (hi:i < x.n) (hv:Bk w b 38 r.ar) (hr:r.Is w q) (hn:x.n < 100000):
  Calls Tryz.prog 357 #[x.v,iv i,.slice (some ⟨b,0,none⟩) 1 1] w fun e w'=>∃y:Sv,e=.returned y.v∧OwnR w' (nsz w) y (l.take i++[q]++l.drop i)∧Gr w w':=by
 have hln:l.length=x.n:=h.len Rv.len (by decide);obtain⟨g,c0,e9,_⟩:=Own.form h Rv.len (by decide) (i:=i) (ge (by omega));subst e9;simp only at hx hi hn;subst hx;obtain⟨n,hn9⟩:∃n,l.length=n:=⟨_,rfl⟩;rw[hn9] at h hi hn ⊢;have hgw:=(h.lt g rfl).2;have hbw:=hv.lt;obtain⟨ts,t1,rfl,t3⟩:=h;have hF:∀p:Rv×Q,(Rv.cs p.1).length=3:=fun p=>Rv.len p.1
 have hts:ts.length=n:=by rw[← hn9,List.length_map]
 obtain⟨c1,c2,_⟩:=row_there t1;obtain⟨cs,hcs⟩:∃cs,(ts.flatMap fun p:Rv×Q=>Rv.cs p.1)=cs:=⟨_,rfl⟩;have hcl:cs.length=n*3:=by rw[← hcs,flat_len (F:=fun p:Rv×Q=>Rv.cs p.1) hF,hts]
 have h1c:∀v∈cs,v.oneCell'=true:=fun v hv=>by
  rw[← hcs] at hv;obtain⟨p,_,hp⟩:=List.mem_flatMap.1 hv;exact Rv.one _ v hp
 rw[hcs] at c1;obtain⟨i0,hi0,hz0,hz1,hz2⟩:=info_parts info_rat;have hu:Tryz.prog.underlying 31=some (.slice 38):=by kernel_rfl
 have hui:Tryz.prog.underlying 3=some (.int .i64):=by kernel_rfl
 have hsz:(Tryz.prog.info? 38).map (·.size)=some 3:=by rw[hi0];simp[hz1]
 have hold:(Builtin.firstCells i0.size i (.slice (some ⟨g,0,none⟩) i n)).run Tryz.prog w.drew=.ok (cs.take (i*3)).toArray w.drew:=by
  rw[hz1];exact run_firstCells_some (P:=Tryz.prog) w.drew 3 i ⟨g,0,none⟩ i n (cs.take (i*3)) (by rw[List.length_take];omega) (fun j u hj=>by
   rw[Addr.add_mid,Nat.zero_add];have hjl:=(gs hj).1;rw[List.length_take] at hjl;rw[List.getElem?_take_of_lt (by omega)] at hj;exact c1 _ _ hj)
 obtain⟨G,hG⟩:∃G,grownCap w (n+1) n 38=G:=⟨_,rfl⟩;have hGn:n+1≤G:=by rw[← hG];exact grownCap_ge w _ _ _
 have hGm:G≤maxLen:=by rw[← hG];exact grownCap_le_maxLen w _ _ _ (by unfold maxLen;omega)
 have hnx:Builtin.nextslicecap (n+1) n*56≤281474976710656:=growslice_fits (by omega) (by omega);have hap:∀ty,(Builtin.append_ #[31,3] ty #[.slice (some ⟨g,0,none⟩) i n,.int .i64 ((n:Int)+1 - (i:Int))]).run Tryz.prog w=.ok (.slice (some ⟨w.heap.size,0,none⟩) (n+1) G) (w.drew.alloc (.cells ((cs.take (i*3)).toArray++Builtin.zeroCells Rl (n+1 - i)++Builtin.zeroCells Rl (G - (n+1))) 38)):=fun ty=>by
  have h9:=Lib.run_append_grow_zeros (P:=Tryz.prog) w 31 3 ty 38 i0 _ .i64 .i64 hu hui hi0 hz0 (some ⟨g,0,none⟩) i n (cs.take (i*3)) hold (n+1 - i) (by omega) (by omega) (by omega) (by omega) (by rw[hz2];omega) (by rw[hz2,show i+(n+1 - i)=n+1 from by omega];exact hnx);rw[show i+(n+1 - i)=n+1 from by omega,hG] at h9;rw[show ((n:Int)+1 - (i:Int))=((n+1 - i:Nat):Int) from by omega];exact h9
 obtain⟨ROW,hROW⟩:∃ROW,(cs.take (i*3)).toArray++Builtin.zeroCells Rl (n+1 - i)++Builtin.zeroCells Rl (G - (n+1))=ROW:=⟨_,rfl⟩;rw[hROW] at hap;have hRsz:ROW.size=G*3:=by
  rw[← hROW,Array.size_append,Array.size_append,size_zeroCells,size_zeroCells];simp only[List.size_toArray,List.length_take,hcl,List.length_cons,List.length_nil];omega
 have hR0:(ROW.toList.take ((n+1)*3)).take (i*3)=cs.take (i*3):=by
  rw[List.take_take,Nat.min_eq_left (by omega),← hROW,Array.toList_append,Array.toList_append,List.append_assoc,List.take_append_of_le_length (by simp[hcl];omega),List.take_of_length_le (by simp;omega)]
 have hRl:(ROW.toList.take ((n+1)*3)).length=(n+1)*3:=by rw[List.length_take,Array.length_toList,hRsz];omega
 have o1:∀W:World,W.heap=(w.drew.alloc (.cells ROW 38)).heap→W.ownsRow (nsz w) 38 3 (.slice (some ⟨w.heap.size,0,none⟩) (n+1) G) (n+1) (ROW.toList.take ((n+1)*3)):=fun W hW=>
  ⟨hRl,.inr ⟨w.heap.size,G,ROW,rfl,nr _,by show W.heap[w.heap.size]?=_;rw[hW];exact Bk.made w.drew 38 ROW,hGn,hGm,hRsz,rfl⟩⟩
 have hAc:∀(W:World) j,W.heap=(w.drew.alloc (.cells ROW 38)).heap→j < (n+1)*3→(W.cell? ⟨w.heap.size,j,none⟩).isSome=true∧W.frozen? ⟨w.heap.size,j,none⟩=false:=fun W j hW hj=>by
  obtain⟨d1,d2,_⟩:=row_there (o1 W hW);exact⟨by rw[d1 j _ (ge (by rw[hRl];exact hj))];rfl,d2 j⟩
 have hOld:∀(W:World) k j v,W.heap=(w.drew.alloc (.cells ROW 38)).heap→k < w.heap.size→w.cell? ⟨k,j,none⟩=some v→W.cell? ⟨k,j,none⟩=some v:=fun W k j v hW hk hc=>by
  have h9:W.cell? ⟨k,j,none⟩=(w.drew.alloc (.cells ROW 38)).cell? ⟨k,j,none⟩:=by unfold World.cell?;rw[hW]
  rw[h9,World.cell?_alloc_past (w:=w.drew) _ k j hk];exact hc
 obtain⟨z0,z1,z2⟩:=hv.c3;have hcpA:∀(W:World),W.heap=(w.drew.alloc (.cells ROW 38)).heap→∀ty dc,(Builtin.copy_ #[31,31] ty #[.slice (some ⟨w.heap.size,i*3,none⟩) (n+1 - i) dc,.slice (some ⟨b,0,none⟩) 1 1]).run Tryz.prog W=.ok (goInt (Nat.min 1 (n+1 - i))) (W.setCells w.heap.size (i*3) r.cs):=fun W hW ty dc=>
  run_copyK W 31 31 ty 38 w.heap.size (i*3) (n+1 - i) dc ⟨b,0,none⟩ 1 1 3 r.cs hu hsz (by show Nat.min 1 (n+1 - i)*3=3;rw[show Nat.min 1 (n+1 - i)=1 from Nat.min_eq_left (by omega)])
   (fun j v hj=>by
    rw[Addr.add_mid,Nat.zero_add];refine hOld W b j v hW hbw ?_;rcases j with _ | _ | _ | j
    ·injection hj with hj;rw[← hj];exact z0
    ·injection hj with hj;rw[← hj];exact z1
    ·injection hj with hj;rw[← hj];exact z2
    ·cases hj)
   (fun j hj=>(hAc W _ hW (by have:j < 3:=hj;omega)).1) (fun j hj=>(hAc W _ hW (by have:j < 3:=hj;omega)).2) (Rv.one r)
 have o2:∀W:World,W.heap=(w.drew.alloc (.cells ROW 38)).heap→(W.setCells w.heap.size (i*3) r.cs).ownsRow (nsz w) 38 3 (.slice (some ⟨w.heap.size,0,none⟩) (n+1) G) (n+1) _∧Fr (fun k=>k=w.heap.size) W (W.setCells w.heap.size (i*3) r.cs):=fun W hW=>setCells_own r.cs (i*3) (o1 W hW) (by show i*3+3≤_;omega)
 have hcpB:∀(W:World),W.heap=(w.drew.alloc (.cells ROW 38)).heap→∀ty dc sc,(Builtin.copy_ #[31,31] ty #[.slice (some ⟨w.heap.size,(i+1)*3,none⟩) (n - i) dc,.slice (some ⟨g,i*3,none⟩) (n - i) sc]).run Tryz.prog ((W.setCells w.heap.size (i*3) r.cs).drew)=.ok (goInt (Nat.min (n - i) (n - i))) ((W.setCells w.heap.size (i*3) r.cs).drew.setCells w.heap.size ((i+1)*3) (cs.drop (i*3))):=fun W hW ty dc sc=>by
  obtain⟨s2,F2⟩:=o2 W hW;obtain⟨d1,d2,_⟩:=row_there s2;have hdl:(cs.drop (i*3)).length=(n - i)*3:=by rw[List.length_drop,hcl];omega
  refine run_copyK _ 31 31 ty 38 w.heap.size ((i+1)*3) (n - i) dc ⟨g,i*3,none⟩ (n - i) sc 3 (cs.drop (i*3)) hu hsz (by rw[hdl,show Nat.min (n - i) (n - i)=n - i from Nat.min_self _])
   (fun j v hj=>?_) (fun j hj=>?_) (fun j hj=>d2 _) (fun v hv=>h1c v (List.mem_of_mem_drop hv))
  ·rw[Addr.add_mid];rw[List.getElem?_drop] at hj;have h8:=hOld W g _ v hW hgw (c1 _ _ hj);have h7:=F2.bel;show (W.setCells w.heap.size (i*3) r.cs).cell? ⟨g,i*3+j,none⟩=some v;have h6:(W.setCells w.heap.size (i*3) r.cs).heap[g]?=W.heap[g]?:=F2.keep g (by rw[hW];show g < (w.drew.alloc _).heap.size;rw[World.size_alloc];show g < w.heap.size+1;omega) (by omega);unfold World.cell? at h8 ⊢;rw[h6];exact h8
  ·show ((W.setCells w.heap.size (i*3) r.cs).cell? ⟨w.heap.size,(i+1)*3+j,none⟩).isSome=true;rw[d1 _ _ (ge (by rw[s2.1];omega))];rfl
 have hW0:(w.drew.alloc (.cells ROW 38)).heap=(w.drew.alloc (.cells ROW 38)).heap:=rfl;have hfin:∀(W:World),W.heap=(w.drew.alloc (.cells ROW 38)).heap→Gr w W→OwnR ((W.setCells w.heap.size (i*3) r.cs).drew.setCells w.heap.size ((i+1)*3) (cs.drop (i*3))) (nsz w) ⟨some ⟨w.heap.size,0,none⟩,n+1,G⟩ ((ts.map (·.2)).take i++[q]++(ts.map (·.2)).drop i)∧Gr w ((W.setCells w.heap.size (i*3) r.cs).drew.setCells w.heap.size ((i+1)*3) (cs.drop (i*3))):=fun W hW hGr=>by
  obtain⟨s2,F2⟩:=o2 W hW;have hdl:(cs.drop (i*3)).length=(n - i)*3:=by rw[List.length_drop,hcl];omega
  obtain⟨s3,F3⟩:=setCells_own (cs.drop (i*3)) ((i+1)*3) (rw_drew s2) (by rw[hdl];omega);have hG3:Gr w ((W.setCells w.heap.size (i*3) r.cs).drew.setCells w.heap.size ((i+1)*3) (cs.drop (i*3))):=by
   have k1:Gr w (W.setCells w.heap.size (i*3) r.cs):=hGr.step F2 fun b _ e=>by rw[e];exact nr _
   exact k1.drew.step F3 fun b _ e=>by rw[e];exact nr _
  refine⟨⟨ts.take i++[(r,q)]++ts.drop i,?_,by simp,fun p hp=>?_⟩,hG3⟩
  ·rw[← ins_flat (F:=fun p:Rv×Q=>Rv.cs p.1) hF ts (r,q) i n hts hi _ hRl (by rw[hcs];exact hR0),hcs];exact s3
  ·rcases List.mem_append.1 hp with h8 | h8
   ·rcases List.mem_append.1 h8 with h7 | h7
    ·exact (t3 p (List.mem_of_mem_take h7)).gr hG3
    ·rw[mj h7];exact hr.gr hG3
   ·exact (t3 p (List.mem_of_mem_drop h8)).gr hG3
 have HFIN:=I hfin;have HAP:=I hap;have HCA:=I hcpA;have HCB:=I hcpB;have hi9:i < 100000:=by omega
 have b1:((i:Int) == (n:Int))=false:=beq_eq_false_iff_ne.2 (by omega);have b2:¬(i:Int)=(n:Int):=by omega
 have b3:i≤n:=by omega
 have b4:¬G=i:=by omega
 have b5:¬G=i+1:=by omega
 have b6:¬n=i:=by omega
 have b7:(n:Int) < (n:Int)+1:=by omega
 have b8:(0:Int)≤(i:Int)+1:=by omega
 have b9:(i:Int)≤(n:Int)+1:=by omega
 have b10:(i:Int)+1≤(n:Int)+1:=by omega
 have b11:i≤n+1:=by omega
 have hw2:IntKind.i64.wrap ((i:Int)+1)=(i:Int)+1:=wi _ (by omega);have hw3:((i:Int)+1).toNat=i+1:=by omega
 have hw1:IntKind.i64.wrap ((n:Int)+1 - (i:Int))=(n:Int)+1 - (i:Int):=wi _ (by omega);clear hfin hap hcpA hcpB o1 o2 hAc hOld hRsz hR0 hRl hnx hold z0 z1 z2 hv hr t1 t3 c1 c2 h1c hcl hF hi hGn hGm hgw hbw;go_enter Tryz.func357,Tryz.ntmps357;go_wp2_with (first
  | (at_builtin;refine Lib.wpList_append_run _ rfl _ _ _ _ rfl _ _ rfl rfl _ _ (HAP.out _) ?_)
  | (refine wpList_copy_run _ rfl _ _ 31 31 rfl _ _ rfl rfl (HCA.out _ (by rfl) _ _) ?_))
 refine wp_region_E (fun _=>True) (by kernel_rfl) ?_;show anyE _ _ _ _ 9 _ _ _;refine anyE.tk 0 trivial ?_;refine anyE.tk 1 trivial ?_;refine anyE.tk 2 trivial ?_;refine anyE.tk 3 trivial ?_;refine anyE.tk 4 trivial ?_;refine anyE.tk 5 trivial ?_;refine anyE.tk 6 trivial ?_;refine anyE.tk 7 trivial ?_;refine anyE.k 8 fun K hK=>?_
 refine wp_copy_run _ _ _ 31 31 (by rfl) _ _ (by rfl) (by rfl) (HCB.out _ (by rfl) _ _ _) ?_;refine hK.out _ _ ⟨Or.inl (trivial),?_⟩;clear hK K;refine ptt ?_;refine anyE.done (by kernel_rfl) ?_;go_wp2;go_ret;obtain⟨x1,x2⟩:=HFIN.out _ rfl (((Gr.refl w).alloc _).drew);exact⟨⟨some ⟨w.heap.size,0,none⟩,n+1,G⟩,rfl,x1,x2⟩
def vioT (aux n:Nat) (T:Tb):List Q:=match idxF T.basic aux T.basic.length 0 with
 | some r=>rAt T.forms r
 | none=>match idxF T.nonb aux T.nonb.length 0 with
  | some c=>(List.replicate n Q.zero).set c (ofQ 1)
  | none=>[]
theorem idxF_lt (l:List Nat) (v:Nat):∀{n i k:Nat},idxF l v n i=some k→k < n+i
 | 0,i,k,h=>by cases h
 | n+1,i,k,h=>by
  rw[idxF] at h;split at h
  ·injection h with h;omega
  ·have:=idxF_lt l v h;omega
structure VEv (t tb ab ub aux n Bu:Nat) (u:Sv) (w:World) (S:Ts):Prop where
 btb:Bk w tb 414 #[.pointer (some ⟨t,0,none⟩)]
 bab:Bk w ab 3 #[iv aux]
 bub:Bk w ub 31 #[.slice u.A u.n u.c]
 ow:OwnR w Bu u (List.replicate n Q.zero)
 xt:¬S.X t tb
 xa:¬S.X t ab
 xu:¬S.X t ub
 off:Off u S t
theorem VEv.gr {t tb ab ub aux n Bu:Nat} {u:Sv} {w w':World} {S:Ts} (h:VEv t tb ab ub aux n Bu u w S) (G:Gr w w'):VEv t tb ab ub aux n Bu u w' S:=⟨G.bk h.btb,G.bk h.bab,G.bk h.bub,OwnR.up h.ow G,h.xt,h.xa,h.xu,h.off⟩
theorem VEv.piv {B t tb ab ub aux n Bu:Nat} {u:Sv} {w w':World} {S S':Ts} {T:Tb} (h:VEv t tb ab ub aux n Bu u w S) (hT:TabIs w B t S T) (F:Fr (S.X t) w w') (hk:Kept S S' t w.heap.size):VEv t tb ab ub aux n Bu u w' S':=by
 have hx:∀{b ty:Nat} {cs:Array Value},Bk w b ty cs→¬S.X t b→¬S'.X t b:=fun hb hx h'=>by
  rcases hk.1 _ h' with h1 | h1
  ·exact hx h1
  ·have:=hb.lt;omega
 exact⟨F.bk h.btb h.xt,F.bk h.bab h.xa,F.bk h.bub h.xu,Own.go h.ow (hT.rv F) fun b hb=>F.keep b (h.ow.lt b hb).2 (h.off b hb),hx h.btb h.xt,hx h.bab h.xa,hx h.bub h.xu,h.off.kept hk fun k hk'=>(h.ow.lt k hk').2⟩
theorem tvio_any (w:World) (B t tb ab ub aux n Bu:Nat) (u:Sv) (S:Ts) (T:Tb) (h:TabIs w B t S T) (hE:VEv t tb ab ub aux n Bu u w S) (ok:TabOk T) (hl:(vioT aux n T).length=T.nonb.length+1) (ha:aux < 1000000):
  Calls Tryz.prog 358 #[.pointer (some ⟨tb,0,none⟩),.pointer (some ⟨ab,0,none⟩),.pointer (some ⟨ub,0,none⟩)] w fun e w'=>∃y:Sv,e=.returned y.v∧Rats w' y (vioT aux n T)∧Gr w w':=by
 have HG:=I (Gr.refl w);change Hid _ at h hE ok hl;go_enter Tryz.func358,Tryz.ntmps358;go_upto_region 1 with fail;have t_0:=hE.btb.c1;have a_0:=hE.bab.c1;obtain⟨_,_,t2,t3,t4,_,_⟩:=h.cell.c7;refine wpr ?_;have kc:=I fun W' (G:Gr w.drew W')=>G.kk t_0 <| ai (G.keep a_0) (G.keep t2)
 refine wg 0 (tf 7 0) [0,1,2,3,4,5,6] [(5,fun v _=>v=.int .i64 (optI (idxF T.basic aux T.basic.length 0)))] ?_;iterate 5 refine .tk ?_
 refine .dk (fun W1 G1 F1=>tidx_any W1 B aux S.sb T.basic (h.gr G1.od).b (by rw[ok.b];exact ok.m) ) ?_;rintro _ ⟨_,-,-,rfl⟩;refine .tk ?_;refine .done fun W1 G1 F1=>?_
 have hix:=lh F1 0;clear F1;refine wpe ?_;have GB:=G1.od;replace h:=I (h.gr GB);replace hE:=I (hE.gr GB);replace HG:=HG.tr GB;clear GB G1 hix kc t_0 a_0 t2;obtain⟨o,ho⟩:∃o,idxF T.basic aux T.basic.length 0=o:=⟨_,rfl⟩;have HO:=I ho;rw[ho];clear ho;rcases o with _ | r
 ·simp only[optI];have u_0:=hE.bub.c1;have hvl:=hl.out;rw[vioT,HO.out] at hvl
  dsimp only at hvl
  obtain⟨o,ho⟩:∃o,idxF T.nonb aux T.nonb.length 0=o:=⟨_,rfl⟩;have HO2:=I ho;rw[ho] at hvl;clear ho;rcases o with _ | c
  ·simp only[List.length_nil] at hvl;omega
  dsimp only at hvl
  rw[List.length_set,List.length_replicate] at hvl;subst hvl;have hc9:=idxF_lt _ _ HO2;rw[Nat.add_zero] at hc9;have hn9:=ok.n;have HUN:Hid (u.n=T.nonb.length+1):=I (by have h9:=hE.ow.len Rv.len (by decide);rw[← h9];exact List.length_replicate);go_wp2_with fail;have HSZ:Hid (nsz w≤nsz W1):=I HG.size;refine cm1 (rclone_any W1 u _ hE.ow.rats (by rw[HUN.out];omega)) fun y w1 HY G=>?_
  replace h:=I (h.gr G);replace hE:=I (hE.gr G);replace HG:=HG.tr G;clear u_0;replace HY:=I (HY.low HSZ);have hyn:y.n=T.nonb.length+1:=by have h9:=HY.len Rv.len (by decide);rw[← h9];exact List.length_replicate
  have HYC:Hid ((List.replicate (T.nonb.length+1) Q.zero)[c]?=some Q.zero):=I (List.getElem?_replicate_of_lt (by omega));obtain⟨gy,cy,ey,_⟩:=Own.form HY Rv.len (by decide) HYC;rw[List.length_replicate] at ey;obtain⟨ady,hady⟩:∃ad:Addr,ad=⟨gy,0,none⟩:=⟨_,rfl⟩;rw[← hady] at ey;subst ey;have HADY:=I hady;have hc8:c < 100000:=by omega
  have hc7:(c:Int) < (T.nonb.length:Int)+1:=by omega
  simp only[Sv.v];clear hady hyn;have t_0:=hE.btb.c1;have a_0:=hE.bab.c1;obtain⟨_,_,t2,t3,t4,_,_⟩:=h.cell.c7;go_upto_region 5 with fail;refine wpr ?_;have kc:=I fun W' (G:Gr w1.drew W')=>G.kk t_0 <| ai (G.keep a_0) (G.keep t3)
  refine wg 1 (tf 9 1) [0,1,2,3,4,5,6,7,8] [(6,fun v _=>v=.int .i64 (c:Int)),(7,Rv.At (ofQ 1))] ?_;iterate 6 refine .tk ?_
  refine .dc (fun W1 G1 F1=>?_) ?_
  ·obtain⟨t_0,a_0,t3⟩:=kc.out W1 G1;refine doesAt_en ?_;refine cm0 (tidx_any W1 B aux S.sn T.nonb (h.gr G1.od).n ok.n ) fun w' G=>?_
   exact⟨_,rfl,G,by rw[HO2.out];rfl⟩
  rintro _ ⟨_,-,-,rfl⟩;refine .dk (fun W1 G1 F1=>rof_any W1 1 (by decide) (by decide)) ?_;rintro _ ⟨_,-,-,⟨m,rfl,-⟩⟩;refine .tk ?_;refine .done fun W1 G1 F1=>?_
  have hix:=lh F1 0;have hm:=lh F1 1;replace kc:=kc.out W1 G1;clear F1 t_0 a_0 t3;have GB:=G1.od;replace h:=I (h.gr GB);replace hE:=I (hE.gr GB);replace HY:=I (OwnR.up HY GB);replace HG:=HG.tr GB;have HM:=I (hm.is);clear GB G1 hix hm kc;have HYB:Hid (nsz w≤gy):=I (by have:=(HY.lt gy (by rw[HADY.out];rfl)).1;exact this);clear h;clear hE;obtain⟨cur9,b9⟩:=Own.bk HY (b:=gy) (by (try rw[HADY.out]);rfl);have BK9:=I b9;clear b9;refine wpAny_k 9 fun K hK=>?_
  refine doesAt_wp (K:=fun v W'=>v=undef∧OwnR W' (nsz w) ⟨some ady,T.nonb.length+1,cy⟩ ((List.replicate (T.nonb.length+1) Q.zero).set c (ofQ 1))∧Fr (fun k=>k=gy) W1 W') (doesAt_elA rfl Rv.len HADY.out HY.out c (a0:=Q.zero) HYC.out m (ofQ 1) (by rfl) (by rfl) HM.out (fun W' F p a hp=>Rv.Is.tf' hp F BK9) (by kernel_rfl) (Rv.one _) (fun W' h1 h2=>⟨rfl,h1,h2⟩)) ?_;rintro v w2 ⟨rfl,O2,F2⟩;refine hK.out _ _ ?_;clear hK K;refine ptt ?_;refine wpe ?_;replace HG:=HG.fa F2 HYB;replace HY:=I O2;clear O2 F2 BK9;go_wp2;go_ret;exact⟨⟨some ady,T.nonb.length+1,cy⟩,rfl,by rw[vioT,HO.out,HO2.out];exact HY.rats,HG.out⟩
 ·have hr9:=idxF_lt _ _ HO;rw[Nat.add_zero] at hr9;have hrf:r < T.forms.length:=by rw[← ok.b];exact hr9
  have hr8:r < 100000:=nm hrf ok.m;obtain⟨s,hs⟩:∃s,S.fs[r]?=some s:=⟨_,ge (by rw[h.len];exact hrf)⟩;obtain⟨af,hAf,f0,hrx⟩:=h.f.at hs;have HS:=I hs;have hr7:¬((r:Int) < 0):=by omega
  clear hs;simp only[optI];have t_0:=hE.btb.c1;obtain⟨_,_,t2,t3,t4,_,_⟩:=h.cell.c7;simp only[hAf] at t4;go_wp2;go_ret;exact⟨s,rfl,by rw[vioT,HO.out];exact (h.row _ _ _ HS (rAt_get hrf)).rats,HG.out⟩
theorem tobj_any (w:World) (B t tb:Nat) (S:Ts) (T:Tb) (h:TabIs w B t S T) (hb:Bk w tb 414 #[.pointer (some ⟨t,0,none⟩)]):
  Calls Tryz.prog 305 #[.pointer (some ⟨tb,0,none⟩)] w fun e w'=>∃y:Sv,e=.returned y.v∧Rats w' y T.obj∧Gr w w':=by
 have t_0:=hb.c1;obtain⟨_,_,_,_,_,t5,_⟩:=h.cell.c7;have HG:=I (Gr.refl w);go_enter Tryz.func305,Tryz.ntmps305;go_wp2_with fail;go_ret;exact⟨S.so,rfl,h.o.rats,HG.out⟩
end
end Go.Proofs.YtmhphnljfcncpaaGreatDoor
