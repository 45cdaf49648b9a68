/- Walks of the search and of what it calls, part 16. -/
import Derived.Test.YtbhbainhmfjpdaaGreatDoorMo
set_option linter.unusedSectionVars false
set_option linter.unusedVariables false
set_option linter.unusedSimpArgs false
set_option maxRecDepth 100000
set_option maxHeartbeats 8000000
namespace Go.Proofs.YtbhbainhmfjpdaaGreatDoor
open Go.RowKit
section
variable {C:Cx} {o:Oper} {st:St}
theorem aem {tab:Tab} (hT:ie C.P tab) {t n:Nat} {parts:Array (Nat×Operand)} {l:Lay} {ss:List (List SV)} {xs:List (List PV)} {ts:List Nat} (ho:o.op=.buildSlice t n parts) (hl:tab.get t=some l) (hlay:∃le,tab.get l.elem=some le∧le.zero.length=l.esz) (hs:litL st l.esz parts.toList 0=some ss) (hn:n=parts.size) (hn0:0 < n) (hco:CoLL st ss xs) (hno:ajh st (ft ss)=true) (hok:pn l.esz ts xs) (hk0:0 < l.esz) (hsm:n*l.esz≤16777216) {id:Nat} (hre:st.res id=none) (he:st.tys.contains l.elem=true) (hd:∀d,o.dst=some d→C.dk d):OpE C st.tys o st ⟨.tok id,some (id,.tok l.elem l.esz ts xs),id::ft ss,true⟩:=by
 obtain⟨hu,hsz⟩:=(Tab.get_ok hT hl).elem (Nat.ne_of_gt hk0);obtain⟨le,hle,hlz⟩:=hlay;have lke:=Tab.get_ok hT hle;refine⟨fun i r e=>by injection e with e;injection e with e1 e2;subst e1 e2;exact⟨mf ..,zE.1 he⟩,fun st1 h1 h2 _ a w ⟨B,T,hi⟩=>?_⟩;rw[← h2 id (mf ..)] at hre;have h2':∀i∈ft ss,st1.res i=st.res i:=fun i hi=>h2 i (zC _ hi)
 have agl:∀(ps:List (Nat×Operand)) (n:Nat),(∀p∈ps,p.2∈o.op.operands)→litL st1 l.esz ps n=litL st l.esz ps n:=fun ps=>by
  induction ps with
  | nil=>intro n _;rfl
  | cons p ps ih=>
   intro n hp;obtain⟨j,x⟩:=p;have ag:Agree o [] st st1:=⟨h1,fun i hi=>by cases hi⟩;rw[litL,litL,ag.ev (hp (j,x) (mf ..)),ih (n+1) fun q hq=>hp q (zC _ hq)]
 have hs':=hs;rw[← agl parts.toList 0 fun p hp=>by rw[ho];simp only[Op.operands,List.mem_toArray,List.mem_map];exact⟨p,hp,rfl⟩] at hs';obtain⟨us,g1,g2,g3,g4,g5,g6,g7⟩:=zx hi hs';have hlen:us.length=n:=by rw[g1,g2,hn];simp
 have mv:∀(ss:List (List SV)) (xs:List (List PV)),CoLL st ss xs→(∀i∈ft ss,st1.res i=st.res i)→CoLL st1 ss xs:=fun ss=>by
  induction ss with
  | nil=>intro xs h _;cases xs<;>exact h
  | cons c ss ih=>
   intro xs h hh;cases xs with
   | nil=>exact h.elim
   | cons p xs=>exact⟨h.1.move fun i hi=>hh i (by simp only[ft,List.flatMap_cons,zJ];exact .inl hi),ih xs h.2 fun i hi=>hh i (by simp only[ft,List.flatMap_cons,zJ];exact .inr hi)⟩
 have hco1:=mv ss xs hco h2';have hnt:∀i∈ft ss,∀r,st1.res i≠some r:=fun i hi r hr=>by
  have:=zG.1 hno i hi;rw[← h2' i hi,hr] at this;cases this
 have hrep:=CoLL.rep hi hco1 g1 g3 hnt
 -- the cells
 have fill:∀(ps:List (Nat×Operand)) (m:List Value) (vs:List (List Value)) (r:List Value) (k0:Nat),(∀(i:Nat) (p:Nat×Operand),ps[i]?=some p→p.1=k0+i∧∃u,vs[i]?=some u∧(a.eval p.2).cells=u.toArray)→vs.length=ps.length→(∀u∈vs,u.length=l.esz)→m.length=k0*l.esz→r.length=vs.length*l.esz→
   Instr.fill (fun i=>some (i*l.esz,l.esz)) (m++r).toArray (ps.map fun p=>(p.1,a.eval p.2))=some (m++vs.flatten).toArray:=fun ps=>by
  induction ps with
  | nil=>
   intro m vs r k0 _ hv _ _ hr;obtain rfl:=List.length_eq_zero_iff.1 hv;simp at hr;subst hr;rfl
  | cons p ps ih=>
   intro m vs r k0 hp hv hvl hm hr;cases vs with
   | nil=>simp at hv
   | cons u vs=>
    obtain⟨q1,u',q2,q3⟩:=hp 0 p rfl;simp at q2;subst q2;have hul:=hvl u (mf ..);rw[zW,Nat.add_mul,Nat.one_mul] at hr;simp only[List.map_cons,Instr.fill,q1,Nat.add_zero,q3,List.size_toArray,hul];have hsz2:(m++r).length=k0*l.esz+(vs.length*l.esz+l.esz):=by rw[zI,hm,hr]
    rw[if_neg (by simp only[ne_eq,not_true_eq_false,decide_false,Bool.false_or,de];rw[hsz2];omega)];have hfold:∀(zs:List Value) (k:Nat) (us:List Value),((zs.zipIdx k).foldl (fun (cs:Array Value) (p:Value×Nat)=>cs.setIfInBounds (k0*l.esz+p.2) p.1) us.toArray)=(spl us (k0*l.esz+k) zs).toArray:=by
     intro zs
     induction zs with
     | nil=>intro k us;rfl
     | cons v zs ih2=>
      intro k us;rw[spl,Nat.add_assoc,← ih2,List.zipIdx_cons,List.foldl_cons];simp
    have h8:=hfold u 0 (m++r);rw[Nat.add_zero,← hm] at h8;have h9:=a32 u m (r.take l.esz) (r.drop l.esz) (by rw[List.length_take,hul];omega);rw[List.take_append_drop] at h9;rw[h9] at h8;rw[← Array.foldl_toList,Array.toList_zipIdx];rw[hm] at h8;rw[h8,← List.append_assoc];have:=ih (m++u) vs (r.drop l.esz) (k0+1) (fun i p hp2=>by
     obtain⟨z1,z,z2,z3⟩:=hp (i+1) p (by simpa using hp2);exact⟨by omega,z,by simpa using z2,z3⟩) (by simpa using hv) (fun z hz=>hvl z (zC _ hz)) (by rw[zI,hm,hul,Nat.add_mul,Nat.one_mul]) (by rw[List.length_drop,hr];omega)
    rw[this,List.flatten_cons,List.append_assoc]
 have hz:=lke.zero;have run:(execOp a.eval o).run C.P w=.ok (.value (.slice (some ⟨w.heap.size,0,none⟩) n n)) (w.alloc (.cells us.flatten.toArray l.elem)):=by
  have hle24:¬n*l.esz > 2 ^ 24:=by omega
  have hfl:=fun (zs:Array Value)=>fill parts.toList [] us ((Array.range (n*l.esz)).map (fun x=>zs[x % zs.size]!)).toList 0 (fun i p hp=>by
   obtain⟨z1,z,z2,z3⟩:=g7 i p hp;exact⟨z1,z,z2,z3⟩) (by rw[g1,g2]) g5 (by simp) (by simp[hlen])
  simp only[zX,Array.toArray_toList] at hfl;have hpm:(parts.map fun x=>match x with | (i,x)=>(i,a.eval x)).toList=parts.toList.map fun p=>(p.1,a.eval p.2):=by rw[Array.toList_map]
  simp only[execOp,ho,Instr.buildSlice,Sem.run_bind,run_underlying hu,Result.andThen_ok,ke hsz,if_neg hle24];have h0:¬n*l.esz=0:=Nat.ne_of_gt (Nat.mul_pos hn0 hk0);have:=hfl (Value.cells (if le.agg then .agg (le.zero.map Zk.val).toArray else (le.zero.map Zk.val).headD undef));simp only[if_neg h0,Sem.run_bind,a34 hz,Result.andThen_ok,Sem.run_pure,hpm,this];rfl
 refine cd run ?_;have hfl2:=jo g5;have hk1:n≤n*l.esz:=Nat.le_mul_of_pos_right n hk0;refine a05 (y:=⟨some ⟨w.heap.size,0,none⟩,n,n⟩) (us:=us) (own:=none) hi (fun r hr=>by rw[hre] at hr;cases hr) (fun _=>rfl) ⟨rfl,rfl,rfl,by simp,fun k hk _=>Below.heap_alloc w _ k hk⟩ ⟨by rw[hfl2,hlen],.inr ⟨w.heap.size,n,us.flatten.toArray,rfl,nq _,heap_alloc_new w _,nr _,by (show n≤maxLen);(unfold maxLen);omega,by rw[List.size_toArray,hfl2,hlen],by (show us.flatten.take _=us.flatten);exact List.take_of_length_le (by rw[hfl2,hlen];exact nr _)⟩⟩ (.inr (.inl rfl)) hrep hok (by rw[← hlen,hrep.len]) hk0 hd
end
section
variable {T:List Nat} {Z:Nat} {D:Dom Tryz.prog T Z} {N:Nat} {st:St} {Q:Exit→St→Prop} {ops:List Oper} {draw:Bool} {acc:List Itm}
theorem rlk0 {k:Nat} {ks:List Nat} {dst:Option Nat} {t n:Nat} {parts:Array (Nat×Operand)} {ty:TypeId} {ps:String} {af:Array Edge} {gd:Option (Nat×Bool)} {l:Lay} {ss:List (List SV)} {xs:List (List PV)} (id:Nat) (hre:st.res id=none) (hk:nthL ops k=some ⟨dst,.buildSlice t n parts,ty,ps,af,gd⟩) (hw:co ops.toArray ⟨dst,.buildSlice t n parts,ty,ps,af,gd⟩ st=some true) (hd:dstB ⟨dst,.buildSlice t n parts,ty,ps,af,gd⟩ N Z=true) (hl:tab.get t=some l) (hs:litL st l.esz parts.toList 0=some ss) (hco:t7 st ss=some xs) (hc:litB tab st l n parts ss xs=true) (he:st.tys.contains l.elem=true)
  (next:Reg (D.cx N) ops draw Q (acc++[⟨k,true,(⟨.tok id,some (id,.tok l.elem l.esz l.ets xs),id::ft ss,true⟩:Eff),lkOf ops k st ((⟨.tok id,some (id,.tok l.elem l.esz l.ets xs),id::ft ss,true⟩:Eff))⟩]) ks ((⟨.tok id,some (id,.tok l.elem l.esz l.ets xs),id::ft ss,true⟩:Eff).app dst st)):Reg (D.cx N) ops draw Q acc (k::ks) st:=by
 unfold litB at hc;simp only[be] at hc;obtain⟨⟨⟨⟨⟨⟨h1,h2⟩,h3⟩,h4⟩,h5⟩,h6⟩,h7⟩:=hc;refine dh hk hw hd (fun hd=>aem (id:=id) (tab:=tab) ah rfl hl ?_ hs (zF h1) (zD h2) (r8 hco) h5 (qe h6) (zD h3) (zD h4) hre he hd) next;split at h7
 ·rename_i le hle
  exact⟨le,hle,zF h7⟩
 ·cases h7
end
theorem PCalls.nil {P:Program} {Tg:List Nat} {f:FuncId} {pre post:List PV} {e k:Nat} {ts:List Nat} {res:PV} (h:PCalls P Tg f (pre++.rows e k ts []::post) res):PCalls P Tg f (pre++.raw (.slice none 0 0)::post) res:=by
 refine⟨h.1,fun w X us h1 h2 h3=>h.2 w X us h1 h2 ?_⟩;have key:∀(pre:List PV) (us:List Value),PV.RepL w X (pre++.raw (.slice none 0 0)::post) us→PV.RepL w X (pre++.rows e k ts []::post) us:=fun pre=>by
  induction pre with
  | nil=>
   intro us h;rw[zX,PV.RepL] at h;obtain⟨u,us',rfl,g1,g2⟩:=h;rw[PV.Rep] at g1;subst g1;refine PV.RepL.cons ?_ g2;rw[PV.Rep];exact⟨Sv.none,[],rfl,rfl,Sv.Is.none w k,(fun ad h=>by cases h),(fun ad h=>by cases h),by rw[PV.RepLL],fun r hr=>by cases hr⟩
  | cons p pre ih=>
   intro us h;rw[zY,PV.RepL] at h;obtain⟨u,us',rfl,g1,g2⟩:=h;exact PV.RepL.cons g1 (ih us' g2)
 exact key pre us h3
theorem mh {d:Dc} {k m:Int} (e:(d.kind == k)=true) (h:oppK k=m) (h2:(decide (0 < k)&&decide (k < 5))=true):dcP ⟨m,d.index,d.at_⟩=dcP (oppD d):=by
 have e:=eq_of_beq e;subst e;unfold oppD;rw[h2,h];rfl
theorem a8l {d:Dc} (e1:(d.kind == 1)=false) (e2:(d.kind == 2)=false) (e3:(d.kind == 3)=false) (e4:(d.kind == 4)=false):dcP d=dcP (oppD d):=by
 unfold oppD;have e1:=ne_of_beq_false e1;have e2:=ne_of_beq_false e2;have e3:=ne_of_beq_false e3;have e4:=ne_of_beq_false e4;cases h:decide (0 < d.kind)&&decide (d.kind < 5) with
 | false=>rfl
 | true=>
  simp only[be,de] at h;omega
theorem ao8 (d:Dc):PCalls Tryz.prog [] 144 [dcP d] (dcP (oppD d)):=by
 refine pcA [42] Tryz.func144 (fun D=>?_);refine a2 (fun e5=>?_) (fun e5=>?_)
 ·exact ar (c:=mh e5 rfl rfl)
 ·refine a2 (fun e8=>?_) (fun e8=>?_)
  ·exact ar (c:=mh e8 rfl rfl)
  ·refine a2 (fun e11=>?_) (fun e11=>?_)
   ·exact ar (c:=mh e11 rfl rfl)
   ·refine a2 (fun e14=>?_) (fun e14=>?_)
    ·exact ar (c:=mh e14 rfl rfl)
    ·exact ar (c:=a8l e5 e8 e11 e14)
theorem PthU.ne {l:List Dc} (h:PthU l) {i k:Nat} (hk:k < i) (hi:i < l.length):(atZ l (i:Int)).index≠(atZ l (k:Int)).index:=fun e=>by
 have hn:=List.pairwise_iff_getElem.1 h.nd k i (by rw[zB];exact nm hk hi) (by rw[zB];exact hi) hk;rw[List.getElem_map,List.getElem_map] at hn;rw[bm (ge hi),bm (ge (nm hk hi))] at e;exact hn e.symm
theorem a8z:PCalls Tryz.prog [] 151 [.agg [bP false,.nat 0,.nat 0],.agg [bP false,.nat 0,.nat 0]] (bP true):=by
 have:=a1d (x:=Q.zero) (y:=Q.zero);rwa [dt rfl] at this
theorem a99 {j:Nat} (h:j < 8):PCalls Tryz.prog [] 193 [dcP ⟨1,(j:Int),⟨false,0,0⟩⟩] (bP true):=by
 refine pcA [42] Tryz.func193 (fun D=>?_);refine akT (c:=by exact (show _=true from rfl)) ?_;refine akT (c:=by exact (show decide ((j:Int)≥0)=true from dt om)) ?_;refine akT (c:=by exact (show decide ((j:Int) < 1024)=true from dt om)) ?_;refine ac (c:=a8z) ?_;exact ar (c:=rfl)
theorem a98 {j:Nat} (h:j < 8):PCalls Tryz.prog [] 193 [dcP ⟨2,(j:Int),⟨false,0,0⟩⟩] (bP true):=by
 refine pcA [42] Tryz.func193 (fun D=>?_);refine akF (c:=by exact (show _=false from rfl)) ?_;refine akT (c:=by exact (show _=true from rfl)) ?_;refine akT (c:=by exact (show decide ((j:Int)≥0)=true from dt om)) ?_;refine akT (c:=by exact (show decide ((j:Int) < 1024)=true from dt om)) ?_;refine ac (c:=a8z) ?_;exact ar (c:=rfl)
theorem adj {d:Dc} (h:d.Un):PCalls Tryz.prog [] 193 [dcP d] (bP true):=by
 obtain⟨k,x,q⟩:=d;obtain⟨j,hj,h8⟩:=h.idx;have h1:q=⟨false,0,0⟩:=h.at_;have h2:k=1∨k=2:=h.kind;have hj:x=(j:Int):=hj;subst h1 hj;rcases h2 with rfl | rfl
 ·exact a99 h8
 ·exact a98 h8
theorem ale {d:Dc} (h:d.Un):PCalls Tryz.prog [] 232 [dcP d] (.tup [.agg [iP d.index,bP (d.kind == 1)],bP true]):=by
 refine pcA [42,322] Tryz.func232 (fun D=>?_);refine a2 (fun e7=>?_) (fun e7=>?_)
 ·refine a2 (fun e11=>?_) (fun e11=>?_)
  ·exfalso;rcases h.kind with k | k<;>simp_all
  ·exact ar (c:=rfl)
 ·exact ar (c:=rfl)
theorem ahw {l:List Dc} (h:PthU l):PCalls Tryz.prog [] 194 [dcsP l] (bP false):=by
 have h9:=h.len;refine pcA [322] Tryz.func194 (fun D=>?_);refine au ?_;refine pl (ι:={i:Nat // i≤l.length}) (fun i=>[(0,.pv (dcsP l)),(3,.pv (iP (i.1:Int)))]) (fun i=>[]) [322] (fun i=>l.length - i.1) ⟨0,nq _⟩ (ai Y (ai Y trivial)) trivial (fun _=>rfl) ?_;intro ⟨i,hi0⟩;refine a2 (fun e12=>?_) (fun e12=>?_)
 ·have hi:i < l.length:=dw e12;refine ax (c:=(ae (ab hi))) ?_;refine ac (c:=ale (h.un _ (mg (ab hi)))) ?_;refine au ?_;refine pl (ι:={k:Nat // k≤i}) (fun k=>[(0,.pv (dcsP l)),(3,.pv (iP (i:Int))),(4,.box 4 0),(5,.pv (bP true)),(6,.pv (iP (k.1:Int)))]) (fun k=>[(4,.box 322 [.pv (iP (atZ l (i:Int)).index),.pv (bP ((atZ l (i:Int)).kind == 1))])]) [322] (fun k=>i - k.1) ⟨0,nq _⟩ (ai Y (ai Y (ai Y (ai Y (ai Y trivial))))) (ai Y trivial) (fun _=>rfl) ?_;intro ⟨k,hk0⟩;refine a2 (fun e25=>?_) (fun e25=>?_)
  ·have hk:k < i:=by have g:(k:Int) < (i:Int):=zK e25;omega
   refine ax (c:=(ae (ab (nm hk hi)))) ?_;refine ac (c:=ale (h.un _ (mg (ab (nm hk hi))))) ?_;refine akF (c:=by exact (beq_false_of_ne (h.ne hk hi))) ?_;refine aa (c:=a8 (by show k≤_;omega)) ?_;refine au ?_;exact pe ⟨k+1,hk⟩ (ai Y (ai Y (ai Y (ai Y (ai Y trivial))))) (ai Y trivial) Y (by show i - (k+1) < i - k;omega)
  ·have hki:i≤k:=by have g:¬(k:Int) < (i:Int):=zM e25;omega
   refine aa (c:=a8 (by show i≤_;omega)) ?_;refine au ?_;exact pe ⟨i+1,hi⟩ (ai Y (ai Y trivial)) trivial Y (by show l.length - (i+1) < l.length - i;omega)
 ·exact ar (c:=rfl)
theorem a53 {l:List Dc} {d:Dc} (h:PthU (l++[d])):PCalls Tryz.prog [] 150 [dcsP l,dcP d] (.tup [dcsP (l++[d]),iP 0]):=by
 have h9:=h.len;have ha:l.map dcC++[dcC d]=(l++[d]).map dcC:=by rw[zN];rfl
 refine pcA [42] Tryz.func150 (fun D=>?_);refine au ?_;refine rp0 el_Decision ((by rw[zI] at h9;simp;omega)) Y Y Y Y Y Y Y Y ?_;refine au ?_;refine rp0 el_Decision ((by rw[zI] at h9;simp;omega)) Y Y Y Y Y Y Y Y ?_;refine au ?_;refine pfz 8 Y ?_;refine pl (ι:={i:Nat // i≤(l++[d]).length}) (fun i=>[(6,.pv (dcsP (l++[d]))),(7,.pv (iP (i.1:Int)))]) (fun i=>[]) [42] (fun i=>(l++[d]).length - i.1) ⟨0,nq _⟩ (ai (congrArg (fun x=>some (SV.pv (.rows _ _ _ x))) ha) (ai Y trivial)) trivial (fun _=>rfl) ?_;intro ⟨i,hi0⟩;refine a2 (fun e17=>?_) (fun e17=>?_)
 ·have hi:i < (l++[d]).length:=dw e17;refine ax (c:=(ae (ab hi))) ?_;refine ac (c:=adj (h.un _ (mg (ab hi)))) ?_;refine aa (c:=a8 (by show i≤_;omega)) ?_;refine au ?_;exact pe ⟨i+1,hi⟩ (ai Y (ai Y trivial)) trivial Y (by show (l++[d]).length - (i+1) < (l++[d]).length - i;omega)
 ·refine ac (c:=ahw h) ?_;refine akF (c:=by exact (df (by rw[zB];omega))) ?_;exact ar (c:=rfl)
theorem ada {q:Qr} {path:List Dc} {d:Dc} {x y:Nd} {s:Nat} {cx cy m:Int} (hq:q.Va s) (hu:d.Un) (hf:cz q d=true) (h1:PthU (path++[d])) (h2:PthU (path++[oppD d])) (ha:(∀m:Int,cx≤m→m≤5000→PCalls Tryz.prog TF 94 [scP ⟨q,path++[d],[]⟩,.agg (ndX x),iP m] (.tup [bP true,iP (m - cx)]))) (hb:(∀m:Int,cy≤m→m≤5000→PCalls Tryz.prog TF 94 [scP ⟨q,path++[oppD d],[]⟩,.agg (ndX y),iP m] (.tup [bP true,iP (m - cy)]))) (hx:0≤cx) (hy:0≤cy) (h:1+cx+cy≤m) (h5:m≤5000):PCalls Tryz.prog TF 94 [scP ⟨q,path,[]⟩,.agg [lmsP [],iP d.kind,iP d.index,bP d.at_.neg,.nat d.at_.num,.nat d.at_.den,.rows 46 9 ndT [ndX x,ndX y],bP false,mmsP []],iP m] (.tup [bP true,iP (m - (1+cx+cy))]):=by
 refine pcA [85,46] Tryz.func94 (fun D=>?_);refine aa (c:=da om om dx dx) ?_;refine akF (c:=by exact (df om)) ?_;refine au ?_;refine pul 1 ?_;refine pur ?_;refine akF (c:=by exact (show _=false from rfl)) ?_;refine akF (c:=by exact (show _=false from rfl)) ?_;refine ac (c:=a53 h1) ?_;refine ac (c:=ao8 d) ?_;refine ac (c:=a53 h2) ?_;refine akF (c:=by exact (show _=false from rfl)) ?_;refine akF (c:=by exact (show _=false from rfl)) ?_;refine akF (c:=by exact (show _=false from rfl)) ?_;refine akF (c:=by exact (show _=false from rfl)) ?_;refine ac (c:=(show PCalls Tryz.prog TU 93 [qyP q,dcP d] (bP true) from by have:=alk hq (d:=d) (n:=1) (by rw[hu.at_];exact sz_zero) dx;rwa [hf] at this)) ?_;refine au ?_;refine ro0 Y Y Y (fun hd=>cg (i:=0) ah Y Y Y Y Y dx Y Y hd) ?_;refine ac (c:=ha (m - 1) om om) ?_;refine au ?_;refine ro0 Y Y Y (fun hd=>cg (i:=1) ah Y Y Y Y Y dx Y Y hd) ?_;refine ac (c:=hb (m - 1 - cx) om om) ?_;exact ar (c:=(by rw[show m - (1+cx+cy)=m - 1 - cx - cy from by omega]))
def sgnR (s:Bool) (a:Nat):Rat:=bif s then -(a:Rat) else (a:Rat)
def Q.r (q:Q):Rat:=sgnR q.neg q.num / (q.un:Rat)
theorem a1w {n:Nat} (h:0 < n):(n:Rat)≠0:=by
 have:n≠0:=by omega
 exact_mod_cast this
theorem Q.un_ne (q:Q):(q.un:Rat)≠0:=a1w q.un_pos
theorem iv (s:Bool):sgnR s 0=0:=by cases s<;>simp[sgnR]
theorem acu (s t:Bool) (a b:Nat):sgnR (s != t) (a*b)=sgnR s a*sgnR t b:=by
 cases s<;>cases t<;>simp only[sgnR,bne_self_eq_false,cond_true,cond_false,Rat.natCast_mul,Bool.true_bne,Bool.false_bne,Bool.not_false,Bool.not_true,bne]<;>first | grind | (simp;grind)
theorem a1g (s:Bool) (a:Nat) {b:Nat} (hb:0 < b):(quot s a b).r=sgnR s a / (b:Rat):=by
 unfold quot;split
 ·rename_i h0
  subst h0;rw[iv];show sgnR false 0 / _=_;rw[iv];grind
 ·rename_i h0
  have hg:=Nat.gcd_pos_of_pos_left b (Nat.pos_of_ne_zero h0);obtain⟨x,hx⟩:=Nat.gcd_dvd_left a b;obtain⟨y,hy⟩:=Nat.gcd_dvd_right a b;generalize Nat.gcd a b=g at*;subst hx hy;have hd2:0 < (g*y) / g:=by
   rw[Nat.mul_div_cancel_left _ hg];rcases Nat.eq_zero_or_pos y with h1 | h1
   ·rw[h1,Nat.mul_zero] at hb;omega
   ·exact h1
  unfold Q.r;rw[aby _ _ _ hd2];simp only;rw[Nat.mul_div_cancel_left _ hg,Nat.mul_div_cancel_left _ hg] at*;have hyr:=a1w hd2;have hgr:=a1w hg;cases s<;>simp only[sgnR,cond_true,cond_false,Rat.natCast_mul]<;>grind
theorem al1 (na:Bool) (a:Nat) (nb:Bool) (b:Nat):sgnR (sadd na a nb b).1 (sadd na a nb b).2=sgnR na a+sgnR nb b:=by
 unfold sadd;split
 ·rename_i h
  subst h;rcases Nat.eq_zero_or_pos (a+b) with h0 | h0
  ·have ha:a=0:=by omega
   have hb:b=0:=by omega
   subst ha hb;rw[iv,iv];grind
  ·rw[dt h0,Bool.and_true];cases na<;>simp only[sgnR,cond_true,cond_false,Rat.natCast_add]<;>grind
 ·rename_i h
  split
  ·rename_i hl
   obtain⟨c,rfl⟩:=Nat.exists_eq_add_of_le (Nat.le_of_lt hl);rw[Nat.add_sub_cancel_left];cases na<;>cases nb<;>simp only[sgnR,cond_true,cond_false,Rat.natCast_add]<;>first | grind | exact absurd rfl h
  ·rename_i hl
   obtain⟨c,rfl⟩:=Nat.exists_eq_add_of_le (Nat.le_of_not_lt hl);rw[Nat.add_sub_cancel_left];rcases Nat.eq_zero_or_pos c with h0 | h0
   ·subst h0;cases na<;>cases nb<;>simp[sgnR]<;>first | grind | exact absurd rfl h
   ·rw[dt h0,Bool.and_true];cases na<;>cases nb<;>simp only[sgnR,cond_true,cond_false,Rat.natCast_add]<;>first | grind | exact absurd rfl h
theorem sg_r (x:Q) {a:Nat} {k:Nat} (ha:a=x.num*k):sgnR (x.sg&&decide (0 < a)) a=sgnR x.neg a:=by
 rcases Nat.eq_zero_or_pos a with h0 | h0
 ·rw[h0,iv,iv]
 ·have:0 < x.num:=by
   rcases Nat.eq_zero_or_pos x.num with h1 | h1
   ·rw[ha,h1,Nat.zero_mul] at h0;omega
   ·exact h1
  unfold Q.sg;rw[dt h0,dt this,Bool.and_true,Bool.and_true]
theorem a8d (s:Bool) (a k:Nat):sgnR s (a*k)=sgnR s a*(k:Rat):=by cases s<;>simp only[sgnR,cond_true,cond_false,Rat.natCast_mul]<;>grind
theorem Q.add_r (x y:Q):(Q.add x y).r=x.r+y.r:=by
 unfold Q.add;simp only;rw[a1g _ _ (Nat.mul_pos x.un_pos y.un_pos),al1,sg_r x rfl,sg_r y rfl,a8d,a8d];have h1:=x.un_ne;have h2:=y.un_ne;unfold Q.r;rw[Rat.natCast_mul]
 grind
theorem Q.mul_r (x y:Q):(Q.mul x y).r=x.r*y.r:=by
 unfold Q.mul;rw[a1g _ _ (Nat.mul_pos x.un_pos y.un_pos),acu];have h1:=x.un_ne;have h2:=y.un_ne;unfold Q.r;rw[Rat.natCast_mul]
 grind
theorem Q.neg_r (x:Q):x.neg'.r=-x.r:=by
 show (quot (!x.neg) x.num x.un).r=_;rw[a1g _ _ x.un_pos];have h1:=x.un_ne;unfold Q.r;cases x.neg<;>simp only[sgnR,cond_true,cond_false,Bool.not_true,Bool.not_false]<;>grind
theorem a49:Q.zero.r=0:=by
 show sgnR false 0 / _=_;rw[iv];grind
theorem a1r:Q.one.r=1:=by
 show sgnR false 1 / ((1:Nat):Rat)=_;simp only[sgnR,cond_false];grind
theorem yb:Q.mone.r=-1:=by
 show sgnR true 1 / ((1:Nat):Rat)=_;simp only[sgnR,cond_true];grind
theorem Q.div_r (x y:Q) (h:y.num≠0):(Q.div x y).r=x.r / y.r:=by
 unfold Q.div;rw[a1g _ _ (Nat.mul_pos x.un_pos (Nat.pos_of_ne_zero h)),a8d];have h1:=x.un_ne;have h2:=y.un_ne;have h3:=a1w (Nat.pos_of_ne_zero h);unfold Q.r;rw[Rat.natCast_mul];cases x.neg<;>cases y.neg<;>simp only[sgnR,cond_true,cond_false,bne_self_eq_false,Bool.true_bne,Bool.false_bne,Bool.not_false,Bool.not_true,bne,beq_self_eq_true]<;>first | grind | (simp;grind)
theorem anj {q:Q} {D:Nat} {z:Int} (h:q.Ok) (hD:0 < D) (he:q.r*(D:Rat)=(z:Rat)):q.num≤z.natAbs∧q.un≤D:=by
 have hu:=q.un_ne;have e1:sgnR q.neg q.num*(D:Rat)=(z:Rat)*(q.un:Rat):=by
  unfold Q.r at he
  grind
 have e2:sgnR q.neg q.num=(((bif q.neg then -(q.num:Int) else (q.num:Int)):Int):Rat):=by
  have ec:((q.num:Int):Rat)=(q.num:Rat):=Rat.intCast_natCast _;cases q.neg<;>simp only[sgnR,cond_true,cond_false]
  ·exact ec.symm
  ·rw[Rat.intCast_neg,ec]
 rw[e2] at e1;have e3:(bif q.neg then -(q.num:Int) else (q.num:Int))*(D:Int)=z*(q.un:Int):=by exact_mod_cast e1
 have e4:q.num*D=z.natAbs*q.un:=by
  have:=congrArg Int.natAbs e3;rw[Int.natAbs_mul,Int.natAbs_mul] at this;cases hn:q.neg<;>rw[hn] at this<;>simpa using this
 have hc:Nat.Coprime q.un q.num:=by rw[Nat.coprime_comm];exact h.cop
 have hdvd:q.un ∣ D:=hc.dvd_of_dvd_mul_left (show q.un ∣ q.num*D from ⟨z.natAbs,by rw[e4,Nat.mul_comm]⟩);refine⟨?_,Nat.le_of_dvd hD hdvd⟩;obtain⟨e,rfl⟩:=hdvd;have he0:0 < e:=by
  rcases Nat.eq_zero_or_pos e with g | g
  ·rw[g] at hD;simp at hD
  ·exact g
 have e5:q.num*e=z.natAbs:=by
  apply Nat.eq_of_mul_eq_mul_right q.un_pos
  rw[← e4,zO,Nat.mul_comm e]
 rw[← e5];exact Nat.le_mul_of_pos_right _ he0
structure Q.Dz (q:Q) (D M:Nat):Prop where
 ok:q.Ok
 ex:∃z:Int,q.r*(D:Rat)=(z:Rat)∧z.natAbs≤M
theorem Q.Dz.S {q:Q} {D M:Nat} (h:q.Dz D M) (hD:0 < D) (hD9:D < 18446744073709551616) (hM:M < 18446744073709551616):q.S 2:=by
 obtain⟨z,hz,hm⟩:=h.ex;obtain⟨h1,h2⟩:=anj h.ok hD hz;have hb:∀n,n < 18446744073709551616→(a7 n).length≤2:=fun n hn=>b8 (k:=2) (by rw[show B32 ^ 2=18446744073709551616 from rfl];exact hn)
 exact⟨hb _ om,hb _ om,h.ok⟩
theorem qr {q:Q} (h:q.num=0):q.r=0:=by unfold Q.r;rw[h,iv];grind
theorem r_ne {q:Q} (h:q.num≠0):q.r≠0:=by
 have h1:=q.un_ne;have h2:=a1w (Nat.pos_of_ne_zero h);unfold Q.r;cases q.neg<;>simp only[sgnR,cond_true,cond_false]<;>grind
theorem zg {q:Q} (h:q.neg=false) (h0:0 < q.num):0 < q.r:=by
 unfold Q.r;rw[h];simp only[sgnR,cond_false];have h1:(0:Rat) < (q.num:Rat):=by exact_mod_cast h0
 have h2:(0:Rat) < (q.un:Rat):=by exact_mod_cast q.un_pos
 rw[Rat.div_def];exact Rat.mul_pos h1 (Rat.inv_pos.2 h2)
theorem ah3 {q:Q} (h:0 < sgQ q):0 < q.r:=by
 obtain⟨h1,h2⟩:=a04 (q:=q) om;exact zg h1 h2
theorem ab9 {q:Q} (h:sgQ q < 0):q.r < 0:=by
 have h2:q.neg=true∧0 < q.num:=by
  unfold sgQ isg at h;split at h
  ·omega
  ·cases hn:q.neg<;>rw[hn] at h<;>simp at h
   exact⟨rfl,by omega⟩
 have:=zg (q:=⟨false,q.num,q.den⟩) rfl h2.2;unfold Q.r at this ⊢;rw[show (Q.mk false q.num q.den).un=q.un from rfl] at this;rw[h2.1];simp only[sgnR,cond_true,cond_false] at*
 grind
def evT (k:Int→Rat):List Tm→Rat
 | []=>0
 | t::l=>t.2.r*k t.1+evT k l
def Fm.ev (k:Int→Rat) (c:Rat) (f:Fm):Rat:=evT k f.terms+c*f.const.r
theorem a0j (k:Int→Rat):∀(a b:List Tm),evT k (a++b)=evT k a+evT k b
 | [],b=>by rw[zX,evT];grind
 | t::a,b=>by rw[zY,evT,evT,a0j k a b];grind
theorem a5o (k:Int→Rat) (v:Int) (q:Q):evT k (one' v q)=q.r*k v:=by
 unfold one';split
 ·rename_i h;rw[evT,qr h];grind
 ·rw[evT,evT];grind
theorem abb (k:Int→Rat) (v:Int) (q:Q):∀(l:List Tm),evT k (insT v q l)=evT k l+q.r*k v
 | []=>by rw[insT,a5o,evT];grind
 | t::r=>by
  rw[insT];split
  ·rename_i h
   rw[a0j,a5o,evT,Q.add_r,h];grind
  ·split
   ·rw[a0j,a5o];grind
   ·rw[evT,abb k v q r,evT];grind
theorem acd (k:Int→Rat):∀(y acc:List Tm),Srt' y→Nz y→Srt' acc→Nz acc→evT k (addT acc y)=evT k acc+evT k y
 | [],acc,_,_,_,_=>by rw[addT,evT];grind
 | t::r,acc,hy,ny,ha,na=>by
  have ht:=ny t (mf ..);have e:kh acc t.1 t.2=insT t.1 t.2 acc:=by
   have:=sd (v:=t.1) ht.1 acc [] ha na;rwa [zX] at this
  rw[addT,e,acd k r _ (List.pairwise_cons.1 hy).2 (fun x hx=>ny x (zC _ hx)) (a09 ha) (a3q ht.1 na),abb,evT]
  grind
theorem a13 (k:Int→Rat) (q:Q):∀(y acc:List Tm),evT k (eb q acc y)=evT k acc+evT k y*q.r
 | [],acc=>by rw[eb,evT];grind
 | t::r,acc=>by
  rw[eb,a13 k q r,ja,a0j,a5o,Q.mul_r,evT];grind
section
variable {k:Int→Rat} {c:Rat} {f g:Fm}
theorem Fm.Cn.ev_add (h:f.Cn) (h':g.Cn):(Fm.addR f g).ev k c=f.ev k c+g.ev k c:=by
 show evT k (addT f.terms g.terms)+c*(Q.add f.const g.const).r=_;rw[acd k _ _ h'.srt h'.nz h.srt h.nz,Q.add_r];unfold Fm.ev;grind
theorem r6 (q:Q):(Fm.scaleR f q).ev k c=f.ev k c*q.r:=by
 show evT k (eb q [] f.terms)+c*(Q.mul f.const q).r=_;rw[a13,Q.mul_r,evT];unfold Fm.ev;grind
theorem Fm.Cn.subR (h:f.Cn) (h':g.Cn):(Fm.subR f g).Cn:=h.addR h'.scaleR
theorem Fm.Cn.ev_sub (h:f.Cn) (h':g.Cn):(Fm.subR f g).ev k c=f.ev k c - g.ev k c:=by
 unfold Fm.subR;rw[h.ev_add h'.scaleR,r6,yb];grind
theorem yh (v:Int):(varR v).ev k c=k v:=by
 show evT k [(v,Q.one)]+c*Q.zero.r=_;rw[evT,evT,a1r,a49];grind
theorem a6c (q:Q):(numR q).ev k c=c*q.r:=by
 show evT k []+c*q.r=_;rw[evT];grind
theorem a0i:Fm.zero.ev k c=0:=by
 show evT k []+c*Q.zero.r=_;rw[evT,a49];grind
end
theorem anf:∀(l:List Tm),evT (fun _=>0) l=0
 | []=>rfl
 | t::l=>by rw[evT,anf l];grind
theorem afk (f:Fm):f.ev (fun _=>0) 1=f.const.r:=by unfold Fm.ev;rw[anf];grind
theorem akb:∀{l:List Tm},Srt' l→Nz l→(∀k,evT k l=0)→l=[]
 | [],_,_,_=>rfl
 | t::l,hs,hn,h=>by
  exfalso
  have e:∀(r:List Tm),(∀u∈r,t.1 < u.1)→evT (fun v=>if v=t.1 then 1 else 0) r=0:=fun r=>by
   induction r with
   | nil=>intro _;rfl
   | cons u r ih=>
    intro hu;have:=hu u (mf ..);rw[evT,ih (fun x hx=>hu x (zC _ hx)),if_neg om];grind
  have h1:=h (fun v=>if v=t.1 then 1 else 0);rw[evT,e l (List.pairwise_cons.1 hs).1,if_pos rfl] at h1;exact r_ne (hn t (mf ..)).2 (by grind)
theorem xf (q:Q):(ci q).r=q.r:=a1g _ _ q.un_pos
def valM (k:Rw→Rat):List Mm→Rat
 | []=>0
 | m::l=>m.2.r*k m.1+valM k l
theorem jv (k:Rw→Rat):∀(a b:List Mm),valM k (a++b)=valM k a+valM k b
 | [],b=>by rw[zX,valM];grind
 | m::a,b=>by rw[zY,valM,valM,jv k a b];grind
theorem adt (k:Rw→Rat) (l:List Mm) (r:Rw) (c:Q):valM k (ku l r c)=valM k l+c.r*k r:=by
 unfold ku;cases hz:sgQ c == 0 with
 | true=>
  have h0:c.num=0:=by
   have:=eq_of_beq hz;unfold sgQ isg at this;split at this
   ·assumption
   ·cases hn:c.neg<;>rw[hn] at this<;>simp at this
  rw[cond_true,qr h0];grind
 | false=>
  rw[cond_false];have e1:∀(x:Mm),valM k [x]=x.2.r*k x.1:=fun x=>by rw[valM,valM];grind
  cases hh:decide ((posR r l:Int) < (l.length:Int))&&jr (atZ l (posR r l:Int)).1 r with
  | true=>
   rw[be] at hh;have hi:posR r l < l.length:=by have:=zK hh.1;omega
   have he:(atZ l (posR r l:Int)).1=r:=by have:=hh.2;rw[z8] at this;exact zK this
   generalize posR r l=i at*;have hl:l=l.take i++[atZ l (i:Int)]++l.drop (i+1):=by
    rw[bm (ge hi),List.append_assoc,List.singleton_append,← zQ hi,List.take_append_drop]
   rw[cond_true,jv,jv,e1]
   conv=>rhs;rw[hl]
   rw[jv,jv,e1,he];simp only;rw[Q.add_r];grind
  | false=>
   rw[cond_false,jv,jv,e1]
   conv=>rhs;rw[← List.take_append_drop (posR r l) l]
   rw[jv];simp only;rw[xf];grind
theorem wt (k:Rw→Rat) (c:Q):∀(b a:List Mm),valM k (fq c a b)=valM k a+c.r*valM k b
 | [],a=>by rw[fq,valM];grind
 | m::b,a=>by rw[fq,wt k c b,adt,valM,Q.mul_r];grind
def kR (k:Int→Rat) (c:Rat) (s:Sc) (r:Rw):Rat:=(bo s r).1.ev k c
abbrev kC (s:Sc) (r:Rw):Rat:=kR (fun _=>0) 1 s r
theorem pq (k:Int→Rat) (c:Rat) {s:Sc} {a b:Nat} (hs:s.Va a b):∀{l:List Mm} {acc f:Fm},acc.Cn→eu s l acc=some f→f.Cn∧f.ev k c=acc.ev k c+valM (kR k c s) l
 | [],acc,f,hc,h=>by rw[eu] at h;injection h with h;subst h;rw[valM];exact⟨hc,by grind⟩
 | m::l,acc,f,hc,h=>by
  rw[eu] at h;cases hf:(bo s m.1).2 with
  | false=>rw[hf] at h;cases h
  | true=>
   rw[hf] at h;have hr:=(hs.formS (r:=m.1)).cn;obtain⟨h1,h2⟩:=pq k c hs (l:=l) (hc.addR hr.scaleR) h;refine⟨h1,?_⟩;rw[h2,valM,hc.ev_add hr.scaleR,r6];unfold kR
   grind
theorem aco (k:Int→Rat) (c:Rat) {s:Sc} {a b:Nat} (hs:s.Va a b) (l:List Mm):(sumR s l).1.Cn∧((sumR s l).1.ev k c=0∨(sumR s l).1.ev k c=valM (kR k c s) l):=by
 unfold sumR;cases fj l with
 | false=>exact⟨cn_zero,.inl a0i⟩
 | true=>
  cases e:eu s l Fm.zero with
  | none=>exact⟨cn_zero,.inl a0i⟩
  | some f=>
   obtain⟨h1,h2⟩:=pq k c hs cn_zero e;exact⟨h1,.inr (by show f.ev k c=_;rw[h2,a0i];grind)⟩
theorem a4k {s:Sc} {a b:Nat} (hs:s.Va a b) (l:List Mm):(sumR s l).1.const.r=0∨(sumR s l).1.const.r=valM (kC s) l:=by
 rw[← afk];exact (aco _ _ hs l).2
theorem xk (K:Rw→Rat) {s:Sc}:∀{ts:List Tm} {acc L:List Mm},br s ts acc=some L→∃ws:List Rat,ws.length=ts.length∧valM K L=valM K acc+ws.sum∧∀(i:Nat) (t:Tm) (w:Rat),ts[i]?=some t→ws[i]?=some w→w=t.2.abs.r*valM K (im s t).1∧(im s t).2=true
 | [],acc,L,h=>by
  rw[br] at h;injection h with h;subst h;exact⟨[],rfl,by simp;grind,fun i t w hi=>by simp at hi⟩
 | t::ts,acc,L,h=>by
  rw[br] at h;cases hm:(im s t).2 with
  | false=>rw[hm] at h;cases h
  | true=>
   rw[hm] at h;obtain⟨ws,h1,h2,h3⟩:=xk K h;refine⟨(t.2.abs.r*valM K (im s t).1)::ws,by simp[h1],?_,fun i u w hi hw=>?_⟩
   ·rw[h2,wt,List.sum_cons];grind
   ·cases i with
    | zero=>simp at hi hw;subst hi hw;exact⟨rfl,hm⟩
    | succ i=>simp at hi hw;exact h3 i u w hi hw
def a6l (ls:List Lm) (unit:Int) (p:Nat×Nat):Prop:=(p.1≠0→(atZ ls ((p.1 - 1:Nat):Int)).unit=unit∧(atZ ls ((p.1 - 1:Nat):Int)).upper=false)∧(p.2≠0→(atZ ls ((p.2 - 1:Nat):Int)).unit=unit∧(atZ ls ((p.2 - 1:Nat):Int)).upper=true)
theorem afv {ls:List Lm} {unit:Int} {p:Nat×Nat} {n:Nat} (h:a6l ls unit p):a6l ls unit (fb ls unit p n):=by
 unfold fb;cases hu:(atZ ls (n:Int)).unit != unit with
 | true=>exact h
 | false=>
  have hu':(atZ ls (n:Int)).unit=unit:=by simpa using hu
  simp only[cond_false];refine⟨?_,?_⟩
  ·simp only;cases hc:!(atZ ls (n:Int)).upper&&(((p.1:Int) == 0)||decide (0 < cmpR (atZ ls (n:Int)).value (atZ ls ((p.1 - 1:Nat):Int)).value)) with
   | true=>
    rw[be] at hc;intro _;simp only[cond_true,Nat.add_sub_cancel];exact⟨hu',il hc.1⟩
   | false=>exact h.1
  ·simp only;cases hc:(atZ ls (n:Int)).upper&&(((p.2:Int) == 0)||decide (cmpR (atZ ls (n:Int)).value (atZ ls ((p.2 - 1:Nat):Int)).value < 0)) with
   | true=>
    rw[be] at hc;intro _;simp only[cond_true,Nat.add_sub_cancel];exact⟨hu',hc.1⟩
   | false=>exact h.2
theorem afu (ls:List Lm) (unit:Int):a6l ls unit (gh ls unit):=by
 have:∀i,a6l ls unit ((List.range i).foldl (fb ls unit) (0,0)):=fun i=>by
  induction i with
  | zero=>exact⟨fun h=>absurd rfl h,fun h=>absurd rfl h⟩
  | succ i ih=>rw[List.range_succ,List.foldl_append];exact afv ih
 exact this _
theorem yg {ls:List Lm} {unit:Int} {k:Nat} {up:Bool} (h0:k≠0) (h1:k≤ls.length) (hu:(atZ ls ((k - 1:Nat):Int)).unit=unit) (hp:(atZ ls ((k - 1:Nat):Int)).upper=up):aw ls (k:Int) unit up=(ci (atZ ls ((k - 1:Nat):Int)).value,true):=by
 have e:((k:Int) - 1)=((k - 1:Nat):Int):=by omega
 unfold aw;rw[e,df (by omega:¬((k:Int) < 1)),df (by omega:¬((ls.length:Int) < (k:Int))),hu,hp];simp
theorem fg (f g:Fm):(Fm.subR f g).const.r=f.const.r - g.const.r:=by
 show (Q.add f.const (Q.mul g.const Q.mone)).r=_;rw[Q.add_r,Q.mul_r,yb];grind
theorem a6g (v:Int):(varR v).Cn:=(ff v).cn
theorem a2j {q:Q} {n:Nat} (h:q.S n):(numR q).Cn:=(db h).cn
section
variable {k:Int→Rat} {c:Rat} {s:Sc} {a b:Nat} (hs:s.Va a b) {j hi:Int} {u:Q}
include hs
theorem k_lo {v:Int} (h0:0≤v) (h1:v < s.q.rg.lo.length):kR k c s ⟨1,v,0,0⟩=k v - c*(atZ s.q.rg.lo v).r∧(bo s ⟨1,v,0,0⟩).2=true:=by
 unfold kR bo;rw[dt h1];have:decide (v < 0)=false:=df om;simp only[this];refine⟨?_,rfl⟩;show (Fm.subR (varR v) (numR (atZ s.q.rg.lo v))).ev k c=_;rw[(a6g v).ev_sub (a2j (hs.q.rg.los _ (bg h0 h1))),yh,a6c]
theorem k_hi {v:Int} (h0:0≤v) (h1:v < s.q.rg.hi.length):kR k c s ⟨2,v,0,0⟩=c*(atZ s.q.rg.hi v).r - k v∧(bo s ⟨2,v,0,0⟩).2=true:=by
 unfold kR bo;rw[dt h1];have:decide (v < 0)=false:=df om;simp only[this];refine⟨?_,rfl⟩;show (Fm.subR (numR (atZ s.q.rg.hi v)) (varR v)).ev k c=_;rw[(a2j (hs.q.rg.his _ (bg h0 h1))).ev_sub (a6g v),yh,a6c]
omit hs in
theorem a2a {r:Rw} (h5:5≤r.kind) (h0:0≤r.index) (h1:r.index < s.q.g.units.length) (ho:(bz (varR (s.q.g.inputs+r.index)) (atZ s.q.g.units r.index) (aw s.lems r.lo r.index false) (aw s.lems r.hi r.index true) (onQ s r (aw s.lems r.lo r.index false)) (offQ s r (aw s.lems r.hi r.index true)) r).2=true):kR k c s r=(bz (varR (s.q.g.inputs+r.index)) (atZ s.q.g.units r.index) (aw s.lems r.lo r.index false) (aw s.lems r.hi r.index true) (onQ s r (aw s.lems r.lo r.index false)) (offQ s r (aw s.lems r.hi r.index true)) r).1.ev k c∧(bo s r).2=true:=by
 unfold kR bo;rw[dt h5,cond_true];unfold ce;rw[df (by omega:¬r.index < 0),df (by omega:¬((s.q.g.units.length:Int)≤r.index)),Bool.or_self,cond_false,ho];exact⟨rfl,rfl⟩
omit hs in
theorem an5 (h0:0≤j) (h1:j < s.q.g.units.length):kR k c s ⟨5,j,0,0⟩=k (s.q.g.inputs+j)∧(bo s ⟨5,j,0,0⟩).2=true:=by
 obtain⟨e1,e2⟩:=a2a (k:=k) (c:=c) (r:=⟨5,j,0,0⟩) (by show (5:Int)≤_;simp) h0 h1 rfl;refine⟨e1.trans ?_,e2⟩;show (varR (s.q.g.inputs+j)).ev k c=_;exact yh _
omit hs in
theorem ajx (h0:0≤j) (h1:j < s.q.g.units.length) (hu:aw s.lems hi j true=(u,true)) (hz:decide (sgQ u≤0)=true):kR k c s ⟨10,j,0,hi⟩=-k (s.q.g.inputs+j)∧(bo s ⟨10,j,0,hi⟩).2=true:=by
 have ho:offQ s ⟨10,j,0,hi⟩ (u,true)=true:=by
  unfold offQ;simp only[hz];simp
 obtain⟨e1,e2⟩:=a2a (k:=k) (c:=c) (r:=⟨10,j,0,hi⟩) (by show (5:Int)≤_;simp) h0 h1 (by simp only[hu];exact ho);refine⟨e1.trans ?_,e2⟩;show (Fm.scaleR (varR (s.q.g.inputs+j)) Q.mone).ev k c=_;rw[r6,yh,yb];grind
theorem ajw {n:Nat} (h0:0≤j) (h1:j < s.q.g.units.length) (hu:aw s.lems hi j true=(u,true)) (us:u.S n):kR k c s ⟨12,j,0,hi⟩=c*u.r - (atZ s.q.g.units j).ev k c∧(bo s ⟨12,j,0,hi⟩).2=true:=by
 obtain⟨e1,e2⟩:=a2a (k:=k) (c:=c) (r:=⟨12,j,0,hi⟩) (by show (5:Int)≤_;simp) h0 h1 (by simp only[hu];rfl);refine⟨e1.trans ?_,e2⟩;simp only[hu];show (Fm.subR (numR u) (atZ s.q.g.units j)).ev k c=_;rw[(a2j us).ev_sub (hs.q.us _ (bg h0 h1)).cn,a6c]
theorem an6 {lo:Int} {l:Q} (h0:0≤j) (h1:j < s.q.g.units.length) (hl:aw s.lems lo j false=(l,true)) (hz:decide (0≤sgQ l)=true):kR k c s ⟨8,j,lo,0⟩=(atZ s.q.g.units j).ev k c - k (s.q.g.inputs+j)∧(bo s ⟨8,j,lo,0⟩).2=true:=by
 have ho:onQ s ⟨8,j,lo,0⟩ (l,true)=true:=by
  unfold onQ;simp only[hz];simp
 obtain⟨e1,e2⟩:=a2a (k:=k) (c:=c) (r:=⟨8,j,lo,0⟩) (by show (5:Int)≤_;simp) h0 h1 (by simp only[hl];exact ho);refine⟨e1.trans ?_,e2⟩;show (Fm.subR (atZ s.q.g.units j) (varR (s.q.g.inputs+j))).ev k c=_;rw[(hs.q.us _ (bg h0 h1)).cn.ev_sub (a6g _),yh]
theorem aos {lo:Int} {l:Q} {n:Nat} (h0:0≤j) (h1:j < s.q.g.units.length) (hl:aw s.lems lo j false=(l,true)) (hu:aw s.lems hi j true=(u,true)) (h2:decide (sgQ l < 0)=true) (h3:decide (0 < sgQ u)=true) (ls:l.S n):kR k c s ⟨13,j,lo,hi⟩=((atZ s.q.g.units j).ev k c - c*l.r)*u.r - k (s.q.g.inputs+j)*(u.r - l.r)∧(bo s ⟨13,j,lo,hi⟩).2=true:=by
 obtain⟨e1,e2⟩:=a2a (k:=k) (c:=c) (r:=⟨13,j,lo,hi⟩) (by show (5:Int)≤_;simp) h0 h1 (by simp only[hl,hu];show (true&&(true&&(decide (sgQ l < 0)&&decide (0 < sgQ u))))=true;rw[h2,h3];rfl);refine⟨e1.trans ?_,e2⟩;simp only[hl,hu];show (Fm.subR (Fm.scaleR (Fm.subR (atZ s.q.g.units j) (numR l)) u) (Fm.scaleR (varR (s.q.g.inputs+j)) (Q.add u l.neg'))).ev k c=_;have hp:=(hs.q.us _ (bg h0 h1)).cn;rw[(hp.subR (a2j ls)).scaleR.ev_sub (a6g _).scaleR,r6,r6,hp.ev_sub (a2j ls),a6c,yh,Q.add_r,Q.neg_r];grind
end
def hiV (s:Sc) (v:Int):Rat:=
 if v < s.q.g.inputs then (atZ s.q.rg.hi v).r
 else if decide (sgQ (atZ s.lems (((gh s.lems (v - s.q.g.inputs)).2 - 1:Nat):Int)).value≤0) then 0 else (atZ s.lems (((gh s.lems (v - s.q.g.inputs)).2 - 1:Nat):Int)).value.r
def loV (s:Sc) (v:Int):Rat:=if v < s.q.g.inputs then (atZ s.q.rg.lo v).r else 0
structure RwG (s:Sc) (r:Rw):Prop where
 ok:(bo s r).2=true
 kind:r.kind≠4
 lo:0≤r.lo∧r.lo≤s.lems.length
 hi:0≤r.hi∧r.hi≤s.lems.length
section
variable {k:Int→Rat} {c:Rat} {s:Sc} {a b:Nat}
theorem a27 (hs:s.Va a b) {v:Int} (h0:0≤v) (hv:v < ((s.q.g.inputs+s.q.g.units.length:Nat):Int)):valM (kR k c s) (ic s v)=k v - c*loV s v∧∀m∈ic s v,RwG s m.1∧m.2=Q.one:=by
 unfold ic loV;by_cases hi:v < s.q.g.inputs
 ·obtain⟨e1,e2⟩:=k_lo (k:=k) (c:=c) hs h0 (by rw[hs.q.rg.lo];exact hi);rw[dt hi,if_pos hi,cond_true,valM,valM];simp only;rw[e1,a1r];refine⟨by grind,fun m hm=>?_⟩;rw[mj hm];exact⟨⟨e2,by show (1:Int)≠4;decide,⟨Int.le_refl _,Int.natCast_nonneg _⟩,⟨Int.le_refl _,Int.natCast_nonneg _⟩⟩,rfl⟩
 ·obtain⟨e1,e2⟩:=an5 (k:=k) (c:=c) (s:=s) (j:=v - s.q.g.inputs) om om;rw[df hi,if_neg hi,cond_false,valM,valM];simp only;rw[e1,a1r,show ((s.q.g.inputs:Int)+(v - s.q.g.inputs))=v from by omega];refine⟨by grind,fun m hm=>?_⟩;rw[mj hm];exact⟨⟨e2,by show (5:Int)≠4;decide,⟨Int.le_refl _,Int.natCast_nonneg _⟩,⟨Int.le_refl _,Int.natCast_nonneg _⟩⟩,rfl⟩
theorem a5t (hs:s.Va a b) {v:Int} (h0:0≤v) (hv:v < ((s.q.g.inputs+s.q.g.units.length:Nat):Int)) (hm:(f5 s v).2=true):valM (kR k c s) (f5 s v).1=c*hiV s v - k v∧(¬v < s.q.g.inputs→(gh s.lems (v - s.q.g.inputs)).2≠0∧(gh s.lems (v - s.q.g.inputs)).2≤s.lems.length)∧∀m∈(f5 s v).1,RwG s m.1∧0 < m.2.r:=by
 have one:∀(r:Rw),valM (kR k c s) [(r,Q.one)]=kR k c s r:=fun r=>by rw[valM,valM];simp only;rw[a1r];grind
 have p1:(0:Rat) < Q.one.r:=by rw[a1r];decide
 unfold f5 at hm ⊢;unfold hiV;by_cases hi:v < s.q.g.inputs
 ·obtain⟨e1,e2⟩:=k_hi (k:=k) (c:=c) hs h0 (by rw[hs.q.rg.hi];exact hi);rw[dt hi,if_pos hi,cond_true,one,e1];refine⟨rfl,fun h=>absurd hi h,fun m hm=>?_⟩;rw[mj hm];exact⟨⟨e2,by show (2:Int)≠4;decide,⟨Int.le_refl _,Int.natCast_nonneg _⟩,⟨Int.le_refl _,Int.natCast_nonneg _⟩⟩,p1⟩
 ·rw[df hi,if_neg hi] at*;obtain⟨b1,b2⟩:=a0p s.lems (v - s.q.g.inputs);obtain⟨o1,o2⟩:=afu s.lems (v - s.q.g.inputs);simp only[cond_false] at hm ⊢;generalize gh s.lems (v - s.q.g.inputs)=p at*;cases h1:((p.1:Int) == 0) with
  | true=>rw[h1] at hm;simp at hm
  | false=>
   cases h2:((p.2:Int) == 0) with
   | true=>rw[h1,h2] at hm;simp at hm
   | false=>
    obtain⟨g1,l8⟩:=mq hs h1 b1;obtain⟨g2,u8⟩:=mq hs h2 b2;have n1:p.1≠0:=fun e=>by rw[e] at h1;simp at h1
    have n2:p.2≠0:=fun e=>by rw[e] at h2;simp at h2
    obtain⟨lu,lp⟩:=o1 n1;obtain⟨uu,up⟩:=o2 n2;have hl:=yg n1 b1 lu lp;have hu:=yg n2 b2 uu up;rw[l8.canon] at hl;rw[u8.canon] at hu;generalize (atZ s.lems ((p.1 - 1:Nat):Int)).value=l at*;generalize (atZ s.lems ((p.2 - 1:Nat):Int)).value=u at*;have hj0:0≤v - s.q.g.inputs:=by omega
    have hj1:v - s.q.g.inputs < s.q.g.units.length:=by omega
    have ev:(s.q.g.inputs:Int)+(v - s.q.g.inputs)=v:=by omega
    have c0:(0:Int)≤0∧(0:Int)≤s.lems.length:=⟨Int.le_refl _,Int.natCast_nonneg _⟩;have cl:(0:Int)≤p.1∧(p.1:Int)≤s.lems.length:=⟨Int.natCast_nonneg _,by omega⟩;have ch:(0:Int)≤p.2∧(p.2:Int)≤s.lems.length:=⟨Int.natCast_nonneg _,by omega⟩;simp only[Bool.or_self,cond_false];cases h3:decide (sgQ u≤0) with
    | true=>
     obtain⟨e1,e2⟩:=ajx (k:=k) (c:=c) (s:=s) hj0 hj1 hu h3;rw[cond_true,one,e1,ev];refine⟨by simp;grind,fun _=>⟨n2,b2⟩,fun m hm=>?_⟩;rw[mj hm];exact⟨⟨e2,by show (10:Int)≠4;decide,c0,ch⟩,p1⟩
    | false=>
     obtain⟨e3,e4⟩:=ajw (k:=k) (c:=c) hs hj0 hj1 hu u8;rw[cond_false];cases h4:decide (0≤sgQ l) with
     | true=>
      obtain⟨e1,e2⟩:=an6 (k:=k) (c:=c) hs hj0 hj1 hl h4;rw[cond_true,valM,one];simp only;rw[e1,e3,a1r,ev];refine⟨by simp;grind,fun _=>⟨n2,b2⟩,fun m hm=>?_⟩;rcases zP.1 hm with rfl | hm
      ·exact⟨⟨e2,by show (8:Int)≠4;decide,cl,c0⟩,p1⟩
      ·rw[mj hm];exact⟨⟨e4,by show (12:Int)≠4;decide,c0,ch⟩,p1⟩
     | false=>
      have h5:decide (sgQ l < 0)=true:=dt (by have:=zM h4;omega);have h6:decide (0 < sgQ u)=true:=dt (by have:=zM h3;omega);have hn:=yy l8.ok (zM h3) (zM h4);obtain⟨e1,e2⟩:=aos (k:=k) (c:=c) hs hj0 hj1 hl hu h5 h6 l8;have hu0:=ah3 (zK h6);have hl0:=ab9 (zK h5);have hdd:(Q.div Q.one (Q.add u l.neg')).r=(u.r - l.r)⁻¹:=by rw[Q.div_r _ _ hn,a1r,Q.add_r,Q.neg_r];grind
      have hd:u.r - l.r≠0:=by grind
      have hp:0 < (u.r - l.r)⁻¹:=Rat.inv_pos.2 (by grind);rw[cond_false,valM,valM,valM];simp only;rw[e1,e3,Q.mul_r,hdd,ev];refine⟨by simp;grind,fun _=>⟨n2,b2⟩,fun m hm=>?_⟩;rcases zP.1 hm with rfl | hm
      ·refine⟨⟨e4,by show (12:Int)≠4;decide,c0,ch⟩,?_⟩;show 0 < (Q.mul _ u).r;rw[Q.mul_r,hdd];exact Rat.mul_pos hp hu0
      ·rw[mj hm];exact⟨⟨e2,by show (13:Int)≠4;decide,cl,ch⟩,by show 0 < (Q.div _ _).r;rw[hdd];exact hp⟩
end
theorem abg {q:Q} (h:0 < q.r):¬sgQ q≤0:=fun hc=>by
 rcases Nat.eq_zero_or_pos q.num with h0 | h0
 ·rw[qr h0] at h;grind
 ·have:sgQ q < 0:=by
   unfold sgQ isg at hc ⊢;rw[if_neg om] at hc ⊢;cases hn:q.neg<;>rw[hn] at hc<;>simp at hc ⊢
  have:=ab9 this
  grind
theorem amu {q:Q} (h:¬sgQ q < 0):0≤q.r:=by
 rcases Nat.eq_zero_or_pos q.num with h0 | h0
 ·rw[qr h0];grind
 ·unfold sgQ isg at h;rw[if_neg om] at h;cases hn:q.neg with
  | false=>have:=zg hn h0;grind
  | true=>rw[hn] at h;simp at h
theorem zy {a b:Rw}:gx a b=true↔a.kind < b.kind∨a.kind=b.kind∧(a.index < b.index∨a.index=b.index∧(a.lo < b.lo∨a.lo=b.lo∧a.hi < b.hi)):=by
 unfold gx;by_cases h1:a.kind=b.kind
 ·by_cases h2:a.index=b.index
  ·by_cases h3:a.lo=b.lo
   ·simp[h1,h2,h3]
   ·simp[h1,h2,h3]
  ·simp[h1,h2]
 ·simp[h1]
theorem aju {a b:Rw} (h1:¬gx a b=true) (h2:¬gx b a=true):a=b:=by
 rw[zy] at h1 h2;obtain⟨a1,a2,a3,a4⟩:=a;obtain⟨b1,b2,b3,b4⟩:=b;simp only at h1 h2;rw[Rw.mk.injEq];omega
theorem ajt {a b c:Rw} (h1:gx a b=true) (h2:gx b c=true):gx a c=true:=by
 rw[zy] at h1 h2 ⊢;omega
abbrev CanP (l:List Mm):Prop:=(l.Pairwise fun a b=>gx a.1 b.1=true)∧∀m∈l,0 < m.2.r
theorem CanP.ok {l:List Mm} (h:CanP l):fj l=true:=by
 refine rd (i:=l.length) (fun j hj=>?_) (nr _);unfold badM;rw[bm (ge hj),df (abg (h.2 _ (List.getElem_mem hj))),Bool.false_or];rcases Nat.eq_zero_or_pos j with rfl | h0
 ·rfl
 ·have:gx (l[j - 1]'om).1 l[j].1=true:=List.pairwise_iff_getElem.1 h.1 _ _ _ _ om;rw[bm (ge (show j - 1 < l.length by omega)),this];simp
def insM (r:Rw) (c:Q):List Mm→List Mm
 | []=>[(r,ci c)]
 | m::l=>bif gx m.1 r then m::insM r c l else bif jr m.1 r then (r,Q.add m.2 c)::l else (r,ci c)::m::l
theorem a56 {r:Rw} {c:Q} (h:(sgQ c == 0)=false):∀(l:List Mm),ku l r c=insM r c l
 | []=>by unfold ku;rw[h];rfl
 | m::l=>by
  have ih:=a56 (r:=r) h l;unfold ku at ih ⊢;rw[h] at ih ⊢;rw[insM,posR];cases hl:gx m.1 r with
  | true=>
   simp only[cond_false,cond_true] at ih ⊢;rw[← ih];have e:∀(j:Nat),atZ (m::l) ((j+1:Nat):Int)=atZ l (j:Int)∨l.length≤j:=fun j=>by
    rcases zU j l.length with g | g
    ·left;rw[bm (l:=m::l) (i:=j+1) (a:=l[j]) (by simp[g]),bm (ge g)]
    ·right;exact g
   have d:decide (((posR r l+1:Nat):Int) < ((m::l).length:Int))=decide ((posR r l:Int) < (l.length:Int)):=by
    rw[zW];exact decide_eq_decide.2 om
   rcases e (posR r l) with e | e
   ·rw[d,e];cases decide ((posR r l:Int) < (l.length:Int))&&jr (atZ l (posR r l:Int)).1 r<;>simp
   ·rw[d,df om];simp
  | false=>
   simp only[cond_false];rw[bm (l:=m::l) (i:=0) (a:=m) rfl,dt (by rw[zW];omega),Bool.true_and];cases jr m.1 r<;>simp
theorem a0a {r:Rw} {c:Q} {x:Mm}:∀{l:List Mm},x∈insM r c l→x.1=r∨x∈l
 | [],h=>by rw[insM] at h;rw[mj h];exact .inl rfl
 | m::l,h=>by
  rw[insM] at h;cases hl:gx m.1 r<;>rw[hl] at h
  ·cases he:jr m.1 r<;>rw[he] at h<;>rcases zP.1 h with rfl | h
   ·exact .inl rfl
   ·exact .inr h
   ·exact .inl rfl
   ·exact .inr (zC _ h)
  ·rcases zP.1 h with rfl | h
   ·exact .inr (mf ..)
   ·rcases a0a h with h | h
    ·exact .inl h
    ·exact .inr (zC _ h)
theorem a62 {r:Rw} {c:Q} (hc:0 < c.r):∀{l:List Mm},CanP l→CanP (insM r c l)
 | [],_=>⟨by simp[insM],fun m hm=>by rw[insM] at hm;rw[mj hm];show 0 < (ci c).r;rw[xf];exact hc⟩
 | m::l,h=>by
  have h1:=List.pairwise_cons.1 h.1;have hp:∀x∈l,0 < x.2.r:=fun x hx=>h.2 x (zC _ hx)
  have hm:=h.2 m (mf ..);rw[insM];cases hl:gx m.1 r with
  | true=>
   obtain⟨i1,i2⟩:=a62 hc (l:=l) ⟨h1.2,hp⟩;refine⟨List.pairwise_cons.2 ⟨fun x hx=>?_,i1⟩,fun x hx=>?_⟩
   ·rcases a0a hx with e | hx
    ·rw[e];exact hl
    ·exact h1.1 x hx
   ·rcases zP.1 hx with rfl | hx
    ·exact hm
    ·exact i2 x hx
  | false=>
   cases he:jr m.1 r with
   | true=>
    have e:m.1=r:=by rw[z8] at he;exact zK he
    refine⟨List.pairwise_cons.2 ⟨fun x hx=>by rw[← e];exact h1.1 x hx,h1.2⟩,fun x hx=>?_⟩;rcases zP.1 hx with rfl | hx
    ·show 0 < (Q.add m.2 c).r;rw[Q.add_r];grind
    ·exact hp x hx
   | false=>
    have hr:gx r m.1=true:=by
     cases hh:gx r m.1 with
     | true=>rfl
     | false=>
      have:=aju (a:=m.1) (b:=r) (by rw[hl];decide) (by rw[hh];decide);rw[z8,dt this] at he;cases he
    refine⟨List.pairwise_cons.2 ⟨fun x hx=>?_,h.1⟩,fun x hx=>?_⟩
    ·rcases zP.1 hx with rfl | hx
     ·exact hr
     ·exact ajt hr (h1.1 x hx)
    ·rcases zP.1 hx with rfl | hx
     ·show 0 < (ci c).r;rw[xf];exact hc
     ·exact h.2 x hx
theorem a20 {P:Rw→Prop} {c:Q} (hc:0 < c.r):∀{b a:List Mm},CanP a→(∀m∈a,P m.1)→(∀m∈b,P m.1∧0 < m.2.r)→CanP (fq c a b)∧∀m∈fq c a b,P m.1
 | [],a,ha,hp,_=>⟨ha,hp⟩
 | m::b,a,ha,hp,hb=>by
  obtain⟨h1,h2⟩:=hb m (mf ..);have h3:0 < (Q.mul m.2 c).r:=by rw[Q.mul_r];exact Rat.mul_pos h2 hc
  rw[fq,a56 (by rw[beq_eq_false_iff_ne];exact fun e=>abg h3 om)];refine a20 hc (a62 h3 ha) (fun x hx=>?_) fun x hx=>hb x (zC _ hx)
  rcases a0a hx with e | hx
  ·rw[e];exact h1
  ·exact hp x hx
theorem aku {q:Q} (h:q.num≠0):0 < q.abs.r:=zg rfl (Nat.pos_of_ne_zero h)
theorem akt (q:Q):(0 < sgQ q→q.abs.r=q.r)∧(¬0 < sgQ q→q.abs.r=-q.r):=by
 have e:q.abs.r=(q.num:Rat) / (q.un:Rat):=rfl;refine⟨fun h=>?_,fun h=>?_⟩
 ·obtain⟨h1,h2⟩:=a04 (q:=q) om;unfold Q.r at*;rw[h1];exact e
 ·rcases Nat.eq_zero_or_pos q.num with h0 | h0
  ·rw[qr h0,qr (q:=q.abs) h0];grind
  ·have hn:q.neg=true:=by
    unfold sgQ isg at h;rw[if_neg om] at h;cases hn:q.neg<;>rw[hn] at h<;>simp at h ⊢
   rw[e];unfold Q.r;rw[hn];simp only[sgnR,cond_true]
   grind
theorem a2v {s:Sc} {a b:Nat} (hs:s.Va a b) (k:Int→Rat):∀{ts:List Tm} {acc L:List Mm},(∀t∈ts,t.2.num≠0∧0≤t.1∧t.1 < ((s.q.g.inputs+s.q.g.units.length:Nat):Int))→CanP acc→(∀m∈acc,RwG s m.1)→br s ts acc=some L→CanP L∧(∀m∈L,RwG s m.1)∧valM (kR k 0 s) L=valM (kR k 0 s) acc+evT k ts
 | [],acc,L,_,ha,hr,h=>by
  rw[br] at h;injection h with h;subst h;exact⟨ha,hr,by rw[evT];grind⟩
 | t::ts,acc,L,ht,ha,hr,h=>by
  rw[br] at h;cases hm:(im s t).2 with
  | false=>rw[hm] at h;cases h
  | true=>
   rw[hm] at h;obtain⟨h0,h1,h2⟩:=ht t (mf ..);have key:(∀m∈(im s t).1,RwG s m.1∧0 < m.2.r)∧t.2.abs.r*valM (kR k 0 s) (im s t).1=t.2.r*k t.1:=by
    obtain⟨v1,v2⟩:=akt t.2;unfold im at hm ⊢;cases hd:decide (0 < sgQ t.2) with
    | true=>
     obtain⟨e1,e2⟩:=a27 (k:=k) (c:=0) hs h1 h2;refine⟨fun m hm=>⟨(e2 m hm).1,by rw[(e2 m hm).2,a1r];decide⟩,?_⟩;rw[cond_true,v1 (zK hd)];simp only;rw[e1];grind
    | false=>
     rw[hd,cond_false] at hm;obtain⟨e1,_,e2⟩:=a5t (k:=k) (c:=0) hs h1 h2 hm;refine⟨e2,?_⟩;rw[cond_false,v2 (zM hd),e1];grind
   obtain⟨c1,c2⟩:=a20 (P:=RwG s) (aku h0) ha hr key.1;obtain⟨d1,d2,d3⟩:=a2v hs k (fun x hx=>ht x (zC _ hx)) c1 c2 h;refine⟨d1,d2,?_⟩;rw[d3,wt,evT,key.2];grind
theorem xr {s:Sc}:∀{l:List Mm} {acc:Fm},(∀m∈l,(bo s m.1).2=true)→∃f,eu s l acc=some f
 | [],acc,_=>⟨acc,rfl⟩
 | m::l,acc,h=>by
  rw[eu,h m (mf ..)];exact xr fun x hx=>h x (zC _ hx)
theorem pm {s:Sc} {a b:Nat} (hs:s.Va a b) {f:Fm} {v:Q} {L:List Mm} (hf:f.Cn) (ht:∀t∈f.terms,0≤t.1∧t.1 < ((s.q.g.inputs+s.q.g.units.length:Nat):Int)) (h:bi s f=(v,L,true)):fj L=true∧(∀m∈L,RwG s m.1)∧∀g:Fm,g.Cn→g.terms=f.terms→f.const.r - v.r≤g.const.r→dv s g L=true:=by
 unfold bi at h;cases e:br s f.terms [] with
 | none=>rw[e] at h;cases h
 | some M=>
  rw[e] at h;injection h with h1 h;injection h with h2;subst h2;have can:=fun k=>a2v hs k (fun t hm=>⟨(hf.nz t hm).2,ht t hm⟩) ⟨by simp,fun m hm=>by cases hm⟩ (fun m hm=>by cases hm) e
  obtain⟨c1,c2,_⟩:=can fun _=>0
  obtain⟨S,hS⟩:=xr (s:=s) (acc:=Fm.zero) fun m hm=>(c2 m hm).ok
  have hsum:sumR s M=(S,0):=by unfold sumR;rw[c1.ok,hS];rfl
  rw[hsum] at h1;obtain⟨hc,_⟩:=pq (fun _=>0) 1 hs cn_zero hS;have hn:(Fm.subR f S).terms=[]:=by
   have hd:=hf.subR hc;refine akb hd.srt hd.nz fun k=>?_
   have e1:(Fm.subR f S).ev k 0=_:=hf.ev_sub hc;obtain⟨_,e2⟩:=pq k 0 hs cn_zero hS;rw[e2,(can k).2.2,a0i,valM] at e1;unfold Fm.ev at e1
   grind
  refine⟨c1.ok,c2,fun g hg hgt hle=>?_⟩;unfold dv;rw[hsum];have h3:(Fm.subR g S).terms=[]:=by
   show addT g.terms _=[];rw[hgt];exact hn
  rw[h3];have h4:decide (0≤sgQ (Fm.subR g S).const)=true:=by
   refine dt ?_
   apply Classical.byContradiction
   intro h5;have h6:=ab9 (q:=(Fm.subR g S).const) om;rw[fg] at h6;have:v.r=f.const.r - S.const.r:=by rw[← h1,fg]
   grind
  rw[h4];rfl
def Rz (x:Rat) (D M:Nat):Prop:=∃z:Int,x*(D:Rat)=(z:Rat)∧z.natAbs≤M
theorem Rz.neg {x:Rat} {D M:Nat} (h:Rz x D M):Rz (-x) D M:=by
 obtain⟨z,h1,h2⟩:=h;exact⟨-z,by rw[Rat.intCast_neg,← h1];grind,by rw[Int.natAbs_neg];exact h2⟩
theorem Rz.add {x y:Rat} {D M N:Nat} (h:Rz x D M) (k:Rz y D N):Rz (x+y) D (M+N):=by
 obtain⟨z,h1,h2⟩:=h;obtain⟨w,k1,k2⟩:=k;exact⟨z+w,by rw[Rat.intCast_add,← h1,← k1];grind,nt (Int.natAbs_add_le ..) (Nat.add_le_add h2 k2)⟩
theorem Rz.mul {x y:Rat} {D E M N:Nat} (h:Rz x D M) (k:Rz y E N):Rz (x*y) (D*E) (M*N):=by
 obtain⟨z,h1,h2⟩:=h;obtain⟨w,k1,k2⟩:=k;exact⟨z*w,by rw[Rat.intCast_mul,Rat.natCast_mul,← h1,← k1];grind,by rw[Int.natAbs_mul];exact Nat.mul_le_mul h2 k2⟩
theorem Rz.zero (D M:Nat):Rz 0 D M:=⟨0,by simp,nq _⟩
theorem Rz.up {x:Rat} {D M N:Nat} (h:Rz x D M) (k:M≤N):Rz x D N:=by
 obtain⟨z,h1,h2⟩:=h;exact⟨z,h1,nt h2 k⟩
theorem Rz.scale {x:Rat} {D M:Nat} (h:Rz x D M) (k:Nat):Rz x (D*k) (M*k):=by
 obtain⟨z,h1,h2⟩:=h;have ec:((k:Int):Rat)=(k:Rat):=Rat.intCast_natCast _;exact⟨z*k,by rw[Rat.natCast_mul,Rat.intCast_mul,ec,← h1];grind,by rw[Int.natAbs_mul,Int.natAbs_natCast];exact zT _ h2⟩
theorem Rz.sum {D M:Nat}:∀{l:List Rat},(∀x∈l,Rz x D M)→Rz l.sum D (l.length*M)
 | [],_=>by rw[List.sum_nil];exact Rz.zero _ _
 | x::l,h=>by
  rw[List.sum_cons,zW,Nat.add_mul,Nat.one_mul,Nat.add_comm (l.length*M)];exact (h x (mf ..)).add (Rz.sum fun y hy=>h y (zC _ hy))
theorem aox (q:Q):q.abs.r=q.r∨q.abs.r=-q.r:=by
 unfold Q.abs Q.r;have:(Q.mk false q.num q.den).un=q.un:=rfl;rw[this];cases q.neg with
 | false=>left;rfl
 | true=>right;simp only[sgnR,cond_true,cond_false];grind
theorem Rz.abs {q:Q} {D M:Nat} (h:Rz q.r D M):Rz q.abs.r D M:=by
 rcases aox q with e | e
 ·rw[e];exact h
 ·rw[e];exact h.neg
structure Sc.Dz (s:Sc) (D M:Nat):Prop where
 lo:∀q∈s.q.rg.lo,Rz q.r D M
 hi:∀q∈s.q.rg.hi,Rz q.r D M
 lems:∀m∈s.lems,Rz m.value.r D M
structure Fm.Dz (f:Fm) (n C:Nat):Prop where
 each:∀t∈f.terms,Rz t.2.r 4 C∧0≤t.1∧t.1 < (n:Int)
 const:Rz f.const.r 4 C
theorem aaw {s:Sc} {a b D M:Nat} (hs:s.Va a b) (h:s.Dz D M) {t:Tm} (h0:0≤t.1) (hv:t.1 < ((s.q.g.inputs+s.q.g.units.length:Nat):Int)) (hm:(im s t).2=true):Rz (valM (kC s) (im s t).1) D M:=by
 unfold im at hm ⊢;cases hd:decide (0 < sgQ t.2) with
 | true=>
  rw[cond_true];simp only;rw[(a27 hs h0 hv).1];unfold loV;split
  ·rename_i hi
   rw[show ∀x:Rat,0 - 1*x=-x from fun x=>by grind];exact (h.lo _ (bg h0 (by rw[hs.q.rg.lo];exact hi))).neg
  ·rw[show (0:Rat) - 1*0=0 from by grind];exact Rz.zero _ _
 | false=>
  rw[hd,cond_false] at hm;rw[cond_false];obtain⟨h1,h2,_⟩:=a5t (k:=fun _=>0) (c:=1) hs h0 hv hm;rw[h1,show ∀x:Rat,1*x - 0=x from fun x=>by grind];unfold hiV;split
  ·rename_i hi
   exact h.hi _ (bg h0 (by rw[hs.q.rg.hi];exact hi))
  ·rename_i hi
   obtain⟨n2,b2⟩:=h2 hi;split
   ·exact Rz.zero _ _
   ·exact h.lems _ (mg (ab (show _ - 1 < s.lems.length by omega)))
theorem ag7 {s:Sc} {a b D M C:Nat} (hs:s.Va a b) (h:s.Dz D M) {f:Fm} (hf:f.Dz (s.q.g.inputs+s.q.g.units.length) C):Rz (bi s f).1.r (4*D) (C*D+f.terms.length*(C*M)):=by
 unfold bi;cases e:br s f.terms [] with
 | none=>rw[show ((Q.zero,([]:List Mm),false):Q×List Mm×Bool).1=Q.zero from rfl,a49];exact Rz.zero _ _
 | some L=>
  simp only;rw[fg];have hc:Rz f.const.r (4*D) (C*D):=hf.const.scale D;rcases a4k hs L with h1 | h1
  ·rw[h1];have:f.const.r - 0=f.const.r:=by grind
   rw[this];exact hc.up (Nat.le_add_right ..)
  ·rw[h1];obtain⟨ws,g1,g2,g3⟩:=xk (kC s) e;have hw:∀w∈ws,Rz w (4*D) (C*M):=fun w hw=>by
    obtain⟨i,hi,rfl⟩:=List.mem_iff_getElem.1 hw;have hi':i < f.terms.length:=by omega
    obtain⟨e1,e2⟩:=g3 i _ _ (ge hi') (ge hi);obtain⟨t1,t2,t3⟩:=hf.each _ (List.getElem_mem hi');rw[e1];exact (Rz.abs t1).mul (aaw hs h t2 t3 e2)
   have hsum:=Rz.sum hw;rw[g1] at hsum;have:f.const.r - valM (kC s) L=f.const.r+-(ws.sum):=by rw[g2,valM];grind
   rw[this];exact hc.add hsum.neg
theorem rz_S {q:Q} {D M:Nat} (h:q.Ok) (hz:Rz q.r D M) (hD:0 < D) (hD9:D < 79228162514264337593543950336) (hM:M < 79228162514264337593543950336):q.S 3:=by
 obtain⟨z,hz,hm⟩:=hz;obtain⟨h1,h2⟩:=anj h hD hz;have hb:∀n,n < 79228162514264337593543950336→(a7 n).length≤3:=fun n hn=>b8 (k:=3) (by rw[show B32 ^ 3=79228162514264337593543950336 from rfl];exact hn)
 exact⟨hb _ om,hb _ om,h⟩
theorem a0t (s:Sc) (f:Fm):(bi s f).1.Ok:=by
 unfold bi;cases br s f.terms [] with
 | none=>exact (by decide:Q.zero.Ok)
 | some L=>exact Q.add_ok ..
theorem acv {p:Fm} {n C:Nat} (h:p.Dz n C) (hc:p.Cn):(Fm.scaleR p Q.mone).Dz n C where
 each t ht:=by
  refine⟨?_,kn hc (P:=fun v=>0≤v∧v < (n:Int)) (fun t ht=>(h.each t ht).2) t ht⟩;exact ru (P:=fun x=>Rz x.r 4 C) p.terms [] (fun x hx=>by cases hx) (fun x hx=>by
   show Rz (Q.mul x.2 Q.mone).r 4 C;rw[Q.mul_r,yb];have:x.2.r*-1=-x.2.r:=by grind
   rw[this];exact (h.each x hx).1.neg) t ht
 const:=by
  show Rz (Q.mul p.const Q.mone).r 4 C;rw[Q.mul_r,yb];have:p.const.r*-1=-p.const.r:=by grind
  rw[this];exact h.const.neg
def MM (D M:Nat):Nat→Nat
 | 0=>M
 | j+1=>16*(4 ^ j*D)+128*MM D M j
theorem o7 {s:Sc} {a D M:Nat} (hs:s.Va a 3) (hl:s.lems.length≤900) (hz:s.Dz D M) (hu:∀p∈s.q.g.units,p.Dz (s.q.g.inputs+s.q.g.units.length) 16) (hD:0 < D):∀j,j≤s.q.g.units.length→4 ^ j*D < 79228162514264337593543950336→MM D M j < 79228162514264337593543950336→(aj s j).Va a 3∧(aj s j).Dz (4 ^ j*D) (MM D M j)∧(aj s j).lems.length≤s.lems.length+2*j
 | 0,_,_,_=>⟨hs,by rw[Nat.pow_zero,Nat.one_mul];exact hz,nr _⟩
 | j+1,hj,h1,h2=>by
  have hp:4 ^ (j+1)*D=4*(4 ^ j*D):=by rw[Nat.pow_succ,Nat.mul_comm (4 ^ j),zO]
  have hDj:0 < 4 ^ j*D:=Nat.mul_pos (Nat.pow_pos dx) hD;have hM:MM D M (j+1)=16*(4 ^ j*D)+128*MM D M j:=rfl;obtain⟨v1,z1,l1⟩:=o7 hs hl hz hu hD j om om om;obtain⟨q1,q2⟩:=fk s j;have hn9:=hs.n9;have hja:j < s.q.g.units.length:=hj;generalize ht:aj s j=t at*;have hmem:atZ s.q.g.units (j:Int)∈s.q.g.units:=mg (ab hja);have hpS:=hs.q.us _ hmem;have hpD:=hu _ hmem;have hlen:(atZ s.q.g.units (j:Int)).terms.length≤8:=nt hpS.len hn9;have new:∀f:Fm,f.Dz (s.q.g.inputs+s.q.g.units.length) 16→f.terms.length≤8→Rz (bi t f).1.r (4*(4 ^ j*D)) (MM D M (j+1)):=fun f hf hfl=>by
   have:=ag7 v1 z1 (f:=f) (C:=16) (by rw[q1];exact hf);refine this.up ?_;rw[hM];have:=zT (16*MM D M j) hfl;omega
  have hA:=new _ hpD hlen;have hB:=new _ (acv hpD hpS.cn) (nt (rq ..) (by simpa using hlen));have ev:∀m∈(aj s (j+1)).lems,m.value.Ok∧Rz m.value.r (4*(4 ^ j*D)) (MM D M (j+1)):=fun m hm=>by
   have hm':m∈(xh t j).lems:=by rw[← ht];exact hm
   unfold xh ju at hm';simp only[zJ,q1] at hm';rcases hm' with hm' | hm' | hm'
   ·refine⟨(v1.lems m hm').ok,?_⟩;have:=(z1.lems m hm').scale 4;rw[Nat.mul_comm _ 4] at this;exact this.up (by rw[hM];omega)
   ·cases hc:(bi t (atZ s.q.g.units (j:Int))).2.2 with
    | false=>rw[hc] at hm';cases hm'
    | true=>
     rw[hc] at hm';rw[mj hm'];exact⟨a0t ..,hA⟩
   ·cases hc:(bi t (Fm.scaleR (atZ s.q.g.units (j:Int)) Q.mone)).2.2 with
    | false=>rw[hc] at hm';cases hm'
    | true=>
     rw[hc] at hm';rw[mj hm'];refine⟨vo _ _ (Q.un_pos _),?_⟩;show Rz (Q.neg' _).r _ _;rw[Q.neg_r];exact hB.neg
  obtain⟨q3,q4⟩:=fk s (j+1);have hlen2:(aj s (j+1)).lems.length≤s.lems.length+2*(j+1):=by
   have e:(aj s (j+1)).lems=(xh t j).lems:=by rw[← ht];rfl
   rw[e];unfold xh ju;simp only[zI];cases (bi t (atZ t.q.g.units (j:Int))).2.2<;>cases (bi t (Fm.scaleR (atZ t.q.g.units (j:Int)) Q.mone)).2.2<;>simp<;>omega
  refine⟨⟨by rw[q3];exact hs.q,by rw[q4];exact hs.path,by rw[q4];exact hs.p9,fun m hm=>rz_S (ev m hm).1 (ev m hm).2 om om h2,by omega,hs.b1,hs.b9,hs.a9,by rw[q3];exact hs.n9⟩,⟨?_,?_,?_⟩,hlen2⟩
  ·rw[q3,hp];intro q hq;have:=(hz.lo q hq);exact z_up (z1.lo q (by rw[q1];exact hq)) hM
  ·rw[q3,hp];intro q hq;exact z_up (z1.hi q (by rw[q1];exact hq)) hM
  ·rw[hp];exact fun m hm=>(ev m hm).2
where
 z_up {x:Rat} {D' M' M2 X:Nat} (h:Rz x D' M') (hM:M2=X+128*M'):Rz x (4*D') M2:=by
  have:=h.scale 4;rw[Nat.mul_comm _ 4] at this;exact this.up om
structure Ag (s s':Sc) (r r':Rw):Prop where
 n:s'.q.g.inputs=s.q.g.inputs
 u:s'.q.g.units.length=s.q.g.units.length
 p:5≤r.kind→atZ s'.q.g.units r.index=atZ s.q.g.units r.index
 rg:s'.q.rg=s.q.rg
 path:∀d∈s.path,d∈s'.path
 k4:r.kind=4→s'.path=s.path
 kind:r'.kind=r.kind
 index:r'.index=r.index
 lo0:(r'.lo == 0)=(r.lo == 0)
 hi0:(r'.hi == 0)=(r.hi == 0)
 lo:aw s'.lems r'.lo r.index false=aw s.lems r.lo r.index false
 hi:aw s'.lems r'.hi r.index true=aw s.lems r.hi r.index true
theorem a6p {v p:Fm} {l u:Q×Bool} {on off on' off':Bool} {r r':Rw} (hk:r'.kind=r.kind) (hl:(r'.lo == 0)=(r.lo == 0)) (hh:(r'.hi == 0)=(r.hi == 0)) (h1:on=true→on'=true) (h2:off=true→off'=true) (h:(bz v p l u on off r).2=true):bz v p l u on' off' r'=bz v p l u on off r:=by
 unfold bz at h ⊢;rw[hk,hl,hh]
 repeat' (cases h3:(r.kind == _)<;>simp only[h3,cond_true,cond_false] at h ⊢)
 all_goals first | rw[h,h1 h] | rw[h,h2 h]
theorem a2f {q q':Qr} (h1:q'.g.inputs=q.g.inputs) (h2:q'.g.units.length=q.g.units.length) (d:Dc):cz q' d=cz q d:=by unfold cz;rw[h1,h2]
theorem Ag.form {s s':Sc} {r r':Rw} (h:Ag s s' r r') (ok:(bo s r).2=true):bo s' r'=bo s r:=by
 have hd:∀k,je s k r.index=true→je s' k r.index=true:=fun k hk=>by
  unfold je at hk ⊢;obtain⟨d,h1,h2⟩:=List.any_eq_true.1 hk;refine List.any_eq_true.2 ⟨d,h.path d h1,?_⟩;unfold hitQ at h2 ⊢;rw[a2f h.n h.u];exact h2
 obtain⟨e,i,lo',hi'⟩:=r';obtain rfl:=h.kind;obtain rfl:=h.index;have l0:=h.lo0;have u0:=h.hi0;unfold bo at ok ⊢;simp only at ok ⊢ l0 u0;cases h5:decide (5≤r.kind) with
 | true=>
  rw[h5,cond_true] at ok;rw[cond_true,cond_true];unfold ce at ok ⊢;simp only;rw[h.u,h.n,h.p (zK h5),h.lo,h.hi];cases hi0:decide (r.index < 0)||decide ((s.q.g.units.length:Int)≤r.index) with
  | true=>rfl
  | false=>
   rw[hi0,cond_false] at ok;have ok2:(bz (varR (s.q.g.inputs+r.index)) (atZ s.q.g.units r.index) (aw s.lems r.lo r.index false) (aw s.lems r.hi r.index true) (onQ s r (aw s.lems r.lo r.index false)) (offQ s r (aw s.lems r.hi r.index true)) r).2=true:=by
    revert ok
    cases (bz (varR (s.q.g.inputs+r.index)) (atZ s.q.g.units r.index) (aw s.lems r.lo r.index false) (aw s.lems r.hi r.index true) (onQ s r (aw s.lems r.lo r.index false)) (offQ s r (aw s.lems r.hi r.index true)) r).2 with
    | true=>exact fun _=>rfl
    | false=>exact fun h=>h
   rw[a6p (r:=r) (r':=⟨r.kind,r.index,lo',hi'⟩) rfl l0 u0 (fun ho=>?_) (fun ho=>?_) ok2]
   ·unfold onQ at ho ⊢;simp only at ho ⊢;rw[l0,u0];simp only[be,Bool.or_eq_true] at ho ⊢;rcases ho with ⟨a,b | b⟩
    ·exact⟨a,.inl ⟨b.1,hd _ b.2⟩⟩
    ·exact⟨a,.inr b⟩
   ·unfold offQ at ho ⊢;simp only at ho ⊢;rw[l0,u0];simp only[be,Bool.or_eq_true] at ho ⊢;rcases ho with ⟨a,b | b⟩
    ·exact⟨a,.inl ⟨b.1,hd _ b.2⟩⟩
    ·exact⟨a,.inr b⟩
 | false=>
  rw[show (lo' != 0)=(r.lo != 0) from congrArg (!·) l0,show (hi' != 0)=(r.hi != 0) from congrArg (!·) u0,h.rg];by_cases h4:r.kind=4
  ·rw[h.k4 h4,a2f h.n h.u];rfl
  ·have:(r.kind == 4)=false:=beq_eq_false_iff_ne.2 h4;rw[this];rfl
theorem Ag.sum {s s':Sc} {f:Mm→Mm} (hf:∀m,(f m).2=m.2):∀{l:List Mm} {acc F:Fm},(∀m∈l,(bo s m.1).2=true→Ag s s' m.1 (f m).1)→eu s l acc=some F→eu s' (l.map f) acc=some F
 | [],acc,F,_,h=>h
 | m::l,acc,F,ha,h=>by
  rw[eu] at h;cases ho:(bo s m.1).2 with
  | false=>rw[ho] at h;cases h
  | true=>
   rw[ho] at h;rw[List.map_cons,eu,(ha m (mf ..) ho).form ho,hf,ho];exact Ag.sum hf (fun x hx=>ha x (zC _ hx)) h
theorem Ag.sumR {s s':Sc} {f:Mm→Mm} {l:List Mm} (hf:∀m,(f m).2=m.2) (ha:∀m∈l,(bo s m.1).2=true→Ag s s' m.1 (f m).1) (hc:fj (l.map f)=true) (h:((sumR s l).2 != 0)=false):sumR s' (l.map f)=sumR s l:=by
 unfold Go.Proofs.YtbhbainhmfjpdaaGreatDoor.sumR at h ⊢;cases h1:fj l with
 | false=>rw[h1] at h;cases h
 | true=>
  rw[h1] at h;cases h2:eu s l Fm.zero with
  | none=>rw[h2] at h;cases h
  | some F=>rw[hc,Ag.sum hf ha h2]
theorem Ag.proves {s s':Sc} {f:Mm→Mm} {g:Fm} {l:List Mm} (hf:∀m,(f m).2=m.2) (ha:∀m∈l,(bo s m.1).2=true→Ag s s' m.1 (f m).1) (hc:fj (l.map f)=true) (h:dv s g l=true):dv s' g (l.map f)=true:=by
 unfold dv at h ⊢;cases h1:(Go.Proofs.YtbhbainhmfjpdaaGreatDoor.sumR s l).2 != 0 with
 | true=>rw[h1] at h;cases h
 | false=>rw[Ag.sumR hf ha hc h1];exact h
theorem nh {ls:List Lm} (x:List Lm) {n unit:Int} {up:Bool} (h:n≤ls.length):aw (ls++x) n unit up=aw ls n unit up:=by
 unfold aw;by_cases h1:n < 1
 ·rw[dt h1];rfl
 ·have e:atZ (ls++x) (n - 1)=atZ ls (n - 1):=by
   obtain⟨k,hk⟩:∃k:Nat,n - 1=(k:Int):=⟨(n - 1).toNat,by omega⟩;have hk2:k < ls.length:=by omega
   rw[hk,bm (ge hk2),bm (l:=ls++x) (i:=k) (a:=ls[k]) (by rw[List.getElem?_append_left hk2];exact ge hk2)]
  rw[e,df (by omega:¬((ls.length:Int) < n)),df (by rw[zI];omega:¬(((ls++x).length:Int) < n))]
theorem Ag.more {s:Sc} {r:Rw} {goal:Fm} {path:List Dc} {x:List Lm} (h:RwG s r) (hp:∀d∈s.path,d∈path):Ag s ⟨⟨s.q.g,s.q.rg,goal⟩,path,s.lems++x⟩ r r:=
 ⟨rfl,rfl,fun _=>rfl,rfl,hp,fun e=>absurd e h.kind,rfl,rfl,rfl,rfl,nh x h.lo.2,nh x h.hi.2⟩
theorem RwG.more {s:Sc} {r:Rw} {goal:Fm} {path:List Dc} {x:List Lm} (h:RwG s r) (hp:∀d∈s.path,d∈path):RwG ⟨⟨s.q.g,s.q.rg,goal⟩,path,s.lems++x⟩ r:=
 ⟨by rw[(Ag.more (goal:=goal) (x:=x) h hp).form h.ok];exact h.ok,h.kind,⟨h.lo.1,by show _≤((s.lems++x).length:Int);rw[zI];have:=h.lo.2;omega⟩,⟨h.hi.1,by show _≤((s.lems++x).length:Int);rw[zI];have:=h.hi.2;omega⟩⟩
structure LmG (s:Sc) (m:Lm):Prop where
 can:fj m.proof=true
 rows:∀x∈m.proof,RwG s x.1
 ok:gy s m=true
theorem LmG.more {s:Sc} {m:Lm} {goal:Fm} {path:List Dc} (x:List Lm) (h:LmG s m) (hp:∀d∈s.path,d∈path):LmG ⟨⟨s.q.g,s.q.rg,goal⟩,path,s.lems++x⟩ m:=by
 refine⟨h.can,fun y hy=>(h.rows y hy).more hp,?_⟩;have ok:=h.ok;unfold gy at ok ⊢;simp only;cases hi:decide (m.unit < 0)||decide ((s.q.g.units.length:Int)≤m.unit) with
 | true=>rw[hi] at ok;cases ok
 | false=>
  rw[hi,cond_false] at ok;have:=Ag.proves (f:=id) (s':=⟨⟨s.q.g,s.q.rg,goal⟩,path,s.lems++x⟩) (fun _=>rfl) (fun y hy _=>Ag.more (h.rows y hy) hp) (by rw[List.map_id];exact h.can) ok;rw[List.map_id] at this;exact this
def LmsG (s:Sc):Prop:=∀(i:Nat) (m:Lm),s.lems[i]?=some m→LmG ⟨s.q,s.path,s.lems.take i⟩ m
theorem LmsG.path {s:Sc} {goal:Fm} {path:List Dc} (h:LmsG s) (hp:∀d∈s.path,d∈path):LmsG ⟨⟨s.q.g,s.q.rg,goal⟩,path,s.lems⟩:=fun i m hi=>by
 have:=(h i m hi).more (goal:=goal) (path:=path) [] hp;rwa [List.append_nil] at this
theorem LmsG.snoc {s:Sc} {m:Lm} (h:LmsG s) (hm:LmG s m):LmsG ⟨s.q,s.path,s.lems++[m]⟩:=fun i x hi=>by
 simp only at hi ⊢;rcases zU i s.lems.length with g | g
 ·rw[List.getElem?_append_left g] at hi;rw[List.take_append_of_le_length om];exact h i x hi
 ·rw[List.getElem?_append_right g] at hi;have e:i=s.lems.length:=by
   rcases Nat.eq_zero_or_pos (i - s.lems.length) with h0 | h0
   ·omega
   ·rw[List.getElem?_eq_none (by simp;omega)] at hi;cases hi
  subst e;rw[Nat.sub_self] at hi;injection hi with hi;subst hi;rw[List.take_left']
  ·exact hm
  ·rfl
def Has (ls:List Lm) (j:Int) (up:Bool):Prop:=∃n,n < ls.length∧(atZ ls (n:Int)).unit=j∧(atZ ls (n:Int)).upper=up
theorem afs {ls:List Lm} {j:Int}:(Has ls j false→(gh ls j).1≠0)∧(Has ls j true→(gh ls j).2≠0):=by
 have key:∀i:Nat,(∀n:Nat,n < i→(atZ ls (n:Int)).unit=j→((atZ ls (n:Int)).upper=false→((List.range i).foldl (fb ls j) (0,0)).1≠0)∧((atZ ls (n:Int)).upper=true→((List.range i).foldl (fb ls j) (0,0)).2≠0)):=fun i=>by
  induction i with
  | zero=>intro n hn;omega
  | succ i ih=>
   intro n hn hu;rw[List.range_succ,List.foldl_append];generalize hp:(List.range i).foldl (fb ls j) (0,0)=p at*;show (_→(fb ls j p i).1≠0)∧(_→(fb ls j p i).2≠0);unfold fb;rcases zU n i with g | g
   ·obtain⟨h1,h2⟩:=ih n g hu;cases hb:(atZ ls (i:Int)).unit != j with
    | true=>exact⟨h1,h2⟩
    | false=>
     simp only[cond_false];refine⟨fun hf=>?_,fun hf=>?_⟩
     ·cases !(atZ ls (i:Int)).upper&&(((p.1:Int) == 0)||decide (0 < cmpR (atZ ls (i:Int)).value (atZ ls ((p.1 - 1:Nat):Int)).value)) with
      | true=>exact Nat.succ_ne_zero _
      | false=>exact h1 hf
     ·cases (atZ ls (i:Int)).upper&&(((p.2:Int) == 0)||decide (cmpR (atZ ls (i:Int)).value (atZ ls ((p.2 - 1:Nat):Int)).value < 0)) with
      | true=>exact Nat.succ_ne_zero _
      | false=>exact h2 hf
   ·obtain rfl:n=i:=by omega
    have hb:((atZ ls (n:Int)).unit != j)=false:=by rw[hu];simp
    rw[hb];simp only[cond_false];refine⟨fun hf=>?_,fun hf=>?_⟩
    ·rw[hf];simp only[Bool.not_false,Bool.true_and];by_cases h0:p.1=0
     ·rw[h0];exact Nat.succ_ne_zero _
     ·cases ((p.1:Int) == 0)||decide (0 < cmpR (atZ ls (n:Int)).value (atZ ls ((p.1 - 1:Nat):Int)).value) with
      | true=>exact Nat.succ_ne_zero _
      | false=>exact h0
    ·rw[hf];simp only[Bool.true_and];by_cases h0:p.2=0
     ·rw[h0];exact Nat.succ_ne_zero _
     ·cases ((p.2:Int) == 0)||decide (cmpR (atZ ls (n:Int)).value (atZ ls ((p.2 - 1:Nat):Int)).value < 0) with
      | true=>exact Nat.succ_ne_zero _
      | false=>exact h0
 exact⟨fun ⟨n,h1,h2,h3⟩=>(key _ n h1 h2).1 h3,fun ⟨n,h1,h2,h3⟩=>(key _ n h1 h2).2 h3⟩
theorem a0u {s:Sc} {n:Nat} (hb:∀j:Nat,j < n→Has s.lems j false∧Has s.lems j true):∀{ts:List Tm} {acc:List Mm},(∀t∈ts,t.1 < ((s.q.g.inputs+n:Nat):Int))→∃L,br s ts acc=some L
 | [],acc,_=>⟨acc,rfl⟩
 | t::ts,acc,h=>by
  have h1:=h t (mf ..);have hm:(im s t).2=true:=by
   unfold im;cases decide (0 < sgQ t.2) with
   | true=>rfl
   | false=>
    show (f5 s t.1).2=true;unfold f5;by_cases hi:t.1 < s.q.g.inputs
    ·rw[dt hi];rfl
    ·obtain⟨k,hk⟩:∃k:Nat,t.1 - s.q.g.inputs=(k:Int):=⟨(t.1 - s.q.g.inputs).toNat,by omega⟩;obtain⟨b1,b2⟩:=hb k om;obtain⟨c1,c2⟩:=afs (ls:=s.lems) (j:=k);rw[df hi,hk,beq_eq_false_iff_ne.2 (by have:=c1 b1;omega),beq_eq_false_iff_ne.2 (by have:=c2 b2;omega)];simp only[Bool.or_self,cond_false];cases decide (sgQ (atZ s.lems (((gh s.lems k).2 - 1:Nat):Int)).value≤0) with
     | true=>rfl
     | false=>
      cases decide (0≤sgQ (atZ s.lems (((gh s.lems k).1 - 1:Nat):Int)).value)<;>rfl
  rw[br,hm];exact a0u hb fun x hx=>h x (zC _ hx)
theorem xl {s:Sc} {n:Nat} {f:Fm} (hb:∀j:Nat,j < n→Has s.lems j false∧Has s.lems j true) (h:∀t∈f.terms,t.1 < ((s.q.g.inputs+n:Nat):Int)):(bi s f).2.2=true:=by
 obtain⟨L,hL⟩:=a0u hb (acc:=[]) h;unfold bi;rw[hL]
theorem Has.app {ls x:List Lm} {j:Int} {up:Bool} (h:Has ls j up):Has (ls++x) j up:=by
 obtain⟨n,h1,h2,h3⟩:=h;have e:atZ (ls++x) (n:Int)=atZ ls (n:Int):=by rw[bm (ge h1),bm (l:=ls++x) (i:=n) (a:=ls[n]) (by rw[List.getElem?_append_left h1];exact ge h1)]
 exact⟨n,by rw[zI];omega,by rw[e];exact h2,by rw[e];exact h3⟩
theorem Has.at {ls:List Lm} {n:Nat} {m:Lm} (h:ls[n]?=some m):Has ls m.unit m.upper:=by
 have hn:=(gs h).1;exact⟨n,hn,by rw[bm h],by rw[bm h]⟩
theorem m6 {s:Sc} (hs:LmsG s):∀j,j≤s.q.g.units.length→(∀i,i≤j→(aj s i).Va 2 3)→LmsG (aj s j)∧(∀i:Nat,i < j→Has (aj s j).lems i false∧Has (aj s j).lems i true)∧∃x,(aj s j).lems=s.lems++x
 | 0,_,_=>⟨hs,fun i hi=>absurd hi (Nat.not_lt_zero _),[],(List.append_nil _).symm⟩
 | j+1,hj,hv=>by
  obtain⟨g1,g2,y,hy⟩:=m6 hs j om fun i hi=>hv i om
  have va:=hv j om;obtain⟨q1,q2⟩:=fk s j;have hja:j < s.q.g.units.length:=hj;have e0:aj s (j+1)=xh (aj s j) j:=rfl;rw[e0];generalize aj s j=t at*;have hjt:j < t.q.g.units.length:=by rw[q1];exact hja
  have hcn:(atZ t.q.g.units (j:Int)).Cn:=(va.q.us _ (mg (ab hjt))).cn;have hvar:∀x∈(atZ t.q.g.units (j:Int)).terms,0≤x.1∧x.1 < ((t.q.g.inputs+j:Nat):Int):=fun x hx=>by
   have:=(va.q.g.us j _ (ab hjt)).ok.each x hx;exact⟨this.1,this.2.1⟩
  have hvar2:=kn (q:=Q.mone) hcn (P:=fun v=>0≤v∧v < ((t.q.g.inputs+j:Nat):Int)) hvar;have okA:=xl g2 fun x hx=>(hvar x hx).2
  have okB:=xl g2 (f:=Fm.scaleR (atZ t.q.g.units (j:Int)) Q.mone) fun x hx=>(hvar2 x hx).2
  have up:∀{l:List Tm},(∀x∈l,0≤x.1∧x.1 < ((t.q.g.inputs+j:Nat):Int))→∀x∈l,0≤x.1∧x.1 < ((t.q.g.inputs+t.q.g.units.length:Nat):Int):=fun h x hx=>by
   have:=h x hx;omega
  generalize hA:bi t (atZ t.q.g.units (j:Int))=A at*;generalize hB:bi t (Fm.scaleR (atZ t.q.g.units (j:Int)) Q.mone)=B at*;obtain⟨v,L,okA'⟩:=A;obtain⟨w,M,okB'⟩:=B;simp only at okA okB;subst okA okB;obtain⟨a1,a2,a3⟩:=pm va hcn (up hvar) hA;obtain⟨b1,b2,b3⟩:=pm va hcn.scaleR (up hvar2) hB;have vOk:v.Ok:=by have:=a0t t (atZ t.q.g.units (j:Int));rw[hA] at this;exact this
  have wOk:w.neg'.Ok:=vo _ _ (Q.un_pos _);have unit:(decide ((j:Int) < 0)||decide ((t.q.g.units.length:Int)≤(j:Int)))=false:=by
   rw[df om,df om];rfl
  have nOk:∀{q:Q},q.Ok→(numR q).Cn:=fun h=>⟨by simp[Srt',numR],(fun t ht=>by cases ht),h⟩
  have la:LmG t ⟨(j:Int),false,v,L⟩:=by
   refine⟨a1,a2,?_⟩;unfold gy;simp only;rw[unit,cond_false];refine a3 (lemF t.q ⟨(j:Int),false,v,L⟩) (hcn.subR (nOk vOk)) rfl ?_;show _≤(Fm.subR (atZ t.q.g.units (j:Int)) (numR v)).const.r;rw[fg];show _≤_ - v.r
   grind
  have lb:LmG t ⟨(j:Int),true,w.neg',M⟩:=by
   refine⟨b1,b2,?_⟩;unfold gy;simp only;rw[unit,cond_false];refine b3 (lemF t.q ⟨(j:Int),true,w.neg',M⟩) (hcn.subR (nOk wOk)).scaleR rfl ?_;show (Q.mul (atZ t.q.g.units (j:Int)).const Q.mone).r - w.r≤(Q.mul (Fm.subR (atZ t.q.g.units (j:Int)) (numR w.neg')).const Q.mone).r;rw[Q.mul_r,Q.mul_r,fg];show _≤(_ - w.neg'.r)*_;rw[Q.neg_r,yb]
   grind
  have e1:xh t j=⟨t.q,t.path,(t.lems++[⟨(j:Int),false,v,L⟩])++[⟨(j:Int),true,w.neg',M⟩]⟩:=by
   unfold xh ju;rw[hA,hB,List.append_assoc];rfl
  have s1:=g1.snoc la;have s2:=s1.snoc (m:=⟨(j:Int),true,w.neg',M⟩) (lb.more (goal:=t.q.goal) [⟨(j:Int),false,v,L⟩] fun d hd=>hd);rw[e1];refine⟨s2,fun i hi=>?_,y++[⟨(j:Int),false,v,L⟩,⟨(j:Int),true,w.neg',M⟩],?_⟩
  ·rcases zU i j with g | g
   ·obtain⟨h1,h2⟩:=g2 i g;exact⟨h1.app.app,h2.app.app⟩
   ·obtain rfl:i=j:=by omega
    exact⟨(Has.at (n:=t.lems.length) (m:=⟨(i:Int),false,v,L⟩) (by simp)).app,Has.at (n:=t.lems.length+1) (m:=⟨(i:Int),true,w.neg',M⟩) (by simp)⟩
  ·show (t.lems++_)++_=_;rw[hy];simp
abbrev On (is:List Bool) (i:Nat):Prop:=is[i]?=some true
def Ment (l:List Mm) (j:Nat):Prop:=∃m∈l,m.1.lo=(j:Int)+1∨m.1.hi=(j:Int)+1
theorem amo {is:List Bool} {i:Nat} (h:On is i):i < is.length:=(gs h).1
theorem amn {is:List Bool} {i j:Nat} (h:On is j):On (is.set i true) j:=by
 have hl:=amo h;show (is.set i true)[j]?=some true;rw[List.getElem?_set];by_cases hij:i=j
 ·subst hij;rw[if_pos rfl,if_pos hl]
 ·rw[if_neg hij];exact h
theorem a3k {is:List Bool} {i:Nat} (h:i < is.length):On (is.set i true) i:=by
 show (is.set i true)[i]?=some true;rw[List.getElem?_set,if_pos rfl,if_pos h]
theorem a1t {is:List Bool} {i j:Nat} (h:On (is.set i true) j):j=i∨On is j:=by
 by_cases hij:i=j
 ·exact .inl hij.symm
 ·refine .inr ?_;have h:(is.set i true)[j]?=some true:=h;rw[List.getElem?_set,if_neg hij] at h;exact h
def Ser (ls:List Lm) (one:Int→List Bool→List Bool) (k:Nat):Prop:=∀x is,is.length=ls.length→cntF is≤k→
 (one x is).length=ls.length∧cntF (one x is)≤cntF is∧(∀i,On is i→On (one x is) i)∧(∀j:Nat,j < ls.length→x=(j:Int)+1→On (one x is) j)∧
 (∀i,On (one x is) i→¬On is i→∀j,j < ls.length→Ment (atZ ls (i:Int)).proof j→On (one x is) j)∧
 (∀R:Nat→Prop,(∀i j,R i→j < ls.length→Ment (atZ ls (i:Int)).proof j→R j)→(∀i,On is i→R i)→(∀j:Nat,j < ls.length→x=(j:Int)+1→R j)→∀i,On (one x is) i→R i)
theorem a33 {ls:List Lm} {one:Int→List Bool→List Bool} {k:Nat} (h:Ser ls one k):∀(l:List Mm) (is:List Bool),is.length=ls.length→cntF is≤k→
 (addM one l is).length=ls.length∧cntF (addM one l is)≤cntF is∧(∀i,On is i→On (addM one l is) i)∧(∀j:Nat,j < ls.length→Ment l j→On (addM one l is) j)∧
 (∀i,On (addM one l is) i→¬On is i→∀j,j < ls.length→Ment (atZ ls (i:Int)).proof j→On (addM one l is) j)∧
 (∀R:Nat→Prop,(∀i j,R i→j < ls.length→Ment (atZ ls (i:Int)).proof j→R j)→(∀i,On is i→R i)→(∀j:Nat,j < ls.length→Ment l j→R j)→∀i,On (addM one l is) i→R i)
 | [],is,h1,h2=>⟨h1,nr _,fun _ h=>h,fun j _ ⟨m,hm,_⟩=>(by cases hm),fun i h1 h2=>(h2 h1).elim,fun R _ h _=>h⟩
 | m::l,is,h1,h2=>by
  obtain⟨a1,a2,a3,a4,a5,a6⟩:=h m.1.lo is h1 h2;obtain⟨b1,b2,b3,b4,b5,b6⟩:=h m.1.hi _ a1 (nt a2 h2);obtain⟨c1,c2,c3,c4,c5,c6⟩:=a33 h l _ b1 om;rw[addM];refine⟨c1,by omega,fun i hi=>c3 i (b3 i (a3 i hi)),fun j hj ⟨q,hq,he⟩=>?_,fun i hi hn j hj hm=>?_,fun R hR h0 hl=>c6 R hR (b6 R hR (a6 R hR h0 fun j hj e=>hl j hj ⟨m,mf ..,.inl e⟩) fun j hj e=>hl j hj ⟨m,mf ..,.inr e⟩) fun j hj ⟨q,hq,he⟩=>hl j hj ⟨q,zC _ hq,he⟩⟩
  ·rcases zP.1 hq with rfl | hq
   ·rcases he with he | he
    ·exact c3 _ (b3 _ (a4 j hj he))
    ·exact c3 _ (b4 j hj he)
   ·exact c4 j hj ⟨q,hq,he⟩
  ·by_cases g2:On (one m.1.hi (one m.1.lo is)) i
   ·by_cases g1:On (one m.1.lo is) i
    ·exact c3 _ (b3 _ (a5 i g1 hn j hj hm))
    ·exact c3 _ (b5 i g2 g1 j hj hm)
   ·exact c5 i hi g2 j hj hm
theorem a8f {ls:List Lm}:∀k,Ser ls (oneM ls k) k
 | 0,x,is,h1,h2=>by
  refine⟨h1,nr _,fun _ h=>h,fun j hj hx=>?_,fun i h1 h2=>(h2 h1).elim,fun R _ h _=>h⟩;show is[j]?=some true;have hj':j < is.length:=by omega
  rw[ge hj'];cases hb:is[j] with
  | true=>rfl
  | false=>
   have:=xd (is:=is) (i:=j) (by rw[ge hj',hb]);omega
 | k+1,x,is,h1,h2=>by
  rw[oneM];cases hh:hitM ls x is with
  | false=>
   rw[cond_false];refine⟨h1,nr _,fun _ h=>h,fun j hj hx=>?_,fun i h1 h2=>(h2 h1).elim,fun R _ h _=>h⟩;subst hx;rw[hitM,dt om,dt om,Bool.true_and,Bool.true_and,Bool.not_eq_false',show (j:Int)+1 - 1=(j:Int) from by omega] at hh;show is[j]?=some true;rw[← hh,ab om]
  | true=>
   rw[cond_true];simp only[hitM,be,de,Bool.not_eq_true'] at hh;obtain⟨g1,g2,g3⟩:=hh;obtain⟨z,rfl⟩:∃z:Nat,x=(z:Int)+1:=⟨(x - 1).toNat,by omega⟩;rw[show (z:Int)+1 - 1=(z:Int) from by omega] at g3 ⊢;rw[show ((z:Int)).toNat=z from rfl];have hz:z < is.length:=by omega
   have h3:is[z]?=some false:=by rw[ab hz,g3]
   have h4:=xd h3;obtain⟨c1,c2,c3,c4,c5,c6⟩:=a33 (a8f k) (atZ ls (z:Int)).proof (is.set z true) (by rw[List.length_set];exact h1) om;refine⟨c1,by omega,fun i hi=>c3 i (amn hi),fun j hj e=>?_,fun i hi hn j hj hm=>?_,fun R hR h0 hx=>c6 R hR (fun i hi=>?_) fun j hj hm=>hR z j (hx z om rfl) hj hm⟩
   ·obtain rfl:z=j:=by omega
    exact c3 _ (a3k hz)
   ·by_cases g:On (is.set z true) i
    ·rcases a1t g with rfl | g
     ·exact c4 j hj hm
     ·exact (hn g).elim
    ·exact c5 i hi g j hj hm
   ·rcases a1t hi with rfl | g
    ·exact hx i om rfl
    ·exact h0 i g
theorem a7e {n i:Nat}:¬On (List.replicate n false) i:=fun h=>by
 have h:(List.replicate n false)[i]?=some true:=h;rw[List.getElem?_replicate] at h;split at h
 ·cases h
 ·cases h
def cT:List Bool→Nat→Nat
 | b::is,i+1=>(bif b then 1 else 0)+cT is i
 | _,_=>0
theorem ant:∀{is:List Bool} {i j:Nat},i≤j→cT is i≤cT is j
 | [],_,_,_=>nr _
 | b::is,0,_,_=>nq _
 | b::is,i+1,j+1,h=>Nat.add_le_add_left (ant (is:=is) (i:=i) (j:=j) om) _
theorem akj:∀{is:List Bool} {i j:Nat},On is i→i < j→cT is i < cT is j
 | [],i,j,h,_=>by cases h
 | b::is,0,j+1,h,_=>by
  have:b=true:=by injection h
  subst this;show 0 < 1+_;omega
 | b::is,i+1,j+1,h,hj=>Nat.add_lt_add_left (akj (is:=is) (i:=i) (j:=j) h om) _
theorem a3l:∀{is:List Bool} {i n:Nat},On is i→(ov n is)[i]?=some (((n+cT is i+1:Nat)):Int)
 | [],i,n,h=>by cases h
 | b::is,0,n,h=>by
  have:b=true:=by injection h
  subst this;rfl
 | b::is,i+1,n,h=>by
  have h':On is i:=h;rw[ov];cases b with
  | true=>rw[cond_true,List.getElem?_cons_succ,a3l h'];show some _=some (((n+(1+cT is i)+1:Nat)):Int);congr 2;omega
  | false=>rw[cond_false,List.getElem?_cons_succ,a3l h'];show some _=some (((n+(0+cT is i)+1:Nat)):Int);congr 2;omega
theorem a1v:∀(is:List Bool) (n:Nat),(ov n is).length=is.length
 | [],_=>rfl
 | b::is,n=>by rw[ov];cases b<;>simp[a1v is]
theorem ab7 {to:List Int}:∀{is:List Bool} {ls:List Lm} {i:Nat} {m:Lm},On is i→ls[i]?=some m→(eh to is ls)[cT is i]?=some (renL to m)
 | [],ls,i,m,h,_=>by cases h
 | b::is,[],i,m,_,h=>by cases h
 | b::is,a::ls,0,m,h,hm=>by
  have:b=true:=by injection h
  subst this;injection hm with hm;subst hm;rfl
 | b::is,a::ls,i+1,m,h,hm=>by
  have h':On is i:=h;have:=ab7 (to:=to) (is:=is) (ls:=ls) h' hm;rw[eh];cases b with
  | true=>show (renL to a::eh to is ls)[1+cT is i]?=_;rw[Nat.add_comm,List.getElem?_cons_succ];exact this
  | false=>show (eh to is ls)[0+cT is i]?=_;rw[Nat.zero_add];exact this
theorem a03 {to:List Int}:∀{is:List Bool} {ls:List Lm} {c:Nat} {m':Lm},(eh to is ls)[c]?=some m'→∃i m,On is i∧ls[i]?=some m∧m'=renL to m∧cT is i=c
 | [],ls,c,m',h=>by cases ls<;>cases h
 | b::is,[],c,m',h=>by cases h
 | b::is,a::ls,c,m',h=>by
  rw[eh] at h;cases b with
  | true=>
   cases c with
   | zero=>injection h with h;exact⟨0,a,rfl,rfl,h.symm,rfl⟩
   | succ c=>
    obtain⟨i,m,h1,h2,h3,h4⟩:=a03 (c:=c) h;exact⟨i+1,m,h1,h2,h3,by show 1+cT is i=c+1;omega⟩
  | false=>
   obtain⟨i,m,h1,h2,h3,h4⟩:=a03 (c:=c) h;exact⟨i+1,m,h1,h2,h3,by show 0+cT is i=c;omega⟩
theorem a02 {to:List Int}:∀{is:List Bool} {ls:List Lm},is.length=ls.length→(eh to is ls).length=cT is ls.length
 | [],[],_=>rfl
 | b::is,a::ls,h=>by
  rw[eh];have:=a02 (to:=to) (is:=is) (ls:=ls) (by simpa using h);cases b with
  | true=>show (eh to is ls).length+1=1+cT is ls.length;omega
  | false=>show (eh to is ls).length=0+cT is ls.length;omega
def Vr (is:List Bool) (x:Int):Prop:=x=0∨∃j:Nat,x=(j:Int)+1∧On is j
theorem a8s {is:List Bool} {j:Nat} (h:On is j):reN (d8 is) ((j:Int)+1)=(cT is j:Int)+1:=by
 have hl:=amo h;unfold reN;rw[dt om,dt (by unfold d8;rw[a1v];omega)];have e:((j:Int)+1 - 1)=(j:Int):=by omega
 rw[e];have:=a3l (n:=0) h;show atZ (ov 0 is) (j:Int)=_;rw[bm this];omega
theorem ao6 (to:List Int):reN to 0=0:=rfl
theorem a4x {is:List Bool} {x y:Int} (hx:Vr is x) (hy:Vr is y) (h:x < y):reN (d8 is) x < reN (d8 is) y:=by
 rcases hy with rfl | ⟨j,rfl,hj⟩
 ·rcases hx with rfl | ⟨i,rfl,hi⟩<;>omega
 ·rw[a8s hj];rcases hx with rfl | ⟨i,rfl,hi⟩
  ·rw[ao6];omega
  ·rw[a8s hi];have:=akj hi (j:=j) om;omega
abbrev RwV (is:List Bool) (r:Rw):Prop:=Vr is r.lo∧Vr is r.hi
theorem a00 {is:List Bool} {ls:List Lm} {x unit:Int} {up:Bool} {i:Nat} (hl:is.length=ls.length) (hi:i≤ls.length) (hx:Vr is x) (hx2:x≤((ls.take i).length:Int)):aw ((eh (d8 is) is ls).take (cT is i)) (reN (d8 is) x) unit up=aw (ls.take i) x unit up∧(reN (d8 is) x == 0)=(x == 0):=by
 rcases hx with rfl | ⟨j,rfl,hj⟩
 ·exact⟨rfl,rfl⟩
 ·have hlt:j < i:=by rw[List.length_take] at hx2;omega
  have hc:=akj hj hlt;have hk:=ab7 (to:=d8 is) hj (ge (show j < ls.length by omega));have hkl:cT is i≤(eh (d8 is) is ls).length:=by rw[a02 hl];exact ant hi
  rw[a8s hj];refine⟨?_,by rw[beq_eq_false_iff_ne.2 om,beq_eq_false_iff_ne.2 om]⟩;have e1:aw ((eh (d8 is) is ls).take (cT is i)) ((cT is j:Int)+1) unit up=aw (eh (d8 is) is ls) ((cT is j:Int)+1) unit up:=by
   conv=>rhs;rw[← List.take_append_drop (cT is i) (eh (d8 is) is ls)]
   exact (nh _ (by rw[List.length_take];omega)).symm
  have e2:aw (ls.take i) ((j:Int)+1) unit up=aw ls ((j:Int)+1) unit up:=by
   conv=>rhs;rw[← List.take_append_drop i ls]
   exact (nh _ hx2).symm
  rw[e1,e2];unfold aw;have f1:((cT is j:Int)+1 - 1)=((cT is j:Nat):Int):=by omega
  have f2:((j:Int)+1 - 1)=(j:Int):=by omega
  rw[f1,f2,bm hk,bm (ge (show j < ls.length by omega)),df (by omega:¬((cT is j:Int)+1 < 1)),df (by omega:¬((j:Int)+1 < 1)),df om,df om];rfl
theorem Ag.red {q:Qr} {path:List Dc} {is:List Bool} {ls:List Lm} {i:Nat} {m:Mm} (hl:is.length=ls.length) (hi:i≤ls.length) (h:RwG ⟨q,path,ls.take i⟩ m.1) (hv:RwV is m.1):Ag ⟨q,path,ls.take i⟩ ⟨q,path,(eh (d8 is) is ls).take (cT is i)⟩ m.1 (renM (d8 is) m).1:=
 ⟨rfl,rfl,fun _=>rfl,rfl,fun _ h=>h,fun _=>rfl,rfl,rfl,(a00 (unit:=0) (up:=false) hl hi hv.1 h.lo.2).2,(a00 (unit:=0) (up:=false) hl hi hv.2 h.hi.2).2,(a00 hl hi hv.1 h.lo.2).1,(a00 hl hi hv.2 h.hi.2).1⟩
theorem aez {is:List Bool} {a b:Mm} (ha:RwV is a.1) (hb:RwV is b.1) (h:gx a.1 b.1=true):gx (renM (d8 is) a).1 (renM (d8 is) b).1=true:=by
 rw[zy] at h ⊢;show a.1.kind < b.1.kind∨a.1.kind=b.1.kind∧(a.1.index < b.1.index∨a.1.index=b.1.index∧(reN _ a.1.lo < reN _ b.1.lo∨reN _ a.1.lo=reN _ b.1.lo∧reN _ a.1.hi < reN _ b.1.hi));rcases h with h | ⟨h1,h | ⟨h2,h | ⟨h3,h⟩⟩⟩
 ·exact .inl h
 ·exact .inr ⟨h1,.inl h⟩
 ·exact .inr ⟨h1,.inr ⟨h2,.inl (a4x ha.1 hb.1 h)⟩⟩
 ·exact .inr ⟨h1,.inr ⟨h2,.inr ⟨by rw[h3],a4x ha.2 hb.2 h⟩⟩⟩
theorem a2m {is:List Bool} {l:List Mm} (hv:∀m∈l,RwV is m.1) (h:fj l=true):fj (l.map (renM (d8 is)))=true:=by
 refine rd (i:=l.length) (fun j hj=>?_) (by simp);have hb:badM l j=false:=by
  unfold fj at h;have:=zG.1 h j (List.mem_range.2 hj);simpa using this
 have e:∀k:Nat,k < l.length→atZ (l.map (renM (d8 is))) (k:Int)=renM (d8 is) (atZ l (k:Int)):=fun k hk=>by
  rw[bm (ge hk),bm (l:=l.map (renM (d8 is))) (i:=k) (a:=renM (d8 is) l[k]) (by simp[hk])]
 unfold badM at hb ⊢;rw[Bool.or_eq_false_iff] at hb ⊢;rw[e j hj];refine⟨hb.1,?_⟩;rcases Nat.eq_zero_or_pos j with rfl | h0
 ·rfl
 ·have h2:=hb.2;rw[dt om,Bool.true_and,Bool.not_eq_false'] at h2 ⊢;rw[e (j - 1) om];exact aez (hv _ (mg (ab (show j - 1 < l.length by omega)))) (hv _ (mg (ab hj))) h2
theorem aax (ls:List Lm) (p:List Mm):(∀j:Nat,j < ls.length→Ment p j→On (kw ls p) j)∧∀i,On (kw ls p) i→∀j,j < ls.length→Ment (atZ ls (i:Int)).proof j→On (kw ls p) j:=by
 obtain⟨_,_,_,a4,a5,_⟩:=a33 (a8f (ls:=ls) ls.length) p (List.replicate ls.length false) (by simp) (by rw[a0m];exact nr _);exact⟨a4,fun i hi=>a5 i hi a7e⟩
theorem acj {is:List Bool} {n:Nat} {x:Int} (h:0≤x∧x≤(n:Int)) (hm:∀j:Nat,j < n→x=(j:Int)+1→On is j):Vr is x:=by
 rcases Int.lt_or_eq_of_le h.1 with h0 | h0
 ·refine .inr ⟨(x - 1).toNat,by omega,hm _ om om⟩
 ·exact .inl h0.symm
theorem a1a {q:Qr} {path:List Dc} {ls:List Lm} {p:List Mm} (hf:∀d∈path,cz q d=true) (hs:LmsG ⟨q,path,ls⟩) (hc:fj p=true) (hr:∀m∈p,RwG ⟨q,path,ls⟩ m.1) (hp:dv ⟨q,path,ls⟩ q.goal p=true):d6 q (d7 ⟨path,ls,false,p⟩)=true:=by
 obtain⟨m1,m2⟩:=aax ls p;have hl:=yd ls p;unfold d7 d6 En.sc;simp only;generalize kw ls p=is at*;have hv:∀m∈p,RwV is m.1:=fun m hm=>⟨acj (hr m hm).lo fun j hj e=>m1 j hj ⟨m,hm,.inl e⟩,acj (hr m hm).hi fun j hj e=>m1 j hj ⟨m,hm,.inr e⟩⟩
 have tk:(eh (d8 is) is ls).take (cT is ls.length)=eh (d8 is) is ls:=by rw[← a02 (to:=d8 is) hl,List.take_length]
 rw[be]
 constructor
 ·unfold t4;simp only;rw[be]
  constructor
  ·rw[Bool.not_eq_true',List.any_eq_false];intro d hd;rw[hf d hd];decide
  ·rw[Bool.not_eq_true',List.any_eq_false];intro c hc;obtain⟨m',hm'⟩:∃m',(eh (d8 is) is ls)[c]?=some m':=⟨_,ge (List.mem_range.1 hc)⟩;obtain⟨i,m,h1,h2,rfl,rfl⟩:=a03 hm';have hi:i < ls.length:=(gs h2).1;obtain⟨g1,g2,g3⟩:=hs i m h2;have hvm:∀y∈m.proof,RwV is y.1:=fun y hy=>by
    have lo:=(g2 y hy).lo;have hi2:=(g2 y hy).hi;simp only[List.length_take,Nat.min_eq_left (Nat.le_of_lt hi)] at lo hi2;have hmm:(atZ ls (i:Int))=m:=bm h2;exact⟨acj lo fun j hj e=>m2 i h1 j om (by rw[hmm];exact⟨y,hy,.inl e⟩),acj hi2 fun j hj e=>m2 i h1 j om (by rw[hmm];exact⟨y,hy,.inr e⟩)⟩
   unfold badL;simp only;rw[bm hm'];unfold gy at g3 ⊢;simp only at g3 ⊢;rw[show (renL (d8 is) m).unit=m.unit from rfl];cases hu:decide (m.unit < 0)||decide ((q.g.units.length:Int)≤m.unit) with
   | true=>rw[hu] at g3;cases g3
   | false=>
    rw[hu,cond_false] at g3;rw[cond_false];have:=Ag.proves (f:=renM (d8 is)) (s':=⟨q,path,(eh (d8 is) is ls).take (cT is i)⟩) (fun _=>rfl) (fun y hy _=>Ag.red hl om (g2 y hy) (hvm y hy)) (a2m hvm g1) g3;rw[show lemF q (renL (d8 is) m)=lemF q m from rfl,show (renL (d8 is) m).proof=m.proof.map (renM (d8 is)) from rfl,this]
    decide
 ·show dv _ _ _=true;have h:=Ag.proves (f:=renM (d8 is)) (s:=⟨q,path,ls.take ls.length⟩) (s':=⟨q,path,(eh (d8 is) is ls).take (cT is ls.length)⟩) (l:=p) (g:=q.goal) (fun _=>rfl) (fun y hy _=>Ag.red hl (nr _) (by rw[List.take_length];exact hr y hy) (hv y hy)) (a2m hv hc) (by rw[List.take_length];exact hp);rw[tk] at h;exact h
end Go.Proofs.YtbhbainhmfjpdaaGreatDoor
