/- Walks of the search and of what it calls, part 17. -/
import Derived.Test.YtbhbainhmfjpdaaGreatDoorMp
set_option linter.unusedVariables false
set_option linter.unusedSimpArgs false
set_option maxRecDepth 100000
set_option maxHeartbeats 8000000
namespace Go.Proofs.YtbhbainhmfjpdaaGreatDoor
open Go.RowKit
def oppD (d:Dc):Dc:=bif decide (0 < d.kind)&&decide (d.kind < 5) then ⟨oppK d.kind,d.index,d.at_⟩ else d
set_option maxHeartbeats 8000000 in
theorem p_opp (d:Dc):PCallsG Tryz.prog [224] 79 [dcP d] (dcP (oppD d)):=by
 refine pcF [42] (by kernel_rfl) Tryz.func79 rfl rfl (fun D hF hG=>?_);refine a2 (fun e6=>?_) (fun e6=>?_)
 ·have g1:=of_decide_eq_true e6;refine a2 (fun e10=>?_) (fun e10=>?_)
  ·have g2:=of_decide_eq_true e10;refine pr0' (qg 2 ?_);refine ro0 Y Y Y (fun hd=>opE_glob Y hG Y Y (by omega) (by omega) Y hd) ?_;exact ar (c:=by unfold oppD;simp only[e6,e10];rfl)
  ·exact ar (c:=by unfold oppD;simp only[e6,e10];rfl)
 ·exact ar (c:=by unfold oppD;simp only[e6];rfl)
theorem p_concatL2 {a b:List Lm} (h:a.length+b.length≤1000000):PCalls Tryz.prog [] 76 [.rows 40 1 [100,200,98] [[lmsP a],[lmsP b]]] (lmsP (a++b)):=by
 have:=(p_concatL (L:=[a,b]) (by simp) (by simpa using h)).p;rwa [show [a,b].flatten=a++b from by simp] at this
theorem p_concatD2 {a b:List Dc} (h:a.length+b.length≤1000000):PCalls Tryz.prog [] 80 [.rows 75 1 [42,200] [[dcsP a],[dcsP b]]] (dcsP (a++b)):=by
 have:=(p_concatD (L:=[a,b]) (by simp) (by simpa using h)).p;rwa [show [a,b].flatten=a++b from by simp] at this
def entR:Nat→Nd→List Dc→List Lm→List En
 | 0,.mk ls _ _ e p,path,lems=>[⟨path,lems++ls,e,p⟩]
 | k+1,.mk ls d ks _ _,path,lems=>match ks with
  | [a,b]=>entR k a (path++[d]) (lems++ls)++entR k b (path++[oppD d]) (lems++ls)
  | _=>[]
abbrev ewR (acc:List En):List (Nat×Res):=[(1000,.box 51 [.tok 1002]),(1001,.box 145 [.fn 75 [.box 1000 0,.box 1001 0]]),(1002,.tok 77 10 enT (acc.map enC))]
abbrev ndX (x:Nd):List PV:=[lmsP x.lems,iP x.split.kind,iP x.split.index,bP x.split.at_.neg,.nat x.split.at_.num,.nat x.split.at_.den,ndsP x.kids,bP x.empty,mmsP x.proof]
theorem ndX_eq (x:Nd):ndC x=ndX x:=by obtain⟨ls,d,ks,e,p⟩:=x;rfl
theorem en_app {acc:List En} {x:En}:acc.map enC++[enC x]=(acc++[x]).map enC:=by rw[List.map_append];rfl
set_option maxHeartbeats 8000000 in
theorem p_ent0 {ls lems:List Lm} {d:Dc} {e:Bool} {p:List Mm} {path:List Dc} {acc:List En} (h1:lems.length+ls.length≤100000) (h2:path.length≤100000) (h3:p.length≤100000) (h4:acc.length≤100000):MCalls Tryz.prog [224] 75 [.pv (.agg (ndC (.mk ls d [] e p))),.pv (dcsP path),.pv (lmsP lems),.box 1000 0,.box 1001 0] (ewR acc) (ewR (acc++[⟨path,lems++ls,e,p⟩])) (.tup []):=by
 refine pcm [46,42,77,51,145] (by kernel_rfl) Tryz.func75 Y Y (fun D hG=>?_);refine au ?_;refine rc0 (p_concatL2 (by omega)) Y Y Y Y Y Y Y ?_;refine akT (c:=by exact (show _=true from rfl)) ?_;refine au ?_;refine rc0 ((p_cloneD (by omega)).p) Y Y Y Y Y Y Y ?_;refine au ?_;refine rc0 ((p_cloneM (by omega)).p) Y Y Y Y Y Y Y ?_;refine au ?_;refine rp0 el_Entry (by rw[List.length_map];simp;omega) Y Y Y Y Y Y Y Y ?_;refine au ?_;exact retm Y Y ((c2 Y Y (ai (congrArg (fun x=>some (Res.tok _ _ _ x)) (en_app (x:=⟨path,lems++ls,e,p⟩))) trivial)))
def dirR (d:Dc) (i:Nat):Dc:=bif decide (0 < (i:Int)) then oppD d else d
def accR (E:Nat→List En) (acc:List En) (i:Nat):List En:=acc++((List.range i).map E).flatten
instance ndInh:Inhabited Nd:=⟨.mk [] dc0 [] false []⟩
theorem kid_at {a b:Nd} {i:Nat} (h:i < 2):(ndCs [a,b])[i]?=some (ndX (atZ [a,b] (i:Int))):=by
 have:i=0∨i=1:=by omega
 rcases this with rfl | rfl
 ·rw[← ndX_eq];rfl
 ·rw[← ndX_eq];rfl
theorem accR_succ {E:Nat→List En} {acc:List En} {i:Nat}:accR E acc i++E i=accR E acc (i+1):=by
 unfold accR;rw[List.range_succ,List.map_append,List.flatten_append,List.append_assoc];simp
set_option maxHeartbeats 8000000 in
theorem p_entS {ls lems:List Lm} {d:Dc} {a b:Nd} {e:Bool} {p:List Mm} {path:List Dc} {acc:List En} {E:Nat→List En} (h1:lems.length+ls.length≤100000) (h2:path.length≤100000) (ih:∀(i:Nat),i < 2→MCalls Tryz.prog [224] 75 [.pv (.agg (ndX (atZ [a,b] (i:Int)))),.pv (dcsP (path++[dirR d i])),.pv (lmsP (lems++ls)),.box 1000 0,.box 1001 0] (ewR (accR E acc i)) (ewR (accR E acc i++E i)) (.tup [])):MCalls Tryz.prog [224] 75 [.pv (.agg (ndC (.mk ls d [a,b] e p))),.pv (dcsP path),.pv (lmsP lems),.box 1000 0,.box 1001 0] (ewR acc) (ewR (accR E acc 2)) (.tup []):=by
 refine pcm [46,42,77,51,145] (by kernel_rfl) Tryz.func75 Y Y (fun D hG=>?_);refine au ?_;refine rc0 (p_concatL2 (by omega)) Y Y Y Y Y Y Y ?_;refine akF (c:=by exact (show _=false from rfl)) ?_;refine au ?_;refine pl (ι:={i:Nat // i≤2}) (fun i=>[(1,.pv (dcsP path)),(2,.pv (lmsP (lems++ls))),(3,.box 1000 0),(4,.box 1001 0),(5,.box 5 0),(34,.pv (ndsP [a,b])),(35,.pv (iP ((ndCs [a,b]).length:Int))),(36,.pv (iP (i.1:Int)))]) (fun i=>[(5,.box 46 [.pv (lmsP ls),.pv (iP d.kind),.pv (iP d.index),.pv (bP d.at_.neg),.pv (.nat d.at_.num),.pv (.nat d.at_.den),.pv (ndsP [a,b]),.pv (bP e),.pv (mmsP p)]),(1000,.box 51 [.tok 1002]),(1001,.box 145 [.fn 75 [.box 1000 0,.box 1001 0]]),(1002,.tok 77 10 enT ((accR E acc i.1).map enC))]) [46,42,77,51,145] (fun i=>2 - i.1) ⟨0,nq _⟩ (c8 Y Y Y Y Y Y Y Y trivial) (c3 Y Y Y (ai (congrArg (fun x=>some (Res.tok _ _ _ x)) (by show _=List.map enC (accR E acc 0);unfold accR;simp)) trivial)) (fun _=>rfl) ?_;intro ⟨i,hi0⟩;refine a2 (fun e37=>?_) (fun e37=>?_)
 ·have hi:i < 2:=by have h:(i:Int) < 2:=of_decide_eq_true e37;omega
  refine ax (c:=(kid_at hi)) ?_;refine a2 (fun e44=>?_) (fun e44=>?_)
  ·refine au ?_;refine rcg0 hG (p_opp d) Y Y Y Y Y Y Y ?_;refine ac (c:=p_concatD2 (a:=path) (b:=[oppD d]) (by show path.length+1≤_;omega)) ?_;refine au ?_;refine rmv0 (args:=[.pv (.agg (ndX (atZ [a,b] (i:Int)))),.pv (dcsP (path++[oppD d])),.pv (lmsP (lems++ls))]) (caps:=[.box 1000 0,.box 1001 0]) [(1,.pv (dcsP path)),(2,.pv (lmsP (lems++ls))),(3,.box 1000 0),(4,.box 1001 0),(5,.box 5 0),(34,.pv (ndsP [a,b])),(35,.pv (iP ((ndCs [a,b]).length:Int))),(36,.pv (iP (i:Int)))] [(5,.box 46 [.pv (lmsP ls),.pv (iP d.kind),.pv (iP d.index),.pv (bP d.at_.neg),.pv (.nat d.at_.num),.pv (.nat d.at_.den),.pv (ndsP [a,b]),.pv (bP e),.pv (mmsP p)])] hG (show MCalls Tryz.prog [224] 75 [.pv (.agg (ndX (atZ [a,b] (i:Int)))),.pv (dcsP (path++[oppD d])),.pv (lmsP (lems++ls)),.box 1000 0,.box 1001 0] (ewR (accR E acc i)) (ewR (accR E acc i++E i)) (.tup []) from by have:=ih i hi;rw[show dirR d i=oppD d from by unfold dirR;rw[e44];rfl] at this;exact this) Y Y Y Y Y Y Y (c3 Y Y Y trivial) (c8 Y Y Y Y Y Y Y Y trivial) (ai Y trivial) Y (by kernel_rfl) (by kernel_rfl) ?_;refine aa (c:=ari_succ (by show i≤_;omega)) ?_;refine au ?_;exact pe ⟨i+1,hi⟩ (c8 Y Y Y Y Y Y Y Y trivial) (c3 Y Y Y (ai (congrArg (fun l:List En=>some (Res.tok 77 10 enT (l.map enC))) (accR_succ (E:=E) (acc:=acc) (i:=i))) trivial)) Y (by show 2 - (i+1) < 2 - i;omega)
  ·refine ac (c:=p_concatD2 (a:=path) (b:=[d]) (by show path.length+1≤_;omega)) ?_;refine au ?_;refine rmv0 (args:=[.pv (.agg (ndX (atZ [a,b] (i:Int)))),.pv (dcsP (path++[d])),.pv (lmsP (lems++ls))]) (caps:=[.box 1000 0,.box 1001 0]) [(1,.pv (dcsP path)),(2,.pv (lmsP (lems++ls))),(3,.box 1000 0),(4,.box 1001 0),(5,.box 5 0),(34,.pv (ndsP [a,b])),(35,.pv (iP ((ndCs [a,b]).length:Int))),(36,.pv (iP (i:Int)))] [(5,.box 46 [.pv (lmsP ls),.pv (iP d.kind),.pv (iP d.index),.pv (bP d.at_.neg),.pv (.nat d.at_.num),.pv (.nat d.at_.den),.pv (ndsP [a,b]),.pv (bP e),.pv (mmsP p)])] hG (show MCalls Tryz.prog [224] 75 [.pv (.agg (ndX (atZ [a,b] (i:Int)))),.pv (dcsP (path++[d])),.pv (lmsP (lems++ls)),.box 1000 0,.box 1001 0] (ewR (accR E acc i)) (ewR (accR E acc i++E i)) (.tup []) from by have:=ih i hi;rw[show dirR d i=d from by unfold dirR;rw[e44];rfl] at this;exact this) Y Y Y Y Y Y Y (c3 Y Y Y trivial) (c8 Y Y Y Y Y Y Y Y trivial) (ai Y trivial) Y (by kernel_rfl) (by kernel_rfl) ?_;refine aa (c:=ari_succ (by show i≤_;omega)) ?_;refine au ?_;exact pe ⟨i+1,hi⟩ (c8 Y Y Y Y Y Y Y Y trivial) (c3 Y Y Y (ai (congrArg (fun l:List En=>some (Res.tok 77 10 enT (l.map enC))) (accR_succ (E:=E) (acc:=acc) (i:=i))) trivial)) Y (by show 2 - (i+1) < 2 - i;omega)
 ·have hj:i=2:=by have h:¬(i:Int) < 2:=of_decide_eq_false e37;omega
  refine au ?_;exact retm' Y Y ((c2 Y Y (ai (congrArg (fun i=>some (Res.tok 77 10 enT ((accR E acc i).map enC))) hj) trivial)))
def Nd.Lim:Nat→Nd→Prop
 | 0,.mk ls _ _ _ p=>ls.length≤100∧p.length≤100
 | k+1,.mk ls _ ks _ _=>ls.length≤100∧∀a∈ks,Nd.Lim k a
theorem entR_len:∀(k:Nat) (n:Nd) (path:List Dc) (lems:List Lm),(entR k n path lems).length≤2 ^ k
 | 0,.mk _ _ _ _ _,_,_=>nr _
 | k+1,.mk ls d ks e p,path,lems=>by
  have h0:0 < 2 ^ k:=Nat.pow_pos (by decide)
  match ks with
  | []=>exact nq _
  | [_]=>exact nq _
  | [a,b]=>
   show (entR k a _ _++entR k b _ _).length≤_;have h1:=entR_len k a (path++[d]) (lems++ls);have h2:=entR_len k b (path++[oppD d]) (lems++ls);rw[List.length_append,Nat.pow_succ];omega
  | _::_::_::_=>exact nq _
theorem p_ent:∀(k:Nat) (n:Nd) (path:List Dc) (lems:List Lm) (acc:List En),n.Wf k→n.Lim k→k≤8→lems.length≤1000 - 100*k→path.length≤100 - k→acc.length≤1000 - 2 ^ k→MCalls Tryz.prog [224] 75 [.pv (.agg (ndC n)),.pv (dcsP path),.pv (lmsP lems),.box 1000 0,.box 1001 0] (ewR acc) (ewR (acc++entR k n path lems)) (.tup [])
 | 0,.mk ls d ks e p,path,lems,acc,hw,hl,hk,h1,h2,h3=>by
  obtain⟨_,rfl⟩:=hw;obtain⟨l1,l2⟩:=hl;exact p_ent0 (by omega) (by omega) (by omega) (by omega)
 | k+1,.mk ls d ks e p,path,lems,acc,hw,hl,hk,h1,h2,h3=>by
  obtain⟨_,_,_,_,a,b,rfl,ha,hb⟩:=hw;obtain⟨l1,l2⟩:=hl;have h0:0 < 2 ^ k:=Nat.pow_pos (by decide);have h8:2 ^ k≤2 ^ 7:=Nat.pow_le_pow_right (by decide) (by omega);rw[Nat.pow_succ] at h3;have e0:∀x:Int,x=0→atZ [a,b] x=a:=fun x e=>by rw[e];rfl
  have e1:∀x:Int,x=1→atZ [a,b] x=b:=fun x e=>by rw[e];rfl
  have:=p_entS (ls:=ls) (lems:=lems) (d:=d) (a:=a) (b:=b) (e:=e) (p:=p) (path:=path) (acc:=acc) (E:=fun i=>entR k (atZ [a,b] (i:Int)) (path++[dirR d i]) (lems++ls)) (by omega) (by omega) fun i hi=>by
   rw[← ndX_eq];have hi':i=0∨i=1:=by omega
   have hacc:(accR (fun i=>entR k (atZ [a,b] (i:Int)) (path++[dirR d i]) (lems++ls)) acc i).length≤1000 - 2 ^ k:=by
    unfold accR;rcases hi' with rfl | rfl
    ·simp;omega
    ·have:=entR_len k (atZ [a,b] ((0:Nat):Int)) (path++[dirR d 0]) (lems++ls);show (acc++(entR k (atZ [a,b] ((0:Nat):Int)) (path++[dirR d 0]) (lems++ls)++[])).length≤_;rw[List.length_append,List.append_nil];omega
   refine p_ent k _ _ _ _ ?_ ?_ (by omega) (by rw[List.length_append];omega) (by rw[List.length_append];show _+1≤_;omega) hacc
   ·rcases hi' with rfl | rfl
    ·exact ha
    ·exact hb
   ·rcases hi' with rfl | rfl
    ·exact l2 a (mf ..)
    ·exact l2 b (List.mem_cons_of_mem _ (mf ..))
  have e2:accR (fun i=>entR k (atZ [a,b] (i:Int)) (path++[dirR d i]) (lems++ls)) acc 2=acc++entR (k+1) (.mk ls d [a,b] e p) path lems:=by
   unfold accR;show acc++((List.map _ [0,1]).flatten)=_;simp[entR,dirR,List.flatten,atZ]
  rw[e2] at this;exact this
set_option maxHeartbeats 8000000 in
theorem p_sentries {n:Nd} {k:Nat} (hw:n.Wf k) (hl:n.Lim k) (hk:k≤8):PCallsG Tryz.prog [224] 37 [.agg (ndX n)] (ensP (entR k n [] [])):=by
 have h8:2 ^ k≤2 ^ 8:=Nat.pow_le_pow_right (by decide) hk;have hm:=p_ent k n [] [] [] hw hl hk (nq _) (nq _) (nq _);rw[ndX_eq] at hm;refine pcF [46,77,51,145] (by kernel_rfl) Tryz.func37 rfl rfl (fun D hF hG=>?_);refine pa Y Y (pr0 (ral0 1000 hF Y Y Y Y Y Y ?_));refine rn Y (pr0 (ral0 1001 hF Y Y Y Y Y Y ?_));refine au ?_;refine rmk Y Y Y Y ?_;refine qg 1 ?_;refine rn Y (tkb (b:=1000) (off:=0) (id:=1002) (e:=77) (k:=10) (ts:=enT) Y ?_);refine au ?_;refine rmv0 (args:=[.pv (.agg (ndX n)),.pv (.raw (.slice none 0 0)),.pv (.raw (.slice none 0 0))]) (caps:=[.box 1000 0,.box 1001 0]) [(3,.box 1000 0)] [] hG (MCalls.nil (pre:=[.pv (.agg (ndX n))]) (e:=42) (k:=5) (ts:=[200]) (MCalls.nil (pre:=[.pv (.agg (ndX n)),.pv (dcsP [])]) (e:=100) (k:=6) (ts:=[200,98]) hm)) Y Y Y Y Y Y Y (c3 Y Y Y trivial) (ai Y trivial) trivial Y Y Y ?_;exact ar (c:=rfl)
abbrev TE:List Nat:=[138,200,224]
def keptR (q:Qr) (l:List En):List En:=(l.map reduceR).filter (appliesR q)
theorem kept_step {q:Qr} {l:List En} {i:Nat} {y:En} {b:Bool} (hi:i < l.length) (hy:reduceR (atZ l (i:Int))=y) (hb:appliesR q y=b):keptR q (l.take (i+1))=(bif b then keptR q (l.take i)++[y] else keptR q (l.take i)):=by
 unfold keptR;rw[List.take_add_one,get_of hi,List.map_append,List.filter_append];show _++List.filter (appliesR q) [reduceR (atZ l (i:Int))]=_;rw[hy,List.filter_cons,hb];cases b<;>simp
theorem kept_len (q:Qr) (l:List En):(keptR q l).length≤l.length:=by
 unfold keptR;exact nt (List.length_filter_le ..) (by simp)
set_option maxHeartbeats 8000000 in
theorem p_entries {q:Qr} {n:Nd} {k a b:Nat} (hw:n.Wf k) (hl:n.Lim k) (hk:k≤8) (hq:q.Va a) (h4:q.g.inputs+q.g.units.length≤8) (hg:q.goal.S 100 8) (hE:∀x∈entR k n [] [],EnOk x∧x.lems.length≤1000∧EnOk (reduceR x)∧((reduceR x).sc q).Va a b):PCallsG Tryz.prog TE 12 [qyP q,.agg (ndX n)] (.tup [ensP (keptR q (entR k n [] [])),iP 0]):=by
 have hv:=p_tvalid hw (by omega);rw[show ndP n=.agg (ndX n) from by rw[← ndX_eq]] at hv;have h8:2 ^ k≤2 ^ 8:=Nat.pow_le_pow_right (by decide) hk;have hlen:=entR_len k n [] [];have hs:=p_sentries hw hl hk;generalize entR k n [] []=L at*;refine pcF [39,46,77] (by kernel_rfl) Tryz.func12 rfl rfl (fun D hF hG=>?_);refine ac (c:=p_qvalid hq (by omega)) ?_;refine ac (c:=hv) ?_;refine au ?_;refine rcg0 hG (hs) Y Y Y Y Y Y Y ?_;refine au ?_;refine tks (t:=6) (id:=32) (e:=77) (k:=10) (ts:=enT) Y ?_;refine pl (ι:={i:Nat // i≤L.length}) (fun i=>[(2,.box 2 0),(5,.pv (iP 0)),(6,.tok 32),(18,.pv (ensP L)),(19,.pv (iP ((L.map enC).length:Int))),(20,.pv (iP (i.1:Int)))]) (fun i=>[(2,.box 39 [.pv (iP q.g.inputs),.pv (formsP q.g.units),.pv (formsP q.g.outputs),.pv (ratsP q.rg.lo),.pv (ratsP q.rg.hi),.pv (formsP q.rg.rows),.pv (termsP q.goal.terms),.pv (bP q.goal.const.neg),.pv (.nat q.goal.const.num),.pv (.nat q.goal.const.den)]),(32,.tok 77 10 enT ((keptR q (L.take i.1)).map enC))]) [39,46,77] (fun i=>L.length - i.1) ⟨0,nq _⟩ (c6 Y Y Y Y Y Y trivial) (c2 Y Y trivial) (fun _=>rfl) ?_;intro ⟨i,hi0⟩;refine a2 (fun e21=>?_) (fun e21=>?_)
 ·have hi:i < L.length:=lt_of e21;obtain⟨h0,h1,h2,h3⟩:=hE _ (mg (get_of hi));have hr:=p_reduce h1 h0;generalize hy:reduceR (atZ L (i:Int))=y at*;obtain⟨yp,yl,ye,yr⟩:=y;refine ax (c:=(getmap (get_of hi))) ?_;refine au ?_;refine rcg0 hG (hr) Y Y Y Y Y Y Y ?_;refine ac (c:=p_applies h3 h2 hg) ?_;refine a2 (fun e28=>?_) (fun e28=>?_)
  ·refine au ?_;refine rp0 el_Entry (by rw[List.length_map];exact nt (Nat.add_le_add_right (nt (kept_len q (L.take i)) (by rw[List.length_take];exact Nat.min_le_right ..)) _) (by simp;omega)) Y Y Y Y Y Y Y Y ?_;refine aa (c:=ari_succ (by show i≤_;omega)) ?_;refine au ?_;exact pe ⟨i+1,hi⟩ (c6 Y Y Y Y Y Y trivial) (ai Y (ai (congrArg (fun x=>some (Res.tok 77 10 enT x)) (by show (keptR q (L.take i)).map enC++[enC ⟨yp,yl,ye,yr⟩]=(keptR q (L.take (i+1))).map enC;rw[kept_step hi hy e28];rw[cond_true,List.map_append];rfl)) trivial)) Y (by show L.length - (i+1) < L.length - i;omega)
  ·refine aa (c:=ari_succ (by show i≤_;omega)) ?_;refine au ?_;exact pe ⟨i+1,hi⟩ (c6 Y Y Y Y Y Y trivial) (ai Y (ai (congrArg (fun x=>some (Res.tok 77 10 enT x)) (by show (keptR q (L.take i)).map enC=(keptR q (L.take (i+1))).map enC;rw[kept_step hi hy e28];rfl)) trivial)) Y (by show L.length - (i+1) < L.length - i;omega)
 ·have hj:L.length≤i:=ge_of e21;exact ar (c:=congrArg (fun l=>PV.tup [ensP l,iP 0]) (by rw[List.take_of_length_le hj]))
set_option maxHeartbeats 8000000 in
theorem p_gvalidZ {g:Gm} (h:g.inputs=0):PCalls Tryz.prog [] 71 [gmP g] (bP false):=by
 refine pcA [27] Tryz.func71 (fun D=>?_);refine akT (c:=by exact (show _=true from dt (by rw[h];decide))) ?_;exact ar (c:=rfl)
set_option maxHeartbeats 8000000 in
theorem p_qvalidZ {q:Qr} (h:q.g.inputs=0):PCalls Tryz.prog TU 35 [qyP q] (bP false):=by
 refine pcA [39] Tryz.func35 (fun D=>?_);refine ac (c:=p_gvalidZ h) ?_;exact ar (c:=rfl)
set_option maxHeartbeats 8000000 in
theorem p_entriesZ {q:Qr} {n:Nd} (h:q.g.inputs=0):PCallsG Tryz.prog TE 12 [qyP q,.agg (ndX n)] (.tup [ensP [],iP 1]):=by
 refine pcF [39,46,77] (by kernel_rfl) Tryz.func12 rfl rfl (fun D hF hG=>?_);refine ac (c:=p_qvalidZ h) ?_;exact ar (c:=rfl)
set_option maxHeartbeats 8000000 in
theorem p_entriesB {q:Qr} {n:Nd} {a:Nat} (hq:q.Va a) (h4:q.g.inputs+q.g.units.length≤8):PCallsG Tryz.prog TE 12 [qyP q,.agg (ndX (.mk [] dc0 [n] false []))] (.tup [ensP [],iP 1]):=by
 have hv:=p_tvalidBad (ls:=[]) (d:=dc0) (a:=n) (e:=false) (p:=[]);refine pcF [39,46,77] (by kernel_rfl) Tryz.func12 rfl rfl (fun D hF hG=>?_);refine ac (c:=p_qvalid hq (by omega)) ?_;refine ac (c:=hv) ?_;exact ar (c:=rfl)
set_option maxRecDepth 100000 in
theorem get0_any (w:World):
  Calls Tryz.prog 152 #[.int .i64 0] w fun e w'=>e=.returned (.tuple #[.iface 281 (.agg #[]),.bool true])∧Gr w w':=by
 go_enter Tryz.func152,Tryz.ntmps152;go_wp2;refine bodyPost_ret (by simp[results,Tryz.results152,go_sem];try rfl) rfl ?_;exact⟨rfl,Gr.refl w⟩
theorem p_get0:PCalls Tryz.prog [] 152 [iP 0] (.tup [.raw (.iface 281 (.agg #[])),bP true]):=⟨by kernel_rfl,fun w X us h1 h2 h3=>by
 obtain⟨u,rfl,g1⟩:=args1 h3;obtain rfl:=raw_of g1;exact (get0_any w).mono fun e w' ⟨he,G⟩=>⟨_,he,by rw[PV.Rep];exact⟨_,rfl,PV.RepL.cons (raw_to _) (PV.RepL.cons (raw_to _) PV.RepL.nil)⟩,G⟩⟩
abbrev op0P:PV:=.agg [iP 0,iP 0,bP false,bP false,iP 0,iP 0,iP 0]
abbrev ou0P:PV:=.agg [iP 0,lmsP [],iP 0,iP 0,bP false,.nat 0,.nat 0,.rows 46 9 ndT [],bP false,mmsP [],ratsP [],iP 0]
set_option maxHeartbeats 8000000 in
theorem p_begin0 {q:Qr} {a:Nat} (hq:q.Va a) (h4:q.g.inputs+q.g.units.length≤8):PCalls Tryz.prog TU 98 [qyP q,op0P] (.tup [.raw (.pointer none),iP 1]):=by
 refine pcA [39,58] Tryz.func98 (fun D=>?_);refine ac (c:=p_get0) ?_;refine ac (c:=p_qvalid hq (by omega)) ?_;refine akF (c:=by exact (show _=false from rfl)) ?_;refine akF (c:=by exact (show _=false from rfl)) ?_;refine akF (c:=by exact (show _=false from rfl)) ?_;refine akF (c:=by exact (show _=false from rfl)) ?_;refine akT (c:=by exact (show _=true from rfl)) ?_;exact ar (c:=rfl)
set_option maxHeartbeats 8000000 in
theorem p_resume0 {q:Qr} {a:Nat} {l:List En} (hq:q.Va a) (h4:q.g.inputs+q.g.units.length≤8):PCalls Tryz.prog TU 47 [qyP q,op0P,ensP l] (.tup [ou0P,iP 1]):=by
 refine pcA [39,58,61] Tryz.func47 (fun D=>?_);refine ac (c:=p_begin0 hq h4) ?_;refine akT (c:=by exact (show _=true from rfl)) ?_;exact ar (c:=rfl)
set_option maxHeartbeats 8000000 in
theorem p_reuseE {q:Qr} {n:Nd} {o1 o2 o5 o6 o7:Int} {o3 o4:Bool} (h:PCallsG Tryz.prog TE 12 [qyP q,.agg (ndX n)] (.tup [ensP [],iP 1])):PCallsG Tryz.prog TE 16 [qyP q,.agg (ndX n),(.agg [iP o1,iP o2,bP o3,bP o4,iP o5,iP o6,iP o7])] (.tup [ou0P,iP 0,iP 1]):=by
 refine pcF [39,46,58,61] (by kernel_rfl) Tryz.func16 rfl rfl (fun D hF hG=>?_);refine au ?_;refine rcg0 hG (h) Y Y Y Y Y Y Y ?_;refine akT (c:=by exact (show _=true from rfl)) ?_;exact ar (c:=rfl)
set_option maxHeartbeats 8000000 in
theorem p_reuse0 {q:Qr} {n:Nd} {l:List En} {a:Nat} (hq:q.Va a) (h4:q.g.inputs+q.g.units.length≤8) (h:PCallsG Tryz.prog TE 12 [qyP q,.agg (ndX n)] (.tup [ensP l,iP 0])):PCallsG Tryz.prog TE 16 [qyP q,.agg (ndX n),op0P] (.tup [ou0P,iP 0,iP 1]):=by
 refine pcF [39,46,58,61] (by kernel_rfl) Tryz.func16 rfl rfl (fun D hF hG=>?_);refine au ?_;refine rcg0 hG (h) Y Y Y Y Y Y Y ?_;refine akF (c:=by exact (show _=false from rfl)) ?_;refine ac (c:=p_resume0 hq h4) ?_;refine akT (c:=by exact (show _=true from rfl)) ?_;exact ar (c:=rfl)
section
attribute [local go_sem] Oper.semAt_some
structure Ns where
 (a b c d f:Sv)
def lfN (l:List Mm):Nd:=.mk [] ⟨0,0,Q.zero⟩ [] false l
def Ni (w:World) (l:List Mm) (n:Ns):Prop:=PV.RepL w NoX (ndX (lfN l)) [.slice n.a.A n.a.n n.a.c,.int .i64 0,.int .i64 0,.bool false,.slice n.b.A n.b.n n.b.c,.slice n.c.A n.c.n n.c.c,.slice n.d.A n.d.n n.d.c,.bool false,.slice n.f.A n.f.n n.f.c]
theorem Ni.gr {w w':World} {l:List Mm} {n:Ns} (h:Ni w l n) (G:Gr w w'):Ni w' l n:=PV.RepL.gr h G
theorem LaidG.gr {w w':World} (h:LaidG w) (G:Gr w w'):LaidG w':=h.keep (G.below.block 0 h.lt)
theorem ns_of {w:World} {l:List Mm} {v:Value} (h:(PV.agg (ndX (lfN l))).Rep w NoX v):∃n:Ns,v=.agg #[.slice n.a.A n.a.n n.a.c,.int .i64 0,.int .i64 0,.bool false,.slice n.b.A n.b.n n.b.c,.slice n.c.A n.c.n n.c.c,.slice n.d.A n.d.n n.d.c,.bool false,.slice n.f.A n.f.n n.f.c]∧Ni w l n:=by
 rw[PV.Rep] at h;obtain⟨us,rfl,h⟩:=h;have h0:=h;unfold ndX at h;obtain⟨u0,us,rfl,g0,h⟩:=PV.RepL.inv' h;obtain⟨u1,us,rfl,g1,h⟩:=PV.RepL.inv' h;obtain⟨u2,us,rfl,g2,h⟩:=PV.RepL.inv' h;obtain⟨u3,us,rfl,g3,h⟩:=PV.RepL.inv' h;obtain⟨u4,us,rfl,g4,h⟩:=PV.RepL.inv' h;obtain⟨u5,us,rfl,g5,h⟩:=PV.RepL.inv' h;obtain⟨u6,us,rfl,g6,h⟩:=PV.RepL.inv' h;obtain⟨u7,us,rfl,g7,h⟩:=PV.RepL.inv' h;obtain⟨u8,us,rfl,g8,h⟩:=PV.RepL.inv' h;obtain rfl:=PV.RepL.inv0 h;obtain⟨a,rfl,-⟩:=rows_inv g0;obtain rfl:=raw_inv g1;obtain rfl:=raw_inv g2;obtain rfl:=raw_inv g3;obtain⟨b,rfl⟩:=nat_inv g4;obtain⟨c,rfl⟩:=nat_inv g5;obtain⟨d,rfl,-⟩:=rows_inv g6;obtain rfl:=raw_inv g7;obtain⟨f,rfl,-⟩:=rows_inv g8;exact⟨⟨a,b,c,d,f⟩,rfl,h0⟩
theorem tup2_inv {w:World} {X:Nat→Prop} {a b:PV} {v:Value} (h:(PV.tup [a,b]).Rep w X v):∃u1 u2,v=.tuple #[u1,u2]∧a.Rep w X u1∧b.Rep w X u2:=by
 rw[PV.Rep] at h;obtain⟨us,rfl,h⟩:=h;obtain⟨u0,us,rfl,g0,h⟩:=PV.RepL.inv' h;obtain⟨u1,us,rfl,g1,h⟩:=PV.RepL.inv' h;obtain rfl:=PV.RepL.inv0 h;exact⟨u0,u1,rfl,g0,g1⟩
theorem res_of {w:World} {l:List Mm} {v:Value} (h:(PV.tup [ensP [en0 l],iP 0]).Rep w NoX v):∃z:Sv,v=.tuple #[z.v,.int .i64 0]∧Ebs w z [l]:=by
 obtain⟨u1,u2,rfl,h1,h2⟩:=tup2_inv h;obtain rfl:=raw_inv h2;obtain⟨z,rfl,hz⟩:=ebs_of h1;exact⟨z,rfl,hz⟩
theorem Ebs.st {w w':World} {p t:Nat} {us:Array Value} {x:Sv} {l:List (List Mm)} (h:Ebs w x l) (F:Fr (fun b=>b=p) w w') (hb:Bk w p t us) (h0:t≠77) (ht:t ∉ PV.tyL (enC (en0 []))):Ebs w' x l:=
 Rows.tf h F (fun b cs fr e hh=>Bk.not_ty hb h0 cs fr (e▸hh)) fun y a hy=>EbI.fr hy F fun b cs t' fr e hh ht'=>by
  subst e;have ht2:t'∈PV.tyL (enC (en0 [])):=ht';exact Bk.not_ty hb (fun e=>ht (e▸ht2)) cs fr hh
theorem Ob.st {w w':World} {p t b c:Nat} {us:Array Value} {es:Array MapEntry} (h:Ob w b (.map es c)) (F:Fr (fun b=>b=p) w w') (hb:Bk w p t us):Ob w' b (.map es c):=
 h.fr F fun e=>by
  subst e;unfold Ob at h;unfold Bk at hb;rw[h] at hb;cases hb
theorem resume0 (w:World) (q:Qs) (x:Qr) (l:List Mm) (z:Sv) (hq:Qi w x q) (hx:Lf x l) (hz:Ebs w z [l]):
  Calls Tryz.prog 47 #[.agg #[.int .i64 q.i,.slice q.a.A q.a.n q.a.c,.slice q.b.A q.b.n q.b.c,.slice q.c.A q.c.n q.c.c,.slice q.d.A q.d.n q.d.c,.slice q.e.A q.e.n q.e.c,.slice q.f.A q.f.n q.f.c,.bool q.s,.slice q.h.A q.h.n q.h.c,.slice q.k.A q.k.n q.k.c],.agg #[.int .i64 0,.int .i64 0,.bool false,.bool false,.int .i64 0,.int .i64 10,.int .i64 0],.slice z.A z.n z.c] w fun e w'=>∃y:Sv,e=.returned (.tuple #[.agg #[.int .i64 1,.slice none 0 0,.int .i64 0,.int .i64 0,.bool false,.slice none 0 0,.slice none 0 0,.slice none 0 0,.bool false,.slice y.A y.n y.c,.slice none 0 0,.int .i64 0],.int .i64 0])∧Gr w w':=by
 have HQ:=I hq;have HX:=I hx;have HZ:=I hz;clear hq hx hz;go_enter Tryz.func47,Tryz.ntmps47;go_wp2_with fail;refine nw3hc fun W HG D_p0 D_o0 D_t=>?_
 have q0_:=D_p0.out.c10;obtain⟨o0,o1,o2,o3,o4,o5,o6⟩:=D_o0.out.c7;have N_t:=dnl (w.heap.size) (w.heap.size+1+1);generalize w.heap.size+1+1=t at*;generalize w.heap.size+1=o0 at*;refine (begin0 W q x l (HQ.out.gr HG.out) HX.out).mono ?_;rintro e w1 ⟨r,v,rfl,hr1,hv1,hrv,hr,hv,G⟩;have HR:=I hr;have HV:=I hv;have HRV:=I hrv;have HRN:=I (Nat.le_trans HG.out.size hr1);have HVN:=I (Nat.le_trans HG.out.size hv1);have htv:=I (show ¬t=v from fun e=>by have:=D_t.out.lt;omega);have htr:=I (show ¬t=r from fun e=>by have:=D_t.out.lt;omega);obtain⟨HG,D_p0,D_t⟩:=G.u3 HG D_p0 D_t;clear hr hv hrv hr1 hv1 G q0_ o0 o1 o2 o3 o4 o5 o6 D_o0;have q0_:=D_p0.out.c10;go_wp2_with fail;refine (index0 w1 q l z (HZ.out.gr HG.out)).mono ?_;rintro e w2 ⟨kb,m1,m2,m3,yz,rfl,-,-,-,hkb,h1,hz,h2,h3,G⟩;have HR2:=G.bk HR.out;have fz:=HR2.frozen;have r20:=HR2.cell 20;simp only[List.getElem?_toArray,List.getElem?_cons_zero,List.getElem?_cons_succ] at r20;have F3:=(Fr.set w2 ⟨r,20,none⟩ (.pointer (some ⟨kb,0,none⟩)) rfl:Fr (fun b=>b=r) w2 _);have B3:=HR2.put 20 (.pointer (some ⟨kb,0,none⟩));have HKB:=I (F3.bk hkb (fun e=>Bk.ne hkb HR2 (by decide) e));have H1:=I (h1.st F3 HR2);have H3:=I (h3.st F3 HR2);have HZ3:=I (hz.st F3 HR2 (by decide) (by decide));have HV3:=I (F3.bk (G.bk HV.out) (fun e=>HRV.out e.symm));have D_t3:=I (F3.bk (G.bk D_t.out) htr.out);have HG3:=I ((HG.out.trans G).fr_at F3 HRN.out);have HR3:Hid (Bk (w2.setCell ⟨r,20,none⟩ (.pointer (some ⟨kb,0,none⟩))) r 190 #[.int .i64 q.i,.slice q.a.A q.a.n q.a.c,.slice q.b.A q.b.n q.b.c,.slice q.c.A q.c.n q.c.c,.slice q.d.A q.d.n q.d.c,.slice q.e.A q.e.n q.e.c,.slice q.f.A q.f.n q.f.c,.bool q.s,.slice q.h.A q.h.n q.h.c,.slice q.k.A q.k.n q.k.c,.int .i64 0,.int .i64 0,.bool false,.bool false,.int .i64 0,.int .i64 10,.int .i64 0,.iface 281 (.agg #[]),.pointer (some ⟨v,0,none⟩),.slice none 0 0,.pointer (some ⟨kb,0,none⟩),.int .i64 0,.int .i64 0,.int .i64 0,.pointer none]):=I (by simpa using B3);clear B3 F3 HR2 hkb h1 h2 h3 hz G HR HV D_t D_p0 HG q0_;go_upto_region 5 with fail;clear fz r20;generalize w2.setCell ⟨r,20,none⟩ (.pointer (some ⟨kb,0,none⟩))=w3 at*;go_wp2_with fail;refine (depth0 w3 q x l kb m1 m2 m3 r v yz (HQ.out.gr HG3.out) HX.out HKB.out H1.out HZ3.out H3.out HR3.out HV3.out).mono ?_;rintro e w4 ⟨rfl,⟨y,hv,hy⟩,F⟩;have HV4:=I hv;have HR4:=I (F.bk HR3.out HRV.out);have D_t4:=I (F.bk D_t3.out htv.out);have HG4:=I (HG3.out.fr_at F HVN.out);clear hv hy F HR3 HV3 HKB H1 H3 HZ3 D_t3 HG3;go_wp2_with fail;refine cm0 (outcome0 w4 q r v kb y HR4.out HV4.out) fun w5 G=>?_
 have T5:=G.bk D_t4.out;have fzt:=T5.frozen;have t0_:=T5.c12;obtain⟨B8,F8⟩:=T5.put12 (.int .i64 1) (.slice none 0 0) (.int .i64 0) (.int .i64 0) (.bool false) (.slice none 0 0) (.slice none 0 0) (.slice none 0 0) (.bool false) (.slice y.A y.n y.c) (.slice none 0 0) (.int .i64 0);have H8:=I ((HG4.out.trans G).fr_at F8 N_t.out);obtain⟨d0,d1,d2,d3,d4,d5,d6,d7,d8,d9,d10,d11⟩:=B8.c12;clear B8 F8 T5 HG4 HV4 HR4 D_t4;go_wp2;generalize (((((((((((w5.setCell ⟨t,0,none⟩ (.int .i64 1)).setCell ⟨t,1,none⟩ (.slice none 0 0)).setCell ⟨t,2,none⟩ (.int .i64 0)).setCell ⟨t,3,none⟩ (.int .i64 0)).setCell ⟨t,4,none⟩ (.bool false)).setCell ⟨t,5,none⟩ (.slice none 0 0)).setCell ⟨t,6,none⟩ (.slice none 0 0)).setCell ⟨t,7,none⟩ (.slice none 0 0)).setCell ⟨t,8,none⟩ (.bool false)).setCell ⟨t,9,none⟩ (.slice y.A y.n y.c)).setCell ⟨t,10,none⟩ (.slice none 0 0)).setCell ⟨t,11,none⟩ (.int .i64 0)=w8 at*;refine pex ?_;refine bodyPost_ret (by simp[results,Tryz.results47,go_sem,d0,d1,d2,d3,d4,d5,d6,d7,d8,d9,d10,d11];try rfl) rfl ?_;exact⟨y,rfl,H8.out⟩
theorem reuse0 (w:World) (q:Qs) (x:Qr) (l:List Mm) (n:Ns) (hw:LaidG w) (hq:Qi w x q) (hx:Lf x l) (hE:PCallsG Tryz.prog TE 12 [qyP x,.agg (ndX (lfN l))] (.tup [ensP [en0 l],iP 0])) (hp:Ni w l n):
  Calls Tryz.prog 16 #[.agg #[.int .i64 q.i,q.a.v,q.b.v,q.c.v,q.d.v,q.e.v,q.f.v,.bool q.s,q.h.v,q.k.v],.agg #[n.a.v,.int .i64 0,.int .i64 0,.bool false,n.b.v,n.c.v,n.d.v,.bool false,n.f.v],.agg #[.int .i64 0,.int .i64 0,.bool false,.bool false,.int .i64 0,.int .i64 10,.int .i64 0]] w fun e w'=>∃y:Sv,e=.returned (.tuple #[.agg #[.int .i64 1,.slice none 0 0,.int .i64 0,.int .i64 0,.bool false,.slice none 0 0,.slice none 0 0,.slice none 0 0,.bool false,.slice y.A y.n y.c,.slice none 0 0,.int .i64 0],.int .i64 1,.int .i64 0])∧Gr w w':=by
 have HQ:=I hq;have HX:=I hx;have HP:=I hp;have HW:=I hw;clear hq hx hp hw;go_enter Tryz.func16,Tryz.ntmps16;go_wp2_with fail;refine nw4hc fun W HG D_p0 D_n0 D_o0 D_t=>?_
 have q0_:=D_p0.c10;have a0_:=D_n0.c9;have N_t:=dnl (w.heap.size) (w.heap.size+1+1+1);generalize w.heap.size+1+1+1=t at*;generalize w.heap.size+1+1=o0 at*;generalize w.heap.size+1=n0 at*;refine cm2 (hE.raw (HW.gr HG) (PV.RepL.cons (rep_agg (HQ.gr HG)) (PV.RepL.cons (rep_agg (HP.gr HG)) PV.RepL.nil))) fun vv w1 hvv G=>?_
 obtain⟨z,rfl,hz⟩:=res_of hvv;have HZ:=I hz;have hzn:1=z.n:=hz.len;obtain⟨zA,zn,zc⟩:=z;simp only at hzn;subst hzn;obtain⟨HG,D_p0,D_o0,D_t⟩:=G.u4 HG D_p0 D_o0 D_t;clear hz q0_ a0_ D_n0;have q0_:=D_p0.c10;obtain⟨o0,o1,o2,o3,o4,o5,o6⟩:=D_o0.c7;simp only[Sv.v];go_wp2_with fail;refine (resume0 w1 q x l ⟨zA,1,zc⟩ (HQ.gr HG) HX HZ).mono ?_;rintro e w2 ⟨y,rfl,G⟩;clear D_p0 D_o0 q0_ o0 o1 o2 o3 o4 o5 o6 HZ;go_upto_region 5 with fail;refine nw1 fun w3 GB DX=>?_
 have T5:=I (GB.bk (G.bk D_t));have HG2:=I ((HG.trans G).trans GB);clear G HG D_t;clear GB;generalize w2.heap.size=xb at*;have fzt:=T5.frozen;have t0_:=T5.c12;have x0_:=DX.c12;obtain⟨B8,F8⟩:=T5.put12 (.int .i64 1) Nl (.int .i64 0) (.int .i64 0) (.bool false) Nl Nl Nl (.bool false) y.v Nl (.int .i64 0);have H8:=I (HG2.fr_at F8 N_t);obtain⟨d0,d1,d2,d3,d4,d5,d6,d7,d8,d9,d10,d11⟩:=B8.c12;clear B8 F8 T5 HG2 DX;go_wp2;generalize (((((((((((w3.setCell ⟨t,0,none⟩ (.int .i64 1)).setCell ⟨t,1,none⟩ Nl).setCell ⟨t,2,none⟩ (.int .i64 0)).setCell ⟨t,3,none⟩ (.int .i64 0)).setCell ⟨t,4,none⟩ (.bool false)).setCell ⟨t,5,none⟩ Nl).setCell ⟨t,6,none⟩ Nl).setCell ⟨t,7,none⟩ Nl).setCell ⟨t,8,none⟩ (.bool false)).setCell ⟨t,9,none⟩ y.v).setCell ⟨t,10,none⟩ Nl).setCell ⟨t,11,none⟩ (.int .i64 0)=w8 at*;refine pex ?_;refine bodyPost_ret (by simp[results,Tryz.results16,go_sem,d0,d1,d2,d3,d4,d5,d6,d7,d8,d9,d10,d11];try rfl) rfl ?_;exact⟨y,rfl,H8.out⟩
end
def exX (c:Int):Qr:=⟨⟨1,[],[varR 0]⟩,⟨[Q.zero],[ofQ 1],[]⟩,Fm.addR (varR 0) (numR (ofQ c))⟩
def exL:List Mm:=[(⟨1,0,0,0⟩,ofQ 1)]
set_option maxHeartbeats 8000000 in
theorem p_ex {c:Int} (h1:-1000000000≤c) (h2:c≤1000000000) (hs:(ofQ c).S 1):PCalls Tryz.prog TF 23 [iP c] (.tup [qyP (exX c),.agg (ndX (lfN exL))]):=by
 refine pcA [39,46,27,39] Tryz.func23 (fun D=>?_);refine ac (c:=r_var 0) ?_;refine ac (c:=r_of 1 (by decide) (by decide)) ?_;refine ac (c:=r_var 0) ?_;refine ac (c:=r_of c h1 h2) ?_;refine ac (c:=r_num) ?_;refine ac (c:=r_fadd (sz_var 0) (sz_num hs) (by decide) (by decide)) ?_;refine ac (c:=r_of 1 (by decide) (by decide)) ?_;exact ar (c:=rfl)
def exG (q:Q):Fm:=⟨[(0,Q.one)],q⟩
def exY (q:Q):Qr:=⟨⟨1,[],[varR 0]⟩,⟨[Q.zero],[Q.one],[]⟩,exG q⟩
theorem exX_one:exX 1=exY Q.one:=by unfold exX exY;rw[show Fm.addR (varR 0) (numR (ofQ 1))=exG Q.one from by decide,show ofQ 1=Q.one from by decide]
theorem exX_mone:exX (-1)=exY Q.mone:=by unfold exX exY;rw[show Fm.addR (varR 0) (numR (ofQ (-1)))=exG Q.mone from by decide,show ofQ 1=Q.one from by decide]
theorem exG_S {q:Q} (h:q.S 1):(exG q).S 1 1:=⟨⟨(sz_var 0).cn.srt,(sz_var 0).cn.nz,h.ok⟩,(sz_var 0).each,h,nr _⟩
theorem ex_ok {q:Q} (h:q.Ok):(exG q).Ok 1:=⟨fun i s t hs ht=>by simp[exG] at ht,fun t ht=>by rw[mj ht];exact⟨by decide,by decide,by decide,by decide⟩,h⟩
theorem exY_va {q:Q} (h:q.S 1):(exY q).Va 1:=by
 have hv:(varR 0).Ok 1:=ex_ok (by decide:Q.zero.Ok);refine⟨⟨nr _,by show 1≤256;decide,by show 0≤1024;decide,by show 1≤1;decide,by show 1≤256;decide,fun j f hf=>by simp[exY] at hf,fun f hf=>by rw[mj hf];exact (sz_var 0).fsm (by decide) hv⟩,fun f hf=>(by cases hf),⟨nr _,by show 1≤256;decide,rfl,rfl,fun q hq=>by rw[mj hq];exact sz_zero,fun q hq=>by rw[mj hq];exact sz_one,fun i a b ha hb=>?_,by show 0≤256;decide,fun f hf=>(by cases hf),by decide⟩,ex_ok h.ok,(exG_S h).up (by decide) (nr _)⟩;cases i with
 | zero=>
  simp only[exY,List.getElem?_cons_zero,oq] at ha hb;subst ha hb
  decide
 | succ i=>simp[exY] at ha
theorem exL_ok:PfOk exL:=⟨fun m hm=>by rw[mj hm];exact ((show ofQ 1=Q.one from by decide)▸sz_one:(ofQ 1).S 1).up (by decide),by decide⟩
theorem ex_en:EnOk (en0 exL):=⟨fun m hm=>(by cases hm),exL_ok⟩
theorem ex_red:reduceR (en0 exL)=en0 exL:=rfl
theorem ex_sc {q:Q} (h:q.S 1):((en0 exL).sc (exY q)).Va 1 1:=⟨exY_va h,fun d hd=>(by cases hd),by show 0≤1000;decide,fun m hm=>(by cases hm),by show 0≤1000;decide,by decide,by decide,by decide,by show 1+0≤8;decide⟩
theorem ex_ents {q:Q} (h:q.S 1):PCallsG Tryz.prog TE 12 [qyP (exY q),.agg (ndX (lfN exL))] (.tup [ensP (keptR (exY q) [en0 exL]),iP 0]):=
 p_entries (k:=0) (n:=lfN exL) ⟨rfl,rfl⟩ ⟨by decide,by decide⟩ (by decide) (exY_va h) (by show 1+0≤8;decide) ((exG_S h).up (by decide) (by decide)) fun x hx=>by
  rw[show x=en0 exL from mj hx,ex_red];exact⟨ex_en,by show 0≤1000;decide,ex_en,ex_sc h⟩
theorem kept_one:keptR (exY Q.one) [en0 exL]=[en0 exL]:=by kernel_rfl
theorem kept_mone:keptR (exY Q.mone) [en0 exL]=[]:=by kernel_rfl
theorem ex_lf:Lf (exY Q.one) exL:=⟨⟨1,1,ex_sc sz_one⟩,ex_en,(exG_S sz_one).up (by decide) (by decide),by kernel_rfl,by show 1+0≤8;decide,by decide,fun m hm=>by rw[mj hm];decide⟩
theorem ex_ents1:PCallsG Tryz.prog TE 12 [qyP (exY Q.one),.agg (ndX (lfN exL))] (.tup [ensP [en0 exL],iP 0]):=by
 have:=ex_ents sz_one;rwa [kept_one] at this
theorem ex_ents2:PCallsG Tryz.prog TE 12 [qyP (exY Q.mone),.agg (ndX (lfN exL))] (.tup [ensP [],iP 0]):=by
 have:=ex_ents sz_mone;rwa [kept_mone] at this
theorem p_ex1:PCalls Tryz.prog TF 23 [iP 1] (.tup [qyP (exY Q.one),.agg (ndX (lfN exL))]):=by
 have:=p_ex (c:=1) (by decide) (by decide) ((show ofQ 1=Q.one from by decide)▸sz_one);rwa [exX_one] at this
theorem p_ex2:PCalls Tryz.prog TF 23 [iP (-1)] (.tup [qyP (exY Q.mone),.agg (ndX (lfN exL))]):=by
 have:=p_ex (c:=-1) (by decide) (by decide) ((show ofQ (-1)=Q.mone from by decide)▸sz_mone);rwa [exX_mone] at this
section
attribute [local go_sem] Oper.semAt_some
theorem exres {w:World} {x:Qr} {l:List Mm} {v:Value} (h:(PV.tup [qyP x,.agg (ndX (lfN l))]).Rep w NoX v):∃(q:Qs) (n:Ns),v=.tuple #[.agg #[.int .i64 q.i,.slice q.a.A q.a.n q.a.c,.slice q.b.A q.b.n q.b.c,.slice q.c.A q.c.n q.c.c,.slice q.d.A q.d.n q.d.c,.slice q.e.A q.e.n q.e.c,.slice q.f.A q.f.n q.f.c,.bool q.s,.slice q.h.A q.h.n q.h.c,.slice q.k.A q.k.n q.k.c],.agg #[.slice n.a.A n.a.n n.a.c,.int .i64 0,.int .i64 0,.bool false,.slice n.b.A n.b.n n.b.c,.slice n.c.A n.c.n n.c.c,.slice n.d.A n.d.n n.d.c,.bool false,.slice n.f.A n.f.n n.f.c]]∧Qi w x q∧Ni w l n:=by
 obtain⟨u1,u2,rfl,h1,h2⟩:=tup2_inv h;obtain⟨q,rfl,hq⟩:=qs_of h1;obtain⟨n,rfl,hn⟩:=ns_of h2;exact⟨q,n,rfl,hq,hn⟩
theorem res_no {w:World} {v:Value} (h:(PV.tup [ensP [],iP 0]).Rep w NoX v):∃z:Sv,v=.tuple #[z.v,.int .i64 0]∧0=z.n:=by
 obtain⟨u1,u2,rfl,h1,h2⟩:=tup2_inv h;obtain rfl:=raw_inv h2;obtain⟨z,rfl,hz⟩:=rows_inv h1;exact⟨z,rfl,hz.symm⟩
theorem awake0 (w:World) (hw:LaidG w):
  Calls Tryz.prog 8 #[] w fun e w'=>e=.returned (.bool true)∧Gr w w':=by
 go_enter Tryz.func8,Tryz.ntmps8;go_wp2_with fail;refine cm2 (p_ex1.raw (PV.RepL.cons (c:=iP 1) (u:=.int .i64 1) (raw_to _) PV.RepL.nil)) fun vv w1 hvv G=>?_
 obtain⟨q,n,rfl,hq,hp⟩:=exres hvv;have HW:=I hw;clear hvv hw;have HQ:=I hq;have HP:=I hp;have HG:=I G;clear hq hp;go_upto_region 2 with fail;refine nw2 fun w2 GB D1 D2=>?_
 replace HQ:=I (HQ.gr GB);replace HP:=I (HP.gr GB);replace HG:=HG.tr GB;clear GB;generalize w1.heap.size+1=b at*;generalize w1.heap.size=a at*;go_wp2_with fail;refine cm2 (p_ex2.raw (PV.RepL.cons (c:=iP (-1)) (u:=.int .i64 (-1)) (raw_to _) PV.RepL.nil)) fun vv w3 hvv G=>?_
 obtain⟨qq,n2,rfl,hq2,hp2⟩:=exres hvv;clear hvv;obtain⟨B3,B4,GB⟩:=made2 w3 39 46 #[.int .i64 qq.i,qq.a.v,qq.b.v,qq.c.v,qq.d.v,qq.e.v,qq.f.v,.bool qq.s,qq.h.v,qq.k.v] #[n2.a.v,.int .i64 0,.int .i64 0,.bool false,n2.b.v,n2.c.v,n2.d.v,.bool false,n2.f.v];have GG:=G.trans GB;replace HQ:=I (HQ.gr GG);replace HP:=I (HP.gr GG);replace HG:=HG.tr GG;replace D1:=GG.hb D1;replace D2:=GG.hb D2;have HQ2:=I (hq2.gr GB);have D3:=I B3;clear B3 B4 GB GG hq2 hp2;go_upto_region 3 with fail;generalize (w3.alloc (.cells #[.int .i64 qq.i,qq.a.v,qq.b.v,qq.c.v,qq.d.v,qq.e.v,qq.f.v,.bool qq.s,qq.h.v,qq.k.v] 39)).alloc (.cells #[n2.a.v,.int .i64 0,.int .i64 0,.bool false,n2.b.v,n2.c.v,n2.d.v,.bool false,n2.f.v] 46)=w4 at*;generalize w3.heap.size+1=d at*;generalize w3.heap.size=c at*;have q0_:=D1.c10;have a0_:=D2.c9;go_wp2_with fail;refine cm2 (ex_ents1.raw (HW.gr HG) (PV.RepL.cons (rep_agg HQ) (PV.RepL.cons (rep_agg HP) PV.RepL.nil))) fun vv w5 hvv G=>?_
 obtain⟨z,rfl,hz⟩:=res_of hvv;clear hvv;have hzn:1=z.n:=hz.len;obtain⟨zA,zn,zc⟩:=z;simp only at hzn;subst hzn;replace HQ:=I (HQ.gr G);replace HP:=I (HP.gr G);replace HG:=HG.tr G;replace D1:=G.hb D1;replace D2:=G.hb D2;replace D3:=G.hb D3;replace HQ2:=I (HQ2.gr G);clear hz q0_ a0_;have q0_:=D3.c10;have a0_:=D2.c9;simp only[Sv.v];go_wp2_with fail;refine cm2 (ex_ents2.raw (HW.gr HG) (PV.RepL.cons (rep_agg HQ2) (PV.RepL.cons (rep_agg HP) PV.RepL.nil))) fun vv w6 hvv G=>?_
 obtain⟨z2,rfl,hz⟩:=res_no hvv;have hzn:=hz;clear hvv;obtain⟨yA,yn,yc⟩:=z2;simp only at hzn;subst hzn;replace HQ:=I (HQ.gr G);replace HP:=I (HP.gr G);replace HG:=HG.tr G;replace D1:=G.hb D1;replace D2:=G.hb D2;clear hz q0_ a0_ D3 HQ2;have q0_:=D1.c10;have a0_:=D2.c9;simp only[Sv.v];go_wp2_with fail;refine (reuse0 w6 q (exY Q.one) exL n (HW.gr HG) HQ ex_lf ex_ents1 HP).mono ?_;rintro e w7 ⟨y,rfl,G⟩;obtain⟨B5,GB⟩:=made1 w7 61 #[.int .i64 1,Nl,.int .i64 0,.int .i64 0,.bool false,Nl,Nl,Nl,.bool false,y.v,Nl,.int .i64 0];replace HG:=I ((HG.trans G).trans GB);have u0:=B5.c12.1;clear B5 GB G q0_ a0_ D1 D2 HQ HP;go_wp2;go_ret;exact⟨rfl,HG.out⟩
end
def sgnR (s:Bool) (a:Nat):Rat:=bif s then -(a:Rat) else (a:Rat)
def Q.r (q:Q):Rat:=sgnR q.neg q.num / (q.un:Rat)
theorem nat_ne {n:Nat} (h:0 < n):(n:Rat)≠0:=by
 have:n≠0:=by omega
 exact_mod_cast this
theorem Q.un_ne (q:Q):(q.un:Rat)≠0:=nat_ne q.un_pos
theorem sgnR_zero (s:Bool):sgnR s 0=0:=by cases s<;>simp[sgnR]
theorem sgnR_mul (s t:Bool) (a b:Nat):sgnR (s != t) (a*b)=sgnR s a*sgnR t b:=by
 cases s<;>cases t<;>simp only[sgnR,bne_self_eq_false,cond_true,cond_false,Rat.natCast_mul,Bool.true_bne,Bool.false_bne,Bool.not_false,Bool.not_true,bne]<;>first | grind | (simp;grind)
theorem quot_r (s:Bool) (a:Nat) {b:Nat} (hb:0 < b):(quot s a b).r=sgnR s a / (b:Rat):=by
 unfold quot;split
 ·rename_i h0
  subst h0;rw[sgnR_zero];show sgnR false 0 / _=_;rw[sgnR_zero];grind
 ·rename_i h0
  have hg:=Nat.gcd_pos_of_pos_left b (Nat.pos_of_ne_zero h0);obtain⟨x,hx⟩:=Nat.gcd_dvd_left a b;obtain⟨y,hy⟩:=Nat.gcd_dvd_right a b;generalize Nat.gcd a b=g at*;subst hx hy;have hd2:0 < (g*y) / g:=by
   rw[Nat.mul_div_cancel_left _ hg];rcases Nat.eq_zero_or_pos y with h1 | h1
   ·rw[h1,Nat.mul_zero] at hb;omega
   ·exact h1
  unfold Q.r;rw[den0_un _ _ _ hd2];simp only;rw[Nat.mul_div_cancel_left _ hg,Nat.mul_div_cancel_left _ hg] at*;have hyr:=nat_ne hd2;have hgr:=nat_ne hg;cases s<;>simp only[sgnR,cond_true,cond_false,Rat.natCast_mul]<;>grind
theorem sadd_r (na:Bool) (a:Nat) (nb:Bool) (b:Nat):sgnR (sadd na a nb b).1 (sadd na a nb b).2=sgnR na a+sgnR nb b:=by
 unfold sadd;split
 ·rename_i h
  subst h;rcases Nat.eq_zero_or_pos (a+b) with h0 | h0
  ·have ha:a=0:=by omega
   have hb:b=0:=by omega
   subst ha hb;rw[sgnR_zero,sgnR_zero];grind
  ·rw[dt h0,Bool.and_true];cases na<;>simp only[sgnR,cond_true,cond_false,Rat.natCast_add]<;>grind
 ·rename_i h
  split
  ·rename_i hl
   obtain⟨c,rfl⟩:=Nat.exists_eq_add_of_le (Nat.le_of_lt hl);rw[Nat.add_sub_cancel_left];cases na<;>cases nb<;>simp only[sgnR,cond_true,cond_false,Rat.natCast_add]<;>first | grind | exact absurd rfl h
  ·rename_i hl
   obtain⟨c,rfl⟩:=Nat.exists_eq_add_of_le (Nat.le_of_not_lt hl);rw[Nat.add_sub_cancel_left];rcases Nat.eq_zero_or_pos c with h0 | h0
   ·subst h0;cases na<;>cases nb<;>simp[sgnR]<;>first | grind | exact absurd rfl h
   ·rw[dt h0,Bool.and_true];cases na<;>cases nb<;>simp only[sgnR,cond_true,cond_false,Rat.natCast_add]<;>first | grind | exact absurd rfl h
theorem sg_r (x:Q) {a:Nat} {k:Nat} (ha:a=x.num*k):sgnR (x.sg&&decide (0 < a)) a=sgnR x.neg a:=by
 rcases Nat.eq_zero_or_pos a with h0 | h0
 ·rw[h0,sgnR_zero,sgnR_zero]
 ·have:0 < x.num:=by
   rcases Nat.eq_zero_or_pos x.num with h1 | h1
   ·rw[ha,h1,Nat.zero_mul] at h0;omega
   ·exact h1
  unfold Q.sg;rw[dt h0,dt this,Bool.and_true,Bool.and_true]
theorem sgnR_k (s:Bool) (a k:Nat):sgnR s (a*k)=sgnR s a*(k:Rat):=by cases s<;>simp only[sgnR,cond_true,cond_false,Rat.natCast_mul]<;>grind
theorem Q.add_r (x y:Q):(Q.add x y).r=x.r+y.r:=by
 unfold Q.add;simp only;rw[quot_r _ _ (Nat.mul_pos x.un_pos y.un_pos),sadd_r,sg_r x rfl,sg_r y rfl,sgnR_k,sgnR_k];have h1:=x.un_ne;have h2:=y.un_ne;unfold Q.r;rw[Rat.natCast_mul]
 grind
theorem Q.mul_r (x y:Q):(Q.mul x y).r=x.r*y.r:=by
 unfold Q.mul;rw[quot_r _ _ (Nat.mul_pos x.un_pos y.un_pos),sgnR_mul];have h1:=x.un_ne;have h2:=y.un_ne;unfold Q.r;rw[Rat.natCast_mul]
 grind
theorem Q.neg_r (x:Q):x.neg'.r=-x.r:=by
 show (quot (!x.neg) x.num x.un).r=_;rw[quot_r _ _ x.un_pos];have h1:=x.un_ne;unfold Q.r;cases x.neg<;>simp only[sgnR,cond_true,cond_false,Bool.not_true,Bool.not_false]<;>grind
theorem zero_r:Q.zero.r=0:=by
 show sgnR false 0 / _=_;rw[sgnR_zero];grind
theorem one_r:Q.one.r=1:=by
 show sgnR false 1 / ((1:Nat):Rat)=_;simp only[sgnR,cond_false];grind
theorem mone_r:Q.mone.r=-1:=by
 show sgnR true 1 / ((1:Nat):Rat)=_;simp only[sgnR,cond_true];grind
theorem Q.div_r (x y:Q) (h:y.num≠0):(Q.div x y).r=x.r / y.r:=by
 unfold Q.div;rw[quot_r _ _ (Nat.mul_pos x.un_pos (Nat.pos_of_ne_zero h)),sgnR_k];have h1:=x.un_ne;have h2:=y.un_ne;have h3:=nat_ne (Nat.pos_of_ne_zero h);unfold Q.r;rw[Rat.natCast_mul];cases x.neg<;>cases y.neg<;>simp only[sgnR,cond_true,cond_false,bne_self_eq_false,Bool.true_bne,Bool.false_bne,Bool.not_false,Bool.not_true,bne,beq_self_eq_true]<;>first | grind | (simp;grind)
theorem dz_bd {q:Q} {D:Nat} {z:Int} (h:q.Ok) (hD:0 < D) (he:q.r*(D:Rat)=(z:Rat)):q.num≤z.natAbs∧q.un≤D:=by
 have hu:=q.un_ne;have e1:sgnR q.neg q.num*(D:Rat)=(z:Rat)*(q.un:Rat):=by
  unfold Q.r at he
  grind
 have e2:sgnR q.neg q.num=(((bif q.neg then -(q.num:Int) else (q.num:Int)):Int):Rat):=by
  have ec:((q.num:Int):Rat)=(q.num:Rat):=Rat.intCast_natCast _;cases q.neg<;>simp only[sgnR,cond_true,cond_false]
  ·exact ec.symm
  ·rw[Rat.intCast_neg,ec]
 rw[e2] at e1;have e3:(bif q.neg then -(q.num:Int) else (q.num:Int))*(D:Int)=z*(q.un:Int):=by exact_mod_cast e1
 have e4:q.num*D=z.natAbs*q.un:=by
  have:=congrArg Int.natAbs e3;rw[Int.natAbs_mul,Int.natAbs_mul] at this;cases hn:q.neg<;>rw[hn] at this<;>simpa using this
 have hc:Nat.Coprime q.un q.num:=by rw[Nat.coprime_comm];exact h.cop
 have hdvd:q.un ∣ D:=hc.dvd_of_dvd_mul_left (show q.un ∣ q.num*D from ⟨z.natAbs,by rw[e4,Nat.mul_comm]⟩);refine⟨?_,Nat.le_of_dvd hD hdvd⟩;obtain⟨e,rfl⟩:=hdvd;have he0:0 < e:=by
  rcases Nat.eq_zero_or_pos e with g | g
  ·rw[g] at hD;simp at hD
  ·exact g
 have e5:q.num*e=z.natAbs:=by
  apply Nat.eq_of_mul_eq_mul_right q.un_pos
  rw[← e4,Nat.mul_assoc,Nat.mul_comm e]
 rw[← e5];exact Nat.le_mul_of_pos_right _ he0
structure Q.Dz (q:Q) (D M:Nat):Prop where
 ok:q.Ok
 ex:∃z:Int,q.r*(D:Rat)=(z:Rat)∧z.natAbs≤M
theorem Q.Dz.S {q:Q} {D M:Nat} (h:q.Dz D M) (hD:0 < D) (hD9:D < 18446744073709551616) (hM:M < 18446744073709551616):q.S 2:=by
 obtain⟨z,hz,hm⟩:=h.ex;obtain⟨h1,h2⟩:=dz_bd h.ok hD hz;have hb:∀n,n < 18446744073709551616→(limbs n).length≤2:=fun n hn=>limbs_len_le (k:=2) (by rw[show B32 ^ 2=18446744073709551616 from rfl];exact hn)
 exact⟨hb _ (by omega),hb _ (by omega),h.ok⟩
theorem canon_r (q:Q):(canonQ q).r=q.r:=quot_r _ _ q.un_pos
theorem num0_r {q:Q} (h:q.num=0):q.r=0:=by unfold Q.r;rw[h,sgnR_zero];grind
def valM (k:Rw→Rat):List Mm→Rat
 | []=>0
 | m::l=>m.2.r*k m.1+valM k l
theorem valM_app (k:Rw→Rat):∀(a b:List Mm),valM k (a++b)=valM k a+valM k b
 | [],b=>by rw[List.nil_append,valM];grind
 | m::a,b=>by rw[List.cons_append,valM,valM,valM_app k a b];grind
theorem plus_val (k:Rw→Rat) (l:List Mm) (r:Rw) (c:Q):valM k (plusR l r c)=valM k l+c.r*k r:=by
 unfold plusR;cases hz:sgQ c == 0 with
 | true=>
  have h0:c.num=0:=by
   have:=eq_of_beq hz;unfold sgQ isg at this;split at this
   ·assumption
   ·cases hn:c.neg<;>rw[hn] at this<;>simp at this
  rw[cond_true,num0_r h0];grind
 | false=>
  rw[cond_false];have e1:∀(x:Mm),valM k [x]=x.2.r*k x.1:=fun x=>by rw[valM,valM];grind
  cases hh:decide ((posR r l:Int) < (l.length:Int))&&rowEq (atZ l (posR r l:Int)).1 r with
  | true=>
   rw[be] at hh;have hi:posR r l < l.length:=by have:=of_decide_eq_true hh.1;omega
   have he:(atZ l (posR r l:Int)).1=r:=by have:=hh.2;rw[rowEq_eq] at this;exact of_decide_eq_true this
   generalize posR r l=i at*;have hl:l=l.take i++[atZ l (i:Int)]++l.drop (i+1):=by
    rw[atZ_nat (ge hi),List.append_assoc,List.singleton_append,← List.drop_eq_getElem_cons hi,List.take_append_drop]
   rw[cond_true,valM_app,valM_app,e1]
   conv=>rhs;rw[hl]
   rw[valM_app,valM_app,e1,he];simp only;rw[Q.add_r];grind
  | false=>
   rw[cond_false,valM_app,valM_app,e1]
   conv=>rhs;rw[← List.take_append_drop (posR r l) l]
   rw[valM_app];simp only;rw[canon_r];grind
theorem merge_val (k:Rw→Rat) (c:Q):∀(b a:List Mm),valM k (mergeR c a b)=valM k a+c.r*valM k b
 | [],a=>by rw[mergeR,valM];grind
 | m::b,a=>by rw[mergeR,merge_val k c b,plus_val,valM,Q.mul_r];grind
def kR (s:Sc) (r:Rw):Rat:=(formR s r).1.const.r
theorem sumGo_val {s:Sc}:∀{l:List Mm} {acc f:Fm},sumGo s l acc=some f→f.const.r=acc.const.r+valM (kR s) l
 | [],acc,f,h=>by rw[sumGo] at h;injection h with h;subst h;rw[valM];grind
 | m::l,acc,f,h=>by
  rw[sumGo] at h;cases hf:(formR s m.1).2 with
  | false=>rw[hf] at h;cases h
  | true=>
   rw[hf] at h;have:=sumGo_val (l:=l) h;rw[this,valM];show (Q.add acc.const (Q.mul (formR s m.1).1.const m.2)).r+_=_;rw[Q.add_r,Q.mul_r];unfold kR
   grind
theorem sumR_val (s:Sc) (l:List Mm):(sumR s l).1.const.r=0∨(sumR s l).1.const.r=valM (kR s) l:=by
 unfold sumR;cases canonR l with
 | false=>left;exact zero_r
 | true=>
  cases e:sumGo s l Fm.zero with
  | none=>left;exact zero_r
  | some f=>
   right
   show f.const.r=_;rw[sumGo_val e,show Fm.zero.const=Q.zero from rfl,zero_r];grind
theorem above_val {s:Sc}:∀{ts:List Tm} {acc L:List Mm},aboveGo s ts acc=some L→∃ws:List Rat,ws.length=ts.length∧valM (kR s) L=valM (kR s) acc+ws.sum∧∀(i:Nat) (t:Tm) (w:Rat),ts[i]?=some t→ws[i]?=some w→w=t.2.abs.r*valM (kR s) (moreR s t).1∧(moreR s t).2=true
 | [],acc,L,h=>by
  rw[aboveGo] at h;injection h with h;subst h;exact⟨[],rfl,by simp;grind,fun i t w hi=>by simp at hi⟩
 | t::ts,acc,L,h=>by
  rw[aboveGo] at h;cases hm:(moreR s t).2 with
  | false=>rw[hm] at h;cases h
  | true=>
   rw[hm] at h;obtain⟨ws,h1,h2,h3⟩:=above_val h;refine⟨(t.2.abs.r*valM (kR s) (moreR s t).1)::ws,by simp[h1],?_,fun i u w hi hw=>?_⟩
   ·rw[h2,merge_val,List.sum_cons];grind
   ·cases i with
    | zero=>simp at hi hw;subst hi hw;exact⟨rfl,hm⟩
    | succ i=>simp at hi hw;exact h3 i u w hi hw
def BestOk (ls:List Lm) (unit:Int) (p:Nat×Nat):Prop:=(p.1≠0→(atZ ls ((p.1 - 1:Nat):Int)).unit=unit∧(atZ ls ((p.1 - 1:Nat):Int)).upper=false)∧(p.2≠0→(atZ ls ((p.2 - 1:Nat):Int)).unit=unit∧(atZ ls ((p.2 - 1:Nat):Int)).upper=true)
theorem bestF_ok {ls:List Lm} {unit:Int} {p:Nat×Nat} {n:Nat} (h:BestOk ls unit p):BestOk ls unit (bestF ls unit p n):=by
 unfold bestF;cases hu:(atZ ls (n:Int)).unit != unit with
 | true=>exact h
 | false=>
  have hu':(atZ ls (n:Int)).unit=unit:=by simpa using hu
  simp only[cond_false];refine⟨?_,?_⟩
  ·simp only;cases hc:!(atZ ls (n:Int)).upper&&(((p.1:Int) == 0)||decide (0 < cmpR (atZ ls (n:Int)).value (atZ ls ((p.1 - 1:Nat):Int)).value)) with
   | true=>
    rw[be] at hc;intro _;simp only[cond_true,Nat.add_sub_cancel];exact⟨hu',not_t hc.1⟩
   | false=>exact h.1
  ·simp only;cases hc:(atZ ls (n:Int)).upper&&(((p.2:Int) == 0)||decide (cmpR (atZ ls (n:Int)).value (atZ ls ((p.2 - 1:Nat):Int)).value < 0)) with
   | true=>
    rw[be] at hc;intro _;simp only[cond_true,Nat.add_sub_cancel];exact⟨hu',hc.1⟩
   | false=>exact h.2
theorem bestR_ok (ls:List Lm) (unit:Int):BestOk ls unit (bestR ls unit):=by
 have:∀i,BestOk ls unit ((List.range i).foldl (bestF ls unit) (0,0)):=fun i=>by
  induction i with
  | zero=>exact⟨fun h=>absurd rfl h,fun h=>absurd rfl h⟩
  | succ i ih=>rw[List.range_succ,List.foldl_append];exact bestF_ok ih
 exact this _
theorem lemma_best {ls:List Lm} {unit:Int} {k:Nat} {up:Bool} (h0:k≠0) (h1:k≤ls.length) (hu:(atZ ls ((k - 1:Nat):Int)).unit=unit) (hp:(atZ ls ((k - 1:Nat):Int)).upper=up):lemmaQ ls (k:Int) unit up=(canonQ (atZ ls ((k - 1:Nat):Int)).value,true):=by
 have e:((k:Int) - 1)=((k - 1:Nat):Int):=by omega
 unfold lemmaQ;rw[e,df (by omega:¬((k:Int) < 1)),df (by omega:¬((ls.length:Int) < (k:Int))),hu,hp];simp
theorem sub_const_r (f g:Fm):(Fm.subR f g).const.r=f.const.r - g.const.r:=by
 show (Q.add f.const (Q.mul g.const Q.mone)).r=_;rw[Q.add_r,Q.mul_r,mone_r];grind
theorem scale_const_r (f:Fm) (q:Q):(Fm.scaleR f q).const.r=f.const.r*q.r:=Q.mul_r _ _
theorem k_lo {s:Sc} {v:Int} (h0:0≤v) (h1:v < s.q.rg.lo.length):kR s ⟨1,v,0,0⟩=-(atZ s.q.rg.lo v).r:=by
 unfold kR formR;rw[dt h1];have:decide (v < 0)=false:=df (by omega);simp only[this];show (Fm.subR (varR v) (numR (atZ s.q.rg.lo v))).const.r=_;rw[sub_const_r,show (varR v).const=Q.zero from rfl,show (numR (atZ s.q.rg.lo v)).const=atZ s.q.rg.lo v from rfl,zero_r];grind
theorem k_hi {s:Sc} {v:Int} (h0:0≤v) (h1:v < s.q.rg.hi.length):kR s ⟨2,v,0,0⟩=(atZ s.q.rg.hi v).r:=by
 unfold kR formR;rw[dt h1];have:decide (v < 0)=false:=df (by omega);simp only[this];show (Fm.subR (numR (atZ s.q.rg.hi v)) (varR v)).const.r=_;rw[sub_const_r,show (varR v).const=Q.zero from rfl,show (numR (atZ s.q.rg.hi v)).const=atZ s.q.rg.hi v from rfl,zero_r];grind
theorem k_unit {s:Sc} {r:Rw} (h5:5≤r.kind) (h0:0≤r.index) (h1:r.index < s.q.g.units.length):kR s r=(bif (unitF (varR (s.q.g.inputs+r.index)) (atZ s.q.g.units r.index) (lemmaQ s.lems r.lo r.index false) (lemmaQ s.lems r.hi r.index true) (onQ s r (lemmaQ s.lems r.lo r.index false)) (offQ s r (lemmaQ s.lems r.hi r.index true)) r).2 then (unitF (varR (s.q.g.inputs+r.index)) (atZ s.q.g.units r.index) (lemmaQ s.lems r.lo r.index false) (lemmaQ s.lems r.hi r.index true) (onQ s r (lemmaQ s.lems r.lo r.index false)) (offQ s r (lemmaQ s.lems r.hi r.index true)) r).1.const.r else 0):=by
 unfold kR formR;rw[dt h5,cond_true];unfold unitQ;rw[df (by omega:¬r.index < 0),df (by omega:¬((s.q.g.units.length:Int)≤r.index)),Bool.or_self,cond_false];cases (unitF (varR (s.q.g.inputs+r.index)) (atZ s.q.g.units r.index) (lemmaQ s.lems r.lo r.index false) (lemmaQ s.lems r.hi r.index true) (onQ s r (lemmaQ s.lems r.lo r.index false)) (offQ s r (lemmaQ s.lems r.hi r.index true)) r).2 with
 | true=>rfl
 | false=>exact zero_r
theorem k_zero {s:Sc} {j:Int} (h0:0≤j) (h1:j < s.q.g.units.length):kR s ⟨5,j,0,0⟩=0:=by
 rw[k_unit (by show (5:Int)≤_;simp) h0 h1];show (bif true then (varR (s.q.g.inputs+j)).const.r else 0)=0;exact zero_r
theorem k_offeq {s:Sc} {j hi:Int} (h0:0≤j) (h1:j < s.q.g.units.length):kR s ⟨10,j,0,hi⟩=0:=by
 rw[k_unit (by show (5:Int)≤_;simp) h0 h1];show (bif offQ s ⟨10,j,0,hi⟩ _ then (Fm.scaleR (varR (s.q.g.inputs+j)) Q.mone).const.r else 0)=0;cases offQ s ⟨10,j,0,hi⟩ (lemmaQ s.lems hi j true) with
 | true=>rw[cond_true,scale_const_r,show (varR (s.q.g.inputs+j)).const=Q.zero from rfl,zero_r];grind
 | false=>rfl
theorem k_upper {s:Sc} {j hi:Int} {u:Q} (h0:0≤j) (h1:j < s.q.g.units.length) (hu:lemmaQ s.lems hi j true=(u,true)):kR s ⟨12,j,0,hi⟩=u.r - (atZ s.q.g.units j).const.r:=by
 rw[k_unit (by show (5:Int)≤_;simp) h0 h1];simp only[hu];show (bif true&&true then (Fm.subR (numR u) (atZ s.q.g.units j)).const.r else 0)=_;exact sub_const_r _ _
theorem k_oneq {s:Sc} {j lo:Int} {l:Q} (h0:0≤j) (h1:j < s.q.g.units.length) (hl:lemmaQ s.lems lo j false=(l,true)) (hs:decide (0≤sgQ l)=true):kR s ⟨8,j,lo,0⟩=(atZ s.q.g.units j).const.r:=by
 rw[k_unit (by show (5:Int)≤_;simp) h0 h1];have ho:onQ s ⟨8,j,lo,0⟩ (l,true)=true:=by
  unfold onQ;simp only[hs];simp
 simp only[hl,ho];show (bif true then (Fm.subR (atZ s.q.g.units j) (varR (s.q.g.inputs+j))).const.r else 0)=_;rw[cond_true,sub_const_r,show (varR (s.q.g.inputs+j)).const=Q.zero from rfl,zero_r];grind
theorem k_tri {s:Sc} {j lo hi:Int} {l u:Q} (h0:0≤j) (h1:j < s.q.g.units.length) (hl:lemmaQ s.lems lo j false=(l,true)) (hu:lemmaQ s.lems hi j true=(u,true)) (hs:decide (sgQ l < 0)=true) (ht:decide (0 < sgQ u)=true):kR s ⟨13,j,lo,hi⟩=((atZ s.q.g.units j).const.r - l.r)*u.r:=by
 rw[k_unit (by show (5:Int)≤_;simp) h0 h1];simp only[hl,hu];show (bif true&&(true&&(decide (sgQ l < 0)&&decide (0 < sgQ u))) then (Fm.subR (Fm.scaleR (Fm.subR (atZ s.q.g.units j) (numR l)) u) (Fm.scaleR (varR (s.q.g.inputs+j)) (Q.add u l.neg'))).const.r else 0)=_;rw[hs,ht];simp only[Bool.and_self,cond_true];rw[sub_const_r,scale_const_r,scale_const_r,sub_const_r,show (varR (s.q.g.inputs+j)).const=Q.zero from rfl,zero_r,show (numR l).const=l from rfl];grind
theorem r_ne {q:Q} (h:q.num≠0):q.r≠0:=by
 have h1:=q.un_ne;have h2:=nat_ne (Nat.pos_of_ne_zero h);unfold Q.r;cases q.neg<;>simp only[sgnR,cond_true,cond_false]<;>grind
theorem least_val {s:Sc} {a b:Nat} (hs:s.Va a b) {v:Int} (h0:0≤v) (hv:v < ((s.q.g.inputs+s.q.g.units.length:Nat):Int)):valM (kR s) (atLeastR s v)=(if v < s.q.g.inputs then -(atZ s.q.rg.lo v).r else 0):=by
 unfold atLeastR;by_cases hi:v < s.q.g.inputs
 ·rw[dt hi,if_pos hi,cond_true,valM,valM];simp only;rw[k_lo h0 (by rw[hs.q.rg.lo];exact hi),one_r];grind
 ·rw[df hi,if_neg hi,cond_false,valM,valM];simp only;rw[k_zero (by omega) (by omega)];grind
def hiV (s:Sc) (v:Int):Rat:=
 if v < s.q.g.inputs then (atZ s.q.rg.hi v).r
 else if decide (sgQ (atZ s.lems (((bestR s.lems (v - s.q.g.inputs)).2 - 1:Nat):Int)).value≤0) then 0 else (atZ s.lems (((bestR s.lems (v - s.q.g.inputs)).2 - 1:Nat):Int)).value.r
theorem most_val {s:Sc} {a b:Nat} (hs:s.Va a b) {v:Int} (h0:0≤v) (hv:v < ((s.q.g.inputs+s.q.g.units.length:Nat):Int)) (hm:(atMostR s v).2=true):valM (kR s) (atMostR s v).1=hiV s v∧(¬v < s.q.g.inputs→(bestR s.lems (v - s.q.g.inputs)).2≠0∧(bestR s.lems (v - s.q.g.inputs)).2≤s.lems.length):=by
 have one:∀(r:Rw),valM (kR s) [(r,Q.one)]=kR s r:=fun r=>by rw[valM,valM];simp only;rw[one_r];grind
 unfold atMostR at hm ⊢;unfold hiV;by_cases hi:v < s.q.g.inputs
 ·rw[dt hi,if_pos hi,cond_true,one,k_hi h0 (by rw[hs.q.rg.hi];exact hi)];exact⟨rfl,fun h=>absurd hi h⟩
 ·rw[df hi,if_neg hi] at*;obtain⟨b1,b2⟩:=bestR_le s.lems (v - s.q.g.inputs);obtain⟨o1,o2⟩:=bestR_ok s.lems (v - s.q.g.inputs);simp only[cond_false] at hm ⊢;generalize bestR s.lems (v - s.q.g.inputs)=p at*;cases h1:((p.1:Int) == 0) with
  | true=>rw[h1] at hm;simp at hm
  | false=>
   cases h2:((p.2:Int) == 0) with
   | true=>rw[h1,h2] at hm;simp at hm
   | false=>
    obtain⟨g1,l8⟩:=lem_at hs h1 b1;obtain⟨g2,u8⟩:=lem_at hs h2 b2;have n1:p.1≠0:=fun e=>by rw[e] at h1;simp at h1
    have n2:p.2≠0:=fun e=>by rw[e] at h2;simp at h2
    obtain⟨lu,lp⟩:=o1 n1;obtain⟨uu,up⟩:=o2 n2;have hl:=lemma_best n1 b1 lu lp;have hu:=lemma_best n2 b2 uu up;rw[l8.canon] at hl;rw[u8.canon] at hu;generalize (atZ s.lems ((p.1 - 1:Nat):Int)).value=l at*;generalize (atZ s.lems ((p.2 - 1:Nat):Int)).value=u at*;have hj0:0≤v - s.q.g.inputs:=by omega
    have hj1:v - s.q.g.inputs < s.q.g.units.length:=by omega
    refine⟨?_,fun _=>⟨n2,b2⟩⟩;simp only[Bool.or_self,cond_false];cases h3:decide (sgQ u≤0) with
    | true=>rw[cond_true,one,k_offeq hj0 hj1];rfl
    | false=>
     rw[cond_false];cases h4:decide (0≤sgQ l) with
     | true=>
      rw[cond_true,valM,one];simp only;rw[k_oneq hj0 hj1 hl h4,k_upper hj0 hj1 hu,one_r];simp;grind
     | false=>
      have h5:decide (sgQ l < 0)=true:=dt (by have:=of_decide_eq_false h4;omega);have h6:decide (0 < sgQ u)=true:=dt (by have:=of_decide_eq_false h3;omega);have hn:=span_pos l8.ok (of_decide_eq_false h3) (of_decide_eq_false h4);have hd:=r_ne hn;rw[cond_false,valM,valM,valM];simp only;rw[k_upper hj0 hj1 hu,k_tri hj0 hj1 hl hu h5 h6,Q.mul_r,Q.div_r _ _ hn,one_r];rw[Q.add_r,Q.neg_r] at hd ⊢;simp
      grind
def Rz (x:Rat) (D M:Nat):Prop:=∃z:Int,x*(D:Rat)=(z:Rat)∧z.natAbs≤M
theorem Rz.neg {x:Rat} {D M:Nat} (h:Rz x D M):Rz (-x) D M:=by
 obtain⟨z,h1,h2⟩:=h;exact⟨-z,by rw[Rat.intCast_neg,← h1];grind,by rw[Int.natAbs_neg];exact h2⟩
theorem Rz.add {x y:Rat} {D M N:Nat} (h:Rz x D M) (k:Rz y D N):Rz (x+y) D (M+N):=by
 obtain⟨z,h1,h2⟩:=h;obtain⟨w,k1,k2⟩:=k;exact⟨z+w,by rw[Rat.intCast_add,← h1,← k1];grind,nt (Int.natAbs_add_le ..) (Nat.add_le_add h2 k2)⟩
theorem Rz.mul {x y:Rat} {D E M N:Nat} (h:Rz x D M) (k:Rz y E N):Rz (x*y) (D*E) (M*N):=by
 obtain⟨z,h1,h2⟩:=h;obtain⟨w,k1,k2⟩:=k;exact⟨z*w,by rw[Rat.intCast_mul,Rat.natCast_mul,← h1,← k1];grind,by rw[Int.natAbs_mul];exact Nat.mul_le_mul h2 k2⟩
theorem Rz.zero (D M:Nat):Rz 0 D M:=⟨0,by simp,nq _⟩
theorem Rz.up {x:Rat} {D M N:Nat} (h:Rz x D M) (k:M≤N):Rz x D N:=by
 obtain⟨z,h1,h2⟩:=h;exact⟨z,h1,nt h2 k⟩
theorem Rz.scale {x:Rat} {D M:Nat} (h:Rz x D M) (k:Nat):Rz x (D*k) (M*k):=by
 obtain⟨z,h1,h2⟩:=h;have ec:((k:Int):Rat)=(k:Rat):=Rat.intCast_natCast _;exact⟨z*k,by rw[Rat.natCast_mul,Rat.intCast_mul,ec,← h1];grind,by rw[Int.natAbs_mul,Int.natAbs_natCast];exact Nat.mul_le_mul_right _ h2⟩
theorem Rz.sum {D M:Nat}:∀{l:List Rat},(∀x∈l,Rz x D M)→Rz l.sum D (l.length*M)
 | [],_=>by rw[List.sum_nil];exact Rz.zero _ _
 | x::l,h=>by
  rw[List.sum_cons,List.length_cons,Nat.add_mul,Nat.one_mul,Nat.add_comm (l.length*M)];exact (h x (mf ..)).add (Rz.sum fun y hy=>h y (List.mem_cons_of_mem _ hy))
theorem abs_r (q:Q):q.abs.r=q.r∨q.abs.r=-q.r:=by
 unfold Q.abs Q.r;have:(Q.mk false q.num q.den).un=q.un:=rfl;rw[this];cases q.neg with
 | false=>left;rfl
 | true=>right;simp only[sgnR,cond_true,cond_false];grind
theorem Rz.abs {q:Q} {D M:Nat} (h:Rz q.r D M):Rz q.abs.r D M:=by
 rcases abs_r q with e | e
 ·rw[e];exact h
 ·rw[e];exact h.neg
structure Sc.Dz (s:Sc) (D M:Nat):Prop where
 lo:∀q∈s.q.rg.lo,Rz q.r D M
 hi:∀q∈s.q.rg.hi,Rz q.r D M
 lems:∀m∈s.lems,Rz m.value.r D M
structure Fm.Dz (f:Fm) (n C:Nat):Prop where
 each:∀t∈f.terms,Rz t.2.r 4 C∧0≤t.1∧t.1 < (n:Int)
 const:Rz f.const.r 4 C
theorem more_dz {s:Sc} {a b D M:Nat} (hs:s.Va a b) (h:s.Dz D M) {t:Tm} (h0:0≤t.1) (hv:t.1 < ((s.q.g.inputs+s.q.g.units.length:Nat):Int)) (hm:(moreR s t).2=true):Rz (valM (kR s) (moreR s t).1) D M:=by
 unfold moreR at hm ⊢;cases hd:decide (0 < sgQ t.2) with
 | true=>
  rw[cond_true];simp only;rw[least_val hs h0 hv];split
  ·rename_i hi
   exact (h.lo _ (atZ_mem h0 (by rw[hs.q.rg.lo];exact hi))).neg
  ·exact Rz.zero _ _
 | false=>
  rw[hd,cond_false] at hm;rw[cond_false];obtain⟨h1,h2⟩:=most_val hs h0 hv hm;rw[h1];unfold hiV;split
  ·rename_i hi
   exact h.hi _ (atZ_mem h0 (by rw[hs.q.rg.hi];exact hi))
  ·rename_i hi
   obtain⟨n2,b2⟩:=h2 hi;split
   ·exact Rz.zero _ _
   ·exact h.lems _ (mg (get_of (show _ - 1 < s.lems.length by omega)))
theorem above_dz {s:Sc} {a b D M C:Nat} (hs:s.Va a b) (h:s.Dz D M) {f:Fm} (hf:f.Dz (s.q.g.inputs+s.q.g.units.length) C):Rz (aboveR s f).1.r (4*D) (C*D+f.terms.length*(C*M)):=by
 unfold aboveR;cases e:aboveGo s f.terms [] with
 | none=>rw[show ((Q.zero,([]:List Mm),false):Q×List Mm×Bool).1=Q.zero from rfl,zero_r];exact Rz.zero _ _
 | some L=>
  simp only;rw[sub_const_r];have hc:Rz f.const.r (4*D) (C*D):=hf.const.scale D;rcases sumR_val s L with h1 | h1
  ·rw[h1];have:f.const.r - 0=f.const.r:=by grind
   rw[this];exact hc.up (Nat.le_add_right ..)
  ·rw[h1];obtain⟨ws,g1,g2,g3⟩:=above_val e;have hw:∀w∈ws,Rz w (4*D) (C*M):=fun w hw=>by
    obtain⟨i,hi,rfl⟩:=List.mem_iff_getElem.1 hw;have hi':i < f.terms.length:=by omega
    obtain⟨e1,e2⟩:=g3 i _ _ (ge hi') (ge hi);obtain⟨t1,t2,t3⟩:=hf.each _ (List.getElem_mem hi');rw[e1];exact (Rz.abs t1).mul (more_dz hs h t2 t3 e2)
   have hsum:=Rz.sum hw;rw[g1] at hsum;have:f.const.r - valM (kR s) L=f.const.r+-(ws.sum):=by rw[g2,valM];grind
   rw[this];exact hc.add hsum.neg
theorem rz_S {q:Q} {D M:Nat} (h:q.Ok) (hz:Rz q.r D M) (hD:0 < D) (hD9:D < 79228162514264337593543950336) (hM:M < 79228162514264337593543950336):q.S 3:=by
 obtain⟨z,hz,hm⟩:=hz;obtain⟨h1,h2⟩:=dz_bd h hD hz;have hb:∀n,n < 79228162514264337593543950336→(limbs n).length≤3:=fun n hn=>limbs_len_le (k:=3) (by rw[show B32 ^ 3=79228162514264337593543950336 from rfl];exact hn)
 exact⟨hb _ (by omega),hb _ (by omega),h⟩
theorem above_ok (s:Sc) (f:Fm):(aboveR s f).1.Ok:=by
 unfold aboveR;cases aboveGo s f.terms [] with
 | none=>exact (by decide:Q.zero.Ok)
 | some L=>exact Q.add_ok ..
theorem scale_dz {p:Fm} {n C:Nat} (h:p.Dz n C) (hc:p.Cn):(Fm.scaleR p Q.mone).Dz n C where
 each t ht:=by
  refine⟨?_,scale_vars hc (P:=fun v=>0≤v∧v < (n:Int)) (fun t ht=>(h.each t ht).2) t ht⟩;exact scaleT_all (P:=fun x=>Rz x.r 4 C) p.terms [] (fun x hx=>by cases hx) (fun x hx=>by
   show Rz (Q.mul x.2 Q.mone).r 4 C;rw[Q.mul_r,mone_r];have:x.2.r*-1=-x.2.r:=by grind
   rw[this];exact (h.each x hx).1.neg) t ht
 const:=by
  show Rz (Q.mul p.const Q.mone).r 4 C;rw[Q.mul_r,mone_r];have:p.const.r*-1=-p.const.r:=by grind
  rw[this];exact h.const.neg
def MM (D M:Nat):Nat→Nat
 | 0=>M
 | j+1=>16*(4 ^ j*D)+128*MM D M j
theorem bounded_dz {s:Sc} {a D M:Nat} (hs:s.Va a 3) (hl:s.lems.length≤900) (hz:s.Dz D M) (hu:∀p∈s.q.g.units,p.Dz (s.q.g.inputs+s.q.g.units.length) 16) (hD:0 < D):∀j,j≤s.q.g.units.length→4 ^ j*D < 79228162514264337593543950336→MM D M j < 79228162514264337593543950336→(boundedN s j).Va a 3∧(boundedN s j).Dz (4 ^ j*D) (MM D M j)∧(boundedN s j).lems.length≤s.lems.length+2*j
 | 0,_,_,_=>⟨hs,by rw[Nat.pow_zero,Nat.one_mul];exact hz,nr _⟩
 | j+1,hj,h1,h2=>by
  have hp:4 ^ (j+1)*D=4*(4 ^ j*D):=by rw[Nat.pow_succ,Nat.mul_comm (4 ^ j),Nat.mul_assoc]
  have hDj:0 < 4 ^ j*D:=Nat.mul_pos (Nat.pow_pos (by decide)) hD;have hM:MM D M (j+1)=16*(4 ^ j*D)+128*MM D M j:=rfl;obtain⟨v1,z1,l1⟩:=bounded_dz hs hl hz hu hD j (by omega) (by omega) (by omega);obtain⟨q1,q2⟩:=bounded_q s j;have hn9:=hs.n9;have hja:j < s.q.g.units.length:=hj;generalize ht:boundedN s j=t at*;have hmem:atZ s.q.g.units (j:Int)∈s.q.g.units:=mg (get_of hja);have hpS:=hs.q.us _ hmem;have hpD:=hu _ hmem;have hlen:(atZ s.q.g.units (j:Int)).terms.length≤8:=nt hpS.len hn9;have new:∀f:Fm,f.Dz (s.q.g.inputs+s.q.g.units.length) 16→f.terms.length≤8→Rz (aboveR t f).1.r (4*(4 ^ j*D)) (MM D M (j+1)):=fun f hf hfl=>by
   have:=above_dz v1 z1 (f:=f) (C:=16) (by rw[q1];exact hf);refine this.up ?_;rw[hM];have:=Nat.mul_le_mul_right (16*MM D M j) hfl;omega
  have hA:=new _ hpD hlen;have hB:=new _ (scale_dz hpD hpS.cn) (nt (scaleT_len ..) (by simpa using hlen));have ev:∀m∈(boundedN s (j+1)).lems,m.value.Ok∧Rz m.value.r (4*(4 ^ j*D)) (MM D M (j+1)):=fun m hm=>by
   have hm':m∈(bStep t j).lems:=by rw[← ht];exact hm
   unfold bStep addLm at hm';simp only[List.mem_append,q1] at hm';rcases hm' with hm' | hm' | hm'
   ·refine⟨(v1.lems m hm').ok,?_⟩;have:=(z1.lems m hm').scale 4;rw[Nat.mul_comm _ 4] at this;exact this.up (by rw[hM];omega)
   ·cases hc:(aboveR t (atZ s.q.g.units (j:Int))).2.2 with
    | false=>rw[hc] at hm';cases hm'
    | true=>
     rw[hc] at hm';rw[mj hm'];exact⟨above_ok ..,hA⟩
   ·cases hc:(aboveR t (Fm.scaleR (atZ s.q.g.units (j:Int)) Q.mone)).2.2 with
    | false=>rw[hc] at hm';cases hm'
    | true=>
     rw[hc] at hm';rw[mj hm'];refine⟨quot_ok _ _ (Q.un_pos _),?_⟩;show Rz (Q.neg' _).r _ _;rw[Q.neg_r];exact hB.neg
  obtain⟨q3,q4⟩:=bounded_q s (j+1);have hlen2:(boundedN s (j+1)).lems.length≤s.lems.length+2*(j+1):=by
   have e:(boundedN s (j+1)).lems=(bStep t j).lems:=by rw[← ht];rfl
   rw[e];unfold bStep addLm;simp only[List.length_append];cases (aboveR t (atZ t.q.g.units (j:Int))).2.2<;>cases (aboveR t (Fm.scaleR (atZ t.q.g.units (j:Int)) Q.mone)).2.2<;>simp<;>omega
  refine⟨⟨by rw[q3];exact hs.q,by rw[q4];exact hs.path,by rw[q4];exact hs.p9,fun m hm=>rz_S (ev m hm).1 (ev m hm).2 (by omega) (by omega) h2,by omega,hs.b1,hs.b9,hs.a9,by rw[q3];exact hs.n9⟩,⟨?_,?_,?_⟩,hlen2⟩
  ·rw[q3,hp];intro q hq;have:=(hz.lo q hq);exact z_up (z1.lo q (by rw[q1];exact hq)) hM
  ·rw[q3,hp];intro q hq;exact z_up (z1.hi q (by rw[q1];exact hq)) hM
  ·rw[hp];exact fun m hm=>(ev m hm).2
where
 z_up {x:Rat} {D' M' M2 X:Nat} (h:Rz x D' M') (hM:M2=X+128*M'):Rz x (4*D') M2:=by
  have:=h.scale 4;rw[Nat.mul_comm _ 4] at this;exact this.up (by omega)
theorem above_dz2 {s:Sc} {a b D M C m K:Nat} (hs:s.Va a b) (h:s.Dz D M) {f:Fm} (hf:∀t∈f.terms,Rz t.2.r 4 C∧0≤t.1∧t.1 < ((s.q.g.inputs+s.q.g.units.length:Nat):Int)) (hc:Rz f.const.r (4*D*m) K):Rz (aboveR s f).1.r (4*D*m) (K+f.terms.length*(C*M)*m):=by
 unfold aboveR;cases e:aboveGo s f.terms [] with
 | none=>rw[show ((Q.zero,([]:List Mm),false):Q×List Mm×Bool).1=Q.zero from rfl,zero_r];exact Rz.zero _ _
 | some L=>
  simp only;rw[sub_const_r];rcases sumR_val s L with h1 | h1
  ·rw[h1];have:f.const.r - 0=f.const.r:=by grind
   rw[this];exact hc.up (Nat.le_add_right ..)
  ·rw[h1];obtain⟨ws,g1,g2,g3⟩:=above_val e;have hw:∀w∈ws,Rz w (4*D) (C*M):=fun w hw=>by
    obtain⟨i,hi,rfl⟩:=List.mem_iff_getElem.1 hw;have hi':i < f.terms.length:=by omega
    obtain⟨e1,e2⟩:=g3 i _ _ (ge hi') (ge hi);obtain⟨t1,t2,t3⟩:=hf _ (List.getElem_mem hi');rw[e1];exact (Rz.abs t1).mul (more_dz hs h t2 t3 e2)
   have hsum:=(Rz.sum hw).scale m;rw[g1] at hsum;have:f.const.r - valM (kR s) L=f.const.r+-(ws.sum):=by rw[g2,valM];grind
   rw[this];exact hc.add hsum.neg
theorem minR_or (x y:Q):minR x y=canonQ x∨minR x y=canonQ y:=by
 unfold minR;cases decide (isg (Q.add x y.neg').neg (Q.add x y.neg').num≤0)
 ·exact .inr rfl
 ·exact .inl rfl
structure GrowIn (s:Sc) (a D M m K:Nat):Prop where
 va:s.Va a 3
 len:s.lems.length≤900
 dz:s.Dz D M
 us:∀p∈s.q.g.units,p.Dz (s.q.g.inputs+s.q.g.units.length) 16
 pos:0 < D
 goal:∀t∈s.q.goal.terms,Rz t.2.r 4 16∧0≤t.1∧t.1 < ((s.q.g.inputs+s.q.g.units.length:Nat):Int)
 gl:s.q.goal.terms.length≤8
 const:Rz s.q.goal.const.r (4*(4 ^ s.q.g.units.length*D)*m) K
 mp:0 < m
 b1:4*(4 ^ s.q.g.units.length*D)*m < 79228162514264337593543950336
 b2:∀j,j≤s.q.g.units.length→MM D M j < 79228162514264337593543950336
 b3:K+8*(16*MM D M s.q.g.units.length)*m < 79228162514264337593543950336
theorem GrowIn.dec {s:Sc} {a D M m K k:Nat} {kind:Int} (h:GrowIn s a D M m K) (hp:s.path.length≤100) (ha:1≤a):GrowIn (s.dec kind k) a D M m K:=
 ⟨⟨h.va.q,fun d hd=>by
   rcases List.mem_append.1 hd with e | e
   ·exact h.va.path d e
   ·rw[mj e];exact sz_zero.up ha,by show (s.path++_).length≤1000;simp;omega,h.va.lems,h.va.l9,h.va.b1,h.va.b9,h.va.a9,h.va.n9⟩,
  h.len,⟨h.dz.lo,h.dz.hi,h.dz.lems⟩,h.us,h.pos,h.goal,h.gl,h.const,h.mp,h.b1,h.b2,h.b3⟩
theorem GrowIn.bd {s:Sc} {a D M m K:Nat} (h:GrowIn s a D M m K) (j:Nat) (hj:j≤s.q.g.units.length):(boundedN s j).Va a 3∧(boundedN s j).Dz (4 ^ j*D) (MM D M j):=by
 have h4:4 ^ j*D≤4 ^ s.q.g.units.length*D:=Nat.mul_le_mul_right _ (Nat.pow_le_pow_right (by decide) hj);have h5:4*(4 ^ s.q.g.units.length*D)≤4*(4 ^ s.q.g.units.length*D)*m:=Nat.le_mul_of_pos_right _ h.mp;have hb1:=h.b1;obtain⟨v,z,_⟩:=bounded_dz h.va h.len h.dz h.us h.pos j hj (by omega) (h.b2 j hj);exact⟨v,z⟩
theorem GrowIn.ok {a D M m K:Nat} (ha:1≤a):∀(k:Nat) {s:Sc} {root:Bool},GrowIn s a D M m K→s.path.length+k≤100→GrowOk a 3 k s∧(growR k s root).2.S 3∧Rz (growR k s root).2.r (4*(4 ^ s.q.g.units.length*D)*m) (K+8*(16*MM D M s.q.g.units.length)*m)
 | 0,s,root,h,hp=>by
  refine⟨fun j hj=>(h.bd j hj).1,?_⟩;obtain⟨v,z⟩:=h.bd s.q.g.units.length (nr _);have hq:=(bounded_q s s.q.g.units.length).1;have:=above_dz2 (s:=boundedR s) (f:=s.q.goal) (C:=16) v z (fun t ht=>by
   have:=h.goal t ht;show Rz t.2.r 4 16∧0≤t.1∧t.1 < (((boundedN s s.q.g.units.length).q.g.inputs+(boundedN s s.q.g.units.length).q.g.units.length:Nat):Int);rw[hq];exact this) h.const
  have this:=this.up (N:=K+8*(16*MM D M s.q.g.units.length)*m) (Nat.add_le_add_left (Nat.mul_le_mul_right _ (Nat.mul_le_mul_right _ h.gl)) _);exact⟨rz_S (above_ok ..) this (Nat.mul_pos (Nat.mul_pos (by decide) (Nat.mul_pos (Nat.pow_pos (by decide)) h.pos)) h.mp) h.b1 h.b3,this⟩
 | k+1,s,root,h,hp=>by
  obtain⟨a1,a2,a3⟩:=GrowIn.ok ha k (root:=false) (h.dec (kind:=1) (k:=k) (by omega) ha) (by show (s.path++_).length+k≤100;simp;omega);obtain⟨b1,b2,b3⟩:=GrowIn.ok ha k (root:=false) (h.dec (kind:=2) (k:=k) (by omega) ha) (by show (s.path++_).length+k≤100;simp;omega);refine⟨⟨a1,b1,a2.up (by decide),b2.up (by decide),by omega⟩,?_⟩;show (minR _ _).S 3∧Rz (minR _ _).r _ _;rcases minR_or (growR k (s.dec 1 k) false).2 (growR k (s.dec 2 k) false).2 with e | e
  ·rw[e,a2.canon];exact⟨a2,a3⟩
  ·rw[e,b2.canon];exact⟨b2,b3⟩
theorem srt_of:∀{l:List Tm},(∀(i:Nat) (s t:Tm),l[i]?=some s→l[i+1]?=some t→s.1 < t.1)→Srt' l
 | [],_=>by simp[Srt']
 | [t],_=>by simp[Srt']
 | s::t::l,h=>by
  have ih:Srt' (t::l):=srt_of fun i a b ha hb=>h (i+1) a b (by simpa using ha) (by simpa using hb)
  have hst:=h 0 s t rfl rfl;rw[Srt',List.pairwise_cons];refine⟨fun u hu=>?_,ih⟩;rcases List.mem_cons.1 hu with e | e
  ·rw[e];exact hst
  ·have:=(List.pairwise_cons.1 ih).1 u e;omega
theorem cn_of {f:Fm} {v:Nat} (h:f.Ok v):f.Cn:=⟨srt_of h.asc,fun t ht=>⟨(h.each t ht).2.2.2,(h.each t ht).2.2.1⟩,h.const⟩
theorem srt_len:∀{l:List Tm} {a b:Int},Srt' l→(∀t∈l,a≤t.1∧t.1 < b)→a≤b→(l.length:Int)≤b - a
 | [],a,b,_,_,h=>by simp;omega
 | t::l,a,b,hs,h,hab=>by
  rw[Srt',List.pairwise_cons] at hs;have ht:=h t (mf ..);have:=srt_len (l:=l) (a:=t.1+1) (b:=b) hs.2 (fun u hu=>⟨by have:=hs.1 u hu;omega,(h u (List.mem_cons_of_mem _ hu)).2⟩) (by omega);rw[List.length_cons];omega
theorem ok_len {f:Fm} {v:Nat} (h:f.Ok v):f.terms.length≤v:=by
 have:=srt_len (a:=0) (b:=(v:Int)) (cn_of h).srt (fun t ht=>⟨(h.each t ht).1,(h.each t ht).2.1⟩) (by omega);omega
theorem tiny_S {q:Q} (h:q.Tiny):q.S 1:=small_S (nj h.num (by decide)) (by unfold Q.un;split;decide;exact nj h.den (by decide)) h.ok
theorem smallF_S {f:Fm} {v:Nat} (h:f.Small v):f.S 1 v:=⟨cn_of h.ok,fun t ht=>tiny_S (h.num t ht),tiny_S h.const,ok_len h.ok⟩
theorem qt_rz {q:Q} (h:q.Qt):Rz q.r 4 16:=by
 obtain⟨e,he⟩:=h.un;have hu:=q.un_ne;have hcast:(4:Rat)=(q.un:Rat)*(e:Rat):=by
  have:((4:Nat):Rat)=((q.un*e:Nat):Rat):=by rw[← he]
  rw[Rat.natCast_mul] at this;exact_mod_cast this
 have hle:e≤4:=Nat.le_of_dvd (by decide) ⟨q.un,by rw[Nat.mul_comm];exact he⟩;have hn:=h.num;have hb:q.num*e≤16:=nt (Nat.mul_le_mul hn hle) (by decide);have ec:∀n:Nat,((n:Int):Rat)=(n:Rat):=fun n=>Rat.intCast_natCast _
 cases hs:q.neg with
 | false=>
  refine⟨((q.num*e:Nat):Int),?_,by rw[Int.natAbs_natCast];exact hb⟩;rw[ec,Rat.natCast_mul];unfold Q.r;rw[hs];simp only[sgnR,cond_false];show (q.num:Rat) / (q.un:Rat)*4=_;rw[hcast];grind
 | true=>
  refine⟨-((q.num*e:Nat):Int),?_,by rw[Int.natAbs_neg,Int.natAbs_natCast];exact hb⟩;rw[Rat.intCast_neg,ec,Rat.natCast_mul];unfold Q.r;rw[hs];simp only[sgnR,cond_true];show -(q.num:Rat) / (q.un:Rat)*4=_;rw[hcast];grind
theorem r_pos {q:Q} (h:q.neg=false) (h0:0 < q.num):0 < q.r:=by
 unfold Q.r;rw[h];simp only[sgnR,cond_false];have h1:(0:Rat) < (q.num:Rat):=by exact_mod_cast h0
 have h2:(0:Rat) < (q.un:Rat):=by exact_mod_cast q.un_pos
 rw[Rat.div_def];exact Rat.mul_pos h1 (Rat.inv_pos.2 h2)
theorem isg_le {q:Q} (h:q.r≤0):sgQ q≤0:=by
 apply Classical.byContradiction
 intro hc;obtain⟨h1,h2⟩:=isg_pos hc;have:=r_pos h1 h2
 grind
theorem abs_nonneg (q:Q):0≤q.abs.r:=by
 rcases Nat.eq_zero_or_pos q.num with h | h
 ·rw[num0_r (q:=q.abs) h];grind
 ·have:=r_pos (q:=q.abs) rfl h
  grind
theorem box_le (a q:Q):isg (Q.add a (Q.add a q.abs).neg').neg (Q.add a (Q.add a q.abs).neg').num≤0:=by
 refine isg_le (q:=Q.add a (Q.add a q.abs).neg') ?_;rw[Q.add_r,Q.neg_r,Q.add_r];have:=abs_nonneg q
 grind
theorem r_neg' {q:Q} (h:q.neg=true) (h0:0 < q.num):q.r < 0:=by
 have:q.r=-(Q.mk false q.num q.den).r:=by
  unfold Q.r;have:(Q.mk false q.num q.den).un=q.un:=rfl;rw[this,h];simp only[sgnR,cond_true,cond_false];grind
 have hp:=r_pos (q:=Q.mk false q.num q.den) rfl h0
 grind
theorem sign_cases (q:Q):(q.sign=0∧q.num=0)∨(q.sign=1∧q.neg=false∧0 < q.num)∨(q.sign=-1∧q.neg=true∧0 < q.num):=by
 unfold Q.sign;by_cases h:q.num=0
 ·left;exact⟨if_pos h,h⟩
 ·rw[if_neg h];cases hn:q.neg with
  | false=>right;left;exact⟨rfl,rfl,by omega⟩
  | true=>right;right;exact⟨rfl,rfl,by omega⟩
theorem lt_r {x y:Q} (hx:x.neg=false) (hy:y.neg=false) (h:y.num*x.un < x.num*y.un):y.r < x.r:=by
 have h1:=x.un_ne;have h2:=y.un_ne;have p1:(0:Rat) < (x.un:Rat):=by exact_mod_cast x.un_pos
 have p2:(0:Rat) < (y.un:Rat):=by exact_mod_cast y.un_pos
 have h3:((y.num*x.un:Nat):Rat) < ((x.num*y.un:Nat):Rat):=by exact_mod_cast h
 rw[Rat.natCast_mul,Rat.natCast_mul] at h3;have e:x.r - y.r=((x.num:Rat)*y.un - y.num*x.un)*((x.un:Rat)⁻¹*(y.un:Rat)⁻¹):=by
  unfold Q.r;rw[hx,hy];simp only[sgnR,cond_false]
  grind
 have:0 < x.r - y.r:=by
  rw[e];exact Rat.mul_pos (by grind) (Rat.mul_pos (Rat.inv_pos.2 p1) (Rat.inv_pos.2 p2))
 grind
theorem pos_neg_r {q:Q} (h:q.neg=true):q.r=-(Q.mk false q.num q.den).r:=by
 unfold Q.r;have:(Q.mk false q.num q.den).un=q.un:=rfl;rw[this,h];simp only[sgnR,cond_true,cond_false];grind
theorem cmp_le {x y:Q} (h:x.r≤y.r):Q.cmpQ x y≤0:=by
 unfold Q.cmpQ;split
 ·decide
 ·rename_i g1
  split
  ·rename_i g2
   exfalso
   rcases sign_cases x with ⟨a1,a2⟩ | ⟨a1,a2,a3⟩ | ⟨a1,a2,a3⟩<;>rcases sign_cases y with ⟨b1,b2⟩ | ⟨b1,b2,b3⟩ | ⟨b1,b2,b3⟩<;>first | omega | skip
   ·have:=num0_r a2;have:=r_neg' b2 b3;grind
   ·have:=r_pos a2 a3;have:=num0_r b2;grind
   ·have:=r_pos a2 a3;have:=r_neg' b2 b3;grind
  ·rename_i g2
   rcases sign_cases x with ⟨a1,a2⟩ | ⟨a1,a2,a3⟩ | ⟨a1,a2,a3⟩<;>rcases sign_cases y with ⟨b1,b2⟩ | ⟨b1,b2,b3⟩ | ⟨b1,b2,b3⟩<;>first | omega | skip
   ·rw[a2,b2,Nat.zero_mul,Nat.zero_mul];simp[cmpI,isg,cmpN]
   ·have pa:=Nat.mul_pos a3 y.un_pos;have pb:=Nat.mul_pos b3 x.un_pos;unfold Q.sg;rw[a2,b2];simp only[Bool.false_and];unfold cmpI isg;rw[if_neg (Nat.ne_of_gt pa),if_neg (Nat.ne_of_gt pb)];simp only[Bool.false_eq_true,if_false];rw[if_neg (by omega),if_neg (by omega),if_neg (by omega)];unfold cmpN;split
    ·decide
    ·split
     ·rename_i hlt
      exfalso
      have:=lt_r a2 b2 hlt
      grind
     ·decide
   ·have pa:=Nat.mul_pos a3 y.un_pos;have pb:=Nat.mul_pos b3 x.un_pos;unfold Q.sg;rw[a2,b2,dt a3,dt b3,dt pa,dt pb];simp only[Bool.and_self];unfold cmpI isg;rw[if_neg (Nat.ne_of_gt pa),if_neg (Nat.ne_of_gt pb)];simp only[if_true];rw[if_neg (by omega),if_neg (by omega),if_pos (by omega)];unfold cmpN;split
    ·decide
    ·split
     ·rename_i hlt
      exfalso
      have:=lt_r (x:=Q.mk false y.num y.den) (y:=Q.mk false x.num x.den) rfl rfl hlt;rw[pos_neg_r a2,pos_neg_r b2] at h
      grind
     ·decide
theorem boxQ_spec:∀(n:Nat) (r:List Nat),(boxQ n r).1.1.length=n∧(boxQ n r).1.2.length=n∧∀(i:Nat) (a b:Q),(boxQ n r).1.1[i]?=some a→(boxQ n r).1.2[i]?=some b→a.Qt∧∃q:Q,q.Qt∧b=Q.add a q.abs
 | 0,r=>⟨rfl,rfl,fun i a b h=>by simp[boxQ] at h⟩
 | n+1,r=>by
  rw[boxQ_succ];obtain⟨h1,h2,h3⟩:=boxQ_spec n (numQ (numQ r).2).2;refine⟨by simp[h1],by simp[h2],fun i a b ha hb=>?_⟩;cases i with
  | zero=>simp at ha hb;subst ha hb;exact⟨numQ_qt _,_,numQ_qt _,rfl⟩
  | succ i=>exact h3 i a b (by simpa using ha) (by simpa using hb)
theorem unitsQ_form:∀(n v:Nat) (r:List Nat) (f:Fm),f∈(unitsQ n v r).1→∃v' r',f=(formQ v' r').1
 | 0,v,r,f,h=>by cases h
 | n+1,v,r,f,h=>by
  have h:f∈(formQ v r).1::(unitsQ n (v+1) (formQ v r).2).1:=h;rcases List.mem_cons.1 h with e | e
  ·exact⟨_,_,e⟩
  ·exact unitsQ_form n _ _ f e
theorem form_dz {f:Fm} {v n:Nat} {r:List Nat} (he:f=(formQ v r).1) (h:f.Ok n):f.Dz n 16:=by
 subst he;have hq:=formQ_qt v r;exact⟨fun t ht=>⟨qt_rz (hq.each t ht),(h.each t ht).1,(h.each t ht).2.1⟩,qt_rz hq.const⟩
theorem rz_S2 {q:Q} {D M:Nat} (h:q.Ok) (hz:Rz q.r D M) (hD:0 < D) (hD9:D < 18446744073709551616) (hM:M < 18446744073709551616):q.S 2:=Q.Dz.S ⟨h,hz⟩ hD hD9 hM
theorem region_va (n:Nat) (r:List Nat) (h0:1≤n) (h9:n≤3):(regionQ n r).1.Va n 2∧(∀q∈(regionQ n r).1.lo,Rz q.r 4 32)∧∀q∈(regionQ n r).1.hi,Rz q.r 4 32:=by
 obtain⟨h1,h2,h3⟩:=boxQ_spec n r;have lo:∀q∈(boxQ n r).1.1,q.Qt:=fun q hq=>by
  obtain⟨i,hi,rfl⟩:=List.mem_iff_getElem.1 hq;exact (h3 i _ _ (ge hi) (ge (by omega))).1
 have hi:∀q∈(boxQ n r).1.2,q.Ok∧Rz q.r 4 32:=fun q hq=>by
  obtain⟨i,hi,rfl⟩:=List.mem_iff_getElem.1 hq;obtain⟨a1,p,a2,a3⟩:=h3 i _ _ (ge (by omega)) (ge hi);rw[a3];exact⟨Q.add_ok ..,by rw[Q.add_r];exact (qt_rz a1).add (Rz.abs (qt_rz a2))⟩
 refine⟨⟨h0,by omega,h1,h2,fun q hq=>rz_S2 (lo q hq).ok (qt_rz (lo q hq)) (by decide) (by decide) (by decide),fun q hq=>rz_S2 (hi q hq).1 (hi q hq).2 (by decide) (by decide) (by decide),fun i a b ha hb=>?_,?_,fun f hf=>?_,by decide⟩,fun q hq=>(qt_rz (lo q hq)).up (by decide),fun q hq=>(hi q hq).2⟩
 ·obtain⟨_,p,_,rfl⟩:=h3 i a b ha hb;refine⟨box_le a p,cmp_le ?_⟩;rw[Q.add_r];have:=abs_nonneg p
  grind
 ·show (outsQ _ _ _).1.length≤256;rw[outsQ_len];have:=nx_lt (n:=3) (by decide) (boxQ n r).2;omega
 ·have:=outsQ_all _ _ _ f hf;exact⟨this.ok,(smallF_S this).up (by decide) (nr _)⟩
theorem query_va (r:List Nat):(queryQ r).1.Va 2∧(∀p∈(queryQ r).1.g.units,p.Dz ((queryQ r).1.g.inputs+(queryQ r).1.g.units.length) 16)∧(queryQ r).1.goal.Dz ((queryQ r).1.g.inputs+(queryQ r).1.g.units.length) 16∧(queryQ r).1.g.inputs≤3∧(queryQ r).1.g.units.length≤4:=by
 have hg:=graphQ_ok r;obtain⟨h1,h2,h3⟩:=region_va (graphQ r).1.inputs (graphQ r).2 hg.i0 hg.i9;have hgoal:=formQ_small ((graphQ r).1.inputs+(graphQ r).1.units.length) (regionQ (graphQ r).1.inputs (graphQ r).2).2;have hu:∀f∈(graphQ r).1.units,f.Ok ((graphQ r).1.inputs+(graphQ r).1.units.length)∧f.S 2 ((graphQ r).1.inputs+(graphQ r).1.units.length):=fun f hf=>by
  obtain⟨j,hj,rfl⟩:=List.mem_iff_getElem.1 hf;have hs:=hg.us j _ (ge hj);exact⟨hs.ok.mono (by omega),(smallF_S hs).up (by decide) (by omega)⟩
 refine⟨⟨hg.va,fun f hf=>(hu f hf).2,h1,hgoal.ok,(smallF_S hgoal).up (by decide) (nr _)⟩,fun p hp=>?_,form_dz rfl hgoal.ok,hg.i9,hg.u9⟩;obtain⟨v',r',e⟩:=unitsQ_form _ _ _ p hp;exact form_dz e (hu p hp).1
theorem scope_va (r:List Nat):(⟨(queryQ r).1,[],[]⟩:Sc).Va 2 3∧(⟨(queryQ r).1,[],[]⟩:Sc).Dz 4 32:=by
 obtain⟨h1,h2,h3,h4,h5⟩:=query_va r;have hg:=graphQ_ok r;obtain⟨_,g2,g3⟩:=region_va (graphQ r).1.inputs (graphQ r).2 hg.i0 hg.i9;exact⟨⟨h1,fun d hd=>(by cases hd),nq _,fun m hm=>(by cases hm),nq _,by decide,by decide,nr _,by show (queryQ r).1.g.inputs+(queryQ r).1.g.units.length≤8;omega⟩,⟨g2,g3,fun m hm=>(by cases hm)⟩⟩
theorem nums1:∀u,u < 5→∀j,j < u+1→4 ^ j*4 < 79228162514264337593543950336∧MM 4 32 j < 79228162514264337593543950336:=by decide
theorem nums2:∀u,u < 5→(∀j,j < u+1→MM (4 ^ u*4) (MM 4 32 u) j < 79228162514264337593543950336)∧4*(4 ^ u*(4 ^ u*4))*1 < 79228162514264337593543950336∧79228162514264337593543+8*(16*MM (4 ^ u*4) (MM 4 32 u) u)*1 < 79228162514264337593543950336:=by decide
def scope1 (q:Qr):Sc:=boundedR ⟨q,[],[]⟩
theorem grow_in {q:Qr} {K:Nat} (h:(⟨q,[],[]⟩:Sc).Va 2 3) (hz:(⟨q,[],[]⟩:Sc).Dz 4 32) (hu:∀p∈q.g.units,p.Dz (q.g.inputs+q.g.units.length) 16) (hg:∀t∈q.goal.terms,Rz t.2.r 4 16∧0≤t.1∧t.1 < ((q.g.inputs+q.g.units.length:Nat):Int)) (u4:q.g.units.length≤4) (hc:Rz q.goal.const.r (4*(4 ^ q.g.units.length*(4 ^ q.g.units.length*4))*1) K) (hK:K≤79228162514264337593543):GrowIn (scope1 q) 2 (4 ^ q.g.units.length*4) (MM 4 32 q.g.units.length) 1 K:=by
 have n1:=nums1 q.g.units.length (by omega) q.g.units.length (by omega);obtain⟨n2,n3,n4⟩:=nums2 q.g.units.length (by omega);obtain⟨v,z,l⟩:=bounded_dz (s:=⟨q,[],[]⟩) h (nq _) hz hu (by decide) q.g.units.length (nr _) n1.1 n1.2;have hq:(scope1 q).q=q:=(bounded_q ⟨q,[],[]⟩ q.g.units.length).1;refine⟨v,?_,z,by rw[hq];exact hu,Nat.mul_pos (Nat.pow_pos (by decide)) (by decide),by rw[hq];exact hg,by rw[hq];exact nt h.q.goal.len h.n9,by rw[hq];exact hc,by decide,by rw[hq];exact n3,fun j hj=>?_,by rw[hq];omega⟩
 ·have:(scope1 q).lems.length≤0+2*q.g.units.length:=l;omega
 ·rw[hq] at hj;exact n2 j (by omega)
def splitsQ (L:List Nat) (units:Nat):Nat:=if 0 < L.length then min (atZ L ((L.length - 1:Nat):Int) % 3) units else 0
def Qr.raise (q:Qr) (least:Q):Qr:=⟨q.g,q.rg,⟨q.goal.terms,Q.add q.goal.const least.neg'⟩⟩
def treeQ (L:List Nat):Qr:=
 bif decide (sgQ (growR (splitsQ L (queryQ L).1.g.units.length) (scope1 (queryQ L).1) true).2 < 0) then (queryQ L).1.raise (growR (splitsQ L (queryQ L).1.g.units.length) (scope1 (queryQ L).1) true).2 else (queryQ L).1
def treeN (L:List Nat):Nd:=(growR (splitsQ L (queryQ L).1.g.units.length) (scope1 (treeQ L)) true).1
theorem nums3:∀u,u < 5→16*(4 ^ u*(4 ^ u*4)*1)+(16*(4 ^ u*(4 ^ u*4)*1)+8*(16*MM (4 ^ u*4) (MM 4 32 u) u)*1)≤79228162514264337593543:=by decide
theorem tree_in1 (L:List Nat):GrowIn (scope1 (queryQ L).1) 2 (4 ^ (queryQ L).1.g.units.length*4) (MM 4 32 (queryQ L).1.g.units.length) 1 (16*(4 ^ (queryQ L).1.g.units.length*(4 ^ (queryQ L).1.g.units.length*4)*1)):=by
 obtain⟨h1,h2,h3,h4,h5⟩:=query_va L;obtain⟨s1,s2⟩:=scope_va L;have n3:=nums3 (queryQ L).1.g.units.length (by omega);refine grow_in s1 s2 h2 h3.each h5 ?_ (by omega);have:=h3.const.scale (4 ^ (queryQ L).1.g.units.length*(4 ^ (queryQ L).1.g.units.length*4)*1);rw[← Nat.mul_assoc] at this;exact this
theorem scope1_q (q:Qr):(scope1 q).q=q∧(scope1 q).path=[]:=bounded_q ⟨q,[],[]⟩ _
theorem splits_le (L:List Nat) (n:Nat):splitsQ L n≤n:=by
 unfold splitsQ;split
 ·exact Nat.min_le_right _ _
 ·exact nq _
theorem tree_one (L:List Nat):GrowOk 2 3 (splitsQ L (queryQ L).1.g.units.length) (scope1 (queryQ L).1)∧(growR (splitsQ L (queryQ L).1.g.units.length) (scope1 (queryQ L).1) true).2.S 3∧Rz (growR (splitsQ L (queryQ L).1.g.units.length) (scope1 (queryQ L).1) true).2.r (4*(4 ^ (queryQ L).1.g.units.length*(4 ^ (queryQ L).1.g.units.length*4))*1) (16*(4 ^ (queryQ L).1.g.units.length*(4 ^ (queryQ L).1.g.units.length*4)*1)+8*(16*MM (4 ^ (queryQ L).1.g.units.length*4) (MM 4 32 (queryQ L).1.g.units.length) (queryQ L).1.g.units.length)*1):=by
 have h:=tree_in1 L;obtain⟨_,_,_,_,h5⟩:=query_va L;have:=GrowIn.ok (by decide) (splitsQ L (queryQ L).1.g.units.length) (root:=true) h (by
  rw[(scope1_q _).2];have:=splits_le L (queryQ L).1.g.units.length;show 0+_≤100;omega)
 rw[(scope1_q _).1] at this;exact this
theorem treeQ_same (L:List Nat):(treeQ L).g=(queryQ L).1.g∧(treeQ L).rg=(queryQ L).1.rg∧(treeQ L).goal.terms=(queryQ L).1.goal.terms:=by
 unfold treeQ;cases decide (sgQ (growR (splitsQ L (queryQ L).1.g.units.length) (scope1 (queryQ L).1) true).2 < 0)<;>exact⟨rfl,rfl,rfl⟩
theorem tree_two (L:List Nat):(⟨treeQ L,[],[]⟩:Sc).Va 2 3∧(⟨treeQ L,[],[]⟩:Sc).Dz 4 32∧GrowOk 2 3 (splitsQ L (queryQ L).1.g.units.length) (scope1 (treeQ L))∧(treeQ L).goal.S 3 8:=by
 obtain⟨q1,q2,q3,q4,q5⟩:=query_va L;obtain⟨s1,s2⟩:=scope_va L;obtain⟨g1,g2,g3⟩:=tree_one L;have n3:=nums3 (queryQ L).1.g.units.length (by omega);have n2:=(nums2 (queryQ L).1.g.units.length (by omega)).2.1;obtain⟨e1,e2,e3⟩:=treeQ_same L;have h16:Rz (queryQ L).1.goal.const.r (4*(4 ^ (queryQ L).1.g.units.length*(4 ^ (queryQ L).1.g.units.length*4))*1) (16*(4 ^ (queryQ L).1.g.units.length*(4 ^ (queryQ L).1.g.units.length*4)*1)):=by
  have:=q3.const.scale (4 ^ (queryQ L).1.g.units.length*(4 ^ (queryQ L).1.g.units.length*4)*1);rw[← Nat.mul_assoc] at this;exact this
 have hc:(treeQ L).goal.const.S 3∧Rz (treeQ L).goal.const.r (4*(4 ^ (queryQ L).1.g.units.length*(4 ^ (queryQ L).1.g.units.length*4))*1) 79228162514264337593543:=by
  unfold treeQ;cases decide (sgQ (growR (splitsQ L (queryQ L).1.g.units.length) (scope1 (queryQ L).1) true).2 < 0) with
  | false=>exact⟨q1.goal.const.ok |> fun ho=>rz_S ho h16 (Nat.mul_pos (Nat.mul_pos (by decide) (Nat.mul_pos (Nat.pow_pos (by decide)) (Nat.mul_pos (Nat.pow_pos (by decide)) (by decide)))) (by decide)) n2 (by omega),h16.up (by omega)⟩
  | true=>
   have hr:Rz (Q.add (queryQ L).1.goal.const (growR (splitsQ L (queryQ L).1.g.units.length) (scope1 (queryQ L).1) true).2.neg').r (4*(4 ^ (queryQ L).1.g.units.length*(4 ^ (queryQ L).1.g.units.length*4))*1) 79228162514264337593543:=by
    rw[Q.add_r,Q.neg_r];exact (h16.add g3.neg).up n3
   exact⟨rz_S (Q.add_ok ..) hr (Nat.mul_pos (Nat.mul_pos (by decide) (Nat.mul_pos (Nat.pow_pos (by decide)) (Nat.mul_pos (Nat.pow_pos (by decide)) (by decide)))) (by decide)) n2 (by decide),hr⟩
 have hgS:(treeQ L).goal.S 3 8:=⟨⟨by rw[e3];exact q1.goal.cn.srt,by rw[e3];exact q1.goal.cn.nz,hc.1.ok⟩,fun t ht=>by
  rw[e3] at ht;exact tq_S (q3.each t ht).1 (q1.goal.each t ht).ok,hc.1,by rw[e3];exact nt q1.goal.len (by show (queryQ L).1.g.inputs+(queryQ L).1.g.units.length≤8;omega)⟩
 have hva:(⟨treeQ L,[],[]⟩:Sc).Va 2 3:=by
  refine⟨⟨by rw[e1];exact q1.g,by rw[e1];exact q1.us,by rw[e1,e2];exact q1.rg,⟨by rw[e3];exact q1.ok.asc,by rw[e3,e1];exact q1.ok.each,hc.1.ok⟩,⟨hgS.cn,fun t ht=>(hgS.each t ht).up (by decide),hc.1.up (by decide),by rw[e3,e1];exact q1.goal.len⟩⟩,fun d hd=>(by cases hd),nq _,fun m hm=>(by cases hm),nq _,by decide,by decide,nr _,by show (treeQ L).g.inputs+(treeQ L).g.units.length≤8;rw[e1];omega⟩
 have hdz:(⟨treeQ L,[],[]⟩:Sc).Dz 4 32:=⟨by show ∀q∈(treeQ L).rg.lo,_;rw[e2];exact s2.lo,by show ∀q∈(treeQ L).rg.hi,_;rw[e2];exact s2.hi,fun m hm=>(by cases hm)⟩;refine⟨hva,hdz,?_,hgS⟩;have gi:=grow_in hva hdz (by rw[e1];exact q2) (by rw[e3,e1];exact q3.each) (by rw[e1];exact q5) (by rw[e1];exact hc.2) (nr _);exact (GrowIn.ok (by decide) (splitsQ L (queryQ L).1.g.units.length) (root:=true) gi (by
  rw[(scope1_q _).2];have:=splits_le L (queryQ L).1.g.units.length;show 0+_≤100;omega)).1
where
 tq_S {q:Q} (h:Rz q.r 4 16) (ho:q.Ok):q.S 3:=rz_S ho h (by decide) (by decide) (by decide)
set_option maxHeartbeats 8000000 in
theorem r_grow0T {s:Sc} {a b:Nat} (h:GrowOk a b 0 s) (hv:∀p∈s.q.g.units,∀t∈p.terms,0≤t.1∧t.1≤1000) (hg:s.q.goal.S 3 8) (hgv:∀t∈s.q.goal.terms,0≤t.1∧t.1≤1000):PCalls Tryz.prog TF 25 [scP s,iP 0,bP true] (.tup [ndP (growR 0 s true).1,ratP (growR 0 s true).2]):=by
 have hb:(boundedR s).Va a b:=h _ (nr _);have hq:(boundedR s).q=s.q:=(bounded_q s _).1;have hlen:=bounded_len s s.q.g.units.length;refine pcA [85,46,35,42] Tryz.func25 (fun D=>?_);refine akT (c:=by exact (show _=true from rfl)) ?_;refine ac (c:=r_bounded h hv) ?_;refine ac (c:=r_above hb hg hgv) ?_;refine au ?_;refine ro0 Y Y Y (fun hd=>opE_sub tab_ok Y Y Y (.inr ⟨_,rfl,show _=some (SV.pv (iP ((0:Nat):Int))) from rfl⟩) (.inl ⟨rfl,rfl⟩) (by rw[List.length_map];exact nq _) (nr _) Y (by decide) hd) ?_;exact ar (c:=by rw[List.take_length,← List.map_drop];rfl)
set_option maxHeartbeats 8000000 in
theorem r_grow0F {s:Sc} {a b:Nat} (h:GrowOk a b 0 s) (hv:∀p∈s.q.g.units,∀t∈p.terms,0≤t.1∧t.1≤1000) (hg:s.q.goal.S 3 8) (hgv:∀t∈s.q.goal.terms,0≤t.1∧t.1≤1000):PCalls Tryz.prog TF 25 [scP s,iP 0,bP false] (.tup [ndP (growR 0 s false).1,ratP (growR 0 s false).2]):=by
 have hb:(boundedR s).Va a b:=h _ (nr _);have hq:(boundedR s).q=s.q:=(bounded_q s _).1;have hlen:=bounded_len s s.q.g.units.length;refine pcA [85,46,35,42] Tryz.func25 (fun D=>?_);refine akT (c:=by exact (show _=true from rfl)) ?_;refine ac (c:=r_bounded h hv) ?_;refine ac (c:=r_above hb hg hgv) ?_;refine au ?_;refine ro0 Y Y Y (fun hd=>opE_sub tab_ok Y Y Y (.inr ⟨_,rfl,rfl⟩) (.inl ⟨rfl,rfl⟩) (by rw[List.length_map];rw[List.length_map];exact hlen) (nr _) Y (by decide) hd) ?_;exact ar (c:=by rw[List.take_length,← List.map_drop];rw[List.length_map];rfl)
end Go.Proofs.YtbhbainhmfjpdaaGreatDoor
