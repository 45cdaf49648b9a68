/- Walks of the search and of what it calls, part 13. -/
import Derived.Test.YtbhbainhmfjpdaaGreatDoorMl
import Derived.OpenShut
set_option linter.unusedVariables false
set_option linter.unusedSectionVars false
set_option linter.unusedSimpArgs false
set_option maxRecDepth 100000
set_option maxHeartbeats 8000000
namespace Go.Proofs.YtbhbainhmfjpdaaGreatDoor
open Go.RowKit
theorem a9y {s:Sc} {a b:Nat} {v:Int} (h:s.Va a b) (h0:0≤v) (h9:v≤1000000):PCalls Tryz.prog TU 119 [scP s,iP v] (mmsP (iu s v)):=by
 refine pcA [85] Tryz.func119 (fun D=>?_);refine a2 (fun e10=>?_) (fun e10=>?_)
 ·refine ac (c:=r_of 1 dx dx) ?_;exact ar (c:=by (try simp only[List.length_map] at *);simp only[iu,e10,sb]<;>rfl)
 ·refine aa (c:=cw om om om (by have:=h.n9;omega)) ?_;refine ac (c:=r_of 1 dx dx) ?_;exact ar (c:=by (try simp only[List.length_map] at *);simp only[iu,e10,sb]<;>rfl)
theorem adw {s:Sc} {a b:Nat} {v:Int} (h:s.Va a b) (h0:0≤v) (h9:v≤1000000):PCalls Tryz.prog TU 118 [scP s,iP v] (.tup [mmsP (f7 s v).1,bP (f7 s v).2]):=by
 refine pcA [85,35] Tryz.func118 (fun D=>?_);refine ac (c:=r_of 1 dx dx) ?_;refine a2 (fun e20=>?_) (fun e20=>?_)
 ·exact ar (c:=by (try simp only[List.length_map] at *);simp only[f7,e20,sb]<;>rfl)
 ·obtain⟨b1,b2⟩:=a22 s.lems (v - s.q.g.inputs);refine aa (c:=cw om om om (by have:=h.n9;omega)) ?_;refine ac (c:=al5 h) ?_;refine a2 (fun e40=>?_) (fun e40=>?_)
  ·exact ar (c:=by (try simp only[List.length_map] at *);simp only[f7,e20,e40,sb]<;>rfl)
  ·refine a2 (fun e43=>?_) (fun e43=>?_)
   ·exact ar (c:=by (try simp only[List.length_map] at *);simp only[f7,e20,e40,e43,sb]<;>rfl)
   ·obtain⟨g1,l8⟩:=nn h e40 b1;obtain⟨g2,u8⟩:=nn h e43 b2;refine aa (c:=j7 (yi e40) (by have:=h.l9;omega)) ?_;refine ax (c:=(aj (ah g1))) ?_;refine aa (c:=j7 (yi e43) (by have:=h.l9;omega)) ?_;refine ax (c:=(aj (ah g2))) ?_;refine ac (c:=iz (u8.sm dx)) ?_;refine a2 (fun e58=>?_) (fun e58=>?_)
    ·exact ar (c:=by (try simp only[List.length_map] at *);simp only[f7,e20,e40,e43,e58,sb]<;>rfl)
    ·refine ac (c:=iz (l8.sm dx)) ?_;refine a2 (fun e68=>?_) (fun e68=>?_)
     ·exact ar (c:=by (try simp only[List.length_map] at *);simp only[f7,e20,e40,e43,e58,e68,sb]<;>rfl)
     ·have h00:=a0i l8.ok (of_decide_eq_false e58) (of_decide_eq_false e68);have hd8:=sz_one.div (u8.add l8.neg) h00;refine ac (c:=adp (u8.sm dx) (l8.sm dx) u8.ok l8.neg.ok) ?_;refine ac (c:=ao1 (x:=Q.one) (sz_one.sm dx) ((u8.add l8.neg).sm dx) h00) ?_;refine ac (c:=adq (hd8.sm dx) (u8.sm dx)) ?_;exact ar (c:=by (try simp only[List.length_map] at *);simp only[f7,e20,e40,e43,e58,e68,sb]<;>rfl)
theorem a0x {s:Sc} {f:Fm} {a b:Nat} (h:s.Va a b) (hf:f.S 3 8) (hv:∀t∈f.terms,0≤t.1∧t.1≤1000):PCalls Tryz.prog TF 64 [scP s,fmP f] (.tup [ratP (bj s f).1,mmsP (bj s f).2.1,bP (bj s f).2.2]):=by
 refine pcA [85,37,35,138] Tryz.func64 (fun D=>?_);refine pa Y Y (pa Y Y ?_)
 apply aa8 (sl:=[(2,_),(3,_),(4,_),(5,_),(6,_),(7,.pv (mmsP ((bt s f.terms []).getD [])))]) (rs:=[(2,_),(3,_),(4,_)]) [85,37,35] (bt s f.terms []=some ((bt s f.terms []).getD []))
 case h1=>
  refine au ?_;refine pwk ?_;refine pl (ι:={p:Nat×List Mm // p.1≤f.terms.length∧bt s (f.terms.drop p.1) p.2=bt s f.terms []∧(∀x∈p.2,x.2.S (1+p.1*60))∧p.2.length≤p.1*2}) (fun p=>[(2,.box 2 0),(3,.box 3 0),(4,.box 4 0),(5,.pv (mmsP [])),(6,.pv (bP false)),(7,.pv (mmsP p.1.2)),(8,.pv (iP p.1.1))]) (fun p=>[(2,.box 85 [.pv (iP s.q.g.inputs),.pv (b7 s.q.g.units),.pv (b7 s.q.g.outputs),.pv (cz s.q.rg.lo),.pv (cz s.q.rg.hi),.pv (b7 s.q.rg.rows),.pv (bu s.q.goal.terms),.pv (bP s.q.goal.const.neg),.pv (.nat s.q.goal.const.num),.pv (.nat s.q.goal.const.den),.pv (dcsP s.path),.pv (lmsP s.lems)]),(3,.box 37 [.pv (bu f.terms),.pv (bP f.const.neg),.pv (.nat f.const.num),.pv (.nat f.const.den)]),(4,.box 35 [.pv (.raw (.bool false)),.pv (.nat 0),.pv (.nat 0)])]) [85,37,35,138] (fun p=>f.terms.length - p.1.1) ⟨(0,[]),nq _,rfl,(fun x hx=>by cases hx),nr _⟩ (c7 Y Y Y Y Y Y Y trivial) (c3 Y Y Y trivial) (fun _=>rfl) ?_;intro ⟨(i,acc),hi0,hg,hacc,hlen⟩;simp only at hi0 hg hacc hlen;refine a2 (fun e19=>?_) (fun e19=>?_)
  ·have hi:i < f.terms.length:=db e19;have hl8:=hf.len;have ht:=hf.each _ (mg (ah hi));have vt:=hv _ (mg (ah hi));obtain⟨ms,ml⟩:=agz h (atZ f.terms (i:Int));refine ax (c:=(aj (ah hi))) ?_;refine ac (c:=adw h vt.1 om) ?_;refine ac (c:=iz (ht.sm dx)) ?_;refine a2 (fun e37=>?_) (fun e37=>?_)
   ·have hmo:j4 s (atZ f.terms (i:Int))=(iu s (atZ f.terms (i:Int)).1,true):=by simp only[j4,e37,cond_true]
    rw[hmo] at ms ml;simp only at ms ml;refine ac (c:=a9y h vt.1 om) ?_;refine ac (c:=a9t (n:=1+i*60) (m:=26) (k:=3) hacc ms ht.abs om dx dx om) ?_;refine aa (c:=ae (by show i≤_;omega)) ?_;refine au ?_;obtain⟨k1,k2⟩:=a1a ht.abs hacc ms;exact pe ⟨(i+1,fy (atZ f.terms (i:Int)).2.abs acc _),hi,a0c hi hg (hmo.trans (Prod.ext Y Y)),fun x hx=>(k1 x hx).up (by show _≤1+(i+1)*60;have:=Nat.mul_le_mul_right 30 ml;omega),nt k2 (by show _≤(i+1)*2;omega)⟩ (c7 Y Y Y Y Y Y Y trivial) (c3 Y Y Y trivial) Y (by show f.terms.length - (i+1) < f.terms.length - i;omega)
   ·have hmo:j4 s (atZ f.terms (i:Int))=f7 s (atZ f.terms (i:Int)).1:=by simp only[j4,e37,cond_false]
    rw[hmo] at ms ml;refine a2 (fun e43=>?_) (fun e43=>?_)
    ·replace e43:=gq e43;exact ar (c:=by rw[a8i hi hg (by rw[hmo];exact e43)];rfl)
    ·replace e43:=i7 e43;refine ac (c:=a9t (n:=1+i*60) (m:=26) (k:=3) hacc ms ht.abs om dx dx om) ?_;refine aa (c:=ae (by show i≤_;omega)) ?_;refine au ?_;obtain⟨k1,k2⟩:=a1a ht.abs hacc ms;exact pe ⟨(i+1,fy (atZ f.terms (i:Int)).2.abs acc _),hi,a0c hi hg (hmo.trans (Prod.ext Y e43)),fun x hx=>(k1 x hx).up (by show _≤1+(i+1)*60;have:=Nat.mul_le_mul_right 30 ml;omega),nt k2 (by show _≤(i+1)*2;omega)⟩ (c7 Y Y Y Y Y Y Y trivial) (c3 Y Y Y trivial) Y (by show f.terms.length - (i+1) < f.terms.length - i;omega)
  ·have hj:f.terms.length≤i:=dw e19;refine au ?_;refine⟨?_,by rw[a49 hg hj];rfl⟩;refine Sub.of ?_ ?_ ?_
   ·exact (c5 Y Y Y Y Y (ai (congrArg (fun x=>some (SV.pv (mmsP x))) (by show acc=_;rw[a49 hg hj];rfl)) trivial))
   ·exact (c3 Y Y Y trivial)
   ·rfl
 case h2=>
  intro hsome;have hL:=a4b h hf hsome;have hl8:=hf.len;have hKK:=Nat.mul_le_mul_right (41+481) hL.2;refine ac (c:=ahs (n:=481) h hL.1 om dx om) ?_;refine ac (c:=mu hf (a8w h hL.1) om om) ?_;exact ar (c:=by unfold bj;rw[hsome];rfl)
theorem rd {s:Sc} {a b:Nat} (h:∀j,j≤s.q.g.units.length→(ak s j).Va a b) (hv:∀p∈s.q.g.units,∀t∈p.terms,0≤t.1∧t.1≤1000):PCalls Tryz.prog TF 26 [scP s] (scP (dq s)):=by
 have hs0:s.Va a b:=h 0 (nq _);have hu8:=hs0.n9;refine pcA [85,37,35,100] Tryz.func26 (fun D=>?_);refine au ?_;refine rp0 el_Lemma (by have:=(show s.lems.length≤1000 from hs0.l9);simp;omega) Y Y Y Y Y Y Y Y ?_;refine au ?_;refine pwk ?_;refine pl (ι:={p:Nat×List Lm // p.1≤s.q.g.units.length∧ak s p.1=⟨s.q,s.path,p.2⟩}) (fun p=>[(1,.box 1 0),(2,.box 2 0),(3,.box 3 0),(4,.pv (iP p.1.1))]) (fun p=>[(1,.box 85 [.pv (iP s.q.g.inputs),.pv (b7 s.q.g.units),.pv (b7 s.q.g.outputs),.pv (cz s.q.rg.lo),.pv (cz s.q.rg.hi),.pv (b7 s.q.rg.rows),.pv (bu s.q.goal.terms),.pv (bP s.q.goal.const.neg),.pv (.nat s.q.goal.const.num),.pv (.nat s.q.goal.const.den),.pv (dcsP s.path),.pv (lmsP s.lems)]),(2,.box 85 [.pv (.raw (.int .i64 0)),.pv (b7 []),.pv (b7 []),.pv (cz []),.pv (cz []),.pv (b7 []),.pv (bu []),.pv (.raw (.bool false)),.pv (.nat 0),.pv (.nat 0),.pv (dcsP []),.pv (lmsP [])]),(3,.box 85 [.pv (iP s.q.g.inputs),.pv (b7 s.q.g.units),.pv (b7 s.q.g.outputs),.pv (cz s.q.rg.lo),.pv (cz s.q.rg.hi),.pv (b7 s.q.rg.rows),.pv (bu s.q.goal.terms),.pv (bP s.q.goal.const.neg),.pv (.nat s.q.goal.const.num),.pv (.nat s.q.goal.const.den),.pv (dcsP s.path),.tok 16]),(16,.tok 100 6 [200,98] (p.1.2.map lmC))]) [85,37,35,100] (fun p=>s.q.g.units.length - p.1.1) ⟨(0,s.lems),nq _,rfl⟩ (c4 Y Y Y Y trivial) (c4 Y Y Y Y trivial) (fun _=>rfl) ?_;intro ⟨(j,ls),hj0,hg⟩;simp only at hj0 hg;refine a2 (fun e27=>?_) (fun e27=>?_)
 ·have hj1:j < s.q.g.units.length:=db e27;have hva:(⟨s.q,s.path,ls⟩:Sc).Va a b:=hg▸h j hj0;have hp:(atZ s.q.g.units (j:Int)).S 2 8:=(hs0.q.us _ (mg (ah hj1))).up hs0.a9 hs0.n9;have hvv:=hv _ (mg (ah hj1));have hw:=(wv hva (hp.scaleR ez)).1;refine ax (c:=(aj (ah hj1))) ?_;refine ac (c:=a0x hva (hp.up dx (nr _)) hvv) ?_;refine ac (c:=r_of (-1) dx dx) ?_;refine ac (c:=ig (q:=Q.mone) hp ez dx dx dx) ?_;refine ac (c:=a0x hva (hp.scaleR ez) (js hp.cn (P:=fun v=>0≤v∧v≤1000) hvv)) ?_;refine a2 (fun e53=>?_) (fun e53=>?_)
  ·refine au ?_;refine rp0 el_Lemma (by have:=(show ls.length≤1000 from hva.l9);simp;omega) Y Y Y Y Y Y Y Y ?_;refine a2 (fun e63=>?_) (fun e63=>?_)
   ·refine ac (c:=ai0 (hw.sm dx)) ?_;refine au ?_;refine rp0 el_Lemma (by have:=(show ls.length≤1000 from hva.l9);simp;omega) Y Y Y Y Y Y Y Y ?_;refine aa (c:=ae (by show j≤_;omega)) ?_;refine au ?_;exact pe ⟨(j+1,kl ls (j:Int) (bj ⟨s.q,s.path,ls⟩ (atZ s.q.g.units (j:Int))) (bj ⟨s.q,s.path,ls⟩ (Fm.scaleR (atZ s.q.g.units (j:Int)) Q.mone))),hj1,by rw[ak,hg];rfl⟩ (c4 Y Y Y Y trivial) (c3 Y Y Y (ai (congrArg (fun x=>some (Res.tok 100 6 [200,98] x)) (by show _=(kl ls (j:Int) (bj ⟨s.q,s.path,ls⟩ (atZ s.q.g.units (j:Int))) (bj ⟨s.q,s.path,ls⟩ (Fm.scaleR (atZ s.q.g.units (j:Int)) Q.mone))).map lmC;simp only[kl,e27,e53,e63,sb,List.map_append,List.map_cons,List.map_nil,List.append_nil,List.nil_append,List.append_assoc]<;>rfl)) trivial)) Y (by show s.q.g.units.length - (j+1) < s.q.g.units.length - j;omega)
   ·refine aa (c:=ae (by show j≤_;omega)) ?_;refine au ?_;exact pe ⟨(j+1,kl ls (j:Int) (bj ⟨s.q,s.path,ls⟩ (atZ s.q.g.units (j:Int))) (bj ⟨s.q,s.path,ls⟩ (Fm.scaleR (atZ s.q.g.units (j:Int)) Q.mone))),hj1,by rw[ak,hg];rfl⟩ (c4 Y Y Y Y trivial) (c3 Y Y Y (ai (congrArg (fun x=>some (Res.tok 100 6 [200,98] x)) (by show _=(kl ls (j:Int) (bj ⟨s.q,s.path,ls⟩ (atZ s.q.g.units (j:Int))) (bj ⟨s.q,s.path,ls⟩ (Fm.scaleR (atZ s.q.g.units (j:Int)) Q.mone))).map lmC;simp only[kl,e27,e53,e63,sb,List.map_append,List.map_cons,List.map_nil,List.append_nil,List.nil_append,List.append_assoc]<;>rfl)) trivial)) Y (by show s.q.g.units.length - (j+1) < s.q.g.units.length - j;omega)
  ·refine a2 (fun e63=>?_) (fun e63=>?_)
   ·refine ac (c:=ai0 (hw.sm dx)) ?_;refine au ?_;refine rp0 el_Lemma (by have:=(show ls.length≤1000 from hva.l9);simp;omega) Y Y Y Y Y Y Y Y ?_;refine aa (c:=ae (by show j≤_;omega)) ?_;refine au ?_;exact pe ⟨(j+1,kl ls (j:Int) (bj ⟨s.q,s.path,ls⟩ (atZ s.q.g.units (j:Int))) (bj ⟨s.q,s.path,ls⟩ (Fm.scaleR (atZ s.q.g.units (j:Int)) Q.mone))),hj1,by rw[ak,hg];rfl⟩ (c4 Y Y Y Y trivial) (c3 Y Y Y (ai (congrArg (fun x=>some (Res.tok 100 6 [200,98] x)) (by show _=(kl ls (j:Int) (bj ⟨s.q,s.path,ls⟩ (atZ s.q.g.units (j:Int))) (bj ⟨s.q,s.path,ls⟩ (Fm.scaleR (atZ s.q.g.units (j:Int)) Q.mone))).map lmC;simp only[kl,e27,e53,e63,sb,List.map_append,List.map_cons,List.map_nil,List.append_nil,List.nil_append,List.append_assoc]<;>rfl)) trivial)) Y (by show s.q.g.units.length - (j+1) < s.q.g.units.length - j;omega)
   ·refine aa (c:=ae (by show j≤_;omega)) ?_;refine au ?_;exact pe ⟨(j+1,kl ls (j:Int) (bj ⟨s.q,s.path,ls⟩ (atZ s.q.g.units (j:Int))) (bj ⟨s.q,s.path,ls⟩ (Fm.scaleR (atZ s.q.g.units (j:Int)) Q.mone))),hj1,by rw[ak,hg];rfl⟩ (c4 Y Y Y Y trivial) (c3 Y Y Y (ai (congrArg (fun x=>some (Res.tok 100 6 [200,98] x)) (by show _=(kl ls (j:Int) (bj ⟨s.q,s.path,ls⟩ (atZ s.q.g.units (j:Int))) (bj ⟨s.q,s.path,ls⟩ (Fm.scaleR (atZ s.q.g.units (j:Int)) Q.mone))).map lmC;simp only[kl,e27,e53,e63,sb,List.map_append,List.map_cons,List.map_nil,List.append_nil,List.nil_append,List.append_assoc]<;>rfl)) trivial)) Y (by show s.q.g.units.length - (j+1) < s.q.g.units.length - j;omega)
 ·have hjj:s.q.g.units.length≤j:=dw e27;exact ar (c:=by rw[show dq s=⟨s.q,s.path,ls⟩ from by unfold dq;rw[← hg,show s.q.g.units.length=j from by omega]];rfl)
inductive Nd where
 | mk (lems:List Lm) (split:Dc) (kids:List Nd) (empty:Bool) (proof:List Mm)
abbrev ndT:List Nat:=[100,98,200,46]
mutual
def ndC:Nd→List PV
 | .mk ls d ks e p=>[lmsP ls,iP d.kind,iP d.index,bP d.at_.neg,.nat d.at_.num,.nat d.at_.den,.rows 46 9 ndT (ndCs ks),bP e,mmsP p]
def ndCs:List Nd→List (List PV)
 | []=>[]
 | k::ks=>ndC k::ndCs ks
end
abbrev ndP (n:Nd):PV:=.agg (ndC n)
abbrev ndsP (l:List Nd):PV:=.rows 46 9 ndT (ndCs l)
def Nd.lems:Nd→List Lm | .mk ls _ _ _ _=>ls
def Nd.split:Nd→Dc | .mk _ d _ _ _=>d
def Nd.kids:Nd→List Nd | .mk _ _ ks _ _=>ks
def Nd.empty:Nd→Bool | .mk _ _ _ e _=>e
def Nd.proof:Nd→List Mm | .mk _ _ _ _ p=>p
abbrev dc0:Dc:=⟨0,0,Q.zero⟩
abbrev scR (q:Qr) (rows:List (List PV)) (ls:List Lm):PV:=.agg [iP q.g.inputs,b7 q.g.units,b7 q.g.outputs,cz q.rg.lo,cz q.rg.hi,b7 q.rg.rows,bu q.goal.terms,bP q.goal.const.neg,.nat q.goal.const.num,.nat q.goal.const.den,.rows 42 5 [200] rows,lmsP ls]
theorem ag9 (q:Qr) (p:List Dc) (d:Dc) (ls:List Lm):scR q (p.map dcC++[dcC d]) ls=scP ⟨q,p++[d],ls⟩:=by
 show scR q (p.map dcC++[dcC d]) ls=scR q ((p++[d]).map dcC) ls;rw[List.map_append];rfl
def Sc.dec (s:Sc) (kind:Int) (k:Nat):Sc:=⟨s.q,s.path++[⟨kind,(k:Int),Q.zero⟩],s.lems⟩
def ce:Nat→Sc→Bool→Nd×Q
 | 0,s,root=>(.mk ((dq s).lems.drop (bif root then 0 else s.lems.length)) dc0 [] false (bj (dq s) s.q.goal).2.1,(bj (dq s) s.q.goal).1)
 | k+1,s,root=>(.mk (bif root then s.lems else []) ⟨1,(k:Int),Q.zero⟩ [(ce k (s.dec 1 k) false).1,(ce k (s.dec 2 k) false).1] false [],minR (ce k (s.dec 1 k) false).2 (ce k (s.dec 2 k) false).2)
def o7 (a b:Nat):Nat→Sc→Prop
 | 0,s=>∀j,j≤s.q.g.units.length→(ak s j).Va a b
 | k+1,s=>o7 a b k (s.dec 1 k)∧o7 a b k (s.dec 2 k)∧(ce k (s.dec 1 k) false).2.S 1000∧(ce k (s.dec 2 k) false).2.S 1000∧s.path.length≤100
theorem qp (s:Sc):∀j,s.lems.length≤(ak s j).lems.length
 | 0=>nr _
 | j+1=>by
  show _≤(kl _ _ _ _).length;unfold kl;rw[List.length_append];exact nt (qp s j) (Nat.le_add_right ..)
theorem fq (s:Sc):∀j,(ak s j).q=s.q∧(ak s j).path=s.path
 | 0=>⟨rfl,rfl⟩
 | j+1=>fq s j
theorem rz_S {q:Q} {D M:Nat} (h:q.Ok) (hz:Rz q.r D M) (hD:0 < D) (hD9:D < 79228162514264337593543950336) (hM:M < 79228162514264337593543950336):q.S 3:=by
 obtain⟨z,hz,hm⟩:=hz;obtain⟨h1,h2⟩:=an8 h hD hz;have hb:∀n,n < 79228162514264337593543950336→(ab n).length≤3:=fun n hn=>bb (k:=3) (by rw[show B32 ^ 3=79228162514264337593543950336 from rfl];exact hn)
 exact⟨hb _ om,hb _ om,h⟩
theorem a27 (s:Sc) (f:Fm):(bj s f).1.Ok:=by
 unfold bj;cases bt s f.terms [] with
 | none=>exact (by decide:Q.zero.Ok)
 | some L=>exact Q.add_ok ..
theorem ade {p:Fm} {n C:Nat} (h:p.Dz n C) (hc:p.Cn):(Fm.scaleR p Q.mone).Dz n C where
 each t ht:=by
  refine⟨?_,js hc (P:=fun v=>0≤v∧v < (n:Int)) (fun t ht=>(h.each t ht).2) t ht⟩;exact tp (P:=fun x=>Rz x.r 4 C) p.terms [] (fun x hx=>by cases hx) (fun x hx=>by
   show Rz (Q.mul x.2 Q.mone).r 4 C;rw[Q.mul_r,a07];have:x.2.r*-1=-x.2.r:=by grind
   rw[this];exact (h.each x hx).1.neg) t ht
 const:=by
  show Rz (Q.mul p.const Q.mone).r 4 C;rw[Q.mul_r,a07];have:p.const.r*-1=-p.const.r:=by grind
  rw[this];exact h.const.neg
def MM (D M:Nat):Nat→Nat
 | 0=>M
 | j+1=>16*(4 ^ j*D)+128*MM D M j
theorem pf {s:Sc} {a D M:Nat} (hs:s.Va a 3) (hl:s.lems.length≤900) (hz:s.Dz D M) (hu:∀p∈s.q.g.units,p.Dz (s.q.g.inputs+s.q.g.units.length) 16) (hD:0 < D):∀j,j≤s.q.g.units.length→4 ^ j*D < 79228162514264337593543950336→MM D M j < 79228162514264337593543950336→(ak s j).Va a 3∧(ak s j).Dz (4 ^ j*D) (MM D M j)∧(ak s j).lems.length≤s.lems.length+2*j
 | 0,_,_,_=>⟨hs,by rw[Nat.pow_zero,Nat.one_mul];exact hz,nr _⟩
 | j+1,hj,h1,h2=>by
  have hp:4 ^ (j+1)*D=4*(4 ^ j*D):=by rw[Nat.pow_succ,Nat.mul_comm (4 ^ j),Nat.mul_assoc]
  have hDj:0 < 4 ^ j*D:=Nat.mul_pos (Nat.pow_pos dx) hD;have hM:MM D M (j+1)=16*(4 ^ j*D)+128*MM D M j:=rfl;obtain⟨v1,z1,l1⟩:=pf hs hl hz hu hD j om om om;obtain⟨q1,q2⟩:=fq s j;have hn9:=hs.n9;have hja:j < s.q.g.units.length:=hj;generalize ht:ak s j=t at*;have hmem:atZ s.q.g.units (j:Int)∈s.q.g.units:=mg (ah hja);have hpS:=hs.q.us _ hmem;have hpD:=hu _ hmem;have hlen:(atZ s.q.g.units (j:Int)).terms.length≤8:=nt hpS.len hn9;have new:∀f:Fm,f.Dz (s.q.g.inputs+s.q.g.units.length) 16→f.terms.length≤8→Rz (bj t f).1.r (4*(4 ^ j*D)) (MM D M (j+1)):=fun f hf hfl=>by
   have:=ag1 v1 z1 (f:=f) (C:=16) (by rw[q1];exact hf);refine this.up ?_;rw[hM];have:=Nat.mul_le_mul_right (16*MM D M j) hfl;omega
  have hA:=new _ hpD hlen;have hB:=new _ (ade hpD hpS.cn) (nt (tm ..) (by simpa using hlen));have ev:∀m∈(ak s (j+1)).lems,m.value.Ok∧Rz m.value.r (4*(4 ^ j*D)) (MM D M (j+1)):=fun m hm=>by
   have hm':m∈(zg t j).lems:=by rw[← ht];exact hm
   unfold zg kl at hm';simp only[List.mem_append,q1] at hm';rcases hm' with hm' | hm' | hm'
   ·refine⟨(v1.lems m hm').ok,?_⟩;have:=(z1.lems m hm').scale 4;rw[Nat.mul_comm _ 4] at this;exact this.up (by rw[hM];omega)
   ·cases hc:(bj t (atZ s.q.g.units (j:Int))).2.2 with
    | false=>rw[hc] at hm';cases hm'
    | true=>
     rw[hc] at hm';rw[mj hm'];exact⟨a27 ..,hA⟩
   ·cases hc:(bj t (Fm.scaleR (atZ s.q.g.units (j:Int)) Q.mone)).2.2 with
    | false=>rw[hc] at hm';cases hm'
    | true=>
     rw[hc] at hm';rw[mj hm'];refine⟨xy _ _ (Q.un_pos _),?_⟩;show Rz (Q.neg' _).r _ _;rw[Q.neg_r];exact hB.neg
  obtain⟨q3,q4⟩:=fq s (j+1);have hlen2:(ak s (j+1)).lems.length≤s.lems.length+2*(j+1):=by
   have e:(ak s (j+1)).lems=(zg t j).lems:=by rw[← ht];rfl
   rw[e];unfold zg kl;simp only[List.length_append];cases (bj t (atZ t.q.g.units (j:Int))).2.2<;>cases (bj t (Fm.scaleR (atZ t.q.g.units (j:Int)) Q.mone)).2.2<;>simp<;>omega
  refine⟨⟨by rw[q3];exact hs.q,by rw[q4];exact hs.path,by rw[q4];exact hs.p9,fun m hm=>rz_S (ev m hm).1 (ev m hm).2 om om h2,by omega,hs.b1,hs.b9,hs.a9,by rw[q3];exact hs.n9⟩,⟨?_,?_,?_⟩,hlen2⟩
  ·rw[q3,hp];intro q hq;have:=(hz.lo q hq);exact z_up (z1.lo q (by rw[q1];exact hq)) hM
  ·rw[q3,hp];intro q hq;exact z_up (z1.hi q (by rw[q1];exact hq)) hM
  ·rw[hp];exact fun m hm=>(ev m hm).2
where
 z_up {x:Rat} {D' M' M2 X:Nat} (h:Rz x D' M') (hM:M2=X+128*M'):Rz x (4*D') M2:=by
  have:=h.scale 4;rw[Nat.mul_comm _ 4] at this;exact this.up om
theorem aco {s:Sc} {a b D M C m K:Nat} (hs:s.Va a b) (h:s.Dz D M) {f:Fm} (hf:∀t∈f.terms,Rz t.2.r 4 C∧0≤t.1∧t.1 < ((s.q.g.inputs+s.q.g.units.length:Nat):Int)) (hc:Rz f.const.r (4*D*m) K):Rz (bj s f).1.r (4*D*m) (K+f.terms.length*(C*M)*m):=by
 unfold bj;cases e:bt s f.terms [] with
 | none=>rw[show ((Q.zero,([]:List Mm),false):Q×List Mm×Bool).1=Q.zero from rfl,a5b];exact Rz.zero _ _
 | some L=>
  simp only;rw[fm];rcases a5k hs L with h1 | h1
  ·rw[h1];have:f.const.r - 0=f.const.r:=by grind
   rw[this];exact hc.up (Nat.le_add_right ..)
  ·rw[h1];obtain⟨ws,g1,g2,g3⟩:=zj (kC s) e;have hw:∀w∈ws,Rz w (4*D) (C*M):=fun w hw=>by
    obtain⟨i,hi,rfl⟩:=List.mem_iff_getElem.1 hw;have hi':i < f.terms.length:=by omega
    obtain⟨e1,e2⟩:=g3 i _ _ (ge hi') (ge hi);obtain⟨t1,t2,t3⟩:=hf _ (List.getElem_mem hi');rw[e1];exact (Rz.abs t1).mul (ab8 hs h t2 t3 e2)
   have hsum:=(Rz.sum hw).scale m;rw[g1] at hsum;have:f.const.r - valM (kC s) L=f.const.r+-(ws.sum):=by rw[g2,valM];grind
   rw[this];exact hc.add hsum.neg
theorem aiy (x y:Q):minR x y=ck x∨minR x y=ck y:=by
 unfold minR;cases decide (isg (Q.add x y.neg').neg (Q.add x y.neg').num≤0)
 ·exact .inr rfl
 ·exact .inl rfl
structure GrowIn (s:Sc) (a D M m K:Nat):Prop where
 va:s.Va a 3
 len:s.lems.length≤900
 dz:s.Dz D M
 us:∀p∈s.q.g.units,p.Dz (s.q.g.inputs+s.q.g.units.length) 16
 pos:0 < D
 goal:∀t∈s.q.goal.terms,Rz t.2.r 4 16∧0≤t.1∧t.1 < ((s.q.g.inputs+s.q.g.units.length:Nat):Int)
 gl:s.q.goal.terms.length≤8
 const:Rz s.q.goal.const.r (4*(4 ^ s.q.g.units.length*D)*m) K
 mp:0 < m
 b1:4*(4 ^ s.q.g.units.length*D)*m < 79228162514264337593543950336
 b2:∀j,j≤s.q.g.units.length→MM D M j < 79228162514264337593543950336
 b3:K+8*(16*MM D M s.q.g.units.length)*m < 79228162514264337593543950336
theorem GrowIn.dec {s:Sc} {a D M m K k:Nat} {kind:Int} (h:GrowIn s a D M m K) (hp:s.path.length≤100) (ha:1≤a):GrowIn (s.dec kind k) a D M m K:=
 ⟨⟨h.va.q,fun d hd=>by
   rcases List.mem_append.1 hd with e | e
   ·exact h.va.path d e
   ·rw[mj e];exact sz_zero.up ha,by show (s.path++_).length≤1000;simp;omega,h.va.lems,h.va.l9,h.va.b1,h.va.b9,h.va.a9,h.va.n9⟩,
  h.len,⟨h.dz.lo,h.dz.hi,h.dz.lems⟩,h.us,h.pos,h.goal,h.gl,h.const,h.mp,h.b1,h.b2,h.b3⟩
theorem GrowIn.bd {s:Sc} {a D M m K:Nat} (h:GrowIn s a D M m K) (j:Nat) (hj:j≤s.q.g.units.length):(ak s j).Va a 3∧(ak s j).Dz (4 ^ j*D) (MM D M j):=by
 have h4:4 ^ j*D≤4 ^ s.q.g.units.length*D:=Nat.mul_le_mul_right _ (Nat.pow_le_pow_right dx hj);have h5:4*(4 ^ s.q.g.units.length*D)≤4*(4 ^ s.q.g.units.length*D)*m:=Nat.le_mul_of_pos_right _ h.mp;have hb1:=h.b1;obtain⟨v,z,_⟩:=pf h.va h.len h.dz h.us h.pos j hj om (h.b2 j hj);exact⟨v,z⟩
theorem GrowIn.ok {a D M m K:Nat} (ha:1≤a):∀(k:Nat) {s:Sc} {root:Bool},GrowIn s a D M m K→s.path.length+k≤100→o7 a 3 k s∧(ce k s root).2.S 3∧Rz (ce k s root).2.r (4*(4 ^ s.q.g.units.length*D)*m) (K+8*(16*MM D M s.q.g.units.length)*m)
 | 0,s,root,h,hp=>by
  refine⟨fun j hj=>(h.bd j hj).1,?_⟩;obtain⟨v,z⟩:=h.bd s.q.g.units.length (nr _);have hq:=(fq s s.q.g.units.length).1;have:=aco (s:=dq s) (f:=s.q.goal) (C:=16) v z (fun t ht=>by
   have:=h.goal t ht;show Rz t.2.r 4 16∧0≤t.1∧t.1 < (((ak s s.q.g.units.length).q.g.inputs+(ak s s.q.g.units.length).q.g.units.length:Nat):Int);rw[hq];exact this) h.const
  have this:=this.up (N:=K+8*(16*MM D M s.q.g.units.length)*m) (Nat.add_le_add_left (Nat.mul_le_mul_right _ (Nat.mul_le_mul_right _ h.gl)) _);exact⟨rz_S (a27 ..) this (Nat.mul_pos (Nat.mul_pos dx (Nat.mul_pos (Nat.pow_pos dx) h.pos)) h.mp) h.b1 h.b3,this⟩
 | k+1,s,root,h,hp=>by
  obtain⟨a1,a2,a3⟩:=GrowIn.ok ha k (root:=false) (h.dec (kind:=1) (k:=k) om ha) (by show (s.path++_).length+k≤100;simp;omega);obtain⟨b1,b2,b3⟩:=GrowIn.ok ha k (root:=false) (h.dec (kind:=2) (k:=k) om ha) (by show (s.path++_).length+k≤100;simp;omega);refine⟨⟨a1,b1,a2.up dx,b2.up dx,by omega⟩,?_⟩;show (minR _ _).S 3∧Rz (minR _ _).r _ _;rcases aiy (ce k (s.dec 1 k) false).2 (ce k (s.dec 2 k) false).2 with e | e
  ·rw[e,a2.canon];exact⟨a2,a3⟩
  ·rw[e,b2.canon];exact⟨b2,b3⟩
theorem ag7:∀{l:List Tm},(∀(i:Nat) (s t:Tm),l[i]?=some s→l[i+1]?=some t→s.1 < t.1)→Srt' l
 | [],_=>by simp[Srt']
 | [t],_=>by simp[Srt']
 | s::t::l,h=>by
  have ih:Srt' (t::l):=ag7 fun i a b ha hb=>h (i+1) a b (by simpa using ha) (by simpa using hb)
  have hst:=h 0 s t rfl rfl;rw[Srt',List.pairwise_cons];refine⟨fun u hu=>?_,ih⟩;rcases List.mem_cons.1 hu with e | e
  ·rw[e];exact hst
  ·have:=(List.pairwise_cons.1 ih).1 u e;omega
theorem anc {f:Fm} {v:Nat} (h:f.Ok v):f.Cn:=⟨ag7 h.asc,fun t ht=>⟨(h.each t ht).2.2.2,(h.each t ht).2.2.1⟩,h.const⟩
theorem a8z:∀{l:List Tm} {a b:Int},Srt' l→(∀t∈l,a≤t.1∧t.1 < b)→a≤b→(l.length:Int)≤b - a
 | [],a,b,_,_,h=>by simp;omega
 | t::l,a,b,hs,h,hab=>by
  rw[Srt',List.pairwise_cons] at hs;have ht:=h t (mf ..);have:=a8z (l:=l) (a:=t.1+1) (b:=b) hs.2 (fun u hu=>⟨by have:=hs.1 u hu;omega,(h u (List.mem_cons_of_mem _ hu)).2⟩) om;rw[List.length_cons];omega
theorem ab4 {f:Fm} {v:Nat} (h:f.Ok v):f.terms.length≤v:=by
 have:=a8z (a:=0) (b:=(v:Int)) (anc h).srt (fun t ht=>⟨(h.each t ht).1,(h.each t ht).2.1⟩) om;omega
theorem xi {q:Q} (h:q.Tiny):q.S 1:=a0j (nj h.num dx) (by unfold Q.un;split;decide;exact nj h.den dx) h.ok
theorem jk {f:Fm} {v:Nat} (h:f.Small v):f.S 1 v:=⟨anc h.ok,fun t ht=>xi (h.num t ht),xi h.const,ab4 h.ok⟩
theorem a80 {q:Q} (h:q.Qt):Rz q.r 4 16:=by
 obtain⟨e,he⟩:=h.un;have hu:=q.un_ne;have hcast:(4:Rat)=(q.un:Rat)*(e:Rat):=by
  have:((4:Nat):Rat)=((q.un*e:Nat):Rat):=by rw[← he]
  rw[Rat.natCast_mul] at this;exact_mod_cast this
 have hle:e≤4:=Nat.le_of_dvd dx ⟨q.un,by rw[Nat.mul_comm];exact he⟩;have hn:=h.num;have hb:q.num*e≤16:=nt (Nat.mul_le_mul hn hle) dx;have ec:∀n:Nat,((n:Int):Rat)=(n:Rat):=fun n=>Rat.intCast_natCast _
 cases hs:q.neg with
 | false=>
  refine⟨((q.num*e:Nat):Int),?_,by rw[Int.natAbs_natCast];exact hb⟩;rw[ec,Rat.natCast_mul];unfold Q.r;rw[hs];simp only[sgnR,cond_false];show (q.num:Rat) / (q.un:Rat)*4=_;rw[hcast];grind
 | true=>
  refine⟨-((q.num*e:Nat):Int),?_,by rw[Int.natAbs_neg,Int.natAbs_natCast];exact hb⟩;rw[Rat.intCast_neg,ec,Rat.natCast_mul];unfold Q.r;rw[hs];simp only[sgnR,cond_true];show -(q.num:Rat) / (q.un:Rat)*4=_;rw[hcast];grind
theorem Fdp.formT {L:List Nat}:∀(n v:Nat) (ts:List Tm) {r:List Nat},Fdp L r→Fdp L (formT n v ts r).2
 | 0,_,_,_,h=>h
 | n+1,v,ts,r,h=>by
  unfold Go.Proofs.YtbhbainhmfjpdaaGreatDoor.formT;split
  ·exact Fdp.formT n (v+1) _ (h.nx 3).num
  ·exact Fdp.formT n (v+1) _ (h.nx 3)
theorem Fdp.form {L r:List Nat} (h:Fdp L r) (v:Nat):Fdp L (ep v r).2:=Fdp.formT v 0 [] h.num
theorem afb {v j:Nat} {ts:List Tm} {r:List Nat} {X:List Tm×List Nat} (hj:j < v) (h:formT (v - j) j ts r=X) (h0:decide ((0:Int) < ((nx 3 r).1:Int))=true):formT (v - (j+1)) (j+1) (snoc ts j (numQ (nx 3 r).2).1) (numQ (nx 3 r).2).2=X:=by
 have h0:=of_decide_eq_true h0;rw[show v - j=v - (j+1)+1 from by omega,formT,if_pos om] at h;exact h
theorem aje {v j:Nat} {ts:List Tm} {r:List Nat} {X:List Tm×List Nat} (hj:j < v) (h:formT (v - j) j ts r=X) (h0:decide ((0:Int) < ((nx 3 r).1:Int))=false):formT (v - (j+1)) (j+1) ts (nx 3 r).2=X:=by
 have h0:=of_decide_eq_false h0;rw[show v - j=v - (j+1)+1 from by omega,formT,if_neg om] at h;exact h
theorem a73 {v j:Nat} {ts:List Tm} {r:List Nat} {X:List Tm×List Nat} (hj:v≤j) (h:formT (v - j) j ts r=X):ts=X.1∧r=X.2:=by
 rw[show v - j=0 from by omega,formT] at h;rw[← h];exact⟨rfl,rfl⟩
theorem og {L r:List Nat} {v:Nat} (h:Fdp L r) (hv:v≤100):SCalls Tryz.prog (fun _=>True) TF 33 [.box 1000 0,.pv (iP (v:Int))] (some (l6 L r)) (l6 L (ep v r).2) (.pv (fmP (ep v r).1)) false:=by
 refine pcs [135,37] Tryz.func33 (fun D hH hF=>?_);refine au ?_;refine rsc0 (fun _ _ _=>trivial) (fun e=>by cases e) (ra h) ?_;refine au ?_;refine pwk ?_;refine pl (ι:={p:Nat×List Tm×List Nat // p.1≤v∧formT (v - p.1) p.1 p.2.1 p.2.2=formT v 0 [] (numQ r).2∧Fm.Small ⟨p.2.1,(numQ r).1⟩ p.1∧Fdp L p.2.2}) (fun p=>[(0,.box 1000 0),(1,.pv (iP (v:Int))),(4,.box 4 0),(5,.box 5 0),(6,.pv (iP (p.1.1:Int)))]) (fun p=>[(4,.box 37 [.pv (bu []),.pv (bP false),.pv (.nat 0),.pv (.nat 0)]),(5,.box 37 [.pv (bu p.1.2.1),.pv (bP (numQ r).1.neg),.pv (.nat (numQ r).1.num),.pv (.nat (numQ r).1.den)]),(1000,l6 L p.1.2.2)]) [135,37] (fun p=>v - p.1.1) ⟨(0,[],(numQ r).2),nq _,rfl,⟨⟨fun i s t hs=>(by simp at hs),fun t ht=>(by cases ht),(di r).ok⟩,fun t ht=>(by cases ht),di r⟩,h.num⟩ (ai Y (ai Y (ai Y (ai Y (ai Y trivial))))) (ai Y (ai Y (ai Y trivial))) (fun _=>rfl) ?_;intro ⟨(j,ts,rr),hi0,hg,hs,hF⟩;simp only at hi0 hg hs hF;refine a2 (fun e12=>?_) (fun e12=>?_)
 ·have hj:j < v:=by have h:(j:Int) < (v:Int):=of_decide_eq_true e12;omega
  refine au ?_;refine rsc0 (fun _ _ _=>trivial) (fun e=>by cases e) (ut (n:=3) hF dx) ?_;refine a2 (fun e17=>?_) (fun e17=>?_)
  ·refine ac (c:=a4k (j:Int)) ?_;refine au ?_;refine rsc0 (fun _ _ _=>trivial) (fun e=>by cases e) (ra (hF.nx 3)) ?_;refine ac (c:=ig (f:=varR (j:Int)) (q:=(numQ (nx 3 rr).2).1) (fk _) (xi (di _)) dx dx dx) ?_;refine ac (c:=a2r (f:=⟨ts,(numQ r).1⟩) (jk hs) ((fk _).scaleR (xi (di _))) dx om) ?_;refine aa (c:=ae (by show j≤_;omega)) ?_;refine au ?_;exact pe ⟨(j+1,snoc ts j (numQ (nx 3 rr).2).1,(numQ (nx 3 rr).2).2),hj,afb hj hg e17,zu hs (di _),(hF.nx 3).num⟩ (ai Y (ai Y (ai Y (ai Y (ai Y trivial))))) (ai Y (ai (congrArg (fun f:Fm=>some (Res.box 37 [.pv (bu f.terms),.pv (bP f.const.neg),.pv (.nat f.const.num),.pv (.nat f.const.den)])) (ag0 hs (di _))) (ai Y trivial))) Y (by show v - (j+1) < v - j;omega)
  ·refine aa (c:=ae (by show j≤_;omega)) ?_;refine au ?_;exact pe ⟨(j+1,ts,(nx 3 rr).2),hj,aje hj hg e17,⟨hs.ok.mono (Nat.le_succ _),hs.num,hs.const⟩,hF.nx 3⟩ (ai Y (ai Y (ai Y (ai Y (ai Y trivial))))) (ai Y (ai Y (ai Y trivial))) Y (by show v - (j+1) < v - j;omega)
 ·have hj:v≤j:=by have h:¬(j:Int) < (v:Int):=of_decide_eq_false e12;omega
  refine au ?_;exact rets Y (congrArg (fun l=>SV.pv (fmP ⟨l,(numQ r).1⟩)) (a73 hj hg).1) (congrArg (fun l=>some (l6 L l)) (a73 hj hg).2)
theorem Fdp.units {L:List Nat}:∀(n v:Nat) {r:List Nat},Fdp L r→Fdp L (en n v r).2
 | 0,_,_,h=>h
 | n+1,v,r,h=>Fdp.units n (v+1) (h.form v)
theorem Fdp.outs {L:List Nat}:∀(n v:Nat) {r:List Nat},Fdp L r→Fdp L (ja n v r).2
 | 0,_,_,h=>h
 | n+1,v,r,h=>Fdp.outs n v (h.form v)
theorem a7g {u n j:Nat} {acc:List Fm} {r:List Nat} {X:List Fm×List Nat} (hj:j < u) (h:(acc++(en (u - j) (n+j) r).1,(en (u - j) (n+j) r).2)=X):((acc++[(ep (n+j) r).1])++(en (u - (j+1)) (n+(j+1)) (ep (n+j) r).2).1,(en (u - (j+1)) (n+(j+1)) (ep (n+j) r).2).2)=X:=by
 rw[← h,show u - j=u - (j+1)+1 from by omega,en,List.append_assoc];rfl
theorem a8q {u n j:Nat} {acc:List Fm} {r:List Nat} {X:List Fm×List Nat} (hj:u≤j) (h:(acc++(en (u - j) (n+j) r).1,(en (u - j) (n+j) r).2)=X):acc=X.1∧r=X.2:=by
 rw[← h,show u - j=0 from by omega,en,List.append_nil];exact⟨rfl,rfl⟩
theorem a30 {u n j:Nat} {acc:List Fm} {r:List Nat} {X:List Fm×List Nat} (hj:j < u) (h:(acc++(ja (u - j) n r).1,(ja (u - j) n r).2)=X):((acc++[(ep n r).1])++(ja (u - (j+1)) n (ep n r).2).1,(ja (u - (j+1)) n (ep n r).2).2)=X:=by
 rw[← h,show u - j=u - (j+1)+1 from by omega,ja,List.append_assoc];rfl
theorem vx {u n j:Nat} {acc:List Fm} {r:List Nat} {X:List Fm×List Nat} (hj:u≤j) (h:(acc++(ja (u - j) n r).1,(ja (u - j) n r).2)=X):acc=X.1∧r=X.2:=by
 rw[← h,show u - j=0 from by omega,ja,List.append_nil];exact⟨rfl,rfl⟩
theorem ach {x:Nat} (h:x≤1000):ariO .add .i64 1 (x:Int)=some ((1+x:Nat):Int):=by
 show some (IntKind.wrap .i64 (1+(x:Int)))=_;rw[fx om om];exact congrArg some om
theorem a23 {x y:Nat} (h:x≤1000) (k:y≤1000):ariO .add .i64 (x:Int) (y:Int)=some ((x+y:Nat):Int):=by
 show some (IntKind.wrap .i64 ((x:Int)+(y:Int)))=_;rw[fx om om];exact congrArg some om
theorem a50 {l:List Fm} {f:Fm}:l.map fmC++[fmC f]=(l++[f]).map fmC:=by rw[List.map_append];rfl
theorem agk {l:List Q} {f:Q}:l.map qC++[qC f]=(l++[f]).map qC:=by rw[List.map_append];rfl
theorem ai1 {L r:List Nat} (h:Fdp L r):SCalls Tryz.prog (fun _=>True) TF 116 [.box 1000 0] (some (l6 L r)) (l6 L (dn r).2) (.pv (gmP (dn r).1)) false:=by
 have n1:=qh (n:=3) dx r;have n2:=qh (n:=5) dx (nx 3 r).2;have n3:=qh (n:=3) dx (nx 5 (nx 3 r).2).2;have hr3:=((h.nx 3).nx 5).nx 3;refine pcs [135,27,37] Tryz.func116 (fun D hH hF=>?_);refine au ?_;refine rsc0 (fun _ _ _=>trivial) (fun e=>by cases e) (ut (n:=3) h dx) ?_;refine aa (c:=ach om) ?_;refine au ?_;refine rsc0 (fun _ _ _=>trivial) (fun e=>by cases e) (ut (n:=5) (h.nx 3) dx) ?_;refine au ?_;refine rsc0 (fun _ _ _=>trivial) (fun e=>by cases e) (ut (n:=3) ((h.nx 3).nx 5) dx) ?_;refine aa (c:=ach om) ?_;refine au ?_;refine tkb (b:=3) (off:=1) (id:=31) (e:=37) (k:=4) (ts:=[138,200]) Y ?_;refine tkb (b:=3) (off:=2) (id:=47) (e:=37) (k:=4) (ts:=[138,200]) Y ?_;refine pl (ι:={p:Nat×List Fm×List Nat // p.1≤(nx 5 (nx 3 r).2).1∧(p.2.1++(en ((nx 5 (nx 3 r).2).1 - p.1) ((1+(nx 3 r).1)+p.1) p.2.2).1,(en ((nx 5 (nx 3 r).2).1 - p.1) ((1+(nx 3 r).1)+p.1) p.2.2).2)=en (nx 5 (nx 3 r).2).1 (1+(nx 3 r).1) (nx 3 (nx 5 (nx 3 r).2).2).2∧p.2.1.length=p.1∧Fdp L p.2.2}) (fun p=>[(0,.box 1000 0),(2,.box 2 0),(3,.box 3 0),(4,.pv (iP ((nx 5 (nx 3 r).2).1:Nat))),(5,.pv (iP ((1+(nx 3 (nx 5 (nx 3 r).2).2).1):Nat))),(6,.pv (iP (p.1.1:Nat)))]) (fun p=>[(2,.box 27 [.pv (iP 0),.nil 37 4 [138,200],.nil 37 4 [138,200]]),(3,.box 27 [.pv (iP ((1+(nx 3 r).1):Nat)),.tok 31,.tok 47]),(31,.tok 37 4 [138,200] (p.1.2.1.map fmC)),(47,.tok 37 4 [138,200] (([]:List Fm).map fmC)),(1000,l6 L p.1.2.2)]) [135,27,37] (fun p=>(nx 5 (nx 3 r).2).1 - p.1.1) ⟨(0,[],(nx 3 (nx 5 (nx 3 r).2).2).2),nq _,rfl,rfl,hr3⟩ (ai Y (ai Y (ai Y (ai Y (ai Y (ai Y trivial)))))) (ai Y (ai Y (ai Y (ai Y (ai Y trivial))))) (fun _=>rfl) ?_;intro ⟨(j,acc,rr),hj0,hg,hl,hF⟩;simp only at hj0 hg hl hF;refine a2 (fun e19=>?_) (fun e19=>?_)
 ·have hj:j < (nx 5 (nx 3 r).2).1:=by have h:(j:Int) < (((nx 5 (nx 3 r).2).1:Nat):Int):=of_decide_eq_true e19;omega
  refine aa (c:=a23 om (by show j≤_;omega)) ?_;refine rsc0 (fun _ _ _=>trivial) (fun e=>by cases e) (og (v:=(1+(nx 3 r).1)+j) hF om) ?_;refine au ?_;refine rp0 su (by rw[List.length_map];show acc.length+1≤_;omega) Y Y Y Y Y Y Y Y ?_;refine aa (c:=ae (by show j≤_;omega)) ?_;refine au ?_;exact pe ⟨(j+1,acc++[(ep ((1+(nx 3 r).1)+j) rr).1],(ep ((1+(nx 3 r).1)+j) rr).2),hj,a7g hj hg,by rw[List.length_append,hl];rfl,hF.form _⟩ (ai Y (ai Y (ai Y (ai Y (ai Y (ai Y trivial)))))) (ai Y (ai Y (ai (congrArg (fun x=>some (Res.tok _ _ _ x)) a50) (ai Y (ai Y trivial))))) Y (by show (nx 5 (nx 3 r).2).1 - (j+1) < (nx 5 (nx 3 r).2).1 - j;omega)
 ·have hj:(nx 5 (nx 3 r).2).1≤j:=by have h:¬(j:Int) < (((nx 5 (nx 3 r).2).1:Nat):Int):=of_decide_eq_false e19;omega
  obtain⟨rfl,rfl⟩:=a8q hj hg;refine au ?_;refine pl (ι:={p:Nat×List Fm×List Nat // p.1≤(1+(nx 3 (nx 5 (nx 3 r).2).2).1)∧(p.2.1++(ja ((1+(nx 3 (nx 5 (nx 3 r).2).2).1) - p.1) ((1+(nx 3 r).1)+(nx 5 (nx 3 r).2).1) p.2.2).1,(ja ((1+(nx 3 (nx 5 (nx 3 r).2).2).1) - p.1) ((1+(nx 3 r).1)+(nx 5 (nx 3 r).2).1) p.2.2).2)=ja (1+(nx 3 (nx 5 (nx 3 r).2).2).1) ((1+(nx 3 r).1)+(nx 5 (nx 3 r).2).1) (en (nx 5 (nx 3 r).2).1 (1+(nx 3 r).1) (nx 3 (nx 5 (nx 3 r).2).2).2).2∧p.2.1.length=p.1∧Fdp L p.2.2}) (fun p=>[(0,.box 1000 0),(2,.box 2 0),(3,.box 3 0),(4,.pv (iP ((nx 5 (nx 3 r).2).1:Nat))),(5,.pv (iP ((1+(nx 3 (nx 5 (nx 3 r).2).2).1):Nat))),(7,.pv (iP (p.1.1:Nat)))]) (fun p=>[(2,.box 27 [.pv (iP 0),.nil 37 4 [138,200],.nil 37 4 [138,200]]),(3,.box 27 [.pv (iP ((1+(nx 3 r).1):Nat)),.tok 31,.tok 47]),(31,.tok 37 4 [138,200] ((en (nx 5 (nx 3 r).2).1 (1+(nx 3 r).1) (nx 3 (nx 5 (nx 3 r).2).2).2).1.map fmC)),(47,.tok 37 4 [138,200] (p.1.2.1.map fmC)),(1000,l6 L p.1.2.2)]) [135,27,37] (fun p=>(1+(nx 3 (nx 5 (nx 3 r).2).2).1) - p.1.1) ⟨(0,[],(en (nx 5 (nx 3 r).2).1 (1+(nx 3 r).1) (nx 3 (nx 5 (nx 3 r).2).2).2).2),nq _,rfl,rfl,hF⟩ (ai Y (ai Y (ai Y (ai Y (ai Y (ai Y trivial)))))) (ai Y (ai Y (ai Y (ai Y (ai Y trivial))))) (fun _=>rfl) ?_;intro ⟨(i,acc2,rr2),hi0,hg2,hl2,hF2⟩;simp only at hi0 hg2 hl2 hF2;refine a2 (fun e35=>?_) (fun e35=>?_)
  ·have hi:i < (1+(nx 3 (nx 5 (nx 3 r).2).2).1):=by have h:(i:Int) < (((1+(nx 3 (nx 5 (nx 3 r).2).2).1):Nat):Int):=of_decide_eq_true e35;omega
   refine aa (c:=a23 om om) ?_;refine rsc0 (fun _ _ _=>trivial) (fun e=>by cases e) (og (v:=(1+(nx 3 r).1)+(nx 5 (nx 3 r).2).1) hF2 om) ?_;refine au ?_;refine rp0 su (by rw[List.length_map];show acc2.length+1≤_;omega) Y Y Y Y Y Y Y Y ?_;refine aa (c:=ae (by show i≤_;omega)) ?_;refine au ?_;exact pe ⟨(i+1,acc2++[(ep ((1+(nx 3 r).1)+(nx 5 (nx 3 r).2).1) rr2).1],(ep ((1+(nx 3 r).1)+(nx 5 (nx 3 r).2).1) rr2).2),hi,a30 hi hg2,by rw[List.length_append,hl2];rfl,hF2.form _⟩ (ai Y (ai Y (ai Y (ai Y (ai Y (ai Y trivial)))))) (ai Y (ai Y (ai Y (ai (congrArg (fun x=>some (Res.tok _ _ _ x)) a50) (ai Y trivial))))) Y (by show (1+(nx 3 (nx 5 (nx 3 r).2).2).1) - (i+1) < (1+(nx 3 (nx 5 (nx 3 r).2).2).1) - i;omega)
  ·have hi:(1+(nx 3 (nx 5 (nx 3 r).2).2).1)≤i:=by have h:¬(i:Int) < (((1+(nx 3 (nx 5 (nx 3 r).2).2).1):Nat):Int):=of_decide_eq_false e35;omega
   refine au ?_;exact rets Y (congrArg (fun l=>SV.pv (gmP ⟨(1+(nx 3 r).1),(en (nx 5 (nx 3 r).2).1 (1+(nx 3 r).1) (nx 3 (nx 5 (nx 3 r).2).2).2).1,l⟩)) (vx hi hg2).1) (congrArg (fun l=>some (l6 L l)) (vx hi hg2).2)
def idxG {α:Type} (F:α→Bool):List α→Nat→Int
 | [],_=>-1
 | a::l,i=>bif F a then (i:Int) else idxG F l (i+1)
theorem a1q {α:Type} {F:α→Bool}:∀{l:List α} {i:Nat},decide (0≤idxG F l i)=l.any F
 | [],i=>rfl
 | a::l,i=>by
  rw[idxG,List.any_cons];cases F a with
  | true=>simp
  | false=>simp only[cond_false,Bool.false_or];exact a1q
theorem a6y {α:Type} [Inhabited α] {F:α→Bool} {l:List α} {j:Nat} (h:idxG F (l.drop j) j=idxG F l 0) (hj:j < l.length) (hF:F (atZ l (j:Int))=true):(j:Int)=idxG F l 0:=by
 have e:l.drop j=atZ l (j:Int)::l.drop (j+1):=by rw[bm (ge hj),List.drop_eq_getElem_cons hj]
 rw[e,idxG,hF] at h;exact h
theorem a3o {α:Type} [Inhabited α] {F:α→Bool} {l:List α} {j:Nat} (h:idxG F (l.drop j) j=idxG F l 0) (hj:j < l.length) (hF:F (atZ l (j:Int))=false):idxG F (l.drop (j+1)) (j+1)=idxG F l 0:=by
 have e:l.drop j=atZ l (j:Int)::l.drop (j+1):=by rw[bm (ge hj),List.drop_eq_getElem_cons hj]
 rw[e,idxG,hF] at h;exact h
theorem a6z {α:Type} {F:α→Bool} {l:List α} {j:Nat} (h:idxG F (l.drop j) j=idxG F l 0) (hj:l.length≤j):(-1:Int)=idxG F l 0:=by
 rw[List.drop_of_length_le hj] at h;exact h
theorem zo {n:Nat}:(((ab n).length:Int) == 0)=decide (n=0):=by
 by_cases h:n=0
 ·subst h;rw[aq];rfl
 ·rw[df h];have:(ab n).length≠0:=fun e=>h (bw.1 e)
  exact beq_eq_false_iff_ne.2 om
theorem a0e {q:Q}:decide (q=Q.zero)=(!q.neg&&((((ab q.num).length:Int) == 0)&&(((ab q.den).length:Int) == 0))):=by
 obtain⟨n,a,d⟩:=q;simp only[zo];cases n<;>by_cases h1:a=0<;>by_cases h2:d=0<;>simp[h1,h2]
theorem kne {k a b:Int} (h:(k == a)=true) (hab:(a == b)=false):(k == b)=false:=by
 have e:k=a:=eq_of_beq h;rw[e];exact hab
theorem ahl {x y:Q} (h:y.Ok):Q.sub x y=Q.add x y.neg':=by
 unfold Q.sub Q.neg';by_cases h0:y.num=0
 ·obtain rfl:=Q.zero_of h h0;rfl
 ·have hf:y.flip.Ok:=⟨h.one,h.cop,fun e=>absurd e h0⟩;rw[lq hf]
abbrev usC (s:Sc) (r:Rw) (v p:Fm) (l u:Q×Bool):List PV:=scC s++(rwC r++(fmC v++(fmC p++(qC l.1++(qC u.1++[bP l.2,bP u.2])))))
theorem a0z {q:Q} (h:q.Sm):PCalls Tryz.prog [] 130 [ratP q] (iP (sgQ q)):=aaf h
theorem alg {x y:Q} {s t:Nat} (h:x.S s) (k:y.S t) (hs:s≤10000) (ht:t≤10000):PCalls Tryz.prog TU 282 [ratP x,ratP y] (ratP (Q.add x y.neg')):=by
 have:=ao7 (h.sm hs) (k.sm ht);rwa [ahl k.ok] at this
theorem Fdp.box {L:List Nat}:∀(n:Nat) {r:List Nat},Fdp L r→Fdp L (boxQ n r).2
 | 0,_,h=>h
 | n+1,r,h=>Fdp.box n h.num.num
theorem Fdp.region {L r:List Nat} (h:Fdp L r) (n:Nat):Fdp L (kw n r).2:=Fdp.outs _ n ((Fdp.box n h).nx 3)
theorem Fdp.graph {L r:List Nat} (h:Fdp L r):Fdp L (dn r).2:=Fdp.outs _ _ (Fdp.units _ _ (((h.nx 3).nx 5).nx 3))
theorem afm {n i:Nat} {lo hi:List Q} {r:List Nat} {X:(List Q×List Q)×List Nat} (hi':i < n) (h:((lo++(boxQ (n - i) r).1.1,hi++(boxQ (n - i) r).1.2),(boxQ (n - i) r).2)=X):(((lo++[(numQ r).1])++(boxQ (n - (i+1)) (numQ (numQ r).2).2).1.1,(hi++[Q.add (numQ r).1 (numQ (numQ r).2).1.abs])++(boxQ (n - (i+1)) (numQ (numQ r).2).2).1.2),(boxQ (n - (i+1)) (numQ (numQ r).2).2).2)=X:=by
 rw[← h,show n - i=n - (i+1)+1 from by omega,boxQ,List.append_assoc,List.append_assoc];rfl
theorem ajv {n i:Nat} {lo hi:List Q} {r:List Nat} {X:(List Q×List Q)×List Nat} (hi':n≤i) (h:((lo++(boxQ (n - i) r).1.1,hi++(boxQ (n - i) r).1.2),(boxQ (n - i) r).2)=X):lo=X.1.1∧hi=X.1.2∧r=X.2:=by
 rw[← h,show n - i=0 from by omega,boxQ,List.append_nil,List.append_nil];exact⟨rfl,rfl,rfl⟩
theorem afv {n j:Nat} (h:n≤1000) (hj:j < n):ariO .sub .i64 ((n - j:Nat):Int) 1=some ((n - (j+1):Nat):Int):=by
 show some (IntKind.wrap .i64 (((n - j:Nat):Int) - 1))=_;rw[fx om om];exact congrArg some om
theorem ajy {α β:Type} {f:α→β} {x:Nat} {l:List α} (h:x≤1000) (k:l.length≤1000):ariO .add .i64 (x:Int) ((l.map f).length:Int)=some ((x+l.length:Nat):Int):=by rw[List.length_map];exact a23 h k
theorem afu {α β:Type} {f:α→β} {l:List α} (k:l.length≤1000):ariO .add .i64 ((l.map f).length:Int) 1=some ((l.length+1:Nat):Int):=by rw[List.length_map];exact ae om
theorem Q.Tiny.abs {q:Q} (h:q.Tiny):q.abs.Tiny:=⟨⟨h.ok.one,h.ok.cop,fun h0=>⟨rfl,(h.ok.pos h0).2⟩⟩,h.num,h.den⟩
theorem aht {L r:List Nat} {n:Nat} (h:Fdp L r) (hn:n≤100):SCalls Tryz.prog (fun _=>True) TF 117 [.box 1000 0,.pv (iP (n:Int))] (some (l6 L r)) (l6 L (kw n r).2) (.pv (rgP (kw n r).1)) false:=by
 have n1:=qh (n:=3) dx (boxQ n r).2;refine pcs [135,30,35,37] Tryz.func117 (fun D hH hF=>?_);refine au ?_;refine tkb (b:=5) (off:=0) (id:=41) (e:=35) (k:=3) (ts:=[200]) Y ?_;refine tkb (b:=5) (off:=1) (id:=42) (e:=35) (k:=3) (ts:=[200]) Y ?_;refine tkb (b:=5) (off:=2) (id:=43) (e:=37) (k:=4) (ts:=[138,200]) Y ?_;refine pl (ι:={p:Nat×List Q×List Q×List Nat // p.1≤n∧((p.2.1++(boxQ (n - p.1) p.2.2.2).1.1,p.2.2.1++(boxQ (n - p.1) p.2.2.2).1.2),(boxQ (n - p.1) p.2.2.2).2)=(boxQ n r)∧p.2.1.length=p.1∧p.2.2.1.length=p.1∧Fdp L p.2.2.2}) (fun p=>[(0,.box 1000 0),(1,.pv (iP (n:Int))),(4,.box 4 0),(5,.box 5 0),(6,.pv (iP (p.1.1:Int)))]) (fun p=>[(4,.box 30 [.nil 35 3 [200],.nil 35 3 [200],.nil 37 4 [138,200]]),(5,.box 30 [.tok 41,.tok 42,.tok 43]),(41,.tok 35 3 [200] (p.1.2.1.map qC)),(42,.tok 35 3 [200] (p.1.2.2.1.map qC)),(43,.tok 37 4 [138,200] (([]:List Fm).map fmC)),(1000,l6 L p.1.2.2.2)]) [135,30,35,37] (fun p=>n - p.1.1) ⟨(0,[],[],r),nq _,rfl,rfl,rfl,h⟩ (ai Y (ai Y (ai Y (ai Y (ai Y trivial))))) (ai Y (ai Y (ai Y (ai Y (ai Y (ai Y trivial)))))) (fun _=>rfl) ?_;intro ⟨(i,lo,hi,rr),hi0,hg,hl1,hl2,hF⟩;simp only at hi0 hg hl1 hl2 hF;refine a2 (fun e12=>?_) (fun e12=>?_)
 ·have hj:i < n:=by have h:(i:Int) < (n:Int):=of_decide_eq_true e12;omega
  refine au ?_;refine rsc0 (fun _ _ _=>trivial) (fun e=>by cases e) (ra hF) ?_;refine au ?_;refine rsc0 (fun _ _ _=>trivial) (fun e=>by cases e) (ra hF.num) ?_;refine au ?_;refine rp0 ah7 (by rw[List.length_map];show lo.length+1≤_;omega) Y Y Y Y Y Y Y Y ?_;refine ac (c:=a7y (x:=(numQ rr).1) (y:=(numQ (numQ rr).2).1.abs) (di _).sm (di _).abs.sm (di _).ok (di _).abs.ok) ?_;refine au ?_;refine rp0 ah7 (by rw[List.length_map];show hi.length+1≤_;omega) Y Y Y Y Y Y Y Y ?_;refine aa (c:=ae (by show i≤_;omega)) ?_;refine au ?_;exact pe ⟨(i+1,lo++[(numQ rr).1],hi++[Q.add (numQ rr).1 (numQ (numQ rr).2).1.abs],(numQ (numQ rr).2).2),hj,afm hj hg,by rw[List.length_append,hl1];rfl,by rw[List.length_append,hl2];rfl,hF.num.num⟩ (ai Y (ai Y (ai Y (ai Y (ai Y trivial))))) (ai Y (ai Y (ai (congrArg (fun x=>some (Res.tok _ _ _ x)) agk) (ai (congrArg (fun x=>some (Res.tok _ _ _ x)) agk) (ai Y (ai Y trivial)))))) Y (by show n - (i+1) < n - i;omega)
 ·have hj:n≤i:=by have h:¬(i:Int) < (n:Int):=of_decide_eq_false e12;omega
  obtain⟨rfl,rfl,rfl⟩:=ajv hj hg;refine au ?_;refine rsc0 (fun _ _ _=>trivial) (fun e=>by cases e) (ut (n:=3) hF dx) ?_;refine au ?_;refine pl (ι:={p:Nat×List Fm×List Nat // p.1≤(nx 3 (boxQ n r).2).1∧(p.2.1++(ja ((nx 3 (boxQ n r).2).1 - p.1) n p.2.2).1,(ja ((nx 3 (boxQ n r).2).1 - p.1) n p.2.2).2)=ja (nx 3 (boxQ n r).2).1 n (nx 3 (boxQ n r).2).2∧p.2.1.length=p.1∧Fdp L p.2.2}) (fun p=>[(0,.box 1000 0),(1,.pv (iP (n:Int))),(4,.box 4 0),(5,.box 5 0),(9,.pv (iP (((nx 3 (boxQ n r).2).1 - p.1.1:Nat):Int)))]) (fun p=>[(4,.box 30 [.nil 35 3 [200],.nil 35 3 [200],.nil 37 4 [138,200]]),(5,.box 30 [.tok 41,.tok 42,.tok 43]),(41,.tok 35 3 [200] ((boxQ n r).1.1.map qC)),(42,.tok 35 3 [200] ((boxQ n r).1.2.map qC)),(43,.tok 37 4 [138,200] (p.1.2.1.map fmC)),(1000,l6 L p.1.2.2)]) [135,30,35,37] (fun p=>(nx 3 (boxQ n r).2).1 - p.1.1) ⟨(0,[],(nx 3 (boxQ n r).2).2),nq _,rfl,rfl,hF.nx 3⟩ (ai Y (ai Y (ai Y (ai Y (ai Y trivial))))) (ai Y (ai Y (ai Y (ai Y (ai Y (ai Y trivial)))))) (fun _=>rfl) ?_;intro ⟨(j,acc,rr2),hj0,hg2,hl3,hF2⟩;simp only at hj0 hg2 hl3 hF2;refine a2 (fun e37=>?_) (fun e37=>?_)
  ·have hk:j < (nx 3 (boxQ n r).2).1:=by have h:(0:Int) < (((nx 3 (boxQ n r).2).1 - j:Nat):Int):=of_decide_eq_true e37;omega
   refine au ?_;refine rsc0 (fun _ _ _=>trivial) (fun e=>by cases e) (og (v:=n) hF2 om) ?_;refine au ?_;refine rp0 su (by rw[List.length_map];show acc.length+1≤_;omega) Y Y Y Y Y Y Y Y ?_;refine aa (c:=afv om hk) ?_;refine au ?_;exact pe ⟨(j+1,acc++[(ep n rr2).1],(ep n rr2).2),hk,a30 hk hg2,by rw[List.length_append,hl3];rfl,hF2.form _⟩ (ai Y (ai Y (ai Y (ai Y (ai Y trivial))))) (ai Y (ai Y (ai Y (ai Y (ai (congrArg (fun x=>some (Res.tok _ _ _ x)) a50) (ai Y trivial)))))) Y (by show (nx 3 (boxQ n r).2).1 - (j+1) < (nx 3 (boxQ n r).2).1 - j;omega)
  ·have hk:(nx 3 (boxQ n r).2).1≤j:=by have h:¬(0:Int) < (((nx 3 (boxQ n r).2).1 - j:Nat):Int):=of_decide_eq_false e37;omega
   refine au ?_;exact rets Y (congrArg (fun l=>SV.pv (rgP ⟨(boxQ n r).1.1,(boxQ n r).1.2,l⟩)) (vx hk hg2).1) (congrArg (fun l=>some (l6 L l)) (vx hk hg2).2)
theorem ahw {L r:List Nat} (h:Fdp L r):SCalls Tryz.prog (fun _=>True) TF 63 [.box 1000 0] (some (l6 L r)) (l6 L (am r).2) (.pv (qyP (am r).1)) false:=by
 have g:=so r;have g1:=g.i9;have g2:=g.u9;refine pcs [135,30,27,39] Tryz.func63 (fun D hH hF=>?_);refine au ?_;refine rsc0 (fun _ _ _=>trivial) (fun e=>by cases e) (ai1 h) ?_;refine au ?_;refine rsc0 (fun _ _ _=>trivial) (fun e=>by cases e) (aht (n:=(dn r).1.inputs) h.graph om) ?_;refine aa (c:=ajy om om) ?_;refine rsc0 (fun _ _ _=>trivial) (fun e=>by cases e) (og (v:=(dn r).1.inputs+(dn r).1.units.length) (h.graph.region _) om) ?_;refine au ?_;exact rets Y (Y) Y
theorem a7x {x:Sv} {L:List Nat} (hl:∀y∈L,y < 256) (hn:L.length≤1000):PCallsW (By x L) Tryz.prog TQ 24 [.raw x.v] (qyP (am L).1):=by
 refine pcW [135,39] (by kernel_rfl) Tryz.func24 rfl rfl (fun D hF hM hH=>?_);refine au ?_;refine rsc0 (fun _ _ g=>hH.gr (g.gr hM)) (fun _=>hF) (akx hn) ?_;refine rsc0 (fun _ _ _=>trivial) (fun e=>by cases e) (ahw (Fdp.one hl hn)) ?_;exact ar (c:=rfl)
def IsRow (k:IntKind) (w:World) (a:Option Addr) (len cap:Nat) (zs:List Int):Prop:=
 (a=none∧len=0∧cap=0∧zs=[])∨
 ∃x,a=some x∧len≤cap∧cap≤maxLen∧zs.length=cap∧(∀i,i < zs.length→w.cell? (x.add i)=some (.int k (zs.getD i 0)))∧∀n∈zs,(Lit.int k n).wf=true
section
variable {k:IntKind} {w:World} {a:Option Addr} {len cap:Nat} {zs:List Int}
theorem IsRow.caps (h:IsRow k w a len cap zs):len≤cap∧cap≤maxLen:=by
 rcases h with ⟨_,rfl,rfl,_⟩ | ⟨x,_,h1,h2,_⟩
 ·exact⟨nr _,nq _⟩
 ·exact⟨h1,h2⟩
theorem IsRow.nil0 (h:IsRow k w a len cap zs) (h0:a=none):cap=0:=by
 rcases h with ⟨_,rfl,rfl,_⟩ | ⟨x,e,_⟩
 ·rfl
 ·rw[h0] at e;cases e
theorem IsRow.lens (h:IsRow k w a len cap zs):(zs.take len).length=len:=by
 rcases h with ⟨_,rfl,rfl,rfl⟩ | ⟨x,_,h1,h2,h3,_⟩
 ·rfl
 ·rw[List.length_take];omega
theorem IsRow.sees (h:IsRow k w a len cap zs):Sees w w.heap.size a ((zs.take len).map (Value.int k)):=by
 rcases h with ⟨_,rfl,rfl,rfl⟩ | ⟨x,rfl,h1,h2,h3,h4,_⟩
 ·exact Sees.nil
 ·intro j u hu;rw[List.getElem?_map] at hu;have hj:j < (zs.take len).length:=by
   rcases Nat.lt_or_ge j (zs.take len).length with h | h
   ·exact h
   ·rw[List.getElem?_eq_none h] at hu;cases hu
  rw[List.length_take] at hj;rw[List.getElem?_take_of_lt om,ge om] at hu;simp only[Option.map_some,oq] at hu;have hc:=h4 j om;rw[List.getD_eq_getElem?_getD,ge om,Option.getD_some,hu] at hc;exact⟨x,rfl,by have:=World.block_lt_of_cell? w _ hc;rwa [ea] at this,hc⟩
theorem IsRow.bytes (h:IsRow .u8 w a len cap zs):∀x∈zs.take len,0≤x∧x≤255:=by
 rcases h with ⟨_,rfl,rfl,rfl⟩ | ⟨x,rfl,h1,h2,h3,h4,h5⟩
 ·intro x hx;simp at hx
 ·intro x hx;exact bounds_u8 (h5 x (List.mem_of_mem_take hx))
def qo (zs:List Int) (len:Nat):List Nat:=(zs.take len).map Int.toNat
theorem IsRow.nats (h:IsRow .u8 w a len cap zs):(qo zs len).map bv=(zs.take len).map (Value.int .u8):=by
 unfold qo;rw[List.map_map]
 apply List.map_congr_left
 intro x hx;have:=(h.bytes x hx).1;show Value.int .u8 ((x.toNat:Nat):Int)=Value.int .u8 x;rw[Int.toNat_of_nonneg this]
theorem IsRow.is (h:IsRow .u8 w a len cap zs):Sv.Is w ⟨a,len,cap⟩ 1 ((qo zs len).map bv):=by
 refine⟨?_,h.caps.1,by have:=h.caps.2;unfold maxLen at this;exact this,h.nil0,?_⟩
 ·rw[h.nats,List.length_map,h.lens,Nat.mul_one]
 ·rw[h.nats];exact h.sees
theorem IsRow.lim (h:IsRow .u8 w a len cap zs):∀y∈qo zs len,y < 256:=fun y hy=>by
 unfold qo at hy;obtain⟨x,hx,rfl⟩:=List.mem_map.1 hy;have:=h.bytes x hx;omega
end
theorem aed {l:List Dc} {f:Nat} {caps:List PV} {F:Dc→Bool} (hl:l.length≤100000) (h:∀d∈l,PCalls Tryz.prog TU f (dcP d::caps) (bP (F d))):PCalls Tryz.prog TU 185 [dcsP l,.fn f caps] (iP (idxG F l 0)):=by
 refine pcA [] Tryz.func185 (fun D=>?_);refine au ?_;refine pl (ι:={i:Nat // i≤l.length∧idxG F (l.drop i) i=idxG F l 0}) (fun i=>[(0,.pv (dcsP l)),(1,.pv (.fn f caps)),(7,.pv (iP ((l.map dcC).length:Int))),(8,.pv (iP i.1))]) (fun _=>[]) [] (fun i=>l.length - i.1) ⟨0,nq _,rfl⟩ (c4 Y Y Y Y trivial) trivial (fun _=>rfl) ?_;intro ⟨i,hi0,hg⟩;refine a2 (fun e9=>?_) (fun e9=>?_)
 ·have hi:i < l.length:=db e9;refine ax (c:=(aj (ah hi))) ?_;refine au ?_;refine rcv (h _ (mg (ah hi))) Y Y Y Y Y Y Y Y Y ?_;refine a2 (fun e16=>?_) (fun e16=>?_)
  ·exact ar (c:=congrArg iP (a6y hg hi e16))
  ·refine aa (c:=ae (by show i≤_;omega)) ?_;refine au ?_;exact pe ⟨i+1,hi,a3o hg hi e16⟩ (c4 Y Y Y Y trivial) trivial Y (by show l.length - (i+1) < l.length - i;omega)
 ·have hj:l.length≤i:=dw e9;exact ar (c:=congrArg iP (a6z hg hj))
theorem y9 {l:List Dc} {f:Nat} {caps:List PV} {F:Dc→Bool} (hl:l.length≤100000) (h:∀d∈l,PCalls Tryz.prog TU f (dcP d::caps) (bP (F d))):PCalls Tryz.prog TU 135 [dcsP l,.fn f caps] (bP (l.any F)):=by
 refine pcA [] Tryz.func135 (fun D=>?_);refine ac (c:=aed hl h) ?_;exact ar (c:=congrArg bP a1q)
theorem aee {l:List Fm} {f:Nat} {caps:List PV} {F:Fm→Bool} (hl:l.length≤100000) (h:∀d∈l,PCalls Tryz.prog TU f (fmP d::caps) (bP (F d))):PCalls Tryz.prog TU 181 [b7 l,.fn f caps] (iP (idxG F l 0)):=by
 refine pcA [] Tryz.func181 (fun D=>?_);refine au ?_;refine pl (ι:={i:Nat // i≤l.length∧idxG F (l.drop i) i=idxG F l 0}) (fun i=>[(0,.pv (b7 l)),(1,.pv (.fn f caps)),(7,.pv (iP ((l.map fmC).length:Int))),(8,.pv (iP i.1))]) (fun _=>[]) [] (fun i=>l.length - i.1) ⟨0,nq _,rfl⟩ (c4 Y Y Y Y trivial) trivial (fun _=>rfl) ?_;intro ⟨i,hi0,hg⟩;refine a2 (fun e9=>?_) (fun e9=>?_)
 ·have hi:i < l.length:=db e9;refine ax (c:=(aj (ah hi))) ?_;refine au ?_;refine rcv (h _ (mg (ah hi))) Y Y Y Y Y Y Y Y Y ?_;refine a2 (fun e16=>?_) (fun e16=>?_)
  ·exact ar (c:=congrArg iP (a6y hg hi e16))
  ·refine aa (c:=ae (by show i≤_;omega)) ?_;refine au ?_;exact pe ⟨i+1,hi,a3o hg hi e16⟩ (c4 Y Y Y Y trivial) trivial Y (by show l.length - (i+1) < l.length - i;omega)
 ·have hj:l.length≤i:=dw e9;exact ar (c:=congrArg iP (a6z hg hj))
theorem ya {l:List Fm} {f:Nat} {caps:List PV} {F:Fm→Bool} (hl:l.length≤100000) (h:∀d∈l,PCalls Tryz.prog TU f (fmP d::caps) (bP (F d))):PCalls Tryz.prog TU 128 [b7 l,.fn f caps] (bP (l.any F)):=by
 refine pcA [] Tryz.func128 (fun D=>?_);refine ac (c:=aee hl h) ?_;exact ar (c:=congrArg bP a1q)
theorem agp {q:Q}:PCalls Tryz.prog [] 223 [ratP q] (bP (decide (q=Q.zero))):=by
 refine pcA [35] Tryz.func223 (fun D=>?_);refine a2 (fun e6=>?_) (fun e6=>?_)
 ·replace e6:=gq e6;refine a2 (fun e12=>?_) (fun e12=>?_)
  ·exact ar (c:=by rw[a0e];simp only[e6,e12,sb])
  ·exact ar (c:=by rw[a0e];simp only[e6,e12,sb])
 ·replace e6:=i7 e6;exact ar (c:=by rw[a0e];simp only[e6,sb])
theorem aal {q:Qr} {d:Dc} {s:Nat} (h:d.at_.S s) (hs:s≤10000):PCalls Tryz.prog [] 186 [qyP q,dcP d] (bP (dj q d)):=by
 refine pcA [39,42] Tryz.func186 (fun D=>?_);refine a2 (fun e7=>?_) (fun e7=>?_)
 ·refine a2 (fun e13=>?_) (fun e13=>?_)
  ·refine a2 (fun e22=>?_) (fun e22=>?_)
   ·refine ac (c:=agp) ?_;exact ar (c:=by (try simp only[List.length_map] at *);simp only[dj,e7,e13,e22,sb]<;>rfl)
   ·exact ar (c:=by (try simp only[List.length_map] at *);simp only[dj,e7,e13,e22,sb]<;>rfl)
  ·exact ar (c:=by (try simp only[List.length_map] at *);simp only[dj,e7,e13,sb]<;>rfl)
 ·refine a2 (fun e7'=>?_) (fun e7'=>?_)
  ·refine a2 (fun e13=>?_) (fun e13=>?_)
   ·refine a2 (fun e22=>?_) (fun e22=>?_)
    ·refine ac (c:=agp) ?_;exact ar (c:=by (try simp only[List.length_map] at *);simp only[dj,e7,e7',e13,e22,sb]<;>rfl)
    ·exact ar (c:=by (try simp only[List.length_map] at *);simp only[dj,e7,e7',e13,e22,sb]<;>rfl)
   ·exact ar (c:=by (try simp only[List.length_map] at *);simp only[dj,e7,e7',e13,sb]<;>rfl)
  ·refine a2 (fun e27=>?_) (fun e27=>?_)
   ·refine a2 (fun e33=>?_) (fun e33=>?_)
    ·refine a2 (fun e41=>?_) (fun e41=>?_)
     ·refine ac (c:=lz (h.sm hs) h.ok) ?_;exact ar (c:=by (try simp only[List.length_map] at *);simp only[dj,e7,e7',e27,e33,e41,sb]<;>rfl)
     ·exact ar (c:=by (try simp only[List.length_map] at *);simp only[dj,e7,e7',e27,e33,e41,sb]<;>rfl)
    ·exact ar (c:=by (try simp only[List.length_map] at *);simp only[dj,e7,e7',e27,e33,sb]<;>rfl)
   ·refine a2 (fun e27'=>?_) (fun e27'=>?_)
    ·refine a2 (fun e33=>?_) (fun e33=>?_)
     ·refine a2 (fun e41=>?_) (fun e41=>?_)
      ·refine ac (c:=lz (h.sm hs) h.ok) ?_;exact ar (c:=by (try simp only[List.length_map] at *);simp only[dj,e7,e7',e27,e27',e33,e41,sb]<;>rfl)
      ·exact ar (c:=by (try simp only[List.length_map] at *);simp only[dj,e7,e7',e27,e27',e33,e41,sb]<;>rfl)
     ·exact ar (c:=by (try simp only[List.length_map] at *);simp only[dj,e7,e7',e27,e27',e33,sb]<;>rfl)
    ·exact ar (c:=by (try simp only[List.length_map] at *);simp only[dj,e7,e7',e27,e27',sb]<;>rfl)
theorem a86 {s:Sc} {d:Dc} {n:Nat} {kind unit:Int} (h:d.at_.S n) (hn:n≤10000):PCalls Tryz.prog TU 386 [dcP d,.ptr 3 [iP kind],.ptr 3 [iP unit],.ptr 85 (scC s)] (bP (hitQ s.q kind unit d)):=by
 refine pcA [42] Tryz.func386 (fun D=>?_);refine a2 (fun e10=>?_) (fun e10=>?_)
 ·refine a2 (fun e16=>?_) (fun e16=>?_)
  ·refine ac (c:=aal h hn) ?_;exact ar (c:=by (try simp only[List.length_map] at *);simp only[hitQ,e10,e16,sb]<;>rfl)
  ·exact ar (c:=by (try simp only[List.length_map] at *);simp only[hitQ,e10,e16,sb]<;>rfl)
 ·exact ar (c:=by (try simp only[List.length_map] at *);simp only[hitQ,e10,sb]<;>rfl)
theorem a2y {s:Sc} {a b:Nat} {kind unit:Int} (h:s.Va a b):PCalls Tryz.prog TU 337 [scP s,iP kind,iP unit] (bP (jp s kind unit)):=by
 refine pcA [85,3] Tryz.func337 (fun D=>?_);refine au ?_;refine rmk Y Y Y Y ?_;refine ac (c:=y9 (F:=hitQ s.q kind unit) (by have:=h.p9;omega) fun d hd=>a86 (s:=s) (h.path d hd) (by have:=h.a9;omega)) ?_;exact ar (c:=rfl)
theorem a84 {q:Q} {s:Nat} (h:q.S s) (hs:s≤10000):PCalls Tryz.prog TF 277 [ratP q] (fmP (numR q)):=by
 refine pcA [37,35] Tryz.func277 (fun D=>?_);refine ac (c:=aaq (h.sm hs)) ?_;exact ar (c:=by rw[h.canon];rfl)
theorem ae5 (v:Int):PCalls Tryz.prog TF 276 [iP v] (fmP (varR v)):=by
 refine pcA [37] Tryz.func276 (fun D=>?_);refine ac (c:=p_of 1 dx dx) ?_;exact ar (c:=rfl)
theorem a4r {f:Fm} {s l:Nat} (h:f.S s l) (hs:s≤10000) (hl:l≤400):PCalls Tryz.prog TF 278 [fmP f] (fmP (Fm.scaleR f Q.mone)):=by
 refine pcA [37] Tryz.func278 (fun D=>?_);refine ac (c:=p_of (-1) dx dx) ?_;refine ac (c:=rj (q:=Q.mone) h ez hs dx hl) ?_;exact ar (c:=rfl)
theorem aak {s:Sc} {a b:Nat} {n unit:Int} {upper:Bool} (h:s.Va a b):PCalls Tryz.prog TU 279 [scP s,iP n,iP unit,bP upper] (.tup [ratP (b8 s.lems n unit upper).1,bP (b8 s.lems n unit upper).2]):=by
 refine pcA [85,35] Tryz.func279 (fun D=>?_);refine a2 (fun e12=>?_) (fun e12=>?_)
 ·exact ar (c:=by (try simp only[List.length_map] at *);simp only[b8,e12,sb]<;>rfl)
 ·have g1:1≤n:=by have:=of_decide_eq_false e12;omega
  refine a2 (fun e19=>?_) (fun e19=>?_)
  ·exact ar (c:=by (try simp only[List.length_map] at *);simp only[b8,e12,e19,sb]<;>rfl)
  ·have g2:n≤s.lems.length:=by have:=of_decide_eq_false e19;rw[List.length_map] at this;omega
   have h1:0≤n - 1:=by omega
   have h2:n - 1 < s.lems.length:=by omega
   have h9:=h.l9;refine aa (c:=cw om om om om) ?_;refine ay (z:=toN h1) (c:=(aj (dy h1 h2))) ?_;refine a2 (fun e30=>?_) (fun e30=>?_)
   ·exact ar (c:=by (try simp only[List.length_map] at *);simp only[b8,e12,e19,e30,sb]<;>rfl)
   ·refine aa (c:=cw om om om om) ?_;refine ay (z:=toN h1) (c:=(aj (dy h1 h2))) ?_;refine au ?_;refine re0 (((atZ s.lems (n - 1)).upper != upper)) Y Y Y Y Y Y (.inr ⟨rfl,rfl⟩) ?_;refine a2 (fun e40=>?_) (fun e40=>?_)
    ·exact ar (c:=by (try simp only[List.length_map] at *);simp only[b8,e12,e19,e30,e40,sb]<;>rfl)
    ·refine aa (c:=cw om om om om) ?_;refine ay (z:=toN h1) (c:=(aj (dy h1 h2))) ?_;refine ac (c:=aaq ((h.lems _ (bi h1 h2)).sm (by have:=h.b9;omega))) ?_;exact ar (c:=by (try simp only[List.length_map] at *);simp only[b8,e12,e19,e30,e40,sb]<;>rfl)
theorem aac {s:Sc} {a b n:Nat} {r:Rw} {v p:Fm} {l u:Q×Bool} (h:s.Va a b) (hq:l.1.S n) (hn:n≤10000):PCalls Tryz.prog TU 280 [.agg (usC s r v p l u)] (bP (onQ s r l)):=by
 refine pcA [367] Tryz.func280 (fun D=>?_);refine a2 (fun e7=>?_) (fun e7=>?_)
 ·refine a2 (fun e12=>?_) (fun e12=>?_)
  ·refine ac (c:=a2y h) ?_;refine a2 (fun e20=>?_) (fun e20=>?_)
   ·exact ar (c:=by (try simp only[List.length_map] at *);simp only[onQ,e7,e12,e20,sb]<;>rfl)
   ·refine a2 (fun e23=>?_) (fun e23=>?_)
    ·refine ac (c:=a0z (hq.sm hn)) ?_;exact ar (c:=by (try simp only[List.length_map] at *);simp only[onQ,e7,e12,e20,e23,sb]<;>rfl)
    ·exact ar (c:=by (try simp only[List.length_map] at *);simp only[onQ,e7,e12,e20,e23,sb]<;>rfl)
  ·refine a2 (fun e23=>?_) (fun e23=>?_)
   ·refine ac (c:=a0z (hq.sm hn)) ?_;exact ar (c:=by (try simp only[List.length_map] at *);simp only[onQ,e7,e12,e23,sb]<;>rfl)
   ·exact ar (c:=by (try simp only[List.length_map] at *);simp only[onQ,e7,e12,e23,sb]<;>rfl)
 ·exact ar (c:=by (try simp only[List.length_map] at *);simp only[onQ,e7,sb]<;>rfl)
theorem a6a {s:Sc} {a b n:Nat} {r:Rw} {v p:Fm} {l u:Q×Bool} (h:s.Va a b) (hq:u.1.S n) (hn:n≤10000):PCalls Tryz.prog TU 281 [.agg (usC s r v p l u)] (bP (offQ s r u)):=by
 refine pcA [367] Tryz.func281 (fun D=>?_);refine a2 (fun e7=>?_) (fun e7=>?_)
 ·refine a2 (fun e12=>?_) (fun e12=>?_)
  ·refine ac (c:=a2y h) ?_;refine a2 (fun e20=>?_) (fun e20=>?_)
   ·exact ar (c:=by (try simp only[List.length_map] at *);simp only[offQ,e7,e12,e20,sb]<;>rfl)
   ·refine a2 (fun e23=>?_) (fun e23=>?_)
    ·refine ac (c:=a0z (hq.sm hn)) ?_;exact ar (c:=by (try simp only[List.length_map] at *);simp only[offQ,e7,e12,e20,e23,sb]<;>rfl)
    ·exact ar (c:=by (try simp only[List.length_map] at *);simp only[offQ,e7,e12,e20,e23,sb]<;>rfl)
  ·refine a2 (fun e23=>?_) (fun e23=>?_)
   ·refine ac (c:=a0z (hq.sm hn)) ?_;exact ar (c:=by (try simp only[List.length_map] at *);simp only[offQ,e7,e12,e23,sb]<;>rfl)
   ·exact ar (c:=by (try simp only[List.length_map] at *);simp only[offQ,e7,e12,e23,sb]<;>rfl)
 ·exact ar (c:=by (try simp only[List.length_map] at *);simp only[offQ,e7,sb]<;>rfl)
theorem alc {s:Sc} {a b:Nat} {r:Rw} (h:s.Va a b):PCalls Tryz.prog TF 228 [scP s,rwP r] (.tup [fmP (cg s r).1,bP (cg s r).2]):=by
 refine pcA [85,96,37,27,367] Tryz.func228 (fun D=>?_);refine a2 (fun e15=>?_) (fun e15=>?_)
 ·exact ar (c:=by (try simp only[List.length_map] at *);simp only[cg,cd,e15,sb]<;>rfl)
 ·have g0:=uw e15;refine a2 (fun e22=>?_) (fun e22=>?_)
  ·exact ar (c:=by (try simp only[List.length_map] at *);simp only[cg,cd,e15,e22,sb]<;>rfl)
  ·have g1:=yu e22;have hn:=h.n9;have hv:(varR (s.q.g.inputs+r.index)).S 1 1:=fk _;have hp:(atZ s.q.g.units r.index).S 2 8:=(h.q.us _ (bi g0 g1)).up h.a9 h.n9;have hl:(b8 s.lems r.lo r.index false).1.S 8:=(ox h.lems h.b1).up h.b9;have hu:(b8 s.lems r.hi r.index true).1.S 8:=(ox h.lems h.b1).up h.b9;refine aa (c:=jg om om om om) ?_;refine ac (c:=ae5 _) ?_;refine ay (z:=toN g0) (c:=(aj (dy g0 g1))) ?_;refine ac (c:=aak h) ?_;refine ac (c:=aak h) ?_;refine a2 (fun e65=>?_) (fun e65=>?_)
   ·refine ac (c:=y7 r) ?_;refine a2 (fun e61=>?_) (fun e61=>?_)
    ·exact ar (c:=by (try rw[hp.cn.addR_zero]);(try simp only[List.length_map] at *);simp only[cg,cd,e15,e22,e65,e61,sb]<;>rfl)
    ·refine akF (c:=by exact (kne e65 dx)) ?_;refine akF (c:=by exact (kne e65 dx)) ?_;refine akF (c:=by exact (kne e65 dx)) ?_;refine akF (c:=by exact (kne e65 dx)) ?_;refine akF (c:=by exact (kne e65 dx)) ?_;refine akF (c:=by exact (kne e65 dx)) ?_;refine akF (c:=by exact (kne e65 dx)) ?_;refine akF (c:=by exact (kne e65 dx)) ?_;exact ar (c:=by (try rw[hp.cn.addR_zero]);(try simp only[List.length_map] at *);simp only[cg,cd,e15,e22,e65,e61,sb]<;>rfl)
   ·refine a2 (fun e75=>?_) (fun e75=>?_)
    ·refine ac (c:=y7 r) ?_;refine a2 (fun e71=>?_) (fun e71=>?_)
     ·refine ac (c:=ng hv hp dx dx dx dx) ?_;exact ar (c:=by (try rw[hp.cn.addR_zero]);(try simp only[List.length_map] at *);simp only[cg,cd,e15,e22,e65,e75,e71,sb]<;>rfl)
     ·refine akF (c:=by exact (kne e75 dx)) ?_;refine akF (c:=by exact (kne e75 dx)) ?_;refine akF (c:=by exact (kne e75 dx)) ?_;refine akF (c:=by exact (kne e75 dx)) ?_;refine akF (c:=by exact (kne e75 dx)) ?_;refine akF (c:=by exact (kne e75 dx)) ?_;refine akF (c:=by exact (kne e75 dx)) ?_;exact ar (c:=by (try rw[hp.cn.addR_zero]);(try simp only[List.length_map] at *);simp only[cg,cd,e15,e22,e65,e75,e71,sb]<;>rfl)
    ·refine a2 (fun e88=>?_) (fun e88=>?_)
     ·refine ac (c:=aac (l:=b8 s.lems r.lo r.index false) (u:=b8 s.lems r.hi r.index true) h hl dx) ?_;refine a2 (fun e84=>?_) (fun e84=>?_)
      ·refine ac (c:=aam hp fm_zero_S dx dx dx dx) ?_;exact ar (c:=by (try rw[hp.cn.addR_zero]);(try simp only[List.length_map] at *);simp only[cg,cd,e15,e22,e65,e75,e88,e84,sb]<;>rfl)
      ·refine akF (c:=by exact (kne e88 dx)) ?_;refine akF (c:=by exact (kne e88 dx)) ?_;refine akF (c:=by exact (kne e88 dx)) ?_;refine akF (c:=by exact (kne e88 dx)) ?_;refine akF (c:=by exact (kne e88 dx)) ?_;refine akF (c:=by exact (kne e88 dx)) ?_;exact ar (c:=by (try rw[hp.cn.addR_zero]);(try simp only[List.length_map] at *);simp only[cg,cd,e15,e22,e65,e75,e88,e84,sb]<;>rfl)
     ·refine a2 (fun e100=>?_) (fun e100=>?_)
      ·refine ac (c:=aac (l:=b8 s.lems r.lo r.index false) (u:=b8 s.lems r.hi r.index true) h hl dx) ?_;refine a2 (fun e96=>?_) (fun e96=>?_)
       ·refine ac (c:=ng hp hv dx dx dx dx) ?_;exact ar (c:=by (try rw[hp.cn.addR_zero]);(try simp only[List.length_map] at *);simp only[cg,cd,e15,e22,e65,e75,e88,e100,e96,sb]<;>rfl)
       ·refine akF (c:=by exact (kne e100 dx)) ?_;refine akF (c:=by exact (kne e100 dx)) ?_;refine akF (c:=by exact (kne e100 dx)) ?_;refine akF (c:=by exact (kne e100 dx)) ?_;refine akF (c:=by exact (kne e100 dx)) ?_;exact ar (c:=by (try rw[hp.cn.addR_zero]);(try simp only[List.length_map] at *);simp only[cg,cd,e15,e22,e65,e75,e88,e100,e96,sb]<;>rfl)
      ·refine a2 (fun e113=>?_) (fun e113=>?_)
       ·refine ac (c:=a6a (l:=b8 s.lems r.lo r.index false) (u:=b8 s.lems r.hi r.index true) h hu dx) ?_;refine a2 (fun e109=>?_) (fun e109=>?_)
        ·refine ac (c:=a4r hp dx dx) ?_;exact ar (c:=by (try rw[hp.cn.addR_zero]);(try simp only[List.length_map] at *);simp only[cg,cd,e15,e22,e65,e75,e88,e100,e113,e109,sb]<;>rfl)
        ·refine akF (c:=by exact (kne e113 dx)) ?_;refine akF (c:=by exact (kne e113 dx)) ?_;refine akF (c:=by exact (kne e113 dx)) ?_;refine akF (c:=by exact (kne e113 dx)) ?_;exact ar (c:=by (try rw[hp.cn.addR_zero]);(try simp only[List.length_map] at *);simp only[cg,cd,e15,e22,e65,e75,e88,e100,e113,e109,sb]<;>rfl)
       ·refine a2 (fun e124=>?_) (fun e124=>?_)
        ·refine ac (c:=a6a (l:=b8 s.lems r.lo r.index false) (u:=b8 s.lems r.hi r.index true) h hu dx) ?_;refine a2 (fun e120=>?_) (fun e120=>?_)
         ·refine ac (c:=a4r hv dx dx) ?_;exact ar (c:=by (try rw[hp.cn.addR_zero]);(try simp only[List.length_map] at *);simp only[cg,cd,e15,e22,e65,e75,e88,e100,e113,e124,e120,sb]<;>rfl)
         ·refine akF (c:=by exact (kne e124 dx)) ?_;refine akF (c:=by exact (kne e124 dx)) ?_;refine akF (c:=by exact (kne e124 dx)) ?_;exact ar (c:=by (try rw[hp.cn.addR_zero]);(try simp only[List.length_map] at *);simp only[cg,cd,e15,e22,e65,e75,e88,e100,e113,e124,e120,sb]<;>rfl)
        ·refine a2 (fun e135=>?_) (fun e135=>?_)
         ·refine a2 (fun e139=>?_) (fun e139=>?_)
          ·refine a2 (fun e131=>?_) (fun e131=>?_)
           ·refine ac (c:=a84 hl dx) ?_;refine ac (c:=ng hp (dm hl) dx dx dx dx) ?_;exact ar (c:=by (try rw[hp.cn.addR_zero]);(try simp only[List.length_map] at *);simp only[cg,cd,e15,e22,e65,e75,e88,e100,e113,e124,e135,e139,e131,sb]<;>rfl)
           ·refine akF (c:=by exact (kne e135 dx)) ?_;refine akF (c:=by exact (kne e135 dx)) ?_;exact ar (c:=by (try rw[hp.cn.addR_zero]);(try simp only[List.length_map] at *);simp only[cg,cd,e15,e22,e65,e75,e88,e100,e113,e124,e135,e139,e131,sb]<;>rfl)
          ·refine akF (c:=by exact (kne e135 dx)) ?_;refine akF (c:=by exact (kne e135 dx)) ?_;exact ar (c:=by (try rw[hp.cn.addR_zero]);(try simp only[List.length_map] at *);simp only[cg,cd,e15,e22,e65,e75,e88,e100,e113,e124,e135,e139,sb]<;>rfl)
         ·refine a2 (fun e154=>?_) (fun e154=>?_)
          ·refine a2 (fun e158=>?_) (fun e158=>?_)
           ·refine a2 (fun e150=>?_) (fun e150=>?_)
            ·refine ac (c:=a84 hu dx) ?_;refine ac (c:=ng (dm hu) hp dx dx dx dx) ?_;exact ar (c:=by (try rw[hp.cn.addR_zero]);(try simp only[List.length_map] at *);simp only[cg,cd,e15,e22,e65,e75,e88,e100,e113,e124,e135,e154,e158,e150,sb]<;>rfl)
            ·refine akF (c:=by exact (kne e154 dx)) ?_;exact ar (c:=by (try rw[hp.cn.addR_zero]);(try simp only[List.length_map] at *);simp only[cg,cd,e15,e22,e65,e75,e88,e100,e113,e124,e135,e154,e158,e150,sb]<;>rfl)
           ·refine akF (c:=by exact (kne e154 dx)) ?_;exact ar (c:=by (try rw[hp.cn.addR_zero]);(try simp only[List.length_map] at *);simp only[cg,cd,e15,e22,e65,e75,e88,e100,e113,e124,e135,e154,e158,sb]<;>rfl)
          ·refine a2 (fun e173=>?_) (fun e173=>?_)
           ·refine a2 (fun e177=>?_) (fun e177=>?_)
            ·refine a2 (fun e181=>?_) (fun e181=>?_)
             ·refine ac (c:=a0z (hl.sm dx)) ?_;refine a2 (fun e187=>?_) (fun e187=>?_)
              ·refine ac (c:=a0z (hu.sm dx)) ?_;refine a2 (fun e169=>?_) (fun e169=>?_)
               ·refine ac (c:=a84 hl dx) ?_;refine ac (c:=ng hp (dm hl) dx dx dx dx) ?_;refine ac (c:=rj (hp.subR (dm hl)) hu dx dx dx) ?_;refine ac (c:=alg hu hl dx dx) ?_;refine ac (c:=rj hv (hu.add hl.neg) dx dx dx) ?_;refine ac (c:=ng ((hp.subR (dm hl)).scaleR hu) (hv.scaleR (hu.add hl.neg)) dx dx dx dx) ?_;exact ar (c:=by (try rw[hp.cn.addR_zero]);(try simp only[List.length_map] at *);simp only[cg,cd,e15,e22,e65,e75,e88,e100,e113,e124,e135,e154,e173,e177,e181,e187,e169,sb]<;>rfl)
               ·exact ar (c:=by (try rw[hp.cn.addR_zero]);(try simp only[List.length_map] at *);simp only[cg,cd,e15,e22,e65,e75,e88,e100,e113,e124,e135,e154,e173,e177,e181,e187,e169,sb]<;>rfl)
              ·exact ar (c:=by (try rw[hp.cn.addR_zero]);(try simp only[List.length_map] at *);simp only[cg,cd,e15,e22,e65,e75,e88,e100,e113,e124,e135,e154,e173,e177,e181,e187,sb]<;>rfl)
             ·exact ar (c:=by (try rw[hp.cn.addR_zero]);(try simp only[List.length_map] at *);simp only[cg,cd,e15,e22,e65,e75,e88,e100,e113,e124,e135,e154,e173,e177,e181,sb]<;>rfl)
            ·exact ar (c:=by (try rw[hp.cn.addR_zero]);(try simp only[List.length_map] at *);simp only[cg,cd,e15,e22,e65,e75,e88,e100,e113,e124,e135,e154,e173,e177,sb]<;>rfl)
           ·exact ar (c:=by (try rw[hp.cn.addR_zero]);(try simp only[List.length_map] at *);simp only[cg,cd,e15,e22,e65,e75,e88,e100,e113,e124,e135,e154,e173,sb]<;>rfl)
theorem a69 {a b:Int} {x:Bool} (h:(a == 0&&b == 0)=false):((a != 0)||((b != 0)||x))=true:=by
 show (!(a == 0)||(!(b == 0)||x))=true;cases h1:a == 0<;>cases h2:b == 0<;>simp_all
theorem aa7 {a b:Int} (h:(a == 0&&b == 0)=true):(a != 0)=false∧(b != 0)=false:=by
 show (!(a == 0))=false∧(!(b == 0))=false;cases h1:a == 0<;>cases h2:b == 0<;>simp_all
theorem aig {s:Sc} {a b:Nat} {r:Rw} (h:s.Va a b) (h5:decide (5≤r.kind)=false):PCalls Tryz.prog TF 227 [scP s,rwP r] (.tup [fmP (bq s r).1,bP (bq s r).2]):=by
 refine pcA [85,96,37,30,42] Tryz.func227 (fun D=>?_);refine ac (c:=y7 r) ?_;refine a2 (fun e18=>?_) (fun e18=>?_)
 ·replace e18:=gq e18;exact ar (c:=by unfold bq;rw[h5];simp only[cond_false];rw[a69 e18];rfl)
 ·replace e18:=i7 e18;obtain⟨e18b,e18c⟩:=aa7 e18;refine a2 (fun e21=>?_) (fun e21=>?_)
  ·exact ar (c:=by unfold bq;rw[h5];simp only[cond_false];first | (rw[a69 e18];rfl) | (rw[e18b,e18c,e21];rfl))
  ·have g0:=uw e21;refine a2 (fun e27=>?_) (fun e27=>?_)
   ·refine a2 (fun e23=>?_) (fun e23=>?_)
    ·have g1:=yw e23;refine ac (c:=ae5 _) ?_;refine ay (z:=toN g0) (c:=(aj (dy g0 g1))) ?_;refine ac (c:=a84 ((h.q.rg.los _ (bi g0 g1)).up h.a9) dx) ?_;refine ac (c:=ng (fk _) (dm ((h.q.rg.los _ (bi g0 g1)).up h.a9)) dx dx dx dx) ?_;exact ar (c:=by (try simp only[List.length_map] at *);simp only[bq,i6,h5,e18,e18b,e18c,e21,e27,e23,sb]<;>rfl)
    ·refine akF (c:=by exact (kne e27 dx)) ?_;refine akF (c:=by exact (kne e27 dx)) ?_;refine akF (c:=by exact (kne e27 dx)) ?_;exact ar (c:=by (try simp only[List.length_map] at *);simp only[bq,i6,h5,e18,e18b,e18c,e21,e27,e23,sb]<;>rfl)
   ·refine a2 (fun e47=>?_) (fun e47=>?_)
    ·refine a2 (fun e43=>?_) (fun e43=>?_)
     ·have g1:=yw e43;refine ay (z:=toN g0) (c:=(aj (dy g0 g1))) ?_;refine ac (c:=a84 ((h.q.rg.his _ (bi g0 g1)).up h.a9) dx) ?_;refine ac (c:=ae5 _) ?_;refine ac (c:=ng (dm ((h.q.rg.his _ (bi g0 g1)).up h.a9)) (fk _) dx dx dx dx) ?_;exact ar (c:=by (try simp only[List.length_map] at *);simp only[bq,i6,h5,e18,e18b,e18c,e21,e27,e47,e43,sb]<;>rfl)
     ·refine akF (c:=by exact (kne e47 dx)) ?_;refine akF (c:=by exact (kne e47 dx)) ?_;exact ar (c:=by (try simp only[List.length_map] at *);simp only[bq,i6,h5,e18,e18b,e18c,e21,e27,e47,e43,sb]<;>rfl)
    ·refine a2 (fun e67=>?_) (fun e67=>?_)
     ·refine a2 (fun e63=>?_) (fun e63=>?_)
      ·have g1:=yw e63;have hrow:(atZ s.q.rg.rows r.index).S 2 8:=(h.q.rg.rows _ (bi g0 g1)).2.up h.a9 (by have:=h.n9;omega);refine ay (z:=toN g0) (c:=(aj (dy g0 g1))) ?_;refine ac (c:=aam hrow fm_zero_S dx dx dx dx) ?_;exact ar (c:=by (try rw[hrow.cn.addR_zero]);(try simp only[List.length_map] at *);simp only[bq,i6,h5,e18,e18b,e18c,e21,e27,e47,e67,e63,sb]<;>rfl)
      ·refine akF (c:=by exact (kne e67 dx)) ?_;exact ar (c:=by (try simp only[List.length_map] at *);simp only[bq,i6,h5,e18,e18b,e18c,e21,e27,e47,e67,e63,sb]<;>rfl)
     ·refine a2 (fun e85=>?_) (fun e85=>?_)
      ·refine a2 (fun e92=>?_) (fun e92=>?_)
       ·have g1:=yw e92;have e92b:decide ((s.path.length:Int)≤r.index)=false:=df om;have hd:(atZ s.path r.index).at_.S 2:=(h.path _ (bi g0 g1)).up h.a9;refine ay (z:=toN g0) (c:=(aj (dy g0 g1))) ?_;refine ac (c:=aal (h.path _ (bi g0 g1)) (by have:=h.a9;omega)) ?_;refine a2 (fun e81=>?_) (fun e81=>?_)
        ·refine ay (z:=toN g0) (c:=(aj (dy g0 g1))) ?_;refine ac (c:=ae5 _) ?_;refine ac (c:=a84 hd dx) ?_;refine ac (c:=ng (fk _) (dm hd) dx dx dx dx) ?_;refine a2 (fun e116=>?_) (fun e116=>?_)
         ·exact ar (c:=by (try simp only[List.length_map] at *);simp only[bq,i6,h5,e18,e18b,e18c,e21,e27,e47,e67,e85,e92,e92b,e81,e116,sb]<;>rfl)
         ·refine a2 (fun e119=>?_) (fun e119=>?_)
          ·refine ac (c:=a4r ((fk _).subR (dm hd)) dx dx) ?_;exact ar (c:=by (try simp only[List.length_map] at *);simp only[bq,i6,h5,e18,e18b,e18c,e21,e27,e47,e67,e85,e92,e92b,e81,e116,e119,sb]<;>rfl)
          ·exact ar (c:=by (try simp only[List.length_map] at *);simp only[bq,i6,h5,e18,e18b,e18c,e21,e27,e47,e67,e85,e92,e92b,e81,e116,e119,sb]<;>rfl)
        ·exact ar (c:=by (try simp only[List.length_map] at *);simp only[bq,i6,h5,e18,e18b,e18c,e21,e27,e47,e67,e85,e92,e92b,e81,sb]<;>rfl)
       ·have e92b:decide ((s.path.length:Int)≤r.index)=true:=dt (by have:=of_decide_eq_false e92;rw[List.length_map] at this;omega);exact ar (c:=by (try simp only[List.length_map] at *);simp only[bq,i6,h5,e18,e18b,e18c,e21,e27,e47,e67,e85,e92,e92b,sb]<;>rfl)
      ·exact ar (c:=by (try simp only[List.length_map] at *);simp only[bq,i6,h5,e18,e18b,e18c,e21,e27,e47,e67,e85,sb]<;>rfl)
theorem ack {α:Type}:∀(l:List α),(l.any fun _=>false)=false
 | []=>rfl
 | a::l=>by rw[List.any_cons,ack l];rfl
theorem alp {f:Fm} {v:Nat} (h:f.Sm v):PCalls Tryz.prog TU 175 [fmP f,.ptr 3 [iP v]] (bP false):=by
 refine pcA [37] Tryz.func175 (fun D=>?_);refine ac (c:=aif h.num h.const h.ok) ?_;exact ar (c:=rfl)
theorem alq {l:List Fm} {v:Nat} (hl:l.length≤100000) (h:∀x∈l,x.Sm v):PCalls Tryz.prog TU 125 [b7 l,iP v] (bP true):=by
 refine pcA [3] Tryz.func125 (fun D=>?_);refine au ?_;refine rmk Y Y Y Y ?_;refine ac (c:=ya (F:=fun _=>false) (caps:=[.ptr 3 [iP v]]) hl fun f hf=>alp (h f hf)) ?_;exact ar (c:=congrArg (fun b=>bP (!b)) (ack _))
theorem aef {g:Gm} (h:g.Va):PCalls Tryz.prog TU 71 [gmP g] (bP true):=by
 have g1:=h.i0;have g2:=h.i9;have g3:=h.u9;have g4:=h.o0;have g5:=h.o9;refine pcA [27,37] Tryz.func71 (fun D=>?_);refine akF (c:=by exact df om) ?_;refine akF (c:=by exact df om) ?_;refine akF (c:=by exact df (by rw[List.length_map];omega)) ?_;refine akF (c:=by exact df (by rw[List.length_map];omega)) ?_;refine akF (c:=by exact df (by rw[List.length_map];omega)) ?_;refine au ?_;refine pl (ι:={j:Nat // j≤g.units.length}) (fun j=>[(1,.box 1 0),(2,.pv (bP false)),(32,.pv (b7 g.units)),(33,.pv (iP ((g.units.map fmC).length:Int))),(34,.pv (iP (j.1:Int)))]) (fun _=>[(1,.box 27 [.pv (iP g.inputs),.pv (b7 g.units),.pv (b7 g.outputs)])]) [27,37] (fun j=>g.units.length - j.1) ⟨0,nq _⟩ (ai Y (ai Y (ai Y (ai Y (ai Y trivial))))) (ai Y trivial) (fun _=>rfl) ?_;intro ⟨j,hj0⟩;refine a2 (fun e35=>?_) (fun e35=>?_)
 ·have hi:j < g.units.length:=db e35;have hu:=h.us j _ (ah hi);refine ax (c:=(aj (ah hi))) ?_;refine aa (c:=aci om (by show j≤_;omega)) ?_;refine ac (c:=aif hu.num hu.const hu.ok) ?_;refine aa (c:=zh (by show j < _;omega)) ?_;refine au ?_;exact pe ⟨j+1,hi⟩ (ai Y (ai Y (ai Y (ai Y (ai Y trivial))))) (ai Y trivial) Y (by show g.units.length - (j+1) < g.units.length - j;omega)
 ·refine aa (c:=ahd om om) ?_;refine ac (c:=alq om h.os) ?_;exact ar (c:=rfl)
theorem a24 {m n:Nat} (h:m≤1000000) (k:n≤1000000):ariO .add .i64 (m:Int) (n:Int)=some (((m+n:Nat)):Int):=by
 show some (IntKind.wrap .i64 ((m:Int)+n))=_;rw[fx om om];rfl
theorem aid {f:Fm} {v s l:Nat} (h:f.S s l) (hs:s≤10000) (hl:l≤400) (k:f.Ok v):PCalls Tryz.prog TU 129 [fmP f,.ptr 3 [iP v]] (bP false):=by
 refine pcA [37] Tryz.func129 (fun D=>?_);refine ac (c:=a12 (h.lo hs hl) k) ?_;exact ar (c:=rfl)
theorem aah {r:Rgm} {n s:Nat} (h:r.Va n s):PCalls Tryz.prog TU 72 [rgP r,iP n] (bP true):=by
 refine pcA [30,3,35] Tryz.func72 (fun D=>?_);refine akF (c:=by exact (show _=false from df (by have:=h.i0;omega))) ?_;refine akF (c:=by exact (show _=false from df (by have:=h.i9;omega))) ?_;refine akF (c:=by exact (show _=false from by rw[List.length_map,h.lo];exact bne_self_eq_false _)) ?_;refine akF (c:=by exact (show _=false from by rw[List.length_map,h.hi];exact bne_self_eq_false _)) ?_;refine akF (c:=by exact (show _=false from df (by have:=h.r9;rw[List.length_map];omega))) ?_;refine au ?_;refine pl (ι:={i:Nat // i≤r.lo.length}) (fun i=>[(2,.box 2 0),(3,.box 3 0),(4,.pv (bP false)),(34,.pv (cz r.lo)),(35,.pv (iP ((r.lo.map qC).length:Int))),(36,.pv (iP i.1))]) (fun _=>[(2,.box 30 [.pv (cz r.lo),.pv (cz r.hi),.pv (b7 r.rows)]),(3,.box 3 [.pv (iP n)])]) [30,3,35] (fun i=>r.lo.length - i.1) ⟨0,nq _⟩ (c6 Y Y Y Y Y Y trivial) (c2 Y Y trivial) (fun _=>rfl) ?_;intro ⟨i,hi⟩;refine a2 (fun e37=>?_) (fun e37=>?_)
 ·have h1:i < r.lo.length:=db e37;have h2:i < r.hi.length:=by have:=h.lo;have:=h.hi;omega
  have hlo:=h.los _ (mg (ah h1));have hhi:=h.his _ (mg (ah h2));have hs9:=h.s9;refine ax (c:=(aj (ah h1))) ?_;refine ac (c:=lz (hlo.sm om) hlo.ok) ?_;refine ax (c:=(aj (ah h2))) ?_;refine ac (c:=lz (hhi.sm om) hhi.ok) ?_;refine ax (c:=(aj (ah h2))) ?_;refine ac (c:=aoa (hlo.sm om) (hhi.sm om)) ?_;refine akF (c:=by exact (show _=false from df (by have:=(h.le i _ _ (ah h1) (ah h2)).2;omega))) ?_;refine aa (c:=ae (by have:=h.i9;have:=h.lo;show i≤_;omega)) ?_;refine au ?_;exact pe ⟨i+1,h1⟩ (c6 Y Y Y Y Y Y trivial) (c2 Y Y trivial) Y (by show r.lo.length - (i+1) < r.lo.length - i;omega)
 ·refine au ?_;refine rmk Y Y Y Y ?_;refine ac (c:=ya (F:=fun _=>false) (by have:=h.r9;omega) fun f hf=>aid (h.rows f hf).2 (by have:=h.s9;omega) (by have:=h.i9;omega) (h.rows f hf).1) ?_;exact ar (c:=congrArg bP (by rw[ack];rfl))
theorem m7 {q:Qr} {s:Nat} (h:q.Va s) (h4:q.g.inputs+q.g.units.length≤400):PCalls Tryz.prog TU 35 [qyP q] (bP true):=by
 refine pcA [39] Tryz.func35 (fun D=>?_);refine ac (c:=aef h.g) ?_;refine ac (c:=aah h.rg) ?_;refine aa (c:=a24 (by have:=h.rg.i9;omega) (by rw[List.length_map];have:=h.g.u9;omega)) ?_;refine ac (c:=a12 (v:=q.g.inputs+(q.g.units.map fmC).length) (h.goal.lo (by have:=h.rg.s9;omega) h4) (by rw[List.length_map];exact h.ok)) ?_;exact ar (c:=rfl)
abbrev tblF:List Value:=.nilFunc::(List.replicate 4 (.func (.func 227) #[] #[])++List.replicate 9 (.func (.func 228) #[] #[]))
theorem akd {k:Int} (h1:1≤k) (h2:k < 5):(tblF.map fun v=>SV.pv (.raw v))[0+k.toNat]?=some (.pv (.raw (.func (.func 227) #[] #[]))):=by
 have:k=1∨k=2∨k=3∨k=4:=by omega
 rcases this with rfl | rfl | rfl | rfl<;>rfl
theorem akc {k:Int} (h1:5≤k) (h2:k < 14):(tblF.map fun v=>SV.pv (.raw v))[0+k.toNat]?=some (.pv (.raw (.func (.func 228) #[] #[]))):=by
 have:k=5∨k=6∨k=7∨k=8∨k=9∨k=10∨k=11∨k=12∨k=13:=by omega
 rcases this with rfl | rfl | rfl | rfl | rfl | rfl | rfl | rfl | rfl<;>rfl
theorem a74 {s:Sc} {r:Rw} (h:r.kind < 1∨14≤r.kind):bq s r=(Fm.zero,false):=by
 rcases h with h | h
 ·have h5:decide (5≤r.kind)=false:=df om;have h1:(r.kind == 1)=false:=beq_eq_false_iff_ne.2 om;have h2:(r.kind == 2)=false:=beq_eq_false_iff_ne.2 om;have h3:(r.kind == 3)=false:=beq_eq_false_iff_ne.2 om;have h4:(r.kind == 4)=false:=beq_eq_false_iff_ne.2 om;unfold bq;rw[h5];simp only[h1,h2,h3,h4,cond_false];cases r.lo != 0||(r.hi != 0||decide (r.index < 0))<;>rfl
 ·have h5:decide (5≤r.kind)=true:=dt om;unfold bq;rw[h5];unfold cg cd;have e:∀k:Int,k < 14→(r.kind == k)=false:=fun k hk=>beq_eq_false_iff_ne.2 om
  simp only[e 5 dx,e 6 dx,e 7 dx,e 8 dx,e 9 dx,e 10 dx,e 11 dx,e 12 dx,e 13 dx,cond_false,cond_true];simp
theorem aei {s:Sc} {a b:Nat} {r:Rw} (h:s.Va a b) (h1:1≤r.kind) (h2:r.kind < 5):PCalls Tryz.prog TF 190 [scP s,rwP r] (.tup [fmP (bq s r).1,bP (bq s r).2]):=by
 refine pcA [85,96,37,320] Tryz.func190 (fun D=>?_);refine pa Y Y (pr0 (ro0 Y Y Y (fun hd=>yf (n:=14) (e:=270) (us:=tblF) (zs:=List.replicate 14 .nilFunc) Y (by kernel_rfl) (by kernel_rfl) (by kernel_rfl) (by rfl) (by rfl) hd) ?_));refine akF (c:=by exact (show _=false from df om)) ?_;refine akF (c:=by exact (show _=false from df om)) ?_;refine ac (c:=m7 h.q (by have:=h.n9;omega)) ?_;refine qg 2 ?_;refine rn Y (pj Y ?_);refine pk (pr0 (qg 2 ?_));refine ro0 Y Y Y (fun hd=>a6e (n:=14) (e:=270) Y (by kernel_rfl) (by kernel_rfl) Y Y (show r.kind=(r.kind.toNat:Int) by omega) om hd) ?_;refine ro0 Y Y Y (fun hd=>a31 al Y Y Y Y Y (akd om h2) hd) ?_;refine qg 2 ?_;refine rcr (aig h (df om)) Y Y Y Y Y Y Y Y Y ?_;exact ar (c:=rfl)
theorem aeg {s:Sc} {a b:Nat} {r:Rw} (h:s.Va a b) (h1:5≤r.kind) (h2:r.kind < 14):PCalls Tryz.prog TF 190 [scP s,rwP r] (.tup [fmP (bq s r).1,bP (bq s r).2]):=by
 rw[show bq s r=cg s r from by unfold bq;rw[dt (show (5:Int)≤r.kind from h1)];rfl];refine pcA [85,96,37,320] Tryz.func190 (fun D=>?_);refine pa Y Y (pr0 (ro0 Y Y Y (fun hd=>yf (n:=14) (e:=270) (us:=tblF) (zs:=List.replicate 14 .nilFunc) Y (by kernel_rfl) (by kernel_rfl) (by kernel_rfl) (by rfl) (by rfl) hd) ?_));refine akF (c:=by exact (show _=false from df om)) ?_;refine akF (c:=by exact (show _=false from df om)) ?_;refine ac (c:=m7 h.q (by have:=h.n9;omega)) ?_;refine qg 2 ?_;refine rn Y (pj Y ?_);refine pk (pr0 (qg 2 ?_));refine ro0 Y Y Y (fun hd=>a6e (n:=14) (e:=270) Y (by kernel_rfl) (by kernel_rfl) Y Y (show r.kind=(r.kind.toNat:Int) by omega) om hd) ?_;refine ro0 Y Y Y (fun hd=>a31 al Y Y Y Y Y (akc om h2) hd) ?_;refine qg 2 ?_;refine rcr (alc h) Y Y Y Y Y Y Y Y Y ?_;exact ar (c:=rfl)
theorem aeh {s:Sc} {r:Rw} (h1:r.kind < 1):PCalls Tryz.prog TF 190 [scP s,rwP r] (.tup [fmP Fm.zero,bP false]):=by
 refine pcA [85,96,37,320] Tryz.func190 (fun D=>?_);refine pa Y Y (pr0 (ro0 Y Y Y (fun hd=>yf (n:=14) (e:=270) (us:=tblF) (zs:=List.replicate 14 .nilFunc) Y (by kernel_rfl) (by kernel_rfl) (by kernel_rfl) (by rfl) (by rfl) hd) ?_));refine akT (c:=by exact (show _=true from dt om)) ?_;exact ar (c:=rfl)
theorem aej {s:Sc} {r:Rw} (h1:14≤r.kind):PCalls Tryz.prog TF 190 [scP s,rwP r] (.tup [fmP Fm.zero,bP false]):=by
 refine pcA [85,96,37,320] Tryz.func190 (fun D=>?_);refine pa Y Y (pr0 (ro0 Y Y Y (fun hd=>yf (n:=14) (e:=270) (us:=tblF) (zs:=List.replicate 14 .nilFunc) Y (by kernel_rfl) (by kernel_rfl) (by kernel_rfl) (by rfl) (by rfl) hd) ?_));refine akF (c:=by exact (show _=false from df om)) ?_;refine akT (c:=by exact (show _=true from dt om)) ?_;exact ar (c:=rfl)
theorem alr {s:Sc} {a b:Nat} (r:Rw) (h:s.Va a b):PCalls Tryz.prog TF 190 [scP s,rwP r] (.tup [fmP (bq s r).1,bP (bq s r).2]):=by
 by_cases h1:r.kind < 1
 ·rw[a74 (.inl h1)];exact aeh h1
 ·by_cases h2:14≤r.kind
  ·rw[a74 (.inr h2)];exact aej h2
  ·by_cases h3:r.kind < 5
   ·exact aei h om h3
   ·exact aeg h om om
abbrev z0 (l:List Int):PV:=.rows 3 1 [] (l.map fun x=>[iP x])
def cmpZ (x y:Int):Int:=bif decide (x < y) then -1 else bif decide (y < x) then 1 else 0
def orZ:List Int→Int
 | []=>0
 | x::l=>bif x != 0 then x else orZ l
def ajs (a b:Rw):Int:=orZ [cmpZ a.kind b.kind,cmpZ a.index b.index,cmpZ a.lo b.lo,cmpZ a.hi b.hi]
theorem ajr {x y:Int}:(cmpZ x y != 0)=(x != y):=by
 unfold cmpZ;by_cases h1:x < y
 ·rw[dt h1];have:x≠y:=by omega
  simp[this]
 ·rw[df h1];by_cases h2:y < x
  ·rw[dt h2];have:x≠y:=by omega
   simp[this]
  ·rw[df h2];have:x=y:=by omega
   simp[this]
theorem a20 {x y:Int}:decide (0≤cmpZ x y)=!decide (x < y):=by
 unfold cmpZ;by_cases h1:x < y
 ·rw[dt h1];rfl
 ·rw[df h1];cases decide (y < x)<;>rfl
theorem wt {a b:Rw}:decide (0≤ajs a b)=!io a b:=by
 unfold ajs io orZ orZ orZ orZ orZ;simp only[ajr];cases a.kind != b.kind
 ·cases a.index != b.index
  ·cases a.lo != b.lo
   ·cases h:a.hi != b.hi
    ·have e:a.hi=b.hi:=by simpa using h
     simp[e]
    ·exact a20
   ·exact a20
  ·exact a20
 ·exact a20
theorem ail {l:List Int} {i:Nat} (h:orZ (l.drop i)=orZ l) (hi:i < l.length) (hF:(atZ l (i:Int) != 0)=true):atZ l (i:Int)=orZ l:=by
 have e:l.drop i=atZ l (i:Int)::l.drop (i+1):=by rw[bm (ge hi),List.drop_eq_getElem_cons hi]
 rw[e,orZ,hF] at h;exact h
theorem aen {l:List Int} {i:Nat} (h:orZ (l.drop i)=orZ l) (hi:i < l.length) (hF:(atZ l (i:Int) != 0)=false):orZ (l.drop (i+1))=orZ l:=by
 have e:l.drop i=atZ l (i:Int)::l.drop (i+1):=by rw[bm (ge hi),List.drop_eq_getElem_cons hi]
 rw[e,orZ,hF] at h;exact h
theorem aim {l:List Int} {i:Nat} (h:orZ (l.drop i)=orZ l) (hi:l.length≤i):(0:Int)=orZ l:=by
 rw[List.drop_of_length_le hi] at h;exact h
theorem ali (x:Int):PCalls Tryz.prog [] 336 [iP x] (bP false):=by
 refine pcA [] Tryz.func336 (fun D=>?_);exact ar (c:=congrArg bP (by simp))
theorem a6c (x y:Int):PCalls Tryz.prog [] 274 [iP x,iP y] (iP (cmpZ x y)):=by
 refine pcA [] Tryz.func274 (fun D=>?_);refine ac (c:=ali x) ?_;refine ac (c:=ali y) ?_;refine a2 (fun e16=>?_) (fun e16=>?_)
 ·exact ar (c:=by (try simp only[List.length_map] at *);simp only[cmpZ,e16,sb]<;>rfl)
 ·refine a2 (fun e19=>?_) (fun e19=>?_)
  ·exact ar (c:=by (try simp only[List.length_map] at *);simp only[cmpZ,e16,e19,sb]<;>rfl)
  ·exact ar (c:=by (try simp only[List.length_map] at *);simp only[cmpZ,e16,e19,sb]<;>rfl)
theorem ao8 {l:List Int} (hl:l.length≤1000):PCalls Tryz.prog [] 273 [z0 l] (iP (orZ l)):=by
 refine pcA [] Tryz.func273 (fun D=>?_);refine au ?_;refine pl (ι:={i:Nat // i≤l.length∧orZ (l.drop i)=orZ l}) (fun i=>[(2,.pv (iP 0)),(3,.pv (iP 0)),(6,.pv (z0 l)),(7,.pv (iP ((l.map fun x=>[iP x]).length:Int))),(8,.pv (iP i.1))]) (fun _=>[]) [] (fun i=>l.length - i.1) ⟨0,nq _,rfl⟩ (c5 Y Y Y Y Y trivial) trivial (fun _=>rfl) ?_;intro ⟨i,hi0,hg⟩;refine a2 (fun e9=>?_) (fun e9=>?_)
 ·have hi:i < l.length:=db e9;refine ax (c:=(aj (f:=fun x=>[iP x]) (ah hi))) ?_;refine a2 (fun e14=>?_) (fun e14=>?_)
  ·exact ar (c:=congrArg iP (ail hg hi e14))
  ·refine aa (c:=ae (by show i≤_;omega)) ?_;refine au ?_;exact pe ⟨i+1,hi,aen hg hi e14⟩ (c5 Y Y Y Y Y trivial) trivial Y (by show l.length - (i+1) < l.length - i;omega)
 ·have hj:l.length≤i:=dw e9;exact ar (c:=congrArg iP (aim hg hj))
theorem aap {a b:Rw}:PCalls Tryz.prog [] 226 [rwP a,rwP b] (iP (ajs a b)):=by
 refine pcA [96] Tryz.func226 (fun D=>?_);refine ac (c:=a6c _ _) ?_;refine ac (c:=a6c _ _) ?_;refine ac (c:=a6c _ _) ?_;refine ac (c:=a6c _ _) ?_;refine ac (c:=ao8 (l:=[cmpZ a.kind b.kind,cmpZ a.index b.index,cmpZ a.lo b.lo,cmpZ a.hi b.hi]) (by simp)) ?_;exact ar (c:=rfl)
theorem a4t {l:List Mm} {n:Nat} (h:∀m∈l,m.2.S n) (hn:n≤10000) (hl:l.length≤1000):PCalls Tryz.prog [] 189 [mmsP l] (bP (fh l)):=by
 refine pcA [98] Tryz.func189 (fun D=>?_);refine au ?_;refine pl (ι:={i:Nat // i≤l.length∧∀j,j < i→badM l j=false}) (fun i=>[(0,.pv (mmsP l)),(2,.pv (bP false)),(5,.pv (mmsP l)),(6,.pv (iP ((l.map mmC).length:Int))),(7,.pv (iP i.1))]) (fun _=>[]) [98] (fun i=>l.length - i.1) ⟨0,nq _,fun j hj=>by omega⟩ (c5 Y Y Y Y Y trivial) trivial (fun _=>rfl) ?_;intro ⟨i,hi0,hnb⟩;refine a2 (fun e8=>?_) (fun e8=>?_)
 ·have hi:i < l.length:=db e8;have hm:=h _ (mg (ah hi));refine ax (c:=(aj (ah hi))) ?_;refine ac (c:=a0z (hm.sm hn)) ?_;refine a2 (fun e16=>?_) (fun e16=>?_)
  ·exact ar (c:=by rw[sz hi (by simp only[badM,← wt,e8,e16,sb])])
  ·refine ac (c:=lz (hm.sm hn) hm.ok) ?_;refine a2 (fun e25=>?_) (fun e25=>?_)
   ·refine aa (c:=j7 e25 (by show i≤_;omega)) ?_;refine ax (c:=(aj (ah (show i - 1 < l.length by omega)))) ?_;refine ac (c:=aap) ?_;refine a2 (fun e37=>?_) (fun e37=>?_)
    ·exact ar (c:=by rw[sz hi (by simp only[badM,← wt,e8,e16,e25,e37,sb])])
    ·refine aa (c:=ae (by show i≤_;omega)) ?_;refine au ?_;exact pe ⟨i+1,hi,kv hnb (by simp only[badM,← wt,e8,e16,e25,e37,sb])⟩ (c5 Y Y Y Y Y trivial) trivial Y (by show l.length - (i+1) < l.length - i;omega)
   ·refine aa (c:=ae (by show i≤_;omega)) ?_;refine au ?_;exact pe ⟨i+1,hi,kv hnb (by simp only[badM,← wt,e8,e16,e25,sb])⟩ (c5 Y Y Y Y Y trivial) trivial Y (by show l.length - (i+1) < l.length - i;omega)
 ·have hj:l.length≤i:=dw e8;exact ar (c:=by rw[ta hnb hj])
end Go.Proofs.YtbhbainhmfjpdaaGreatDoor
