/- Walks of the search and of what it calls, part 11. -/
import Derived.Test.YtbhbainhmfjpdaaGreatDoorMj
import Derived.Laws.StructEq
set_option linter.unusedVariables false
set_option linter.unusedSimpArgs false
set_option maxRecDepth 100000
set_option maxHeartbeats 8000000
namespace Go.Proofs.YtbhbainhmfjpdaaGreatDoor
open Go.RowKit
theorem ahu {q:Q} {n d:Nat} (h:q.Bd n d) (hn:n≤100000):PCalls Tryz.prog [] 27 [ratP q] (iP (isg q.neg q.num)):=a82 (by kernel_rfl) fun w a ha=>a2i w a q ha (nt h.num (nt hn dx))
theorem ahm {l:List Tm} {v:Int} {c:Q} (h:(isg c.neg c.num == 0)=true):l=snoc l v c:=by
 rw[wh,de] at h;rw[snoc,if_pos h]
theorem acz {l:List Tm} {v:Int} {c:Q} (h:(isg c.neg c.num == 0)=false):l++[(v,c)]=snoc l v c:=by
 rw[wh,decide_eq_false_iff_not] at h;rw[snoc,if_neg h]
theorem r_nz {l:List Tm} {v:Int} {c:Q} {n d:Nat} (hc:c.Bd n d) (hn:n≤100000) (hl:l.length≤1000000):SCalls Tryz.prog (fun _=>True) [] 70 [.tok 1000,.pv (.agg (tmC (v,c)))] (some (.tok 138 4 [200] (l.map tmC))) (.tok 138 4 [200] ((snoc l v c).map tmC)) (.tok 1000) true:=by
 refine pcs [138] Tryz.func70 (fun D hH hF=>?_);refine ac (c:=ahu hc hn) ?_;refine a2 (fun e8=>?_) (fun e8=>?_)
 ·refine au ?_;exact rets Y Y (congrArg (fun x=>some (Res.tok 138 4 [200] (List.map tmC x))) (ahm e8))
 ·refine au ?_;refine rp0 a52 (by rw[List.length_map];show l.length+1≤_;omega) Y Y Y Y Y Y Y Y ?_;refine au ?_;exact rets Y Y (congrArg (fun x=>some (Res.tok _ _ _ x)) (tm_snoc.trans (congrArg (List.map tmC) (acz e8))))
theorem a0y {v:Int} {c:Q} {l acc:List Tm} {i:Nat} {d:Bool} (hi:i < l.length) (h:fg v c d (l.drop i) acc=l5 l v c):
  ((atZ l (i:Int)).1=v→fg v c true (l.drop (i+1)) (snoc acc (atZ l (i:Int)).1 (Q.add (atZ l (i:Int)).2 c))=l5 l v c)∧((atZ l (i:Int)).1≠v→d=false→v < (atZ l (i:Int)).1→fg v c true (l.drop (i+1)) (snoc (snoc acc v (ck c)) (atZ l (i:Int)).1 (atZ l (i:Int)).2)=l5 l v c)∧((atZ l (i:Int)).1≠v→¬(d=false∧v < (atZ l (i:Int)).1)→fg v c d (l.drop (i+1)) (snoc acc (atZ l (i:Int)).1 (atZ l (i:Int)).2)=l5 l v c):=by
 have e:l.drop i=atZ l (i:Int)::l.drop (i+1):=by rw[bm (ge hi),List.drop_eq_getElem_cons hi]
 rw[e,fg] at h;refine⟨fun h1=>?_,fun h1 h2 h3=>?_,fun h1 h2=>?_⟩
 ·rwa [if_pos h1] at h
 ·rwa [if_neg h1,if_pos ⟨h2,h3⟩] at h
 ·rwa [if_neg h1,if_neg h2] at h
theorem a68 {v:Int} {c:Q} {l acc:List Tm} {i:Nat} {d:Bool} (hi:l.length≤i) (h:fg v c d (l.drop i) acc=l5 l v c):(bif d then acc else snoc acc v (ck c))=l5 l v c:=by
 rw[List.drop_of_length_le hi,fg] at h;rw[← h];cases d<;>rfl
theorem ym {a b:Int} (h:(a == b)=false):a≠b:=beq_eq_false_iff_ne.1 h
theorem ahx {f:Fm} {v:Int} {c:Q} (hx:∀t∈f.terms,t.2.Sm∧t.2.Ok) (hc:c.Sm) (hco:c.Ok) (hn:f.terms.length≤1000):PCalls Tryz.prog TF 68 [fmP f,iP v,ratP c] (fmP ⟨l5 f.terms v c,f.const⟩):=by
 refine pcA [37,35,138] Tryz.func68 (fun D=>?_);refine au ?_;refine tks (t:=7) (id:=1000) (e:=138) (k:=4) (ts:=[200]) Y ?_;refine pl (ι:={p:Nat×List Tm×Bool // p.1≤f.terms.length∧fg v c p.2.2 (f.terms.drop p.1) p.2.1=l5 f.terms v c∧p.2.1.length≤2*p.1}) (fun p=>[(1,.pv (iP v)),(3,.box 3 0),(5,.box 5 0),(6,.box 6 0),(7,.tok 1000),(8,.pv (bP p.1.2.2)),(9,.pv (iP (p.1.1:Int)))]) (fun p=>[(3,.box 37 [.pv (bu f.terms),.pv (bP f.const.neg),.pv (.nat f.const.num),.pv (.nat f.const.den)]),(5,.box 35 [.pv (bP c.neg),.pv (.nat c.num),.pv (.nat c.den)]),(6,.box 37 [.nil 138 4 [200],.pv (bP false),.pv (.nat 0),.pv (.nat 0)]),(1000,.tok 138 4 [200] (p.1.2.1.map tmC))]) [37,35,138] (fun p=>f.terms.length - p.1.1) ⟨(0,[],false),nq _,rfl,nr _⟩ (ai Y (ai Y (ai Y (ai Y (ai Y (ai Y (ai Y trivial))))))) (ai Y (ai Y (ai Y (ai Y trivial)))) (fun _=>rfl) ?_;intro ⟨(i,acc,d),hi0,hg,hl⟩;simp only at hi0 hg hl;refine a2 (fun e15=>?_) (fun e15=>?_)
 ·have hi:i < f.terms.length:=db e15;refine ax (c:=(aj (ah hi))) ?_;refine a2 (fun e26=>?_) (fun e26=>?_)
  ·refine ac (c:=a7y (hx _ (bi (l:=f.terms) (z:=(i:Int)) om om)).1 hc (hx _ (bi (l:=f.terms) (z:=(i:Int)) om om)).2 hco) ?_;refine au ?_;refine rsc0 (fun _ _ _=>trivial) (fun e=>by cases e) (r_nz (l:=acc) (v:=(atZ f.terms (i:Int)).1) (c:=Q.add (atZ f.terms (i:Int)).2 c) ((hx _ (bi (l:=f.terms) (z:=(i:Int)) om om)).1.lo.bd.add hc.lo.bd) dx om) ?_;refine aa (c:=ae (by show i≤_;omega)) ?_;refine au ?_;exact pe ⟨(i+1,snoc acc (atZ f.terms (i:Int)).1 (Q.add (atZ f.terms (i:Int)).2 c),true),hi,(a0y hi hg).1 (eq_of_beq e26),nt (em ..) om⟩ (ai Y (ai Y (ai Y (ai Y (ai Y (ai Y (ai Y trivial))))))) (ai Y (ai Y (ai Y (ai Y trivial)))) Y (by show f.terms.length - (i+1) < f.terms.length - i;omega)
  ·refine a2 (fun e34=>?_) (fun e34=>?_)
   ·replace e34:=gq e34;have e34:d=false:=by cases d<;>first | rfl | cases e34
    refine a2 (fun e39=>?_) (fun e39=>?_)
    ·refine ac (c:=kz hc) ?_;refine au ?_;refine rsc0 (fun _ _ _=>trivial) (fun e=>by cases e) (r_nz (l:=acc) (v:=v) (c:=ck c) hc.lo.bd.canon dx om) ?_;refine au ?_;refine rsc0 (fun _ _ _=>trivial) (fun e=>by cases e) (r_nz (l:=(snoc acc v (ck c))) (v:=(atZ f.terms (i:Int)).1) (c:=(atZ f.terms (i:Int)).2) (hx _ (bi (l:=f.terms) (z:=(i:Int)) om om)).1.lo.bd dx (by have:=em acc v (ck c);omega)) ?_;refine aa (c:=ae (by show i≤_;omega)) ?_;refine au ?_;exact pe ⟨(i+1,snoc (snoc acc v (ck c)) (atZ f.terms (i:Int)).1 (atZ f.terms (i:Int)).2,true),hi,(a0y hi hg).2.1 (ym e26) e34 (of_decide_eq_true e39),nt (em ..) (by have:=em acc v (ck c);omega)⟩ (ai Y (ai Y (ai Y (ai Y (ai Y (ai Y (ai Y trivial))))))) (ai Y (ai Y (ai Y (ai Y trivial)))) Y (by show f.terms.length - (i+1) < f.terms.length - i;omega)
    ·refine au ?_;refine rsc0 (fun _ _ _=>trivial) (fun e=>by cases e) (r_nz (l:=acc) (v:=(atZ f.terms (i:Int)).1) (c:=(atZ f.terms (i:Int)).2) (hx _ (bi (l:=f.terms) (z:=(i:Int)) om om)).1.lo.bd dx (by have:=em acc v (ck c);omega)) ?_;refine aa (c:=ae (by show i≤_;omega)) ?_;refine au ?_;exact pe ⟨(i+1,snoc acc (atZ f.terms (i:Int)).1 (atZ f.terms (i:Int)).2,d),hi,(a0y hi hg).2.2 (ym e26) (fun hh=>absurd hh.2 (of_decide_eq_false e39)),nt (em ..) om⟩ (ai Y (ai Y (ai Y (ai Y (ai Y (ai Y (ai Y trivial))))))) (ai Y (ai Y (ai Y (ai Y trivial)))) Y (by show f.terms.length - (i+1) < f.terms.length - i;omega)
   ·replace e34:=i7 e34;have e34:d=true:=by cases d<;>first | rfl | cases e34
    refine au ?_;refine rsc0 (fun _ _ _=>trivial) (fun e=>by cases e) (r_nz (l:=acc) (v:=(atZ f.terms (i:Int)).1) (c:=(atZ f.terms (i:Int)).2) (hx _ (bi (l:=f.terms) (z:=(i:Int)) om om)).1.lo.bd dx (by have:=em acc v (ck c);omega)) ?_;refine aa (c:=ae (by show i≤_;omega)) ?_;refine au ?_;exact pe ⟨(i+1,snoc acc (atZ f.terms (i:Int)).1 (atZ f.terms (i:Int)).2,d),hi,(a0y hi hg).2.2 (ym e26) (fun hh=>by rw[hh.1] at e34;cases e34),nt (em ..) om⟩ (ai Y (ai Y (ai Y (ai Y (ai Y (ai Y (ai Y trivial))))))) (ai Y (ai Y (ai Y (ai Y trivial)))) Y (by show f.terms.length - (i+1) < f.terms.length - i;omega)
 ·have hj:f.terms.length≤i:=dw e15;refine a2 (fun e50=>?_) (fun e50=>?_)
  ·replace e50:=gq e50;have e50:d=false:=by cases d<;>first | rfl | cases e50
   refine ac (c:=kz hc) ?_;refine au ?_;refine rsc0 (fun _ _ _=>trivial) (fun e=>by cases e) (r_nz (l:=acc) (v:=v) (c:=ck c) hc.lo.bd.canon dx om) ?_;exact ar (c:=congrArg (fun l=>fmP ⟨l,f.const⟩) (by have:=a68 hj hg;rw[e50] at this;exact this))
  ·replace e50:=i7 e50;have e50:d=true:=by cases d<;>first | rfl | cases e50
   exact ar (c:=congrArg (fun l=>fmP ⟨l,f.const⟩) (by have:=a68 hj hg;rw[e50] at this;exact this))
theorem afx {x y:List Tm} {i:Nat} (hi:i < y.length):l5 (addT x (y.take i)) (atZ y (i:Int)).1 (atZ y (i:Int)).2=addT x (y.take (i+1)):=by
 rw[List.take_add_one,ah hi];exact (a47 ..).symm
theorem afz {x y:List Tm} (h:x.length+y.length≤900):((addT x y).map tmC).length≤900:=by
 rw[List.length_map];exact nt (wu ..) h
theorem a7j {c:Q} {y acc:List Tm} {i:Nat} (hi:i < y.length) (h:eo c acc (y.drop i)=eo c [] y):eo c (snoc acc (atZ y (i:Int)).1 (Q.mul (atZ y (i:Int)).2 c)) (y.drop (i+1))=eo c [] y:=by
 rw[← h,List.drop_eq_getElem_cons hi,bm (ge hi)];rfl
theorem ak0 {s l t m:Nat} {f g:Fm} (h:f.S s l) (k:g.S t m) (hs:s+t+1≤10000) (n:Nat):∀x∈addT f.terms (g.terms.take n),x.2.Sm∧x.2.Ok:=fun x hx=>by
 have h2:=ahf (y:=g.terms.take n) h.cn.srt h.cn.nz (List.Pairwise.sublist (List.take_sublist ..) k.cn.srt) (fun y hy=>k.cn.nz y (List.mem_of_mem_take hy)) h.each (fun y hy=>k.each y (List.mem_of_mem_take hy)) h.const.pos k.const.pos x hx;exact⟨h2.sm hs,h2.ok⟩
theorem a2r {s l t m:Nat} {f g:Fm} (h:f.S s l) (k:g.S t m) (hs:s+t+1≤10000) (hl:l+m≤900):PCalls Tryz.prog TF 31 [fmP f,fmP g] (fmP (Fm.addR f g)):=by
 have l1:=h.len;have l2:=k.len;refine pcA [37] Tryz.func31 (fun D=>?_);refine ac (c:=a7y (h.const.sm om) (k.const.sm om) h.const.ok k.const.ok) ?_;refine qg 3 ?_;refine rn (by kernel_rfl) ?_
 apply aa8 (sl:=[(2,_),(3,_),(4,_),(5,_)]) (rs:=[(2,_),(3,_),(4,_),(5,.box 37 [.pv (bu (addT f.terms g.terms)),.pv (bP (Q.add f.const g.const).neg),.pv (.nat (Q.add f.const g.const).num),.pv (.nat (Q.add f.const g.const).den)])]) [37,138] (True)
 case h1=>
  refine au ?_;refine pl (ι:={i:Nat // i≤g.terms.length}) (fun i=>[(2,.box 2 0),(3,.box 3 0),(4,.box 4 0),(5,.box 5 0),(6,.pv (iP (i.1:Int)))]) (fun i=>[(2,.box 37 [.pv (bu f.terms),.pv (bP f.const.neg),.pv (.nat f.const.num),.pv (.nat f.const.den)]),(3,.box 37 [.pv (bu g.terms),.pv (bP g.const.neg),.pv (.nat g.const.num),.pv (.nat g.const.den)]),(4,.box 37 [.nil 138 4 [200],.pv (bP false),.pv (.nat 0),.pv (.nat 0)]),(5,.box 37 [.pv (bu (addT f.terms (g.terms.take i.1))),.pv (bP (Q.add f.const g.const).neg),.pv (.nat (Q.add f.const g.const).num),.pv (.nat (Q.add f.const g.const).den)])]) [37] (fun i=>g.terms.length - i.1) ⟨0,nq _⟩ (ai Y (ai Y (ai Y (ai Y (ai Y trivial))))) (ai Y (ai Y (ai Y (ai Y trivial)))) (fun _=>rfl) ?_;intro ⟨i,hi0⟩;refine a2 (fun e19=>?_) (fun e19=>?_)
  ·have hi:i < g.terms.length:=db e19;refine ax (c:=(aj (ah hi))) ?_;refine ax (c:=(aj (ah hi))) ?_;refine ac (c:=ahx (f:=⟨addT f.terms (g.terms.take i),Q.add f.const g.const⟩) (c:=(atZ g.terms (i:Int)).2) (ak0 h k hs i) ((k.each _ (bi (l:=g.terms) (z:=(i:Int)) om om)).sm om) (k.each _ (bi (l:=g.terms) (z:=(i:Int)) om om)).ok (nt (wu ..) (by rw[List.length_take];omega))) ?_;refine aa (c:=ae (by show i≤_;omega)) ?_;refine au ?_;exact pe ⟨i+1,hi⟩ (ai Y (ai Y (ai Y (ai Y (ai Y trivial))))) (ai Y (ai Y (ai Y (ai (congrArg (fun l=>some (Res.box 37 [.pv (bu l),.pv (bP (Q.add f.const g.const).neg),.pv (.nat (Q.add f.const g.const).num),.pv (.nat (Q.add f.const g.const).den)])) (afx hi)) trivial)))) Y (by show g.terms.length - (i+1) < g.terms.length - i;omega)
  ·have hj:g.terms.length≤i:=dw e19;refine au ?_;refine⟨?_,trivial⟩;refine Sub.of ?_ ?_ ?_
   ·exact (ai (rfl) (ai (rfl) (ai (rfl) (ai (rfl) trivial))))
   ·exact (ai (rfl) (ai (rfl) (ai (rfl) (ai (congrArg (fun l=>some (Res.box 37 [.pv (bu (addT f.terms l)),.pv (bP (Q.add f.const g.const).neg),.pv (.nat (Q.add f.const g.const).num),.pv (.nat (Q.add f.const g.const).den)])) (List.take_of_length_le hj)) trivial))))
   ·rfl
 case h2=>
  intro _;refine au ?_;refine rp0 a52 (nt (Nat.le_of_eq (Nat.zero_add _)) (nt (afz (x:=f.terms) (y:=g.terms) om) dx)) Y Y Y Y Y Y Y Y ?_;exact ar (c:=rfl)
theorem ig {s l t:Nat} {f:Fm} {q:Q} (h:f.S s l) (k:q.S t) (hs:s≤10000) (ht:t≤10000) (hl:l≤900):PCalls Tryz.prog TF 32 [fmP f,ratP q] (fmP (Fm.scaleR f q)):=by
 have l1:=h.len;refine pcA [37,35,138] Tryz.func32 (fun D=>?_);refine ac (c:=adq (h.const.sm hs) (k.sm ht)) ?_;refine au ?_;refine tkb (b:=5) (off:=0) (id:=1000) (e:=138) (k:=4) (ts:=[200]) Y ?_;refine pl (ι:={p:Nat×List Tm // p.1≤f.terms.length∧eo q p.2 (f.terms.drop p.1)=eo q [] f.terms∧p.2.length≤p.1}) (fun p=>[(2,.box 2 0),(3,.box 3 0),(4,.box 4 0),(5,.box 5 0),(6,.pv (iP (p.1.1:Int)))]) (fun p=>[(2,.box 37 [.pv (bu f.terms),.pv (bP f.const.neg),.pv (.nat f.const.num),.pv (.nat f.const.den)]),(3,.box 35 [.pv (bP q.neg),.pv (.nat q.num),.pv (.nat q.den)]),(4,.box 37 [.nil 138 4 [200],.pv (bP false),.pv (.nat 0),.pv (.nat 0)]),(5,.box 37 [.tok 1000,.pv (bP (Q.mul f.const q).neg),.pv (.nat (Q.mul f.const q).num),.pv (.nat (Q.mul f.const q).den)]),(1000,.tok 138 4 [200] (p.1.2.map tmC))]) [37,35,138] (fun p=>f.terms.length - p.1.1) ⟨(0,[]),nq _,rfl,nr _⟩ (ai Y (ai Y (ai Y (ai Y (ai Y trivial))))) (ai Y (ai Y (ai Y (ai Y (ai Y trivial))))) (fun _=>rfl) ?_;intro ⟨(i,acc),hi0,hg,ha⟩;simp only at hi0 hg ha;refine a2 (fun e16=>?_) (fun e16=>?_)
 ·have hi:i < f.terms.length:=db e16;refine ax (c:=(aj (ah hi))) ?_;refine ax (c:=(aj (ah hi))) ?_;refine ac (c:=adq ((h.each _ (bi (l:=f.terms) (z:=(i:Int)) om om)).sm hs) (k.sm ht)) ?_;refine au ?_;refine rsc0 (fun _ _ _=>trivial) (fun e=>by cases e) (r_nz (l:=acc) (v:=(atZ f.terms (i:Int)).1) (c:=Q.mul (atZ f.terms (i:Int)).2 q) (((h.each _ (bi (l:=f.terms) (z:=(i:Int)) om om)).sm hs).lo.bd.mul (k.sm ht).lo.bd) dx om) ?_;refine aa (c:=ae (by show i≤_;omega)) ?_;refine au ?_;exact pe ⟨(i+1,snoc acc (atZ f.terms (i:Int)).1 (Q.mul (atZ f.terms (i:Int)).2 q)),hi,a7j hi hg,nt (em ..) (Nat.succ_le_succ ha)⟩ (ai Y (ai Y (ai Y (ai Y (ai Y trivial))))) (ai Y (ai Y (ai Y (ai Y (ai Y trivial))))) Y (by show f.terms.length - (i+1) < f.terms.length - i;omega)
 ·have hj:f.terms.length≤i:=dw e16;exact ar (c:=congrArg (fun l=>fmP ⟨l,Q.mul f.const q⟩) (by rw[List.drop_of_length_le hj,eo] at hg;exact hg))
def Fm.subR (f g:Fm):Fm:=Fm.addR f (Fm.scaleR g Q.mone)
theorem Fm.S.subR {s l t m:Nat} {f g:Fm} (h:f.S s l) (k:g.S t m):(Fm.subR f g).S (s+(t+1)+1) (l+m):=h.addR (k.scaleR ez)
theorem mu {s l t m:Nat} {f g:Fm} (h:f.S s l) (k:g.S t m) (hs:s+(t+1)+1≤10000) (hl:l+m≤900):PCalls Tryz.prog TF 122 [fmP f,fmP g] (fmP (Fm.subR f g)):=by
 have e:ofQ (-1)=Q.mone:=rfl;refine pc [37] (by kernel_rfl) Tryz.func122 Y Y (fun D=>?_);refine pa Y Y (pr Y ?_);refine rc (r_of (-1) dx dx) Y Y Y Y Y Y Y Y ?_;refine rc (ig (q:=ofQ (-1)) k ez om dx om) Y Y Y Y Y Y Y Y ?_;refine rc (a2r h (k.scaleR ez) hs hl) Y Y Y Y Y Y Y Y (rn (by kernel_rfl) ?_);exact pt (zl Y Y)
def varR (v:Int):Fm:=⟨[(v,Q.one)],Q.zero⟩
def numR (q:Q):Fm:=⟨[],q⟩
theorem fk (v:Int):(varR v).S 1 1:=⟨⟨by simp[Srt',varR],(fun t ht=>by rw[mj ht];exact⟨(by decide:Q.one.Ok),(by decide:Q.one.num≠0)⟩),(by decide:Q.zero.Ok)⟩,fun t ht=>by rw[mj ht];exact sz_one,sz_zero,nr _⟩
theorem dm {q:Q} {s:Nat} (h:q.S s):(numR q).S s 0:=⟨⟨by simp[Srt',numR],(fun t ht=>by cases ht),h.ok⟩,fun t ht=>(by cases ht),h,nr _⟩
theorem a4k (v:Int):PCalls Tryz.prog TF 60 [iP v] (fmP (varR v)):=by
 refine pc [37] (by kernel_rfl) Tryz.func60 Y Y (fun D=>?_);refine pa Y Y (pr Y ?_);refine rc (r_of 1 dx dx) Y Y Y Y Y Y Y Y ?_;refine rl Y Y Y Y Y Y Y Y (rn Y ?_);exact pt (zl Y Y)
theorem a2q {q:Q}:PCalls Tryz.prog TF 62 [ratP q] (fmP (numR q)):=by
 refine pc [37,35] (by kernel_rfl) Tryz.func62 Y Y (fun D=>?_);refine pa Y Y (pa Y Y ?_);exact pt (zl Y Y)
theorem Q.mul_one {x:Q} (h:x.Ok):Q.mul x Q.one=x:=by
 unfold Q.mul;have e1:Q.one.un=1:=rfl;simp only[e1,Nat.mul_one];have:(x.neg != false)=x.neg:=by cases x.neg<;>rfl
 rw[this];exact jw h
theorem Fm.Cn.ext {f g:Fm} (h:f.Cn) (k:g.Cn) (e:∀v,cfL f.terms v=cfL g.terms v) (ec:f.const=g.const):f=g:=by
 have:=a56 h.srt k.srt h.nz k.nz e;obtain⟨a,b⟩:=f;obtain⟨c,d⟩:=g;simp only at this ec;rw[this,ec]
theorem Fm.Cn.scale_one {f:Fm} (h:f.Cn):Fm.scaleR f Q.one=f:=Fm.Cn.ext h.scaleR h (fun v=>by rw[h.scale_cf,Q.mul_one (a40 h.nz)]) (Q.mul_one h.const)
theorem Fm.Cn.zero_addR {f:Fm} (h:f.Cn):Fm.addR Fm.zero f=f:=Fm.Cn.ext (cn_zero.addR h) h (fun v=>by rw[cn_zero.add_cf h,show cfL Fm.zero.terms v=Q.zero from rfl,Q.zadd (a40 h.nz)]) (Q.zadd h.const)
theorem Fm.Cn.addR_zero {f:Fm} (h:f.Cn):Fm.addR f Fm.zero=f:=Fm.Cn.ext (h.addR cn_zero) h (fun v=>by rw[h.add_cf cn_zero,show cfL Fm.zero.terms v=Q.zero from rfl,Q.addz (a40 h.nz)]) (Q.addz h.const)
theorem aam {s l t m:Nat} {f g:Fm} (h:f.S s l) (k:g.S t m) (hs:s≤10000) (ht:t≤10000) (hl:l≤400) (hm:m≤400):PCalls Tryz.prog TF 191 [fmP f,fmP g] (fmP (Fm.addR f g)):=by
 have:=alo (h.lo hs hl) (k.lo ht hm);rwa [ab7 h.cn k.cn,k.cn.scale_one] at this
theorem ng {s l t m:Nat} {f g:Fm} (h:f.S s l) (k:g.S t m) (hs:s≤10000) (ht:t≤10000) (hl:l≤400) (hm:m≤400):PCalls Tryz.prog TF 140 [fmP f,fmP g] (fmP (Fm.subR f g)):=by
 have:=alj (h.lo hs hl) (k.lo ht hm);rwa [ab7 h.cn k.cn] at this
theorem rj {s l t:Nat} {f:Fm} {q:Q} (h:f.S s l) (k:q.S t) (hs:s≤10000) (ht:t≤10000) (hl:l≤400):PCalls Tryz.prog TF 187 [fmP f,ratP q] (fmP (Fm.scaleR f q)):=by
 have:=aea (h.lo hs hl) (k.lo ht);rwa [ab7 cn_zero h.cn,h.cn.scaleR.zero_addR] at this
def PV.brief:PV→Prop
 | .rows _ _ _ xs=>xs.length≤9223372036854775807
 | .agg (.rows _ _ _ xs::_)=>xs.length≤9223372036854775807
 | _=>True
theorem PV.Rep.brief {w:World} {X:Nat→Prop} {p:PV} {v:Value} (h:p.Rep w X v):p.brief:=by
 have key:∀{e k:Nat} {ts:List Nat} {xs:List (List PV)} {u:Value},PV.Rep w X (.rows e k ts xs) u→xs.length≤9223372036854775807:=fun {e k ts xs u} h=>by
  rw[PV.Rep] at h;obtain⟨x,us,_,hn,h1,_⟩:=h;rw[← hn];exact nt h1.cap h1.max
 cases p with
 | rows e k ts xs=>exact key h
 | agg cs=>
  cases cs with
  | nil=>trivial
  | cons c cs=>
   cases c with
   | rows e k ts xs=>
    rw[PV.Rep] at h;obtain⟨us,_,h⟩:=h;rw[PV.RepL] at h;obtain⟨u,_,_,h1,_⟩:=h;exact key h1
   | _=>trivial
 | _=>trivial
theorem pln {C:Cx} {st:St} {Q:Exit→St→Prop} {c:Code} {p:PV} (t:Nat) (hs:st.slot t=some (.pv p)) (h:p.brief→PW C c st Q):PW C c st Q:=fun a w ht ⟨B,T,hi⟩=>by
 have h1:=hi.slot t _ hs;rw[SV.Rep] at h1;exact h h1.brief a w ht ⟨B,T,hi⟩
theorem zh {n:Nat} (h:n < 9223372036854775807):ariO .add .i64 (n:Int) 1=some (((n+1:Nat)):Int):=by
 show some (IntKind.wrap .i64 ((n:Int)+1))=_;rw[IntKind.wrap_i64];exact congrArg some om
theorem ahc {n:Nat} (h0:decide (0 < (n:Int))=true) (h:n≤9223372036854775807):ariO .sub .i64 (n:Int) 1=some (((n - 1:Nat)):Int):=by
 have:=of_decide_eq_true h0;show some (IntKind.wrap .i64 ((n:Int) - 1))=_;rw[IntKind.wrap_i64];exact congrArg some om
theorem ag8 {q:Q} (h:q.num≠0):(q.sign == 0)=false:=by
 have:=xp q;rw[df h] at this;simpa using this
theorem aif {x:Fm} {v:Nat} (hn:∀t∈x.terms,t.2.Sm) (hc:x.const.Sm) (k:x.Ok v):PCalls Tryz.prog [] 73 [fmP x,iP v] (bP true):=by
 refine pcA [37,138] Tryz.func73 (fun D=>?_);refine pln 0 Y fun hl9=>?_
 have hl9:x.terms.length≤9223372036854775807:=by have h:(x.terms.map tmC).length≤9223372036854775807:=hl9;rw[List.length_map] at h;exact h
 refine au ?_;refine pl (ι:={i:Nat // i≤x.terms.length}) (fun i=>[(1,.pv (iP (v:Int))),(2,.box 2 0),(4,.pv (bP false)),(8,.pv (bu x.terms)),(9,.pv (iP ((x.terms.map tmC).length:Int))),(10,.pv (iP (i.1:Int)))]) (fun _=>[(2,.box 37 [.pv (bu x.terms),.pv (bP x.const.neg),.pv (.nat x.const.num),.pv (.nat x.const.den)])]) [37,138] (fun i=>x.terms.length - i.1) ⟨0,nq _⟩ (ai Y (ai Y (ai Y (ai Y (ai Y (ai Y trivial)))))) (ai Y trivial) (fun _=>rfl) ?_;intro ⟨i,hi0⟩;refine a2 (fun e11=>?_) (fun e11=>?_)
 ·have hi:i < x.terms.length:=db e11;have hm:=bi (l:=x.terms) (z:=(i:Int)) om om;obtain⟨m1,m2,m3,m4⟩:=k.each _ hm;refine ax (c:=(aj (ah hi))) ?_;refine akF (c:=by exact df om) ?_;refine akF (c:=by exact df om) ?_;refine a2 (fun e27=>?_) (fun e27=>?_)
  ·have h0:0 < i:=by have h:(0:Int) < (i:Int):=of_decide_eq_true e27;omega
   have ha:=k.asc (i - 1) _ _ (ah (show i - 1 < x.terms.length by omega)) (by rw[show i - 1+1=i from by omega];exact ah hi);refine aa (c:=ahc e27 (by show i≤_;omega)) ?_;refine ax (c:=(aj (ah (show i - 1 < x.terms.length by omega)))) ?_;refine akF (c:=by exact df om) ?_;refine ac (c:=aaf (hn _ hm)) ?_;refine akF (c:=by exact ag8 m3) ?_;refine ac (c:=lz (hn _ hm) m4) ?_;refine aa (c:=zh (by show i < _;omega)) ?_;refine au ?_;exact pe ⟨i+1,hi⟩ (ai Y (ai Y (ai Y (ai Y (ai Y (ai Y trivial)))))) (ai Y trivial) Y (by show x.terms.length - (i+1) < x.terms.length - i;omega)
  ·refine ac (c:=aaf (hn _ hm)) ?_;refine akF (c:=by exact ag8 m3) ?_;refine ac (c:=lz (hn _ hm) m4) ?_;refine aa (c:=zh (by show i < _;omega)) ?_;refine au ?_;exact pe ⟨i+1,hi⟩ (ai Y (ai Y (ai Y (ai Y (ai Y (ai Y trivial)))))) (ai Y trivial) Y (by show x.terms.length - (i+1) < x.terms.length - i;omega)
 ·refine ac (c:=lz hc k.const) ?_;exact ar (c:=rfl)
theorem anx {x:Fm} {v:Nat} (hn:∀t∈x.terms,t.2.Sm) (hc:x.const.Sm) (k:x.Ok v):PCalls Tryz.prog [] 87 [fmP x,iP v] (bP true):=by
 refine pcA [37,138] Tryz.func87 (fun D=>?_);refine pln 0 Y fun hl9=>?_
 have hl9:x.terms.length≤9223372036854775807:=by have h:(x.terms.map tmC).length≤9223372036854775807:=hl9;rw[List.length_map] at h;exact h
 refine au ?_;refine pl (ι:={i:Nat // i≤x.terms.length}) (fun i=>[(1,.pv (iP (v:Int))),(2,.box 2 0),(4,.pv (bP false)),(5,.pv (iP (i.1:Int)))]) (fun _=>[(2,.box 37 [.pv (bu x.terms),.pv (bP x.const.neg),.pv (.nat x.const.num),.pv (.nat x.const.den)])]) [37,138] (fun i=>x.terms.length - i.1) ⟨0,nq _⟩ (ai Y (ai Y (ai Y (ai Y trivial)))) (ai Y trivial) (fun _=>rfl) ?_;intro ⟨i,hi0⟩;refine a2 (fun e11=>?_) (fun e11=>?_)
 ·have hi:i < x.terms.length:=db e11;have hm:=bi (l:=x.terms) (z:=(i:Int)) om om;obtain⟨m1,m2,m3,m4⟩:=k.each _ hm;refine ax (c:=(aj (ah hi))) ?_;refine akF (c:=by exact df om) ?_;refine akF (c:=by exact df om) ?_;refine a2 (fun e31=>?_) (fun e31=>?_)
  ·have h0:0 < i:=by have h:(0:Int) < (i:Int):=of_decide_eq_true e31;omega
   have ha:=k.asc (i - 1) _ _ (ah (show i - 1 < x.terms.length by omega)) (by rw[show i - 1+1=i from by omega];exact ah hi);refine aa (c:=ahc e31 (by show i≤_;omega)) ?_;refine ax (c:=(aj (ah (show i - 1 < x.terms.length by omega)))) ?_;refine akF (c:=by exact df om) ?_;refine ac (c:=iz (hn _ hm)) ?_;refine akF (c:=by exact (wh _).trans (df m3)) ?_;refine ac (c:=nf (hn _ hm) m4) ?_;refine aa (c:=zh (by show i < _;omega)) ?_;refine au ?_;exact pe ⟨i+1,hi⟩ (ai Y (ai Y (ai Y (ai Y trivial)))) (ai Y trivial) Y (by show x.terms.length - (i+1) < x.terms.length - i;omega)
  ·refine ac (c:=iz (hn _ hm)) ?_;refine akF (c:=by exact (wh _).trans (df m3)) ?_;refine ac (c:=nf (hn _ hm) m4) ?_;refine aa (c:=zh (by show i < _;omega)) ?_;refine au ?_;exact pe ⟨i+1,hi⟩ (ai Y (ai Y (ai Y (ai Y trivial)))) (ai Y trivial) Y (by show x.terms.length - (i+1) < x.terms.length - i;omega)
 ·refine ac (c:=nf hc k.const) ?_;exact ar (c:=rfl)
theorem a12 {x:Fm} {v:Nat} (h:x.Lo) (k:x.Ok v):PCalls Tryz.prog [] 73 [fmP x,iP v] (bP true):=aif (fun t ht=>(h.num t ht).sm) h.const.sm k
theorem r_v7 {x:Fm} {v:Nat} (h:x.Sm v):PCalls Tryz.prog [] 87 [fmP x,iP v] (bP true):=anx h.num h.const h.ok
theorem a9l {l:List Fm} {v:Nat} (h:∀x∈l,x.Sm v):PCalls Tryz.prog [] 114 [b7 l,iP v] (bP true):=by
 refine pcA [] Tryz.func114 (fun D=>?_);refine pln 0 Y fun hl9=>?_
 have hl9:l.length≤9223372036854775807:=by have h:(l.map fmC).length≤9223372036854775807:=hl9;rw[List.length_map] at h;exact h
 refine au ?_;refine pl (ι:={i:Nat // i≤l.length}) (fun i=>[(0,.pv (b7 l)),(1,.pv (iP (v:Int))),(4,.pv (bP false)),(5,.pv (iP (i.1:Int)))]) (fun _=>[]) [] (fun i=>l.length - i.1) ⟨0,nq _⟩ (ai Y (ai Y (ai Y (ai Y trivial)))) trivial (fun _=>rfl) ?_;intro ⟨i,hi0⟩;refine a2 (fun e9=>?_) (fun e9=>?_)
 ·have hi:i < l.length:=db e9;refine ax (c:=(aj (ah hi))) ?_;refine ac (c:=r_v7 (h _ (bi (l:=l) (z:=(i:Int)) om om))) ?_;refine aa (c:=zh (by show i < _;omega)) ?_;refine au ?_;exact pe ⟨i+1,hi⟩ (ai Y (ai Y (ai Y (ai Y trivial)))) trivial Y (by show l.length - (i+1) < l.length - i;omega)
 ·exact ar (c:=rfl)
theorem aci {x y:Nat} (h:x≤2000) (k:y≤2000):ariO .add .i64 (x:Int) (y:Int)=some ((x+y:Nat):Int):=by
 show some (IntKind.wrap .i64 ((x:Int)+(y:Int)))=_;rw[fx om om];exact congrArg some om
theorem ahd {α β:Type} {f:α→β} {x:Nat} {l:List α} (h:x≤2000) (k:l.length≤2000):ariO .add .i64 (x:Int) ((l.map f).length:Int)=some ((x+l.length:Nat):Int):=by rw[List.length_map];exact aci h k
theorem vr {g:Gm} (h:g.Va):PCalls Tryz.prog [] 57 [gmP g] (bP true):=by
 have g1:=h.i0;have g2:=h.i9;have g3:=h.u9;have g4:=h.o0;have g5:=h.o9;refine pcA [27] Tryz.func57 (fun D=>?_);refine akF (c:=by exact df om) ?_;refine akF (c:=by exact df om) ?_;refine akF (c:=by exact df (by rw[List.length_map];omega)) ?_;refine akF (c:=by exact df (by rw[List.length_map];omega)) ?_;refine akF (c:=by exact df (by rw[List.length_map];omega)) ?_;refine au ?_;refine pl (ι:={j:Nat // j≤g.units.length}) (fun j=>[(1,.box 1 0),(2,.pv (bP false)),(3,.pv (iP (j.1:Int)))]) (fun _=>[(1,.box 27 [.pv (iP g.inputs),.pv (b7 g.units),.pv (b7 g.outputs)])]) [27] (fun j=>g.units.length - j.1) ⟨0,nq _⟩ (ai Y (ai Y (ai Y trivial))) (ai Y trivial) (fun _=>rfl) ?_;intro ⟨j,hj0⟩;refine a2 (fun e34=>?_) (fun e34=>?_)
 ·have hi:j < g.units.length:=db e34;have hu:=h.us j _ (ah hi);refine ax (c:=(aj (ah hi))) ?_;refine aa (c:=aci om (by show j≤_;omega)) ?_;refine ac (c:=r_v7 hu) ?_;refine aa (c:=zh (by show j < _;omega)) ?_;refine au ?_;exact pe ⟨j+1,hi⟩ (ai Y (ai Y (ai Y trivial))) (ai Y trivial) Y (by show g.units.length - (j+1) < g.units.length - j;omega)
 ·refine aa (c:=ahd om om) ?_;refine ac (c:=a9l h.os) ?_;exact ar (c:=rfl)
theorem a9m {l:List Q} (hl:l.length≤1000) (h:∀q∈l,q.Sm∧q.Ok):PCalls Tryz.prog [] 141 [cz l] (bP true):=by
 refine pcA [] Tryz.func141 (fun D=>?_);refine au ?_;refine pl (ι:={i:Nat // i≤l.length}) (fun i=>[(0,.pv (cz l)),(2,.pv (bP false)),(3,.pv (iP i.1))]) (fun _=>[]) [] (fun i=>l.length - i.1) ⟨0,nq _⟩ (ai Y (ai Y (ai Y trivial))) trivial (fun _=>rfl) ?_;intro ⟨i,hi⟩;refine a2 (fun e7=>?_) (fun e7=>?_)
 ·refine ax (c:=(aj (ge (db e7)))) ?_;refine ac (c:=nf (h _ (mg (ge (db e7)))).1 (h _ (mg (ge (db e7)))).2) ?_;refine aa (c:=ae (by have:i < l.length:=db e7;show i≤_;omega)) ?_;refine au ?_;exact pe ⟨i+1,db e7⟩ (ai Y (ai Y (ai Y trivial))) trivial Y (by have:i < l.length:=db e7;show l.length - (i+1) < l.length - i;omega)
 ·exact ar (c:=rfl)
structure Rgm.Va (r:Rgm) (n s:Nat):Prop where
 i0:1≤n
 i9:n≤256
 lo:r.lo.length=n
 hi:r.hi.length=n
 los:∀q∈r.lo,q.S s
 his:∀q∈r.hi,q.S s
 le:∀(i:Nat) (a b:Q),r.lo[i]?=some a→r.hi[i]?=some b→isg (Q.add a b.neg').neg (Q.add a b.neg').num≤0∧Q.cmpQ a b≤0
 r9:r.rows.length≤256
 rows:∀f∈r.rows,f.Ok n∧f.S s n
 s9:s≤1000
structure Qr.Va (q:Qr) (s:Nat):Prop where
 g:q.g.Va
 us:∀f∈q.g.units,f.S s (q.g.inputs+q.g.units.length)
 rg:q.rg.Va q.g.inputs s
 ok:q.goal.Ok (q.g.inputs+q.g.units.length)
 goal:q.goal.S 100 (q.g.inputs+q.g.units.length)
theorem Fm.S.fsm {s l v:Nat} {f:Fm} (h:f.S s l) (hs:s≤10000) (k:f.Ok v):f.Sm v:=⟨k,fun t ht=>(h.each t ht).sm hs,h.const.sm hs⟩
theorem a9q {r:Rgm} {n s:Nat} (h:r.Va n s):PCalls Tryz.prog TU 86 [rgP r,iP n] (bP true):=by
 refine pcA [30] Tryz.func86 (fun D=>?_);refine akF (c:=by exact (show _=false from df (by have:=h.i0;omega))) ?_;refine akF (c:=by exact (show _=false from df (by have:=h.i9;omega))) ?_;refine akF (c:=by exact (show _=false from by rw[List.length_map,h.lo];exact bne_self_eq_false _)) ?_;refine akF (c:=by exact (show _=false from by rw[List.length_map,h.hi];exact bne_self_eq_false _)) ?_;refine akF (c:=by exact (show _=false from df (by have:=h.r9;rw[List.length_map];omega))) ?_;refine ac (c:=a9m (by have:=h.lo;have:=h.i9;omega) fun q hq=>⟨(h.los q hq).sm (by have:=h.s9;omega),(h.los q hq).ok⟩) ?_;refine ac (c:=a9m (by have:=h.hi;have:=h.i9;omega) fun q hq=>⟨(h.his q hq).sm (by have:=h.s9;omega),(h.his q hq).ok⟩) ?_;refine ac (c:=a9l fun f hf=>(h.rows f hf).2.fsm (by have:=h.s9;omega) (h.rows f hf).1) ?_;refine au ?_;refine pl (ι:={i:Nat // i≤n}) (fun i=>[(1,.pv (iP n)),(2,.box 2 0),(5,.pv (iP i.1))]) (fun _=>[(2,.box 30 [.pv (cz r.lo),.pv (cz r.hi),.pv (b7 r.rows)])]) [30] (fun i=>n - i.1) ⟨0,nq _⟩ (ai Y (ai Y (ai Y trivial))) (ai Y trivial) (fun _=>rfl) ?_;intro ⟨i,hi⟩;refine a2 (fun e51=>?_) (fun e51=>?_)
 ·have h1:i < r.lo.length:=by have:i < n:=i_lt e51;have:=h.lo;omega
  have h2:i < r.hi.length:=by have:i < n:=i_lt e51;have:=h.hi;omega
  have hlo:=h.los _ (mg (ah h1));have hhi:=h.his _ (mg (ah h2));have hs9:=h.s9;refine ax (c:=(aj (ah h1))) ?_;refine ax (c:=(aj (ah h2))) ?_;refine ac (c:=a4o (hlo.sm om) (hhi.sm om) hlo.ok hhi.neg.ok ((hlo.add hhi.neg).sm om)) ?_;refine akF (c:=by exact (show _=false from df (by have:=(h.le i _ _ (ah h1) (ah h2)).1;omega))) ?_;refine aa (c:=ae (by have:i < n:=i_lt e51;have:=h.i9;show i≤_;omega)) ?_;refine au ?_;exact pe ⟨i+1,i_lt e51⟩ (ai Y (ai Y (ai Y trivial))) (ai Y trivial) Y (by have:i < n:=i_lt e51;show n - (i+1) < n - i;omega)
 ·exact ar (c:=rfl)
theorem akp {g:Gm} (h:g.Va):PCalls Tryz.prog [] 88 [gmP g] (iP ((g.inputs+g.units.length:Nat):Int)):=by
 refine pcA [27] Tryz.func88 (fun D=>?_);refine ac (c:=vr h) ?_;refine aa (c:=jg (by have:=h.i9;omega) (by have:=h.i9;omega) om (by have:=h.u9;rw[List.length_map];omega)) ?_;exact ar (c:=by rw[List.length_map];rfl)
theorem r8 {q:Qr} {s:Nat} (h:q.Va s):PCalls Tryz.prog TU 40 [qyP q] (bP true):=by
 refine pcA [39] Tryz.func40 (fun D=>?_);refine ac (c:=vr h.g) ?_;refine ac (c:=a9q h.rg) ?_;refine ac (c:=akp h.g) ?_;refine ac (c:=r_v7 (h.goal.fsm (by have:=h.rg.s9;omega) h.ok)) ?_;exact ar (c:=rfl)
abbrev sgQ (q:Q):Int:=isg q.neg q.num
def dj (q:Qr) (d:Dc):Bool:=
 bif d.kind == 1||d.kind == 2 then decide (0≤d.index)&&(decide (d.index < (q.g.units.length:Int))&&decide (d.at_=Q.zero))
 else bif d.kind == 3||d.kind == 4 then decide (0≤d.index)&&decide (d.index < (q.g.inputs:Int)) else false
def hitQ (q:Qr) (kind unit:Int) (d:Dc):Bool:=d.kind == kind&&(d.index == unit&&dj q d)
def jp (s:Sc) (kind unit:Int):Bool:=s.path.any (hitQ s.q kind unit)
def b8 (ls:List Lm) (n unit:Int) (upper:Bool):Q×Bool:=
 bif decide (n < 1)||(decide ((ls.length:Int) < n)||(((atZ ls (n - 1)).unit != unit)||((atZ ls (n - 1)).upper != upper))) then (Q.zero,false)
 else (ck (atZ ls (n - 1)).value,true)
def onQ (s:Sc) (r:Rw) (l:Q×Bool):Bool:=r.hi == 0&&((r.lo == 0&&jp s 1 r.index)||(l.2&&decide (0≤sgQ l.1)))
def offQ (s:Sc) (r:Rw) (u:Q×Bool):Bool:=r.lo == 0&&((r.hi == 0&&jp s 2 r.index)||(u.2&&decide (sgQ u.1≤0)))
def cd (v p:Fm) (l u:Q×Bool) (on off:Bool) (r:Rw):Fm×Bool:=
 bif r.kind == 5 then (v,r.lo == 0&&r.hi == 0)
 else bif r.kind == 6 then (Fm.subR v p,r.lo == 0&&r.hi == 0)
 else bif r.kind == 7 then (p,on)
 else bif r.kind == 8 then (Fm.subR p v,on)
 else bif r.kind == 9 then (Fm.scaleR p Q.mone,off)
 else bif r.kind == 10 then (Fm.scaleR v Q.mone,off)
 else bif r.kind == 11 then (Fm.subR p (numR l.1),l.2&&r.hi == 0)
 else bif r.kind == 12 then (Fm.subR (numR u.1) p,u.2&&r.lo == 0)
 else bif r.kind == 13 then (Fm.subR (Fm.scaleR (Fm.subR p (numR l.1)) u.1) (Fm.scaleR v (Q.add u.1 l.1.neg')),l.2&&(u.2&&(decide (sgQ l.1 < 0)&&decide (0 < sgQ u.1))))
 else (Fm.zero,false)
def cg (s:Sc) (r:Rw):Fm×Bool:=
 bif decide (r.index < 0)||decide ((s.q.g.units.length:Int)≤r.index) then (Fm.zero,false)
 else
  bif (cd (varR (s.q.g.inputs+r.index)) (atZ s.q.g.units r.index) (b8 s.lems r.lo r.index false) (b8 s.lems r.hi r.index true) (onQ s r (b8 s.lems r.lo r.index false)) (offQ s r (b8 s.lems r.hi r.index true)) r).2
  then ((cd (varR (s.q.g.inputs+r.index)) (atZ s.q.g.units r.index) (b8 s.lems r.lo r.index false) (b8 s.lems r.hi r.index true) (onQ s r (b8 s.lems r.lo r.index false)) (offQ s r (b8 s.lems r.hi r.index true)) r).1,true)
  else (Fm.zero,false)
def i6 (d:Dc):Fm×Bool:=bif d.kind == 3 then (Fm.subR (varR d.index) (numR d.at_),true) else bif d.kind == 4 then (Fm.scaleR (Fm.subR (varR d.index) (numR d.at_)) Q.mone,true) else (Fm.zero,false)
def bq (s:Sc) (r:Rw):Fm×Bool:=
 bif decide (5≤r.kind) then cg s r
 else bif (r.lo != 0)||((r.hi != 0)||decide (r.index < 0)) then (Fm.zero,false)
 else bif r.kind == 1 then (bif decide (r.index < (s.q.rg.lo.length:Int)) then (Fm.subR (varR r.index) (numR (atZ s.q.rg.lo r.index)),true) else (Fm.zero,false))
 else bif r.kind == 2 then (bif decide (r.index < (s.q.rg.hi.length:Int)) then (Fm.subR (numR (atZ s.q.rg.hi r.index)) (varR r.index),true) else (Fm.zero,false))
 else bif r.kind == 3 then (bif decide (r.index < (s.q.rg.rows.length:Int)) then (atZ s.q.rg.rows r.index,true) else (Fm.zero,false))
 else bif r.kind == 4 then (bif decide ((s.path.length:Int)≤r.index)||!dj s.q (atZ s.path r.index) then (Fm.zero,false) else i6 (atZ s.path r.index))
 else (Fm.zero,false)
structure Sc.Va (s:Sc) (a b:Nat):Prop where
 q:s.q.Va a
 path:∀d∈s.path,d.at_.S a
 p9:s.path.length≤1000
 lems:∀m∈s.lems,m.value.S b
 l9:s.lems.length≤1000
 b1:1≤b
 b9:b≤8
 a9:a≤2
 n9:s.q.g.inputs+s.q.g.units.length≤8
theorem pg {α:Type} [Inhabited α] {f:α→Bool} {l:List α} {i:Nat} (h:(l.take i).any f=false) (hi:i < l.length) (hf:f (atZ l i)=false):(l.take (i+1)).any f=false:=by
 rw[List.take_add_one,List.any_append,h,ah hi];simp[hf]
theorem a57 {α:Type} {f:α→Bool} {l:List α} {i:Nat} (h:(l.take i).any f=false) (hi:l.length≤i):l.any f=false:=by rwa [List.take_of_length_le hi] at h
theorem a25 {α:Type} [Inhabited α] {f:α→Bool} {l:List α} {i:Nat} (hi:i < l.length) (hf:f (atZ l i)=true):l.any f=true:=List.any_eq_true.2 ⟨_,mg (ah hi),hf⟩
theorem ox {ls:List Lm} {n unit:Int} {up:Bool} {b:Nat} (h:∀m∈ls,m.value.S b) (hb:1≤b):(b8 ls n unit up).1.S b:=by
 unfold b8;cases h1:decide (n < 1) with
 | true=>exact sz_zero.up hb
 | false=>
  cases h2:decide ((ls.length:Int) < n) with
  | true=>exact sz_zero.up hb
  | false=>
   have h3:=of_decide_eq_false h1;have h4:=of_decide_eq_false h2;cases ((atZ ls (n - 1)).unit != unit)||((atZ ls (n - 1)).upper != up) with
   | true=>exact sz_zero.up hb
   | false=>
    have:=h _ (bi (l:=ls) (z:=n - 1) om om);show (ck _).S b;rw[this.canon];exact this
def io (a b:Rw):Bool:=bif a.kind != b.kind then decide (a.kind < b.kind) else bif a.index != b.index then decide (a.index < b.index) else bif a.lo != b.lo then decide (a.lo < b.lo) else decide (a.hi < b.hi)
def jl (a b:Rw):Bool:=a.kind == b.kind&&(a.index == b.index&&(a.lo == b.lo&&a.hi == b.hi))
theorem r4 {a b:Rw}:jl a b=decide (a=b):=by
 obtain⟨a1,a2,a3,a4⟩:=a;obtain⟨b1,b2,b3,b4⟩:=b;simp[jl,Bool.decide_and];rfl
abbrev rwA (a:Rw):Array Value:=#[.int .i64 a.kind,.int .i64 a.index,.int .i64 a.lo,.int .i64 a.hi]
theorem a1m (us:Array Value) (off:Nat) (v:Value) (w:World) (h:us[off]?=some v):(part 3 us off).run Tryz.prog w=.ok v w:=
 (qz (us:=us.toList) (t:=3) (n:=1) (d:=.int .i64) (by kernel_rfl) (by kernel_rfl)).1 rfl v (by simpa using h)
theorem amr (d:Nat) (m n:Int) (w:World):(Op.equalIn (d+1) 3 (.int .i64 m) (.int .i64 n)).run Tryz.prog w=.ok (m == n) w:=run_equalIn_int w d _ .i64 .i64 m n (by kernel_rfl)
theorem a7q : (Tryz.prog.fieldsOf 96).toList.map (fun f => (f.name == "_", f.type, f.offset)) = [(false, 3, 0), (false, 3, 1), (false, 3, 2), (false, 3, 3)] := by kernel_rfl
theorem eqF (a b:Rw) (w:World):(Op.eqFields 9999 (rwA a) (rwA b) (Tryz.prog.fieldsOf 96).toList).run Tryz.prog w=.ok (jl a b) w:=by
 have h:=a7q;generalize (Tryz.prog.fieldsOf 96).toList=fs at h
 match fs,h with
 | [],h=>simp at h
 | [_],h=>simp at h
 | [_,_],h=>simp at h
 | [_,_,_],h=>simp at h
 | _::_::_::_::_::_,h=>simp at h
 | [f0,f1,f2,f3],h=>
  simp only[List.map_cons,List.map_nil,List.cons.injEq,Prod.mk.injEq,beq_eq_false_iff_ne,and_true] at h;obtain⟨⟨n0,t0,o0⟩,⟨n1,t1,o1⟩,⟨n2,t2,o2⟩,n3,t3,o3⟩:=h;have step : ∀ (f : Field) (fs : List Field) (m n : Int), f.name ≠ "_" → f.type = 3 → (rwA a)[f.offset]? = some (.int .i64 m) → (rwA b)[f.offset]? = some (.int .i64 n) → (Op.eqFields 9999 (rwA a) (rwA b) (f :: fs)).run Tryz.prog w = if m == n then (Op.eqFields 9999 (rwA a) (rwA b) fs).run Tryz.prog w else .ok false w := fun f fs m n h1 h2 h3 h4 => by
   rw[Op.eqFields,if_pos h1,h2];rw[Sem.run_bind,a1m _ _ _ _ h3,Result.andThen_ok,Sem.run_bind,a1m _ _ _ _ h4,Result.andThen_ok,Sem.run_bind,amr 9998,Result.andThen_ok];cases m == n<;>rfl
  rw[step f0 _ a.kind b.kind n0 t0 (by rw[o0];rfl) (by rw[o0];rfl),step f1 _ a.index b.index n1 t1 (by rw[o1];rfl) (by rw[o1];rfl),step f2 _ a.lo b.lo n2 t2 (by rw[o2];rfl) (by rw[o2];rfl),step f3 _ a.hi b.hi n3 t3 (by rw[o3];rfl) (by rw[o3];rfl)];unfold jl;cases a.kind == b.kind<;>cases a.index == b.index<;>cases a.lo == b.lo<;>cases a.hi == b.hi<;>rfl
section
variable {T:List Nat} {Z:Nat} {D:Dom Tryz.prog T Z} {N:Nat} {st:St} {Q:Exit→St→Prop} {ops:List Oper} {draw:Bool} {acc:List Itm}
theorem ain {C:Cx} (hP:C.P=Tryz.prog) {o:Oper} {op:BinOp} {t2:Nat} {x y:Operand} {sx sy:SV} {a b:Rw} (r:Bool) (ho:o.op=.binOp op 96 x y t2) (hx:ev st x=some sx) (hy:ev st y=some sy) (cx:coSV st sx=some (rwP a)) (cy:coSV st sy=some (rwP b)) (ix:sx.ids=[]) (iy:sy.ids=[]) (hop:(op=.eql∧r=jl a b)∨(op=.neq∧r=!jl a b)) (hd:∀d,o.dst=some d→C.dk d):OpE C st.tys o st (valE (.pv (.raw (.bool r))) []):=by
 refine bp hd fun st1 ag a1 w B T hi=>?_
 have hx':=hx;have hy':=hy;rw[← ag.ev (by rw[ho];simp[Op.operands])] at hx' hy';have mv:∀{s:SV} {p:PV},coSV st s=some p→s.ids=[]→Co st1 s p:=fun h h0=>(lc h).move fun i hi=>by rw[h0] at hi;cases hi
 have key:∀{s:SV} {c:Rw} {v:Value},Co st1 s (rwP c)→s.ids=[]→SV.Rep w (Own0 C st1 B T) B T s v→v=.agg (rwA c):=fun {s c v} h h0 h1=>by
  have:=Co.rep hi h h1 (X:=Own0 C st1 B T) fun b hb=>⟨hb,fun ⟨i,hi2,_⟩=>by rw[h0] at hi2;cases hi2⟩
  rw[PV.Rep] at this;obtain⟨us,rfl,h2⟩:=this;unfold rwC at h2;simp only[PV.RepL,PV.Rep] at h2;obtain⟨u1,l1,rfl,rfl,u2,l2,rfl,rfl,u3,l3,rfl,rfl,u4,l4,rfl,rfl,rfl⟩:=h2;rfl
 have h1:=key (mv cx ix) ix (bg hi hx').1;have h2:=key (mv cy iy) iy (bg hi hy').1;refine⟨.bool r,?_,by rw[SV.Rep,PV.Rep],fun i hi=>by cases (show i∈([]:List Nat) from hi)⟩;have hm:C.P.eqGuardType C.P.depth 96=false:=by rw[hP];kernel_rfl
 simp only[execOp,ho,h1,h2];rw[Sem.run_bind,Sem.run_bind,run_eqGuard_agg w op _ x y _ _ hm,Result.andThen_ok];have e:(Op.equalIn 10000 96 (.agg (rwA a)) (.agg (rwA b))).run C.P w=.ok (jl a b) w:=by
  rw[hP,run_equalIn_agg w 9999 _ _ _ (by kernel_rfl) (by kernel_rfl)];exact eqF a b w
 rcases hop with ⟨rfl,rfl⟩ | ⟨rfl,rfl⟩
 ·rw[run_eql_struct,e];rfl
 ·rw[run_neq_struct,e];rfl
theorem rr0 {k:Nat} {ks:List Nat} {dst:Option Nat} {op:BinOp} {t2:Nat} {x y:Operand} {sx sy:SV} {a b:Rw} {ty:TypeId} {ps:String} {af:Array Edge} {gd:Option (Nat×Bool)} (r:Bool) (hk:nthL ops k=some ⟨dst,.binOp op 96 x y t2,ty,ps,af,gd⟩) (hw:ed ops.toArray ⟨dst,.binOp op 96 x y t2,ty,ps,af,gd⟩ st=some true) (hd:dstB ⟨dst,.binOp op 96 x y t2,ty,ps,af,gd⟩ N Z=true) (hx:ev st x=some sx) (hy:ev st y=some sy) (cx:coSV st sx=some (rwP a)) (cy:coSV st sy=some (rwP b)) (ix:sx.ids=[]) (iy:sy.ids=[]) (hop:(op=.eql∧r=jl a b)∨(op=.neq∧r=!jl a b))
  (next:Reg (D.cx N) ops draw Q (acc++[⟨k,true,valE (.pv (.raw (.bool r))) [],lkOf ops k st (valE (.pv (.raw (.bool r))) [])⟩]) ks ((valE (.pv (.raw (.bool r))) []).app dst st)):Reg (D.cx N) ops draw Q acc (k::ks) st:=
 fe hk hw hd (fun hd=>ain (C:=D.cx N) rfl r rfl hx hy cx cy ix iy hop hd) next
end
section
variable {C:Cx} {o:Oper} {st:St}
theorem am3 {f:FuncId} {caps:Array Operand} {ss:List SV} (ho:o.op=.makeFunc (.func f) #[] caps) (ha:evL st caps.toList=some ss) (hd:∀d,o.dst=some d→C.dk d):OpE C st.tys o st (valE (.fn f ss) []):=by
 refine bp hd fun st1 ag a w B T hi=>?_
 rw[← jz ag fun x hx=>by
  rw[ho];simp only[Op.operands];first | exact Array.mem_toList_iff.1 hx | (simp;exact Array.mem_toList_iff.1 hx)] at ha
 obtain⟨g1,g2⟩:=me hi ha;refine⟨.func (.func f) #[] (caps.toList.map a.eval).toArray,?_,by rw[SV.Rep];exact⟨_,rfl,g1⟩,fun i hi=>g2 i (by rw[SV.ids] at hi;exact hi)⟩;simp only[execOp,ho];rw[show (caps.toList.map a.eval).toArray=caps.map a.eval from by rw[← Array.toList_map,Array.toArray_toList]];simp[Instr.makeFunc]
end
section
variable {C:Cx} {tys:List Nat} {o:Oper} {st:St}
theorem a32 {c:Call} {f:FuncId} {ss:List SV} {ps:List PV} {res:PV} {Tg:List Nat} (ho:o.op=.call c) {x:Operand} {sf:SV} {ps2:List PV} (hc:c.callee=.value x) (hx:ev st x=some sf) (hcf:Co st sf (.fn f ps2)) (ha:evL st c.args.toList=some ss) (hco:CoL st ss ps) (hp:PCalls C.P Tg f (ps++ps2) res) (hT:Tg.all (fun t=>C.T.contains t)=true) (hty:Tg.all (fun t=>!st.tys.contains t)=true) (hl:ve st (SV.idsL ss++sf.ids) res.ty=true) (hd:∀d,o.dst=some d→C.dk d):
  OpE C st.tys o st (valE (.pv res) (SV.idsL ss++sf.ids)):=by
 refine⟨fun i r e=>(by cases e),fun st1 h1 h2 h3 a w ⟨B,T,hi⟩=>?_⟩;have h2':∀i∈SV.idsL ss++sf.ids,st1.res i=st.res i:=fun i hi=>h2 i (List.mem_append_left _ hi)
 have ha':=ha;rw[← jz (o:=o) (st1:=st1) (rb:=[]) ⟨h1,fun i hi=>by cases hi⟩ fun x hx=>by
  rw[ho];simp only[Op.operands,Call.operands,hc,Array.mem_append];exact .inr (Array.mem_toList_iff.1 hx)] at ha'
 obtain⟨g1,g2⟩:=me hi ha';have hco':=hco.move fun i hi=>h2' i (List.mem_append_left _ hi)
 have hcf':=hcf.move fun i hi=>h2' i (List.mem_append_right _ hi)
 have hx':=hx;rw[← (show Agree o [] st st1 from ⟨h1,fun i hi=>by cases hi⟩).ev (by rw[ho];simp[Op.operands,Call.operands,hc])] at hx';have gf:=(bg hi hx').1
 let X:Nat→Prop:=fun b=>Own0 C st1 B T b∧¬lent st1 B T (SV.idsL ss++sf.ids) b
 have old:∀b,Own0 C st1 B T b→b < w.heap.size:=fun b hb=>by
  rcases hb with hb | ⟨i,r,hr,hb⟩
  ·exact nk (C.old b hb) hi.gr.size
  ·have hin:=hi.inn i r hr;cases r with
   | box ty' cells'=>
    obtain⟨h1,vs,h2,h3⟩:=hin;simp only[Res.blk,oq] at hb;rw[← hb];exact h2.lt
   | tok e' k ts xs=>
    obtain⟨vs,h1,_⟩:=hin;exact (mw h1 b hb).2
 have hrep:PV.RepL w X ps (c.args.toList.map a.eval):=CoL.rep hi hco' g1 fun b hb=>⟨hb.1,fun ⟨i,hi,k⟩=>hb.2 ⟨i,List.mem_append_left _ hi,k⟩⟩
 obtain⟨us2,hf2,hrep2⟩:∃us2:List Value,a.eval x=.func (.func f) #[] us2.toArray∧PV.RepL w X ps2 us2:=by
  have:=Co.rep hi hcf' gf (X:=X) fun b hb=>⟨hb.1,fun ⟨i,hi,k⟩=>hb.2 ⟨i,List.mem_append_right _ hi,k⟩⟩
  rw[PV.Rep] at this;exact this
 have run:(execOp a.eval o).run C.P w=.ok (.enter f (c.args.map a.eval++us2.toArray)) w:=by
  simp only[execOp,ho,resolve,hc,Sem.run_bind];rw[hf2];simp only[Deferred.ofValue];simp[invoke,kg hp.1]
 refine er run ?_;have hcall:=hp.2 w X (c.args.toList.map a.eval++us2) (fun b hb=>old b hb.1) (fun b cs t fr hb hh ht=>by
  have htc:=List.all_eq_true.1 hT t ht;have hty':=List.all_eq_true.1 hty t ht;rcases hb.1 with hb1 | ⟨i,r,hr,hb1⟩
  ·have hlt:=C.old b hb1;have hh':C.w0.heap[b]?=some (.cells cs t fr):=by rw[← hi.gr.old hb1];exact hh
   exact C.hT b cs t fr hb1 hh' (List.contains_iff_mem.1 htc)
  ·have hrt:=h3 i r hr;have:r.typ=t:=by
    have hin:=hi.inn i r hr;cases r with
    | box ty' cells'=>
     obtain⟨k1,vs,k2,k3⟩:=hin;simp only[Res.blk,oq] at hb1;rw[← hb1,k2] at hh;injection hh with hh;injection hh with _ hh _
    | tok e' k ts xs=>
     obtain⟨vs,k1,_⟩:=hin;obtain⟨cur,k2⟩:=a7m k1 b hb1;rw[k2] at hh;injection hh with hh;injection hh with _ hh _
   rw[this] at hrt;simp only[Bool.not_eq_true'] at hty';have:=List.contains_iff_mem.2 hrt;rw[hty'] at this;cases this) (PV.RepL.append hrep hrep2)
 rw[show (c.args.map a.eval++us2.toArray)=(c.args.toList.map a.eval++us2).toArray from by rw[← Array.toList_map];simp];refine hcall.mono fun e w' ⟨v,he,hv,G⟩=>⟨v,he,?_⟩
 refine qi hi G ?_ (fun i hi=>by cases (show i∈([]:List Nat) from hi)) hd;rw[SV.Rep];refine hv.still ⟨nr _,fun b cs t fr hx hh ht=>⟨rfl,fun hb=>?_⟩⟩;by_cases hlent:lent st1 B T (SV.idsL ss++sf.ids) b
 ·obtain⟨i,hi1,r,hr,hb2⟩:=hlent;have hl1:=List.all_eq_true.1 hl i hi1;rw[← h2' i hi1,hr] at hl1;simp only[Bool.not_eq_true'] at hl1;have hin:=hi.inn i _ hr;have htyp:∃cur fr',w.heap[b]?=some (.cells cur r.typ fr'):=by
   cases r with
   | box ty' cells'=>
    obtain⟨k1,vs,k2,k3⟩:=hin;simp only[Res.blk,oq] at hb2;subst hb2;exact⟨_,_,k2⟩
   | tok e' k ts xs=>
    obtain⟨us,q1,_⟩:=hin;obtain⟨cur,q2⟩:=a7m q1 b hb2;exact⟨_,_,q2⟩
  obtain⟨cur,fr',q2⟩:=htyp;have hlt:b < w.heap.size:=by
   rcases Nat.lt_or_ge b w.heap.size with g | g
   ·exact g
   ·rw[Array.getElem?_eq_none g] at q2;cases q2
  rw[G.below.block b hlt,q2] at hh;injection hh with hh;injection hh with _ hh _;subst hh;rw[List.contains_iff_mem.2 ht] at hl1;cases hl1
 ·exact hx ⟨hb,hlent⟩
end
section
variable {T:List Nat} {Z:Nat} {D:Dom Tryz.prog T Z} {N:Nat} {st:St} {Q:Exit→St→Prop} {ops:List Oper} {draw:Bool} {acc:List Itm}
theorem rmk {k:Nat} {ks:List Nat} {dst:Option Nat} {f:FuncId} {caps:Array Operand} {ss:List SV} {ty:TypeId} {ps:String} {af:Array Edge} {gd:Option (Nat×Bool)} (hk:nthL ops k=some ⟨dst,.makeFunc (.func f) #[] caps,ty,ps,af,gd⟩) (hw:ed ops.toArray ⟨dst,.makeFunc (.func f) #[] caps,ty,ps,af,gd⟩ st=some true) (hd:dstB ⟨dst,.makeFunc (.func f) #[] caps,ty,ps,af,gd⟩ N Z=true) (ha:evL st caps.toList=some ss)
  (next:Reg (D.cx N) ops draw Q (acc++[⟨k,true,valE (.fn f ss) [],lkOf ops k st (valE (.fn f ss) [])⟩]) ks ((valE (.fn f ss) []).app dst st)):Reg (D.cx N) ops draw Q acc (k::ks) st:=fe hk hw hd (fun hd=>am3 (C:=D.cx N) rfl ha hd) next
theorem rcv {k:Nat} {ks:List Nat} {c:Call} {f:FuncId} {x:Operand} {sf:SV} {ss:List SV} {ps ps2:List PV} {res:PV} {Tg:List Nat} {dst:Option Nat} {ty:TypeId} {pos:String} {af:Array Edge} {gd:Option (Nat×Bool)} (hp:PCalls Tryz.prog Tg f (ps++ps2) res) (hk:nthL ops k=some ⟨dst,.call c,ty,pos,af,gd⟩) (hw:ed ops.toArray ⟨dst,.call c,ty,pos,af,gd⟩ st=some true) (hd:dstB ⟨dst,.call c,ty,pos,af,gd⟩ N Z=true) (hc:c.callee=.value x) (hx:ev st x=some sf) (hcf:coSV st sf=some (.fn f ps2)) (ha:evL st c.args.toList=some ss) (hco:mm st ss=some ps) (hT:(Tg.all (fun t=>T.contains t)&&(Tg.all (fun t=>!st.tys.contains t)&&ve st (SV.idsL ss++sf.ids) res.ty))=true) (next:Reg (D.cx N) ops draw Q (acc++[⟨k,true,valE (.pv res) (SV.idsL ss++sf.ids),lkOf ops k st (valE (.pv res) (SV.idsL ss++sf.ids))⟩]) ks ((valE (.pv res) (SV.idsL ss++sf.ids)).app dst st)):Reg (D.cx N) ops draw Q acc (k::ks) st:=by
 simp only[be] at hT;exact fe hk hw hd (fun hd=>a32 (C:=D.cx N) rfl hc hx (lc hcf) ha (ir hco) hp hT.1 hT.2.1 hT.2.2 hd) next
end
section
variable {C:Cx} {o:Oper} {st:St} {x:Operand} {k:IntKind} {m:Int}
theorem aas {t t2:Nat} {y:Operand} {n:Int} (ho:o.op=.binOp .rem t x y t2) (hx:ev st x=some (.pv (.raw (.int k m)))) (hy:ev st y=some (.pv (.raw (.int k n)))) (hn:n≠0) (hd:∀d,o.dst=some d→C.dk d):OpE C st.tys o st (valE (.pv (.raw (.int k (m.tmod n)))) []):=by
 refine a15 ho hx hy (fun w=>?_) hd;simp[binOp,Op.intDiv,eqGuard,hn]
theorem a6f {s d:Nat} {j:IntKind} {ds:TypeDesc} (ho:o.op=.convert s d x) (hx:ev st x=some (.pv (.raw (.int k m)))) (hs:C.P.underlying s=some ds) (hu:C.P.underlying d=some (.int j)) (hd:∀d,o.dst=some d→C.dk d):OpE C st.tys o st (valE (.pv (.raw (.int j (j.wrap m)))) []):=by
 refine bp hd fun st1 ag a w B T hi=>?_
 rw[← ag.ev (by rw[ho];simp[Op.operands])] at hx;have h1:=(bg hi hx).1;rw[SV.Rep,PV.Rep] at h1;refine⟨.int j (j.wrap m),?_,by rw[SV.Rep,PV.Rep],fun i hi=>by cases (show i∈([]:List Nat) from hi)⟩;simp[execOp,ho,h1,convert,run_underlying hs,run_underlying hu,Conv.intToInt]
theorem aio {c:Call} {y:Operand} {n:Int} (ho:o.op=.call c) (hc:c={ callee:=.builtin .min,args:=#[x,y],argTypes:=c.argTypes }) (hx:ev st x=some (.pv (.raw (.int k m)))) (hy:ev st y=some (.pv (.raw (.int k n)))) (hd:∀d,o.dst=some d→C.dk d):OpE C st.tys o st (valE (.pv (.raw (.int k (if n < m then n else m)))) []):=by
 refine bp hd fun st1 ag a w B T hi=>?_
 rw[hc] at ho;rw[← ag.ev (by rw[ho];simp[Op.operands,Call.operands])] at hx hy;have h1:=(bg hi hx).1;have h2:=(bg hi hy).1;rw[SV.Rep,PV.Rep] at h1 h2;refine⟨.int k (if n < m then n else m),?_,by rw[SV.Rep,PV.Rep],fun i hi=>by cases (show i∈([]:List Nat) from hi)⟩;unfold execOp;simp only[ho,resolve,invoke,builtin,Sem.run_bind,Sem.run_pure,Result.andThen_ok,List.map_toArray,List.map_cons,List.map_nil,h1,h2];simp[Builtin.min_,Builtin.min2]
end
section
variable {C:Cx} {o:Oper} {st:St} {t:Nat}
theorem a31 {tab:Tab} (hT:iv C.P tab) {x:Operand} {l:Lay} {id ty off:Nat} {cs:List SV} {s:SV} (ho:o.op=.load t x) (hl:tab.get t=some l) (hag:l.agg=false) (hx:ev st x=some (.box id off)) (hre:st.res id=some (.box ty cs)) (hs:cs[off]?=some s) (hd:∀d,o.dst=some d→C.dk d):OpE C st.tys o st (valE s [id]):=by
 have lk:=Tab.get_ok hT hl;obtain⟨d,hu,hdr⟩:=lk.agg;refine bp hd fun st1 ag a w B T hi=>?_
 rw[← ag.ev (by rw[ho];simp[Op.operands])] at hx;rw[← ag.2 id (List.mem_append_left _ (List.mem_singleton.2 rfl))] at hre;have h1:=(bg hi hx).1;rw[SV.Rep] at h1;obtain⟨g1,us,g2,g3⟩:=hi.inn id _ hre;obtain⟨u,hu1,hu2⟩:=g3.at hs;have hc:w.cell? ⟨B id,off,none⟩=some u:=by rw[g2.cell];simpa using hu1
 refine⟨u,?_,hu2,fun i hi2=>hi.alive id _ hre i (ip (mg hs) hi2)⟩;simp only[execOp,ho,h1,Instr.loadAt,Instr.sureAddr,Sem.run_bind,Sem.run_pure,Result.andThen_ok];have:=jv (P:=C.P) (w:=w) hu (hdr.trans hag) hc;simp only[this,Result.andThen_ok]
theorem a6e {n e:Nat} {x y:Operand} {id off i:Nat} {kd:IntKind} {z:Int} (ho:o.op=.indexAddr t x y) (hu:C.P.underlying t=some (.array n e)) (hsz:(C.P.info? e).map (·.size)=some 1) (hx:ev st x=some (.box id off)) (hy:ev st y=some (.pv (.raw (.int kd z)))) (hz:z=(i:Int)) (hi:i < n) (hd:∀d,o.dst=some d→C.dk d):OpE C st.tys o st (valE (.box id (off+i)) []):=by
 refine bp hd fun st1 ag a w B T hi'=>?_
 rw[← ag.ev (by rw[ho];simp[Op.operands])] at hx hy;obtain⟨h1,h3⟩:=bg hi' hx;have h2:=(bg hi' hy).1;rw[SV.Rep] at h1;rw[SV.Rep,PV.Rep] at h2;refine⟨.pointer (some ((⟨B id,off,none⟩:Addr).add i)),?_,by rw[SV.Rep,jd],h3⟩;have hlt:(i:Int) < (n:Int):=by omega
 simp[execOp,ho,h1,h2,hz,Instr.indexAt,Instr.sureAddr,asIntOf,run_underlying hu,hlt,mx hsz];intro h;omega
theorem yf {n e:Nat} {parts:Array (Nat×Operand)} {zs us:List Value} (ho:o.op=.build t parts) (hu:C.P.underlying t=some (.array n e)) (hsz:(C.P.info? e).map (·.size)=some 1) (hz:(C.P.info? t).bind (·.zero)=some (.agg zs.toArray)) (hparts:parts.toList.all (fun p=>match p.2 with
  | .func _ | .const _=>true
  | _=>false)=true) (hfill:Instr.fill (fun i=>some (i,1)) zs.toArray (parts.toList.map fun p=>(p.1,match p.2 with
  | .func f=>.func (.func f) #[] #[]
  | .const v=>v
  | _=>undef))=some us.toArray) (hd:∀d,o.dst=some d→C.dk d):OpE C st.tys o st (valE (.agg (us.map fun v=>.pv (.raw v))) []):=by
 refine bp hd fun st1 ag a w B T hi=>?_
 have hpm:(parts.map fun x=>match x with | (i,x)=>(i,a.eval x)).toList=parts.toList.map fun p=>(p.1,match p.2 with
  | .func f=>.func (.func f) #[] #[]
  | .const v=>v
  | _=>undef):=by
  rw[Array.toList_map];refine List.map_congr_left fun p hp=>?_
  have h1:=List.all_eq_true.1 hparts p hp;obtain⟨i,x⟩:=p;cases x with
  | func f=>rfl
  | const v=>rfl
  | _=>cases h1
 refine⟨.agg us.toArray,?_,?_,fun i hi=>?_⟩
 ·simp only[execOp,ho,Instr.build,Sem.run_bind,a7l hz,Result.andThen_ok,run_underlying hu,mx hsz,Value.cells,hpm];have h2:(fun i=>some (i*1,1))=fun i=>some (i,1):=funext fun i=>by rw[Nat.mul_one]
  first
   | (simp only[Nat.mul_one,hfill];rfl)
   | (simp[h2,hfill])
 ·rw[SV.Rep];refine⟨us,rfl,?_⟩;clear hfill ag
  induction us with
  | nil=>rw[List.map_nil,SV.RepL]
  | cons u us ih=>rw[List.map_cons];exact SV.RepL.cons (by rw[SV.Rep,PV.Rep]) ih
 ·obtain⟨c,hc,hi2⟩:=z4 (show i∈SV.idsL (us.map fun v=>.pv (.raw v)) from hi);obtain⟨v,_,rfl⟩:=List.mem_map.1 hc;cases (show i∈([]:List Nat) from hi2)
end
section
variable {T:List Nat} {Z:Nat} {D:Dom Tryz.prog T Z} {N:Nat} {st:St} {Q:Exit→St→Prop} {ops:List Oper} {draw:Bool} {acc:List Itm}
theorem rcr {k:Nat} {ks:List Nat} {c:Call} {f:FuncId} {x:Operand} {sf:SV} {ss:List SV} {ps:List PV} {res:PV} {Tg:List Nat} {dst:Option Nat} {ty:TypeId} {pos:String} {af:Array Edge} {gd:Option (Nat×Bool)} (hp:PCalls Tryz.prog Tg f ps res) (hk:nthL ops k=some ⟨dst,.call c,ty,pos,af,gd⟩) (hw:ed ops.toArray ⟨dst,.call c,ty,pos,af,gd⟩ st=some true) (hd:dstB ⟨dst,.call c,ty,pos,af,gd⟩ N Z=true) (hc:c.callee=.value x) (hx:ev st x=some sf) (hsf:sf=.pv (.raw (.func (.func f) #[] #[]))) (ha:evL st c.args.toList=some ss) (hco:mm st ss=some ps) (hT:(Tg.all (fun t=>T.contains t)&&(Tg.all (fun t=>!st.tys.contains t)&&ve st (SV.idsL ss) res.ty))=true) (next:Reg (D.cx N) ops draw Q (acc++[⟨k,true,valE (.pv res) (SV.idsL ss),lkOf ops k st (valE (.pv res) (SV.idsL ss))⟩]) ks ((valE (.pv res) (SV.idsL ss)).app dst st)):Reg (D.cx N) ops draw Q acc (k::ks) st:=by
 simp only[be] at hT;subst hsf;have h0:SV.idsL ss++(SV.pv (.raw (.func (.func f) #[] #[]))).ids=SV.idsL ss:=List.append_nil _;have h:=fun hd=>a32 (C:=D.cx N) (o:=⟨dst,.call c,ty,pos,af,gd⟩) (ps2:=[]) (f:=f) rfl hc hx (.fnr f) ha (ir hco) (by rw[List.append_nil];exact hp) hT.1 hT.2.1 (by rw[h0];exact hT.2.2) hd
 rw[h0] at h;exact fe hk hw hd h next
end
theorem aes {C:Cx} {o:Oper} {st:St} {y:Operand} {kd:IntKind} {z:Int} (hP:C.P=Tryz.prog) (hG:LaidG C.w0∧¬C.M 0) (ho:o.op=.indexAddr 224 (.global 0) y) (hy:ev st y=some (.pv (.raw (.int kd z)))) (h0:0≤z) (h5:z < 5) (hT:(C.T.contains 224)=true) (hd:∀d,o.dst=some d→C.dk d):OpE C st.tys o st (valE (.ref 224 [.raw (.int .i64 (oppK z))]) []):=by
 refine bp hd fun st1 ag a w B T hi=>?_
 rw[← ag.ev (by rw[ho];simp[Op.operands])] at hy;have h2:=(bg hi hy).1;rw[SV.Rep,PV.Rep] at h2;have hl:=hG.1.cx hG.2 hi.gr;obtain⟨zs,fr,hz⟩:=hl.1;obtain⟨n,rfl⟩:∃n:Nat,z=(n:Int):=⟨z.toNat,by omega⟩;have hn:n < 5:=by omega
 have hu:C.P.underlying 224=some (.array 5 3):=by rw[hP];kernel_rfl
 have hsz:(C.P.info? 3).map (·.size)=some 1:=by rw[hP];kernel_rfl
 refine⟨.pointer (some ((⟨0,0,none⟩:Addr).add n)),?_,?_,fun i hi=>by cases (show i∈([]:List Nat) from hi)⟩
 ·have hlt:(n:Int) < 5:=by omega
  have hg:a.eval (.global 0)=.pointer (some ⟨0,0,none⟩):=rfl;simp[execOp,ho,hg,h2,Instr.indexAt,Instr.sureAddr,asIntOf,run_underlying hu,hlt,mx hsz];intro h;omega
 ·rw[SV.Rep];refine⟨(⟨0,0,none⟩:Addr).add n,[.int .i64 (oppK (n:Int))],rfl,PV.RepL.cons (by rw[PV.Rep]) PV.RepL.nil,fun _=>?_,fun j u hu=>?_⟩
  ·rw[ea];refine⟨fun hx=>?_,zs,fr,hz⟩;rcases hx with hx | ⟨i,r,h1,h3⟩
   ·have h4:=C.hT 0 zs _ fr hx (by rw[← hi.gr.old hx];exact hz);exact h4 (List.contains_iff_mem.1 hT)
   ·exact hG.1.lo hG.2 ((hi.inn i r h1).lo h3).1
  ·rw[jd,Nat.zero_add];cases j with
   | zero=>simp at hu;subst hu;rw[add_zero];exact hl.2 n hn
   | succ j=>simp at hu
theorem MCalls.nil {P:Program} {Tg:List Nat} {f:FuncId} {pre post:List SV} {e k:Nat} {ts:List Nat} {rs rs':List (Nat×Res)} {res:PV} (h:MCalls P Tg f (pre++.pv (.rows e k ts [])::post) rs rs' res):MCalls P Tg f (pre++.pv (.raw (.slice none 0 0))::post) rs rs' res:=by
 refine⟨h.1,fun w X B T us h1 h2 h3 h4 h5 h6 h7 h8=>h.2 w X B T us h1 h2 h3 h4 h5 h6 ?_ ?_⟩
 ·have key:∀(pre:List SV) (us:List Value),SV.RepL w (OwnZ X rs B T) B T (pre++.pv (.raw (.slice none 0 0))::post) us→SV.RepL w (OwnZ X rs B T) B T (pre++.pv (.rows e k ts [])::post) us:=fun pre=>by
   induction pre with
   | nil=>
    intro us h;rw[List.nil_append,SV.RepL] at h;obtain⟨u,us',rfl,g1,g2⟩:=h;rw[SV.Rep,PV.Rep] at g1;subst g1;refine SV.RepL.cons ?_ g2;rw[SV.Rep,PV.Rep];exact⟨Sv.none,[],rfl,rfl,Sv.Is.none w k,(fun ad h=>by cases h),(fun ad h=>by cases h),by rw[PV.RepLL],fun r hr=>by cases hr⟩
   | cons p pre ih=>
    intro us h;rw[List.cons_append,SV.RepL] at h;obtain⟨u,us',rfl,g1,g2⟩:=h;exact SV.RepL.cons g1 (ih us' g2)
  exact key pre us h7
 ·have ids:∀(pre:List SV),SV.idsL (pre++.pv (.raw (.slice none 0 0))::post)=SV.idsL (pre++.pv (.rows e k ts [])::post):=fun pre=>by
   induction pre with
   | nil=>rfl
   | cons p pre ih=>rw[List.cons_append,List.cons_append,SV.idsL,SV.idsL,ih]
  rw[← ids];exact h8
def PCallsW (H:World→Prop) (P:Program) (T:List Nat) (f:FuncId) (args:List PV) (res:PV):Prop:=gg P f=true∧
 ∀(w:World) (X:Nat→Prop) (us:List Value),H w→(∀b,X b→b < w.heap.size)→(∀b cs t fr,X b→w.heap[b]?=some (.cells cs t fr)→t ∉ T)→PV.RepL w X args us→
  Calls P f us.toArray w fun e w'=>∃v,e=.returned v∧res.Rep w' X v∧Gr w w'
theorem PCallsW.of {H:World→Prop} {P:Program} {tab:Tab} {T:List Nat} {f:FuncId} {args:List PV} {res:PV} {fn:Func} {c:Code} (tys:List Nat) (hT:iv P tab) (hm:P.follows .mixedOrders=true) (hcall:gg P f=true) (hf:P.funcs[f]?=some fn) (hb:fn.body=some c) (hn:Nat.ble args.length fn.ntmps=true) (h:∀D:Dom P T 0,(∀i,¬D.F i)→(∀b,¬D.M b)→H D.w0→PW (D.cx fn.ntmps) c (St.init args tys) (RetQ P tab fn res)):PCallsW H P T f args res:=by
 refine⟨hcall,fun w X us hG hX hXT hr=>?_⟩;have hn:=Nat.le_of_ble_eq_true hn
 let D:Dom P T 0:=⟨w,X,hX,hm,hXT,fun _=>False,(fun _ _ h=>h),fun _=>False,fun _=>0,fun _=>undef⟩
 refine calls_of_wp hf hb ?_;have hlen:=hr.len;have hinv:Inv (D.cx fn.ntmps) (St.init args tys) { tmps:=us.toArray++Array.replicate (fn.ntmps - us.toArray.size) undef,defers:=[] } w:=by
  refine⟨fun _=>0,fun _=>Sv.none,⟨⟨by simp;omega,fun t h=>absurd h (Nat.not_lt_zero t)⟩,rfl,⟨Fr.refl _ w,fun i h=>h.1.elim⟩,fun t s e=>?_,fun t s e i hi=>?_,(fun i r e=>by cases e),(fun i r e=>by cases e),fun i r j q b e=>by cases e⟩⟩
  ·simp only[St.init] at e;obtain⟨p,hp,rfl⟩:=Option.map_eq_some_iff.1 e;obtain⟨u,hu,hpr⟩:=hr.at hp;rw[SV.Rep];have hut:(us.toArray++Array.replicate (fn.ntmps - us.toArray.size) undef).getD t undef=u:=by
    have hlt:=(gs hu).1;rw[Array.getD_eq_getD_getElem?,Array.getElem?_append_left (by simpa using hlt)];simp[hu]
   rw[hut];exact hpr.still ⟨nr _,fun b cs t fr hx hh ht=>⟨rfl,fun hb=>by
    rcases hb with hb | ⟨i,r,hr,_⟩
    ·exact hx hb
    ·cases hr⟩⟩
  ·simp only[St.init] at e;obtain⟨p,hp,rfl⟩:=Option.map_eq_some_iff.1 e;cases (show i∈([]:List Nat) from hi)
 refine Code.wp_mono (fun e a w' hq=>?_) (h D (fun _ h=>h) (fun _ h=>h) hG _ w (fun i r e=>by cases e) hinv);obtain⟨st,h1,_,h3⟩:=hq;cases e with
 | ret=>
  obtain⟨v,g1,g2⟩:=n7 (C:=D.cx fn.ntmps) hT h3 h1;obtain⟨B,T',h4⟩:=h3;exact bodyPost_ret g1 h4.dfr ⟨v,rfl,g2,Gr.of_fr h4.gr.fr⟩
 | normal=>
  obtain⟨v,g1,g2⟩:=n7 (C:=D.cx fn.ntmps) hT h3 h1;obtain⟨B,T',h4⟩:=h3;exact bodyPost_end g1 h4.dfr ⟨v,rfl,g2,Gr.of_fr h4.gr.fr⟩
 | _=>exact h1.elim
theorem pcW {H:World→Prop} {T:List Nat} {f:FuncId} {args:List PV} {res:PV} {fn:Func} {c:Code} (tys:List Nat) (hcall:gg Tryz.prog f=true) (hf:(Tryz.prog).funcs[f]?=some fn) (hb:fn.body=some c) (hn:Nat.ble args.length fn.ntmps=true) (h:∀D:Dom Tryz.prog T 0,(∀i,¬D.F i)→(∀b,¬D.M b)→H D.w0→W D fn.ntmps c (St.init args tys) (RetQ Tryz.prog tab fn res)):PCallsW H Tryz.prog T f args res:=PCallsW.of tys al a3b hcall hf hb hn h
theorem GrC.gr {C:Cx} {B:Nat→Nat} {w:World} (h:GrC C B w) (hM:∀b,¬C.M b):Gr C.w0 w:=Gr.of_fr h.fr hM
section
variable {T:List Nat} {Z:Nat} {D:Dom Tryz.prog T Z} {N:Nat} {st:St} {Q:Exit→St→Prop} {ops:List Oper} {draw:Bool} {acc:List Itm}
theorem rcw {k:Nat} {ks:List Nat} {c:Call} {f:FuncId} {ss:List SV} {ps:List PV} {res:PV} {Tg:List Nat} {dst:Option Nat} {ty:TypeId} {pos:String} {af:Array Edge} {gd:Option (Nat×Bool)} {H:World→Prop} (hM:∀b,¬D.M b) (hH:∀w,Gr D.w0 w→H w) (hp:PCallsW H Tryz.prog Tg f ps res) (hk:nthL ops k=some ⟨dst,.call c,ty,pos,af,gd⟩) (hw:ed ops.toArray ⟨dst,.call c,ty,pos,af,gd⟩ st=some true) (hd:dstB ⟨dst,.call c,ty,pos,af,gd⟩ N Z=true) (hc:c.callee=.value (.func f)) (ha:evL st c.args.toList=some ss) (hco:mm st ss=some ps) (hT:(Tg.all (fun t=>T.contains t)&&(Tg.all (fun t=>!st.tys.contains t)&&ve st (SV.idsL ss) res.ty))=true) (next:Reg (D.cx N) ops draw Q (acc++[⟨k,true,valE (.pv res) (SV.idsL ss),lkOf ops k st (valE (.pv res) (SV.idsL ss))⟩]) ks ((valE (.pv res) (SV.idsL ss)).app dst st)):Reg (D.cx N) ops draw Q acc (k::ks) st:=by
 simp only[be] at hT;exact fe hk hw hd (fun hd=>yd (C:=D.cx N) rfl hc ha (ir hco) ⟨hp.1,fun w B g X us=>hp.2 w X us (hH w (GrC.gr (C:=D.cx N) g hM))⟩ hT.1 hT.2.1 hT.2.2 hd) next
end
section
variable {C:Cx} {o:Oper} {st:St} {x:Operand}
theorem m8 {A:Option Addr} {n k:Nat} (hP:C.P=Tryz.prog) (ho:o.op=.call { callee:=.builtin .len,args:=#[x],argTypes:=#[22] }) (hx:ev st x=some (.pv (.raw (.slice A n k)))) (hd:∀d,o.dst=some d→C.dk d):OpE C st.tys o st (valE (.pv (.raw (.int .i64 (n:Int)))) []):=by
 refine bp hd fun st1 ag a w B T hi=>?_
 rw[← ag.ev (by rw[ho];simp[Op.operands,Call.operands])] at hx;have h1:=(bg hi hx).1;rw[SV.Rep,PV.Rep] at h1;have hu:C.P.underlying 22=some (.slice 5):=by rw[hP];kernel_rfl
 refine⟨.int .i64 (n:Int),?_,by rw[SV.Rep,PV.Rep],fun i hi=>by cases (show i∈([]:List Nat) from hi)⟩;simp[execOp,ho,resolve,invoke,builtin,Builtin.len_,h1,run_underlying hu,goInt]
theorem aer {y:Operand} {ad:Addr} {n k i:Nat} {kd:IntKind} {z:Int} (hP:C.P=Tryz.prog) (ho:o.op=.indexAddr 22 x y) (hx:ev st x=some (.pv (.raw (.slice (some ad) n k)))) (hy:ev st y=some (.pv (.raw (.int kd z)))) (hz:z=(i:Int)) (hi:i < n) (hd:∀d,o.dst=some d→C.dk d):OpE C st.tys o st (valE (.pv (.raw (.pointer (some (ad.add i))))) []):=by
 refine bp hd fun st1 ag a w B T hin=>?_
 rw[← ag.ev (by rw[ho];simp[Op.operands])] at hx hy;have h1:=(bg hin hx).1;have h2:=(bg hin hy).1;rw[SV.Rep,PV.Rep] at h1 h2;have hu:C.P.underlying 22=some (.slice 5):=by rw[hP];kernel_rfl
 have hsz:(C.P.info? 5).map (·.size)=some 1:=by rw[hP];kernel_rfl
 refine⟨.pointer (some (ad.add i)),?_,by rw[SV.Rep,PV.Rep],fun i hi=>by cases (show i∈([]:List Nat) from hi)⟩;have hlt:(i:Int) < (n:Int):=by omega
 simp[execOp,ho,h1,h2,hz,Instr.indexAt,asIntOf,run_underlying hu,hlt,mx hsz];intro h;omega
theorem aat {ad:Addr} {u:Value} (hP:C.P=Tryz.prog) (hM:∀b,¬C.M b) (hc:∀w,Gr C.w0 w→w.cell? ad=some u) (ho:o.op=.load 5 x) (hx:ev st x=some (.pv (.raw (.pointer (some ad))))) (hd:∀d,o.dst=some d→C.dk d):OpE C st.tys o st (valE (.pv (.raw u)) []):=by
 refine bp hd fun st1 ag a w B T hin=>?_
 rw[← ag.ev (by rw[ho];simp[Op.operands])] at hx;have h1:=(bg hin hx).1;rw[SV.Rep,PV.Rep] at h1;have hu:C.P.underlying 5=some (.int .u8):=by rw[hP];kernel_rfl
 refine⟨u,?_,by rw[SV.Rep,PV.Rep],fun i hi=>by cases (show i∈([]:List Nat) from hi)⟩;simp only[execOp,ho,h1,Instr.loadAt,Instr.sureAddr,Sem.run_bind,Sem.run_pure,Result.andThen_ok];have:=jv (P:=C.P) (w:=w) hu rfl (hc w (hin.gr.gr hM));simp only[this,Result.andThen_ok]
end
theorem a5n {α:Type}:∀(vs:List α) (l:List α) (p m:Nat),p+vs.length≤m→(spl l p vs).take m=spl (l.take m) p vs
 | [],l,p,m,h=>rfl
 | v::vs,l,p,m,h=>by
  rw[List.length_cons] at h;rw[spl,spl,a5n vs (l.set p v) (p+1) m om,List.take_set]
theorem a5o {α:Type} {k:Nat}:∀(vs:List α) {us:List (List α)} {i j:Nat} {u:List α},(∀u∈us,u.length=k)→us[i]?=some u→j+vs.length≤k→spl us.flatten (i*k+j) vs=(us.set i (spl u j vs)).flatten
 | [],us,i,j,u,hk,h,hj=>by
  rw[spl,spl,List.set_getElem?_self' h]
 | v::vs,us,i,j,u,hk,h,hj=>by
  rw[List.length_cons] at hj;have hi:=(gs h).1;have hu:=hk u (mg h);have h2:(us.set i (u.set j v))[i]?=some (u.set j v):=List.getElem?_set_self hi;have h3:∀x∈us.set i (u.set j v),x.length=k:=fun x hx=>by
   rcases List.mem_or_eq_of_mem_set hx with e | e
   ·exact hk x e
   ·rw[e,List.length_set,hu]
  have:=a5o vs (i:=i) (j:=j+1) h3 h2 om;rw[spl,spl,ql hk h om,show i*k+j+1=i*k+(j+1) from rfl,this,List.set_set]
theorem PV.RepL.spl {w:World} {X:Nat→Prop}:∀{qs:List PV} {vs:List Value} {ps:List PV} {us:List Value} {j:Nat},PV.RepL w X ps us→PV.RepL w X qs vs→PV.RepL w X (Proofs.YtbhbainhmfjpdaaGreatDoor.spl ps j qs) (Proofs.YtbhbainhmfjpdaaGreatDoor.spl us j vs)
 | [],vs,ps,us,j,h,k=>by rw[PV.RepL] at k;subst k;exact h
 | q::qs,vs,ps,us,j,h,k=>by
  rw[PV.RepL] at k;obtain⟨v,vs',rfl,h1,h2⟩:=k;have:=PV.RepL.spl (j:=j+1) (h.set (j:=j) h1) h2;exact this
section
variable {C:Cx} {tys:List Nat} {o:Oper} {st:St} {x:Operand}
theorem a87 {tab:Tab} (hT:iv C.P tab) {t:Nat} {y:Operand} {l:Lay} {id e k:Nat} {ts:List Nat} {xs:List (List PV)} {i j off:Nat} {r ps:List PV} {s:SV} (ho:o.op=.store t x y) (hl:tab.get t=some l) (hx:ev st x=some (.elt id off)) (hy:ev st y=some s) (hco:coSV st s=some (.agg ps)) (hs:s.ids=[]) (hre:st.res id=some (.tok e k ts xs)) (hoff:off=i*k+j) (hr:xs[i]?=some r) (hln:Nat.beq ps.length l.zero.length=true) (hjk:j+ps.length≤k) (hcl:ps.all (fun p=>p.cell&&p.ty.all fun t=>ts.contains t)=true) (he:st.tys.contains e=true) (hdn:o.dst=none):OpE C st.tys o st ⟨.any,some (id,.tok e k ts (xs.set i (spl r j ps))),[id],false⟩:=by
 subst hoff;have lk:=Tab.get_ok hT hl;have hln:=Nat.eq_of_beq_eq_true hln;refine⟨fun i r e=>by injection e with e;injection e with e1 e2;subst e1 e2;exact⟨mf ..,List.contains_iff_mem.1 he⟩,fun st1 h1 h2 _ a w ⟨B,T,hi⟩=>?_⟩;have ag:Agree o [id] st st1:=⟨h1,h2⟩;rw[← h2 id (mf ..)] at hre;rw[← ag.ev (by rw[ho];simp[Op.operands])] at hx hy;have x1:=(bg hi hx).1;have y0:=(bg hi hy).1;have y1:=Co.rep hi ((lc hco).move (st1:=st1) fun i hi=>by rw[hs] at hi;cases hi) y0 (X:=Own0 C st1 B T) fun b hb=>⟨hb,fun ⟨i,hi,_⟩=>by rw[hs] at hi;cases hi⟩
 rw[SV.Rep] at x1;rw[PV.Rep] at y1;obtain⟨g',hg',x1⟩:=x1;obtain⟨vs,yv,hvs⟩:=y1;have hvl:=hvs.len;obtain⟨us,o1,o2,o3,o4,o5,o6⟩:=hi.inn id _ hre;obtain⟨u,hu1,hu2⟩:=o2.at hr;have hrows:=o2.rows fun r hr=>(o3 r hr).1
 have hil:=(gs hr).1;have hcell:∀c∈ps,c.cell=true:=fun c hc=>by
  have:=List.all_eq_true.1 hcl c hc;rw[be] at this;exact this.1
 have h1c:∀v∈vs,v.oneCell'=true:=hvs.one hcell;obtain⟨hl0,h0 | ⟨g,cap,cur,hv,hb,hh,g1,g2,g3,ht⟩⟩:=o1
 ·exact absurd h0.2 om
 have hg:g'=g:=by
  have:(T id).A=some ⟨g,0,none⟩:=by injection hv
  rw[this] at hg';injection hg' with hg';injection hg' with hg';exact hg'.symm
 subst hg;have hbk:Bk w g' e cur:=hh;have hfl:us.flatten.length=(T id).n*k:=by rw[j6 hrows,o2.len,o4]
 have hik:i*k+k≤(T id).n*k:=by
  have:=Nat.mul_le_mul_right k (show i+1≤(T id).n by omega);rw[Nat.add_mul,Nat.one_mul] at this;exact this
 have hcur:(T id).n*k≤cur.toList.length:=by
  have:=congrArg List.length ht;rw[List.length_take,hfl] at this;omega
 obtain⟨w',s1,s2,s3⟩:=a9b (P:=C.P) vs 0 (i*k+j) g' e w cur.toList (by rw[Array.toArray_toList];exact hbk) om h1c;rw[Nat.add_zero] at s2;have hsz:¬(a.eval y).cells.size≠l.zero.length:=by rw[yv];show ¬(vs.toArray.size≠_);rw[List.size_toArray,hvl,hln];simp
 have run:(execOp a.eval o).run C.P w=.ok .skip w':=by
  simp only[execOp,ho,x1,Instr.storeAt,Instr.sureAddr,Sem.run_bind,Sem.run_pure,Result.andThen_ok,storeVar,mx lk.size,if_neg hsz];have hc:(a.eval y).cells.toList=vs:=by rw[yv];show vs.toArray.toList=vs;simp
  rw[hc];simp[s1]
 unfold eh;rw[run,hdn];have hok':mt k ts (xs.set i (spl r j ps)):=fun r' hr'=>by
  rcases List.mem_or_eq_of_mem_set hr' with h3 | h3
  ·exact o3 r' h3
  ·subst h3;have h4:=o3 r (mg hr);refine⟨by rw[xl];exact h4.1,?_⟩;have key:∀(qs l:List PV) (p:Nat),(∀c∈qs,c.cell=true∧∀t∈c.ty,t∈ts)→(∀c∈l,c.cell=true∧∀t∈c.ty,t∈ts)→∀c∈spl l p qs,c.cell=true∧∀t∈c.ty,t∈ts:=fun qs=>by
    induction qs with
    | nil=>intro l p _ h;exact h
    | cons q qs ih=>
     intro l p hq hl;rw[spl];refine ih _ _ (fun c hc=>hq c (List.mem_cons_of_mem _ hc)) fun c hc=>?_
     rcases List.mem_or_eq_of_mem_set hc with e | e
     ·exact hl c e
     ·rw[e];exact hq q (mf ..)
   exact key ps r j (fun c hc=>by
    have:=List.all_eq_true.1 hcl c hc;rw[be,List.all_eq_true] at this;exact⟨this.1,fun t ht=>List.contains_iff_mem.1 (this.2 t ht)⟩) h4.2
 refine a4w hi hre (us':=us.set i (spl u j vs)) ?_ (s3.wide fun b _ e=>by rw[e,hv];rfl) (fun S=>PV.RepLL.still (ts:=ts) (o2.set (hu2.spl hvs)) (S _) fun r hr c hc=>((hok' r hr).2 c hc).2) hok' (by rw[List.length_set]);have hfl':(us.set i (spl u j vs)).flatten=spl us.flatten (i*k+j) vs:=(a5o vs hrows hu1 om).symm;refine⟨by rw[hfl',xl,hfl],.inr ⟨g',cap,_,hv,hb,s2,g1,g2,?_,?_⟩⟩
 ·rw[List.size_toArray,xl];simpa using g3
 ·rw[hfl',← ht,← a5n vs _ _ _ om]
theorem aeo {t t2:Nat} {y:Operand} {k:IntKind} {m n z:Int} (ho:o.op=.binOp .rem t x y t2) (hx:ev st x=some (.pv (.raw (.int k m)))) (hy:ev st y=some (.pv (.raw (.int k n)))) (hn:n≠0) (hz:m.tmod n=z) (hd:∀d,o.dst=some d→C.dk d):OpE C st.tys o st (valE (.pv (.raw (.int k z))) []):=hz▸aas ho hx hy hn hd
theorem aaw {s d:Nat} {k j:IntKind} {m z:Int} {ds:TypeDesc} (ho:o.op=.convert s d x) (hx:ev st x=some (.pv (.raw (.int k m)))) (hs:C.P.underlying s=some ds) (hu:C.P.underlying d=some (.int j)) (hz:j.wrap m=z) (hd:∀d,o.dst=some d→C.dk d):OpE C st.tys o st (valE (.pv (.raw (.int j z))) []):=hz▸a6f ho hx hs hu hd
end
theorem anw (a n:Nat):((a:Int).tmod (n:Int))=((a % n:Nat):Int):=rfl
theorem ana (a:Nat) (h:a < 1000000):IntKind.wrap .i64 (a:Int)=(a:Int):=fx om om
section
attribute [local go_sem] Oper.semAt_some
open Lib (hid)
abbrev bv (x:Nat):Value:=.int .u8 (x:Int)
def byC (b:Nat):List PV:=[.raw (.int .u8 (b:Int))]
abbrev ahb (l:List Nat):PV:=.rows 5 1 [] (l.map byC)
abbrev TQ:List Nat:=[35,37,138,200]
def By (x:Sv) (L:List Nat) (w:World):Prop:=x.Is w 1 (L.map bv)
theorem By.gr {x:Sv} {L:List Nat} {w w':World} (h:By x L w) (G:Gr w w'):By x L w':=Sv.Is.gr h G
theorem By.at {x:Sv} {L:List Nat} {w:World} (h:By x L w) {i:Nat} (hi:i < L.length):∃ad,x.A=some ad∧w.cell? (ad.add i)=some (bv (atZ L (i:Int))):=by
 obtain⟨ad,h1,_,h2⟩:=h.look (i:=i) (u:=bv (atZ L (i:Int))) (by rw[List.getElem?_map,ah hi];rfl);exact⟨ad,h1,h2⟩
abbrev ac3 (L:List Nat) (k:Nat):Res:=.box 135 [.pv (ahb L),.pv (iP (k:Int))]
abbrev l6 (L r:List Nat):Res:=ac3 L (L.length - r.length)
structure Fdp (L r:List Nat):Prop where
 b:∀y∈L,y < 256
 n:L.length≤1000
 s:∃k,k≤L.length∧r=L.drop k
theorem Fdp.one {L:List Nat} (h:∀y∈L,y < 256) (hn:L.length≤1000):Fdp L L:=⟨h,hn,0,nq _,rfl⟩
theorem Fdp.nx {L r:List Nat} (h:Fdp L r) (n:Nat):Fdp L (nx n r).2:=by
 obtain⟨h1,h2,k,hk,rfl⟩:=h;cases e:L.drop k with
 | nil=>exact⟨h1,h2,k,hk,e.symm⟩
 | cons x r=>
  have hl:=congrArg List.length e;rw[List.length_drop,List.length_cons] at hl;refine⟨h1,h2,k+1,by omega,?_⟩;show r=L.drop (k+1);rw[← List.drop_drop,e];rfl
theorem Fdp.num {L r:List Nat} (h:Fdp L r):Fdp L (numQ r).2:=(h.nx 9).nx 4
theorem aop:ElemS Tryz.prog 22 5 1 1:=a1y (z:=.int .u8 0) (by kernel_rfl) (by kernel_rfl) rfl dx
structure Fd0 (w w':World) (p:Nat) (L:List Nat):Prop where
 at_:w.heap.size≤p
 is:∃y:Sv,Bk w' p 135 #[.slice y.A y.n y.c,.int .i64 0]∧y.Is w' 1 (L.map bv)∧y.Ty w' 5∧y.n=L.length∧∀ad,y.A=some ad→0 < y.n→w.heap.size≤ad.block
set_option maxRecDepth 100000 in
theorem aiw (w:World) (x:Sv) (L:List Nat) (hx:x.Is w 1 (L.map bv)) (hn:L.length≤1000):
  Calls Tryz.prog 29 #[.slice x.A x.n x.c] w fun e w'=>∃p:Nat,e=.returned (.pointer (some ⟨p,0,none⟩))∧Fd0 w w' p L∧Gr w w':=by
 have hLn:L.length=x.n:=by have:=hx.len;rw[List.length_map] at this;omega
 have HLN:=hid hLn;obtain⟨A,n,c⟩:=x;simp only at hLn;have HO:Hid ((w.alloc (.cells #[] 5)).ownsRow w.heap.size 5 1 (.slice (some ⟨w.heap.size,0,none⟩) 0 0) 0 []):=⟨rfl,.inr ⟨w.heap.size,0,#[],rfl,nr _,Bk.made _ _ _,nr _,nq _,rfl,rfl⟩⟩;rcases A with _ | ad
 ·obtain⟨h9,h8⟩:=hx.mk0 rfl;injection h9 with _ h6 h7;subst h6 h7;have HL0:=hid (show L=[] by cases L with | nil=>rfl | cons a l=>simp at h8);clear hx hLn h8;go_enter Tryz.func29,Tryz.ntmps29;go_wp2;go_ret;obtain⟨h1,h2,h3⟩:=a1c w 5 135 #[] #[.slice (some ⟨w.heap.size,0,none⟩) 0 0,.int .i64 0];rw[HL0.out];exact⟨w.heap.size+1,rfl,⟨Nat.le_succ _,⟨some ⟨w.heap.size,0,none⟩,0,0⟩,h2,⟨rfl,nr _,nq _,(fun e=>by cases e),Sees.nil⟩,(fun ad _ h=>absurd h (ni _)),rfl,fun ad _ h=>absurd h (ni _)⟩,h3⟩
 ·have HC:Hid (∀j u,(L.map bv)[j]?=some u→(w.alloc (.cells #[] 5)).cell? (ad.add j)=some u):=(hx.gr ((Gr.refl w).alloc _)).cells rfl;have HU:Hid (∀u∈L.map bv,u.oneCell'=true):=fun u hu=>by
   obtain⟨y,_,rfl⟩:=List.mem_map.1 hu;rfl
  have H1:=hid hx.len;simp only at H1;clear hx;go_enter Tryz.func29,Tryz.ntmps29;go_wp2_with (at_builtin;refine wz aop rfl _ _ rfl w.heap.size (.slice (some ⟨w.heap.size,0,none⟩) 0 0) 0 [] rfl HO.out ad n c (L.map bv) rfl H1.out HC.out HU.out (by unfold maxLen;omega) om (by simp) ?_;intro v' w' h2 h3 h5;rw[Nat.zero_add,List.nil_append] at h2;have HR:=hid (mw h2);obtain⟨y,rfl,hyn,hy,hty⟩:=Sv.of_row h2 dx;have HY:=hid hy;have HT:=hid hty;have HYN:=hid hyn;have HG:=hid (Gr.of_own h3);clear h2 h3 h5 hy hty hyn);go_wp2;go_ret;obtain⟨yA,yn,yc⟩:=y;obtain rfl:yn=n:=HYN.out;have hg:=(Gr.refl w').alloc (.cells #[.slice yA yn yc,.int .i64 0] 135);exact⟨_,rfl,⟨HG.out.size,⟨yA,yn,yc⟩,Bk.made _ _ _,HY.out.gr hg,HT.out.gr hg,HLN.out.symm,fun ad ha _=>(HR.out ad.block (by show (Value.slice yA yn yc).ownBlock=_;rw[show yA=some ad from ha];rfl)).1⟩,HG.out.trans hg⟩
theorem afk {w:World} {X:Nat→Prop} {y:Sv} {L:List Nat} (h1:y.Is w 1 (L.map bv)) (h2:y.Ty w 5) (hn:y.n=L.length) (ha:y.Av X):(ahb L).Rep w X y.v:=by
 rw[PV.Rep];refine⟨y,L.map fun b=>[bv b],rfl,by rw[List.length_map];exact hn,?_,h2,ha,?_,fun r hr=>?_⟩
 ·have:(L.map fun b=>[bv b]).flatten=L.map bv:=by
   clear h1 hn
   induction L with
   | nil=>rfl
   | cons a l ih=>rw[List.map_cons,List.flatten_cons,ih];rfl
  rw[this];exact h1
 ·clear h1 hn
  induction L with
  | nil=>exact PV.RepLL.nil
  | cons a l ih=>exact PV.RepLL.cons (PV.RepL.cons (nc _) PV.RepL.nil) ih
 ·obtain⟨b,_,rfl⟩:=List.mem_map.1 hr;exact⟨rfl,fun c hc=>by rw[mj hc];exact⟨rfl,fun t ht=>by cases ht⟩⟩
theorem akx {x:Sv} {L:List Nat} (hn:L.length≤1000):SCalls Tryz.prog (By x L) [] 29 [.pv (.raw x.v)] none (l6 L L) (.box 1000 0) true:=⟨by kernel_rfl,fun w X B T us hH hX hXT hXL hpre hr=>by
 rw[SV.RepL] at hr;obtain⟨u,us',rfl,h1,h2⟩:=hr;rw[SV.RepL] at h2;subst h2;rw[SV.Rep,PV.Rep] at h1;subst h1;refine (aiw w x L hH hn).mono ?_;rintro e w' ⟨p,rfl,⟨hp,y,hb,y1,y2,y3,y4⟩,G⟩;refine⟨_,p,T 1000,rfl,(fun e=>by cases e),(fun e=>by cases e),G.fr.wide (fun _ _ h=>h.elim),fun b e=>.inr ?_,⟨trivial,[y.v,.int .i64 0],hb,SV.RepL.cons ?_ (SV.RepL.cons ?_ (by rw[SV.RepL]))⟩,by rw[SV.Rep];rfl⟩
 ·injection e with e;rw[← e];exact hp
 ·rw[SV.Rep];refine afk y1 y2 y3 fun ad ha h0 hx=>?_
  have:=y4 ad ha h0;rcases hx with hx | hx
  ·have:=hX _ hx;omega
  ·injection hx with hx;obtain⟨cs,fr,hty⟩:=y2 ad ha h0;rw[← hx,show w'.heap[p]?=_ from hb] at hty;injection hty with hty;injection hty with _ hty _;cases hty
 ·rw[SV.Rep,PV.Rep,Nat.sub_self];rfl⟩
section
variable {C:Cx} {o:Oper} {st:St}
theorem aav {x y:Operand} {cs:List SV} {kd:IntKind} {z:Int} {i:Nat} {s:SV} (hP:C.P=Tryz.prog) (ho:o.op=.index 140 x y) (hx:ev st x=some (.agg cs)) (hy:ev st y=some (.pv (.raw (.int kd z)))) (hz:z=(i:Int)) (hi:i < 4) (hs:cs[i]?=some s) (hs0:s.ids=[]) (hd:∀d,o.dst=some d→C.dk d):OpE C st.tys o st (valE s []):=by
 refine bp hd fun st1 ag a w B T hi'=>?_
 rw[← ag.ev (by rw[ho];simp[Op.operands])] at hx hy;have h1:=(bg hi' hx).1;have h2:=(bg hi' hy).1;rw[SV.Rep] at h1;rw[SV.Rep,PV.Rep] at h2;obtain⟨us,h3,h4⟩:=h1;obtain⟨u,h5,h6⟩:=h4.at hs;refine⟨u,?_,h6,fun j hj=>by rw[hs0] at hj;cases hj⟩;have hu:C.P.underlying 140=some (.array 4 3):=by rw[hP];kernel_rfl
 have hsz:(C.P.info? 3).map (·.size)=some 1:=by rw[hP];kernel_rfl
 have hp:=a1m us.toArray i u w (by simpa using h5);rw[← hP] at hp;have hlt:(i:Int) < 4:=by omega
 simp[execOp,ho,h2,h3,hz,Instr.index,asIntOf,run_underlying hu,hlt,mx hsz,hp];intro h;omega
end
theorem arr4 {b:Nat} (h:b < 4):(([.int .i64 1,.int .i64 1,.int .i64 2,.int .i64 4]:List Value).map fun v=>SV.pv (.raw v))[b]?=some (.pv (iP (denN b:Int))):=by
 rcases (by omega:b=0∨b=1∨b=2∨b=3) with rfl | rfl | rfl | rfl<;>rfl
theorem ajz {n:Nat} (h:n≤1000000):ariO .sub .i64 ((n+1:Nat):Int) 1=some (n:Int):=by
 show some (IntKind.wrap .i64 (((n+1:Nat):Int) - 1))=_;rw[fx om om];exact congrArg some om
theorem ahz {L:List Nat} {n k:Nat} (h:L.length≤k):SCalls Tryz.prog (fun _=>True) [] 30 [.box 1000 0,.pv (iP (n:Int))] (some (ac3 L k)) (ac3 L k) (.pv (iP ((0:Nat):Int))) false:=by
 refine pcs [135] Tryz.func30 (fun D hH hF=>?_);refine akT (c:=by exact dt (by rw[List.length_map];exact Int.ofNat_le.2 h)) ?_;refine au ?_;exact rets Y (Y) Y
theorem ahy {L:List Nat} {n k x:Nat} (hx:L[k]?=some x) (hx9:x < 256) (hk:k≤1000) (h0:0 < n):SCalls Tryz.prog (fun _=>True) [] 30 [.box 1000 0,.pv (iP (n:Int))] (some (ac3 L k)) (ac3 L (k+1)) (.pv (iP ((x % n:Nat):Int))) false:=by
 refine pcs [135] Tryz.func30 (fun D hH hF=>?_);refine akF (c:=by exact df (by rw[List.length_map];have:=(gs hx).1;omega)) ?_;refine aa (c:=ae om) ?_;refine aa (c:=ajz om) ?_;refine ax (c:=(aj (f:=byC) hx)) ?_;refine qg 1 ?_;refine ro0 Y Y Y (fun hd=>aaw (ds:=.int .u8) (j:=.i64) Y Y (by kernel_rfl) (by kernel_rfl) (ana _ om) hd) ?_;refine qg 1 ?_;refine ro0 Y Y Y (fun hd=>aeo Y Y Y om (anw x n) hd) ?_;refine au ?_;exact rets Y (Y) Y
theorem ut {L r:List Nat} {n:Nat} (h:Fdp L r) (h0:0 < n):SCalls Tryz.prog (fun _=>True) [] 30 [.box 1000 0,.pv (iP (n:Int))] (some (l6 L r)) (l6 L (nx n r).2) (.pv (iP ((nx n r).1:Int))) false:=by
 obtain⟨h1,h2,k,hk,rfl⟩:=h;cases e:L.drop k with
 | nil=>exact ahz (nr _)
 | cons x r=>
  have hl:=congrArg List.length e;rw[List.length_drop,List.length_cons] at hl;have hx:L[k]?=some x:=by
   have:=congrArg (fun l=>l[0]?) e;simpa using this
  have:=ahy (n:=n) hx (h1 x (mg hx)) om h0;rwa [show k=L.length - (x::r).length from by rw[List.length_cons];omega,show L.length - (x::r).length+1=L.length - r.length from by rw[List.length_cons];omega] at this
theorem ra {L r:List Nat} (h:Fdp L r):SCalls Tryz.prog (fun _=>True) TU 34 [.box 1000 0] (some (l6 L r)) (l6 L (numQ r).2) (.pv (ratP (numQ r).1)) false:=by
 have n1:=qh (n:=9) dx r;have n2:=qh (n:=4) dx (nx 9 r).2;have d0:0 < denN (nx 4 (nx 9 r).2).1∧denN (nx 4 (nx 9 r).2).1≤4:=by
  generalize (nx 4 (nx 9 r).2).1=b at n2;rcases (by omega:b=0∨b=1∨b=2∨b=3) with rfl | rfl | rfl | rfl<;>decide
 refine pcs [135,35] Tryz.func34 (fun D hH hF=>?_);refine au ?_;refine rsc0 (fun _ _ _=>trivial) (fun e=>by cases e) (ut (n:=9) h dx) ?_;refine aa (c:=cw om om om om) ?_;refine ro0 Y Y Y (fun hd=>yf (n:=4) (e:=3) (us:=[.int .i64 1,.int .i64 1,.int .i64 2,.int .i64 4]) (zs:=List.replicate 4 (.int .i64 0)) Y (by kernel_rfl) (by kernel_rfl) (by kernel_rfl) (by rfl) (by rfl) hd) ?_;refine au ?_;refine rsc0 (fun _ _ _=>trivial) (fun e=>by cases e) (ut (n:=4) (h.nx 9) dx) ?_;refine ro0 Y Y Y (fun hd=>aav Y Y Y Y Y n2 (arr4 n2) Y hd) ?_;refine ac (c:=akz ((nx 9 r).1 - 4) (denN (nx 4 (nx 9 r).2).1) om om d0.1 om) ?_;refine au ?_;exact rets Y (Y) Y
end
theorem a9w {q:Qr} {d:Dc} {s:Nat} (h:d.at_.S s) (hs:s≤10000):PCalls Tryz.prog [] 146 [qyP q,dcP d] (bP (dj q d)):=by
 refine pcA [39,42] Tryz.func146 (fun D=>?_);refine a2 (fun e7=>?_) (fun e7=>?_)
 ·refine a2 (fun e13=>?_) (fun e13=>?_)
  ·refine a2 (fun e22=>?_) (fun e22=>?_)
   ·refine ac (c:=uq (x:=d.at_) (y:=Q.zero)) ?_;exact ar (c:=by (try simp only[List.length_map] at *);simp only[dj,e7,e13,e22,sb]<;>rfl)
   ·exact ar (c:=by (try simp only[List.length_map] at *);simp only[dj,e7,e13,e22,sb]<;>rfl)
  ·exact ar (c:=by (try simp only[List.length_map] at *);simp only[dj,e7,e13,sb]<;>rfl)
 ·refine a2 (fun e7'=>?_) (fun e7'=>?_)
  ·refine a2 (fun e13=>?_) (fun e13=>?_)
   ·refine a2 (fun e22=>?_) (fun e22=>?_)
    ·refine ac (c:=uq (x:=d.at_) (y:=Q.zero)) ?_;exact ar (c:=by (try simp only[List.length_map] at *);simp only[dj,e7,e7',e13,e22,sb]<;>rfl)
    ·exact ar (c:=by (try simp only[List.length_map] at *);simp only[dj,e7,e7',e13,e22,sb]<;>rfl)
   ·exact ar (c:=by (try simp only[List.length_map] at *);simp only[dj,e7,e7',e13,sb]<;>rfl)
  ·refine a2 (fun e28=>?_) (fun e28=>?_)
   ·refine a2 (fun e34=>?_) (fun e34=>?_)
    ·refine a2 (fun e42=>?_) (fun e42=>?_)
     ·refine ac (c:=nf (h.sm hs) h.ok) ?_;exact ar (c:=by (try simp only[List.length_map] at *);simp only[dj,e7,e7',e28,e34,e42,sb]<;>rfl)
     ·exact ar (c:=by (try simp only[List.length_map] at *);simp only[dj,e7,e7',e28,e34,e42,sb]<;>rfl)
    ·exact ar (c:=by (try simp only[List.length_map] at *);simp only[dj,e7,e7',e28,e34,sb]<;>rfl)
   ·refine a2 (fun e28'=>?_) (fun e28'=>?_)
    ·refine a2 (fun e34=>?_) (fun e34=>?_)
     ·refine a2 (fun e42=>?_) (fun e42=>?_)
      ·refine ac (c:=nf (h.sm hs) h.ok) ?_;exact ar (c:=by (try simp only[List.length_map] at *);simp only[dj,e7,e7',e28,e28',e34,e42,sb]<;>rfl)
      ·exact ar (c:=by (try simp only[List.length_map] at *);simp only[dj,e7,e7',e28,e28',e34,e42,sb]<;>rfl)
     ·exact ar (c:=by (try simp only[List.length_map] at *);simp only[dj,e7,e7',e28,e28',e34,sb]<;>rfl)
    ·exact ar (c:=by (try simp only[List.length_map] at *);simp only[dj,e7,e7',e28,e28',sb]<;>rfl)
theorem a2s {s:Sc} {a b:Nat} {kind unit:Int} (h:s.Va a b):PCalls Tryz.prog [] 264 [scP s,iP kind,iP unit] (bP (jp s kind unit)):=by
 refine pcA [85] Tryz.func264 (fun D=>?_);refine au ?_;refine pl (ι:={i:Nat // i≤s.path.length∧(s.path.take i).any (hitQ s.q kind unit)=false}) (fun i=>[(1,.pv (iP kind)),(2,.pv (iP unit)),(3,.box 3 0),(6,.pv (bP false)),(7,.pv (iP i.1))]) (fun _=>[(3,.box 85 [.pv (iP s.q.g.inputs),.pv (b7 s.q.g.units),.pv (b7 s.q.g.outputs),.pv (cz s.q.rg.lo),.pv (cz s.q.rg.hi),.pv (b7 s.q.rg.rows),.pv (bu s.q.goal.terms),.pv (bP s.q.goal.const.neg),.pv (.nat s.q.goal.const.num),.pv (.nat s.q.goal.const.den),.pv (dcsP s.path),.pv (lmsP s.lems)])]) [85] (fun i=>s.path.length - i.1) ⟨0,nq _,rfl⟩ (c5 Y Y Y Y Y trivial) (ai Y trivial) (fun _=>rfl) ?_;intro ⟨i,hi0,hn⟩;refine a2 (fun e12=>?_) (fun e12=>?_)
 ·have hi:i < s.path.length:=db e12;refine ax (c:=(aj (ah hi))) ?_;refine a2 (fun e23=>?_) (fun e23=>?_)
  ·refine ax (c:=(aj (ah hi))) ?_;refine a2 (fun e33=>?_) (fun e33=>?_)
   ·refine ax (c:=(aj (ah hi))) ?_;refine ac (c:=a9w (h.path _ (mg (ah hi))) (by have:=h.a9;omega)) ?_;refine a2 (fun e42=>?_) (fun e42=>?_)
    ·have hh:hitQ s.q kind unit (atZ s.path i)=true:=by simp only[hitQ,e12,e23,e33,e42,sb]
     exact ar (c:=by rw[show jp s kind unit=true from a25 hi hh])
    ·refine aa (c:=ae (by have:=h.p9;show i≤_;omega)) ?_;refine au ?_;exact pe ⟨i+1,hi,pg hn hi (by simp only[hitQ,e12,e23,e33,e42,sb])⟩ (c5 Y Y Y Y Y trivial) (ai Y trivial) Y (by show s.path.length - (i+1) < s.path.length - i;omega)
   ·refine aa (c:=ae (by have:=h.p9;show i≤_;omega)) ?_;refine au ?_;exact pe ⟨i+1,hi,pg hn hi (by simp only[hitQ,e12,e23,e33,sb])⟩ (c5 Y Y Y Y Y trivial) (ai Y trivial) Y (by show s.path.length - (i+1) < s.path.length - i;omega)
  ·refine aa (c:=ae (by have:=h.p9;show i≤_;omega)) ?_;refine au ?_;exact pe ⟨i+1,hi,pg hn hi (by simp only[hitQ,e12,e23,sb])⟩ (c5 Y Y Y Y Y trivial) (ai Y trivial) Y (by show s.path.length - (i+1) < s.path.length - i;omega)
 ·have hj:s.path.length≤i:=dw e12;exact ar (c:=by rw[show jp s kind unit=false from a57 hn hj])
theorem a9u {s:Sc} {a b:Nat} {n unit:Int} {upper:Bool} (h:s.Va a b):PCalls Tryz.prog TU 263 [scP s,iP n,iP unit,bP upper] (.tup [ratP (b8 s.lems n unit upper).1,bP (b8 s.lems n unit upper).2]):=by
 refine pcA [85,35] Tryz.func263 (fun D=>?_);refine a2 (fun e12=>?_) (fun e12=>?_)
 ·exact ar (c:=by (try simp only[List.length_map] at *);simp only[b8,e12,sb]<;>rfl)
 ·have g1:1≤n:=by have:=of_decide_eq_false e12;omega
  refine a2 (fun e19=>?_) (fun e19=>?_)
  ·exact ar (c:=by (try simp only[List.length_map] at *);simp only[b8,e12,e19,sb]<;>rfl)
  ·have g2:n≤s.lems.length:=by have:=of_decide_eq_false e19;rw[List.length_map] at this;omega
   have h1:0≤n - 1:=by omega
   have h2:n - 1 < s.lems.length:=by omega
   have h9:=h.l9;refine aa (c:=cw om om om om) ?_;refine ay (z:=toN h1) (c:=(aj (dy h1 h2))) ?_;refine a2 (fun e30=>?_) (fun e30=>?_)
   ·exact ar (c:=by (try simp only[List.length_map] at *);simp only[b8,e12,e19,e30,sb]<;>rfl)
   ·refine aa (c:=cw om om om om) ?_;refine ay (z:=toN h1) (c:=(aj (dy h1 h2))) ?_;refine au ?_;refine re0 (((atZ s.lems (n - 1)).upper != upper)) Y Y Y Y Y Y (.inr ⟨rfl,rfl⟩) ?_;refine a2 (fun e40=>?_) (fun e40=>?_)
    ·exact ar (c:=by (try simp only[List.length_map] at *);simp only[b8,e12,e19,e30,e40,sb]<;>rfl)
    ·refine aa (c:=cw om om om om) ?_;refine ay (z:=toN h1) (c:=(aj (dy h1 h2))) ?_;refine ac (c:=kz ((h.lems _ (bi h1 h2)).sm (by have:=h.b9;omega))) ?_;exact ar (c:=by (try simp only[List.length_map] at *);simp only[b8,e12,e19,e30,e40,sb]<;>rfl)
end Go.Proofs.YtbhbainhmfjpdaaGreatDoor
