/- Walks of the search and of what it calls, part 12. -/
import Derived.Test.YtbhbainhmfjpdaaGreatDoorMk
set_option linter.unusedSectionVars false
set_option linter.unusedVariables false
set_option linter.unusedSimpArgs false
set_option maxRecDepth 100000
set_option maxHeartbeats 8000000
namespace Go.Proofs.YtbhbainhmfjpdaaGreatDoor
open Go.RowKit
theorem alj {s:Sc} {a b:Nat} {unit:Int} (h:s.Va a b):PCalls Tryz.prog TU 170 [scP s,iP unit] (.tup [iP (gh s.lems unit).1,iP (gh s.lems unit).2]):=by
 refine pcA [85,100] Tryz.func170 (fun D=>?_);refine au ?_;refine pl (ι:={p:Nat×Nat×Nat // p.1≤s.lems.length∧(List.range p.1).foldl (fb s.lems unit) (0,0)=(p.2.1,p.2.2)∧p.2.1≤s.lems.length∧p.2.2≤s.lems.length}) (fun p=>[(1,.pv (iP unit)),(2,.box 2 0),(6,.pv (iP p.1.2.1)),(7,.pv (iP p.1.2.2)),(8,.pv (iP ((p.1.1+1:Nat):Int)))]) (fun p=>[(2,.box 85 [.pv (iP s.q.g.inputs),.pv (bc s.q.g.units),.pv (bc s.q.g.outputs),.pv (dg s.q.rg.lo),.pv (dg s.q.rg.hi),.pv (bc s.q.rg.rows),.pv (cf s.q.goal.terms),.pv (bP s.q.goal.const.neg),.pv (.nat s.q.goal.const.num),.pv (.nat s.q.goal.const.den),.pv (dcsP s.path),.pv (lmsP s.lems)])]) [85,100] (fun p=>s.lems.length - p.1.1) ⟨(0,0,0),nq _,rfl,nq _,nq _⟩ (c5 Y Y Y Y Y trivial) (ai Y trivial) (fun _=>rfl) ?_;intro ⟨(i,lo,hi),hi0,hf,hlo,hhi⟩;simp only at hi0 hf hlo hhi;refine a2 (fun e14=>?_) (fun e14=>?_)
 ·have hi1:i < s.lems.length:=aop e14;have h9:=h.l9;have vm:=(h.lems _ (mg (ab hi1))).up h.b9;refine aa (c:=jf (by show i≤_;omega)) ?_;refine ax (c:=(ae (ab hi1))) ?_;refine a2 (fun e26=>?_) (fun e26=>?_)
  ·refine aa (c:=a8 (by show i+1≤_;omega)) ?_;refine au ?_;exact pe ⟨(i+1,lo,hi),hi1,d4 hf (by simp only[fb,e14,e26,sb]),by first | exact hi1 | exact hlo,by first | exact hi1 | exact hhi⟩ (c5 Y Y Y Y Y trivial) (ai Y trivial) Y (by show s.lems.length - (i+1) < s.lems.length - i;omega)
  ·refine a2 (fun e29=>?_) (fun e29=>?_)
   ·refine a2 (fun e32=>?_) (fun e32=>?_)
    ·refine a2 (fun e50=>?_) (fun e50=>?_)
     ·replace e50:=il e50;refine a2 (fun e53=>?_) (fun e53=>?_)
      ·refine aa (c:=a8 (by show i+1≤_;omega)) ?_;refine au ?_;exact pe ⟨(i+1,(i+1),(i+1)),hi1,d4 hf (by (first | (exact absurd (e29.symm.trans e50) dx) | simp only[fb,e14,e26,e29,e32,e50,e53,sb])),by first | exact hi1 | exact hlo,by first | exact hi1 | exact hhi⟩ (c5 Y Y Y Y Y trivial) (ai Y trivial) Y (by show s.lems.length - (i+1) < s.lems.length - i;omega)
      ·obtain⟨gb,vb⟩:=mq h e53 hlo;refine aa (c:=ir (wd e53) (by show lo≤_;omega)) ?_;refine ax (c:=(ae (ab gb))) ?_;refine ac (c:=a3a (vm.sm dx) (vb.sm dx) vm.ok vb.neg.ok ((vm.add vb.neg).sm dx)) ?_;refine a2 (fun e66=>?_) (fun e66=>?_)
       ·refine aa (c:=a8 (by show i+1≤_;omega)) ?_;refine au ?_;exact pe ⟨(i+1,(i+1),(i+1)),hi1,d4 hf (by (first | (exact absurd (e29.symm.trans e50) dx) | simp only[fb,e14,e26,e29,e32,e50,e53,e66,sb])),by first | exact hi1 | exact hlo,by first | exact hi1 | exact hhi⟩ (c5 Y Y Y Y Y trivial) (ai Y trivial) Y (by show s.lems.length - (i+1) < s.lems.length - i;omega)
       ·refine aa (c:=a8 (by show i+1≤_;omega)) ?_;refine au ?_;exact pe ⟨(i+1,lo,(i+1)),hi1,d4 hf (by (first | (exact absurd (e29.symm.trans e50) dx) | simp only[fb,e14,e26,e29,e32,e50,e53,e66,sb])),by first | exact hi1 | exact hlo,by first | exact hi1 | exact hhi⟩ (c5 Y Y Y Y Y trivial) (ai Y trivial) Y (by show s.lems.length - (i+1) < s.lems.length - i;omega)
     ·replace e50:=j0 e50;refine aa (c:=a8 (by show i+1≤_;omega)) ?_;refine au ?_;exact pe ⟨(i+1,lo,(i+1)),hi1,d4 hf (by (first | (exact absurd (e29.symm.trans e50) dx) | simp only[fb,e14,e26,e29,e32,e50,sb])),by first | exact hi1 | exact hlo,by first | exact hi1 | exact hhi⟩ (c5 Y Y Y Y Y trivial) (ai Y trivial) Y (by show s.lems.length - (i+1) < s.lems.length - i;omega)
    ·obtain⟨gb,vb⟩:=mq h e32 hhi;refine aa (c:=ir (wd e32) (by show hi≤_;omega)) ?_;refine ax (c:=(ae (ab gb))) ?_;refine ac (c:=a3a (vm.sm dx) (vb.sm dx) vm.ok vb.neg.ok ((vm.add vb.neg).sm dx)) ?_;refine a2 (fun e45=>?_) (fun e45=>?_)
     ·refine a2 (fun e50=>?_) (fun e50=>?_)
      ·replace e50:=il e50;refine a2 (fun e53=>?_) (fun e53=>?_)
       ·refine aa (c:=a8 (by show i+1≤_;omega)) ?_;refine au ?_;exact pe ⟨(i+1,(i+1),(i+1)),hi1,d4 hf (by (first | (exact absurd (e29.symm.trans e50) dx) | simp only[fb,e14,e26,e29,e32,e45,e50,e53,sb])),by first | exact hi1 | exact hlo,by first | exact hi1 | exact hhi⟩ (c5 Y Y Y Y Y trivial) (ai Y trivial) Y (by show s.lems.length - (i+1) < s.lems.length - i;omega)
       ·obtain⟨gb,vb⟩:=mq h e53 hlo;refine aa (c:=ir (wd e53) (by show lo≤_;omega)) ?_;refine ax (c:=(ae (ab gb))) ?_;refine ac (c:=a3a (vm.sm dx) (vb.sm dx) vm.ok vb.neg.ok ((vm.add vb.neg).sm dx)) ?_;refine a2 (fun e66=>?_) (fun e66=>?_)
        ·refine aa (c:=a8 (by show i+1≤_;omega)) ?_;refine au ?_;exact pe ⟨(i+1,(i+1),(i+1)),hi1,d4 hf (by (first | (exact absurd (e29.symm.trans e50) dx) | simp only[fb,e14,e26,e29,e32,e45,e50,e53,e66,sb])),by first | exact hi1 | exact hlo,by first | exact hi1 | exact hhi⟩ (c5 Y Y Y Y Y trivial) (ai Y trivial) Y (by show s.lems.length - (i+1) < s.lems.length - i;omega)
        ·refine aa (c:=a8 (by show i+1≤_;omega)) ?_;refine au ?_;exact pe ⟨(i+1,lo,(i+1)),hi1,d4 hf (by (first | (exact absurd (e29.symm.trans e50) dx) | simp only[fb,e14,e26,e29,e32,e45,e50,e53,e66,sb])),by first | exact hi1 | exact hlo,by first | exact hi1 | exact hhi⟩ (c5 Y Y Y Y Y trivial) (ai Y trivial) Y (by show s.lems.length - (i+1) < s.lems.length - i;omega)
      ·replace e50:=j0 e50;refine aa (c:=a8 (by show i+1≤_;omega)) ?_;refine au ?_;exact pe ⟨(i+1,lo,(i+1)),hi1,d4 hf (by (first | (exact absurd (e29.symm.trans e50) dx) | simp only[fb,e14,e26,e29,e32,e45,e50,sb])),by first | exact hi1 | exact hlo,by first | exact hi1 | exact hhi⟩ (c5 Y Y Y Y Y trivial) (ai Y trivial) Y (by show s.lems.length - (i+1) < s.lems.length - i;omega)
     ·refine a2 (fun e50=>?_) (fun e50=>?_)
      ·replace e50:=il e50;refine a2 (fun e53=>?_) (fun e53=>?_)
       ·refine aa (c:=a8 (by show i+1≤_;omega)) ?_;refine au ?_;exact pe ⟨(i+1,(i+1),hi),hi1,d4 hf (by (first | (exact absurd (e29.symm.trans e50) dx) | simp only[fb,e14,e26,e29,e32,e45,e50,e53,sb])),by first | exact hi1 | exact hlo,by first | exact hi1 | exact hhi⟩ (c5 Y Y Y Y Y trivial) (ai Y trivial) Y (by show s.lems.length - (i+1) < s.lems.length - i;omega)
       ·obtain⟨gb,vb⟩:=mq h e53 hlo;refine aa (c:=ir (wd e53) (by show lo≤_;omega)) ?_;refine ax (c:=(ae (ab gb))) ?_;refine ac (c:=a3a (vm.sm dx) (vb.sm dx) vm.ok vb.neg.ok ((vm.add vb.neg).sm dx)) ?_;refine a2 (fun e66=>?_) (fun e66=>?_)
        ·refine aa (c:=a8 (by show i+1≤_;omega)) ?_;refine au ?_;exact pe ⟨(i+1,(i+1),hi),hi1,d4 hf (by (first | (exact absurd (e29.symm.trans e50) dx) | simp only[fb,e14,e26,e29,e32,e45,e50,e53,e66,sb])),by first | exact hi1 | exact hlo,by first | exact hi1 | exact hhi⟩ (c5 Y Y Y Y Y trivial) (ai Y trivial) Y (by show s.lems.length - (i+1) < s.lems.length - i;omega)
        ·refine aa (c:=a8 (by show i+1≤_;omega)) ?_;refine au ?_;exact pe ⟨(i+1,lo,hi),hi1,d4 hf (by (first | (exact absurd (e29.symm.trans e50) dx) | simp only[fb,e14,e26,e29,e32,e45,e50,e53,e66,sb])),by first | exact hi1 | exact hlo,by first | exact hi1 | exact hhi⟩ (c5 Y Y Y Y Y trivial) (ai Y trivial) Y (by show s.lems.length - (i+1) < s.lems.length - i;omega)
      ·replace e50:=j0 e50;refine aa (c:=a8 (by show i+1≤_;omega)) ?_;refine au ?_;exact pe ⟨(i+1,lo,hi),hi1,d4 hf (by (first | (exact absurd (e29.symm.trans e50) dx) | simp only[fb,e14,e26,e29,e32,e45,e50,sb])),by first | exact hi1 | exact hlo,by first | exact hi1 | exact hhi⟩ (c5 Y Y Y Y Y trivial) (ai Y trivial) Y (by show s.lems.length - (i+1) < s.lems.length - i;omega)
   ·refine a2 (fun e50=>?_) (fun e50=>?_)
    ·replace e50:=il e50;refine a2 (fun e53=>?_) (fun e53=>?_)
     ·refine aa (c:=a8 (by show i+1≤_;omega)) ?_;refine au ?_;exact pe ⟨(i+1,(i+1),hi),hi1,d4 hf (by (first | (exact absurd (e29.symm.trans e50) dx) | simp only[fb,e14,e26,e29,e50,e53,sb])),by first | exact hi1 | exact hlo,by first | exact hi1 | exact hhi⟩ (c5 Y Y Y Y Y trivial) (ai Y trivial) Y (by show s.lems.length - (i+1) < s.lems.length - i;omega)
     ·obtain⟨gb,vb⟩:=mq h e53 hlo;refine aa (c:=ir (wd e53) (by show lo≤_;omega)) ?_;refine ax (c:=(ae (ab gb))) ?_;refine ac (c:=a3a (vm.sm dx) (vb.sm dx) vm.ok vb.neg.ok ((vm.add vb.neg).sm dx)) ?_;refine a2 (fun e66=>?_) (fun e66=>?_)
      ·refine aa (c:=a8 (by show i+1≤_;omega)) ?_;refine au ?_;exact pe ⟨(i+1,(i+1),hi),hi1,d4 hf (by (first | (exact absurd (e29.symm.trans e50) dx) | simp only[fb,e14,e26,e29,e50,e53,e66,sb])),by first | exact hi1 | exact hlo,by first | exact hi1 | exact hhi⟩ (c5 Y Y Y Y Y trivial) (ai Y trivial) Y (by show s.lems.length - (i+1) < s.lems.length - i;omega)
      ·refine aa (c:=a8 (by show i+1≤_;omega)) ?_;refine au ?_;exact pe ⟨(i+1,lo,hi),hi1,d4 hf (by (first | (exact absurd (e29.symm.trans e50) dx) | simp only[fb,e14,e26,e29,e50,e53,e66,sb])),by first | exact hi1 | exact hlo,by first | exact hi1 | exact hhi⟩ (c5 Y Y Y Y Y trivial) (ai Y trivial) Y (by show s.lems.length - (i+1) < s.lems.length - i;omega)
    ·replace e50:=j0 e50;refine aa (c:=a8 (by show i+1≤_;omega)) ?_;refine au ?_;exact pe ⟨(i+1,lo,hi),hi1,d4 hf (by (first | (exact absurd (e29.symm.trans e50) dx) | simp only[fb,e14,e26,e29,e50,sb])),by first | exact hi1 | exact hlo,by first | exact hi1 | exact hhi⟩ (c5 Y Y Y Y Y trivial) (ai Y trivial) Y (by show s.lems.length - (i+1) < s.lems.length - i;omega)
 ·have hj:s.lems.length≤i:=aoq e14;exact ar (c:=by rw[aft hf hi0 hj])
theorem a9b {s:Sc} {a b:Nat} {v:Int} (h:s.Va a b) (h0:0≤v) (h9:v≤1000000):PCalls Tryz.prog TU 119 [scP s,iP v] (mmsP (ic s v)):=by
 refine pcA [85] Tryz.func119 (fun D=>?_);refine a2 (fun e10=>?_) (fun e10=>?_)
 ·refine ac (c:=r_of 1 dx dx) ?_;exact ar (c:=by (try simp only[zB] at *);simp only[ic,e10,sb]<;>rfl)
 ·refine aa (c:=da om om om (by have:=h.n9;omega)) ?_;refine ac (c:=r_of 1 dx dx) ?_;exact ar (c:=by (try simp only[zB] at *);simp only[ic,e10,sb]<;>rfl)
theorem adm {s:Sc} {a b:Nat} {v:Int} (h:s.Va a b) (h0:0≤v) (h9:v≤1000000):PCalls Tryz.prog TU 118 [scP s,iP v] (.tup [mmsP (f5 s v).1,bP (f5 s v).2]):=by
 refine pcA [85,35] Tryz.func118 (fun D=>?_);refine ac (c:=r_of 1 dx dx) ?_;refine a2 (fun e20=>?_) (fun e20=>?_)
 ·exact ar (c:=by (try simp only[zB] at *);simp only[f5,e20,sb]<;>rfl)
 ·obtain⟨b1,b2⟩:=a0p s.lems (v - s.q.g.inputs);refine aa (c:=da om om om (by have:=h.n9;omega)) ?_;refine ac (c:=alj h) ?_;refine a2 (fun e40=>?_) (fun e40=>?_)
  ·exact ar (c:=by (try simp only[zB] at *);simp only[f5,e20,e40,sb]<;>rfl)
  ·refine a2 (fun e43=>?_) (fun e43=>?_)
   ·exact ar (c:=by (try simp only[zB] at *);simp only[f5,e20,e40,e43,sb]<;>rfl)
   ·obtain⟨g1,l8⟩:=mq h e40 b1;obtain⟨g2,u8⟩:=mq h e43 b2;refine aa (c:=ir (wd e40) (by have:=h.l9;omega)) ?_;refine ax (c:=(ae (ab g1))) ?_;refine aa (c:=ir (wd e43) (by have:=h.l9;omega)) ?_;refine ax (c:=(ae (ab g2))) ?_;refine ac (c:=ig (u8.sm dx)) ?_;refine a2 (fun e58=>?_) (fun e58=>?_)
    ·exact ar (c:=by (try simp only[zB] at *);simp only[f5,e20,e40,e43,e58,sb]<;>rfl)
    ·refine ac (c:=ig (l8.sm dx)) ?_;refine a2 (fun e68=>?_) (fun e68=>?_)
     ·exact ar (c:=by (try simp only[zB] at *);simp only[f5,e20,e40,e43,e58,e68,sb]<;>rfl)
     ·have h00:=yy l8.ok (zM e58) (zM e68);have hd8:=sz_one.div (u8.add l8.neg) h00;refine ac (c:=ad8 (u8.sm dx) (l8.sm dx) u8.ok l8.neg.ok) ?_;refine ac (c:=aoa (x:=Q.one) (sz_one.sm dx) ((u8.add l8.neg).sm dx) h00) ?_;refine ac (c:=adb (hd8.sm dx) (u8.sm dx)) ?_;exact ar (c:=by (try simp only[zB] at *);simp only[f5,e20,e40,e43,e58,e68,sb]<;>rfl)
theorem zi {s:Sc} {f:Fm} {a b:Nat} (h:s.Va a b) (hf:f.S 3 8) (hv:∀t∈f.terms,0≤t.1∧t.1≤1000):PCalls Tryz.prog TF 64 [scP s,fmP f] (.tup [ratP (bi s f).1,mmsP (bi s f).2.1,bP (bi s f).2.2]):=by
 refine pcA [85,37,35,138] Tryz.func64 (fun D=>?_);refine pa Y Y (pa Y Y ?_)
 apply a9o (sl:=[(2,_),(3,_),(4,_),(5,_),(6,_),(7,.pv (mmsP ((br s f.terms []).getD [])))]) (rs:=[(2,_),(3,_),(4,_)]) [85,37,35] (br s f.terms []=some ((br s f.terms []).getD []))
 case h1=>
  refine au ?_;refine pwk ?_;refine pl (ι:={p:Nat×List Mm // p.1≤f.terms.length∧br s (f.terms.drop p.1) p.2=br s f.terms []∧(∀x∈p.2,x.2.S (1+p.1*60))∧p.2.length≤p.1*2}) (fun p=>[(2,.box 2 0),(3,.box 3 0),(4,.box 4 0),(5,.pv (mmsP [])),(6,.pv (bP false)),(7,.pv (mmsP p.1.2)),(8,.pv (iP p.1.1))]) (fun p=>[(2,.box 85 [.pv (iP s.q.g.inputs),.pv (bc s.q.g.units),.pv (bc s.q.g.outputs),.pv (dg s.q.rg.lo),.pv (dg s.q.rg.hi),.pv (bc s.q.rg.rows),.pv (cf s.q.goal.terms),.pv (bP s.q.goal.const.neg),.pv (.nat s.q.goal.const.num),.pv (.nat s.q.goal.const.den),.pv (dcsP s.path),.pv (lmsP s.lems)]),(3,.box 37 [.pv (cf f.terms),.pv (bP f.const.neg),.pv (.nat f.const.num),.pv (.nat f.const.den)]),(4,.box 35 [.pv (.raw (.bool false)),.pv (.nat 0),.pv (.nat 0)])]) [85,37,35,138] (fun p=>f.terms.length - p.1.1) ⟨(0,[]),nq _,rfl,(fun x hx=>by cases hx),nr _⟩ (c7 Y Y Y Y Y Y Y trivial) (c3 Y Y Y trivial) (fun _=>rfl) ?_;intro ⟨(i,acc),hi0,hg,hacc,hlen⟩;simp only at hi0 hg hacc hlen;refine a2 (fun e19=>?_) (fun e19=>?_)
  ·have hi:i < f.terms.length:=dw e19;have hl8:=hf.len;have ht:=hf.each _ (mg (ab hi));have vt:=hv _ (mg (ab hi));obtain⟨ms,ml⟩:=ah2 h (atZ f.terms (i:Int));refine ax (c:=(ae (ab hi))) ?_;refine ac (c:=adm h vt.1 om) ?_;refine ac (c:=ig (ht.sm dx)) ?_;refine a2 (fun e37=>?_) (fun e37=>?_)
   ·have hmo:im s (atZ f.terms (i:Int))=(ic s (atZ f.terms (i:Int)).1,true):=by simp only[im,e37,cond_true]
    rw[hmo] at ms ml;simp only at ms ml;refine ac (c:=a9b h vt.1 om) ?_;refine ac (c:=a94 (n:=1+i*60) (m:=26) (k:=3) hacc ms ht.abs om dx dx om) ?_;refine aa (c:=a8 (by show i≤_;omega)) ?_;refine au ?_;obtain⟨k1,k2⟩:=zw ht.abs hacc ms;exact pe ⟨(i+1,fq (atZ f.terms (i:Int)).2.abs acc _),hi,ym hi hg (hmo.trans (Prod.ext Y Y)),fun x hx=>(k1 x hx).up (by show _≤1+(i+1)*60;have:=zT 30 ml;omega),nt k2 (by show _≤(i+1)*2;omega)⟩ (c7 Y Y Y Y Y Y Y trivial) (c3 Y Y Y trivial) Y (by show f.terms.length - (i+1) < f.terms.length - i;omega)
   ·have hmo:im s (atZ f.terms (i:Int))=f5 s (atZ f.terms (i:Int)).1:=by simp only[im,e37,cond_false]
    rw[hmo] at ms ml;refine a2 (fun e43=>?_) (fun e43=>?_)
    ·replace e43:=il e43;exact ar (c:=by rw[a7l hi hg (by rw[hmo];exact e43)];rfl)
    ·replace e43:=j0 e43;refine ac (c:=a94 (n:=1+i*60) (m:=26) (k:=3) hacc ms ht.abs om dx dx om) ?_;refine aa (c:=a8 (by show i≤_;omega)) ?_;refine au ?_;obtain⟨k1,k2⟩:=zw ht.abs hacc ms;exact pe ⟨(i+1,fq (atZ f.terms (i:Int)).2.abs acc _),hi,ym hi hg (hmo.trans (Prod.ext Y e43)),fun x hx=>(k1 x hx).up (by show _≤1+(i+1)*60;have:=zT 30 ml;omega),nt k2 (by show _≤(i+1)*2;omega)⟩ (c7 Y Y Y Y Y Y Y trivial) (c3 Y Y Y trivial) Y (by show f.terms.length - (i+1) < f.terms.length - i;omega)
  ·have hj:f.terms.length≤i:=fx e19;refine au ?_;refine⟨?_,by rw[a2u hg hj];rfl⟩;refine Sub.of ?_ ?_ ?_
   ·exact (c5 Y Y Y Y Y (ai (congrArg (fun x=>some (SV.pv (mmsP x))) (by show acc=_;rw[a2u hg hj];rfl)) trivial))
   ·exact (c3 Y Y Y trivial)
   ·rfl
 case h2=>
  intro hsome;have hL:=a2w h hf hsome;have hl8:=hf.len;have hKK:=zT (41+481) hL.2;refine ac (c:=ahy (n:=481) h hL.1 om dx om) ?_;refine ac (c:=m9 hf (a82 h hL.1) om om) ?_;exact ar (c:=by unfold bi;rw[hsome];rfl)
theorem qh {s:Sc} {a b:Nat} (h:∀j,j≤s.q.g.units.length→(aj s j).Va a b) (hv:∀p∈s.q.g.units,∀t∈p.terms,0≤t.1∧t.1≤1000):PCalls Tryz.prog TF 26 [scP s] (scP (di s)):=by
 have hs0:s.Va a b:=h 0 (nq _);have hu8:=hs0.n9;refine pcA [85,37,35,100] Tryz.func26 (fun D=>?_);refine au ?_;refine rp0 el_Lemma (by have:=(show s.lems.length≤1000 from hs0.l9);simp;omega) Y Y Y Y Y Y Y Y ?_;refine au ?_;refine pwk ?_;refine pl (ι:={p:Nat×List Lm // p.1≤s.q.g.units.length∧aj s p.1=⟨s.q,s.path,p.2⟩}) (fun p=>[(1,.box 1 0),(2,.box 2 0),(3,.box 3 0),(4,.pv (iP p.1.1))]) (fun p=>[(1,.box 85 [.pv (iP s.q.g.inputs),.pv (bc s.q.g.units),.pv (bc s.q.g.outputs),.pv (dg s.q.rg.lo),.pv (dg s.q.rg.hi),.pv (bc s.q.rg.rows),.pv (cf s.q.goal.terms),.pv (bP s.q.goal.const.neg),.pv (.nat s.q.goal.const.num),.pv (.nat s.q.goal.const.den),.pv (dcsP s.path),.pv (lmsP s.lems)]),(2,.box 85 [.pv (.raw (.int .i64 0)),.pv (bc []),.pv (bc []),.pv (dg []),.pv (dg []),.pv (bc []),.pv (cf []),.pv (.raw (.bool false)),.pv (.nat 0),.pv (.nat 0),.pv (dcsP []),.pv (lmsP [])]),(3,.box 85 [.pv (iP s.q.g.inputs),.pv (bc s.q.g.units),.pv (bc s.q.g.outputs),.pv (dg s.q.rg.lo),.pv (dg s.q.rg.hi),.pv (bc s.q.rg.rows),.pv (cf s.q.goal.terms),.pv (bP s.q.goal.const.neg),.pv (.nat s.q.goal.const.num),.pv (.nat s.q.goal.const.den),.pv (dcsP s.path),.tok 16]),(16,.tok 100 6 [200,98] (p.1.2.map lmC))]) [85,37,35,100] (fun p=>s.q.g.units.length - p.1.1) ⟨(0,s.lems),nq _,rfl⟩ (c4 Y Y Y Y trivial) (c4 Y Y Y Y trivial) (fun _=>rfl) ?_;intro ⟨(j,ls),hj0,hg⟩;simp only at hj0 hg;refine a2 (fun e27=>?_) (fun e27=>?_)
 ·have hj1:j < s.q.g.units.length:=dw e27;have hva:(⟨s.q,s.path,ls⟩:Sc).Va a b:=hg▸h j hj0;have hp:(atZ s.q.g.units (j:Int)).S 2 8:=(hs0.q.us _ (mg (ab hj1))).up hs0.a9 hs0.n9;have hvv:=hv _ (mg (ab hj1));have hw:=(uv hva (hp.scaleR er)).1;refine ax (c:=(ae (ab hj1))) ?_;refine ac (c:=zi hva (hp.up dx (nr _)) hvv) ?_;refine ac (c:=r_of (-1) dx dx) ?_;refine ac (c:=ip (q:=Q.mone) hp er dx dx dx) ?_;refine ac (c:=zi hva (hp.scaleR er) (kn hp.cn (P:=fun v=>0≤v∧v≤1000) hvv)) ?_;refine a2 (fun e53=>?_) (fun e53=>?_)
  ·refine au ?_;refine rp0 el_Lemma (by have:=(show ls.length≤1000 from hva.l9);simp;omega) Y Y Y Y Y Y Y Y ?_;refine a2 (fun e63=>?_) (fun e63=>?_)
   ·refine ac (c:=ai7 (hw.sm dx)) ?_;refine au ?_;refine rp0 el_Lemma (by have:=(show ls.length≤1000 from hva.l9);simp;omega) Y Y Y Y Y Y Y Y ?_;refine aa (c:=a8 (by show j≤_;omega)) ?_;refine au ?_;exact pe ⟨(j+1,ju ls (j:Int) (bi ⟨s.q,s.path,ls⟩ (atZ s.q.g.units (j:Int))) (bi ⟨s.q,s.path,ls⟩ (Fm.scaleR (atZ s.q.g.units (j:Int)) Q.mone))),hj1,by rw[aj,hg];rfl⟩ (c4 Y Y Y Y trivial) (c3 Y Y Y (ai (congrArg (fun x=>some (Res.tok 100 6 [200,98] x)) (by show _=(ju ls (j:Int) (bi ⟨s.q,s.path,ls⟩ (atZ s.q.g.units (j:Int))) (bi ⟨s.q,s.path,ls⟩ (Fm.scaleR (atZ s.q.g.units (j:Int)) Q.mone))).map lmC;simp only[ju,e27,e53,e63,sb,zN,List.map_cons,List.map_nil,List.append_nil,zX,List.append_assoc]<;>rfl)) trivial)) Y (by show s.q.g.units.length - (j+1) < s.q.g.units.length - j;omega)
   ·refine aa (c:=a8 (by show j≤_;omega)) ?_;refine au ?_;exact pe ⟨(j+1,ju ls (j:Int) (bi ⟨s.q,s.path,ls⟩ (atZ s.q.g.units (j:Int))) (bi ⟨s.q,s.path,ls⟩ (Fm.scaleR (atZ s.q.g.units (j:Int)) Q.mone))),hj1,by rw[aj,hg];rfl⟩ (c4 Y Y Y Y trivial) (c3 Y Y Y (ai (congrArg (fun x=>some (Res.tok 100 6 [200,98] x)) (by show _=(ju ls (j:Int) (bi ⟨s.q,s.path,ls⟩ (atZ s.q.g.units (j:Int))) (bi ⟨s.q,s.path,ls⟩ (Fm.scaleR (atZ s.q.g.units (j:Int)) Q.mone))).map lmC;simp only[ju,e27,e53,e63,sb,zN,List.map_cons,List.map_nil,List.append_nil,zX,List.append_assoc]<;>rfl)) trivial)) Y (by show s.q.g.units.length - (j+1) < s.q.g.units.length - j;omega)
  ·refine a2 (fun e63=>?_) (fun e63=>?_)
   ·refine ac (c:=ai7 (hw.sm dx)) ?_;refine au ?_;refine rp0 el_Lemma (by have:=(show ls.length≤1000 from hva.l9);simp;omega) Y Y Y Y Y Y Y Y ?_;refine aa (c:=a8 (by show j≤_;omega)) ?_;refine au ?_;exact pe ⟨(j+1,ju ls (j:Int) (bi ⟨s.q,s.path,ls⟩ (atZ s.q.g.units (j:Int))) (bi ⟨s.q,s.path,ls⟩ (Fm.scaleR (atZ s.q.g.units (j:Int)) Q.mone))),hj1,by rw[aj,hg];rfl⟩ (c4 Y Y Y Y trivial) (c3 Y Y Y (ai (congrArg (fun x=>some (Res.tok 100 6 [200,98] x)) (by show _=(ju ls (j:Int) (bi ⟨s.q,s.path,ls⟩ (atZ s.q.g.units (j:Int))) (bi ⟨s.q,s.path,ls⟩ (Fm.scaleR (atZ s.q.g.units (j:Int)) Q.mone))).map lmC;simp only[ju,e27,e53,e63,sb,zN,List.map_cons,List.map_nil,List.append_nil,zX,List.append_assoc]<;>rfl)) trivial)) Y (by show s.q.g.units.length - (j+1) < s.q.g.units.length - j;omega)
   ·refine aa (c:=a8 (by show j≤_;omega)) ?_;refine au ?_;exact pe ⟨(j+1,ju ls (j:Int) (bi ⟨s.q,s.path,ls⟩ (atZ s.q.g.units (j:Int))) (bi ⟨s.q,s.path,ls⟩ (Fm.scaleR (atZ s.q.g.units (j:Int)) Q.mone))),hj1,by rw[aj,hg];rfl⟩ (c4 Y Y Y Y trivial) (c3 Y Y Y (ai (congrArg (fun x=>some (Res.tok 100 6 [200,98] x)) (by show _=(ju ls (j:Int) (bi ⟨s.q,s.path,ls⟩ (atZ s.q.g.units (j:Int))) (bi ⟨s.q,s.path,ls⟩ (Fm.scaleR (atZ s.q.g.units (j:Int)) Q.mone))).map lmC;simp only[ju,e27,e53,e63,sb,zN,List.map_cons,List.map_nil,List.append_nil,zX,List.append_assoc]<;>rfl)) trivial)) Y (by show s.q.g.units.length - (j+1) < s.q.g.units.length - j;omega)
 ·have hjj:s.q.g.units.length≤j:=fx e27;exact ar (c:=by rw[show di s=⟨s.q,s.path,ls⟩ from by unfold di;rw[← hg,show s.q.g.units.length=j from by omega]];rfl)
inductive Nd where
 | mk (lems:List Lm) (split:Dc) (kids:List Nd) (empty:Bool) (proof:List Mm)
abbrev ndT:List Nat:=[100,98,200,46]
mutual
def ndC:Nd→List PV
 | .mk ls d ks e p=>[lmsP ls,iP d.kind,iP d.index,bP d.at_.neg,.nat d.at_.num,.nat d.at_.den,.rows 46 9 ndT (ndCs ks),bP e,mmsP p]
def ndCs:List Nd→List (List PV)
 | []=>[]
 | k::ks=>ndC k::ndCs ks
end
abbrev ndP (n:Nd):PV:=.agg (ndC n)
abbrev ndsP (l:List Nd):PV:=.rows 46 9 ndT (ndCs l)
def Nd.lems:Nd→List Lm | .mk ls _ _ _ _=>ls
def Nd.split:Nd→Dc | .mk _ d _ _ _=>d
def Nd.kids:Nd→List Nd | .mk _ _ ks _ _=>ks
def Nd.empty:Nd→Bool | .mk _ _ _ e _=>e
def Nd.proof:Nd→List Mm | .mk _ _ _ _ p=>p
abbrev dc0:Dc:=⟨0,0,Q.zero⟩
abbrev scR (q:Qr) (rows:List (List PV)) (ls:List Lm):PV:=.agg [iP q.g.inputs,bc q.g.units,bc q.g.outputs,dg q.rg.lo,dg q.rg.hi,bc q.rg.rows,cf q.goal.terms,bP q.goal.const.neg,.nat q.goal.const.num,.nat q.goal.const.den,.rows 42 5 [200] rows,lmsP ls]
theorem agf (q:Qr) (p:List Dc) (d:Dc) (ls:List Lm):scR q (p.map dcC++[dcC d]) ls=scP ⟨q,p++[d],ls⟩:=by
 show scR q (p.map dcC++[dcC d]) ls=scR q ((p++[d]).map dcC) ls;rw[zN];rfl
def Sc.dec (s:Sc) (kind:Int) (k:Nat):Sc:=⟨s.q,s.path++[⟨kind,(k:Int),Q.zero⟩],s.lems⟩
def bp:Nat→Sc→Bool→Nd×Q
 | 0,s,root=>(.mk ((di s).lems.drop (bif root then 0 else s.lems.length)) dc0 [] false (bi (di s) s.q.goal).2.1,(bi (di s) s.q.goal).1)
 | k+1,s,root=>(.mk (bif root then s.lems else []) ⟨1,(k:Int),Q.zero⟩ [(bp k (s.dec 1 k) false).1,(bp k (s.dec 2 k) false).1] false [],minR (bp k (s.dec 1 k) false).2 (bp k (s.dec 2 k) false).2)
def my (a b:Nat):Nat→Sc→Prop
 | 0,s=>∀j,j≤s.q.g.units.length→(aj s j).Va a b
 | k+1,s=>my a b k (s.dec 1 k)∧my a b k (s.dec 2 k)∧(bp k (s.dec 1 k) false).2.S 1000∧(bp k (s.dec 2 k) false).2.S 1000∧s.path.length≤100
theorem ph (s:Sc):∀j,s.lems.length≤(aj s j).lems.length
 | 0=>nr _
 | j+1=>by
  show _≤(ju _ _ _ _).length;unfold ju;rw[zI];exact nt (ph s j) (Nat.le_add_right ..)
theorem fk (s:Sc):∀j,(aj s j).q=s.q∧(aj s j).path=s.path
 | 0=>⟨rfl,rfl⟩
 | j+1=>fk s j
def idxG {α:Type} (F:α→Bool):List α→Nat→Int
 | [],_=>-1
 | a::l,i=>bif F a then (i:Int) else idxG F l (i+1)
theorem a0b {α:Type} {F:α→Bool}:∀{l:List α} {i:Nat},decide (0≤idxG F l i)=l.any F
 | [],i=>rfl
 | a::l,i=>by
  rw[idxG,List.any_cons];cases F a with
  | true=>simp
  | false=>simp only[cond_false,Bool.false_or];exact a0b
theorem a65 {α:Type} [Inhabited α] {F:α→Bool} {l:List α} {j:Nat} (h:idxG F (l.drop j) j=idxG F l 0) (hj:j < l.length) (hF:F (atZ l (j:Int))=true):(j:Int)=idxG F l 0:=by
 have e:l.drop j=atZ l (j:Int)::l.drop (j+1):=by rw[bm (ge hj),zQ hj]
 rw[e,idxG,hF] at h;exact h
theorem a2c {α:Type} [Inhabited α] {F:α→Bool} {l:List α} {j:Nat} (h:idxG F (l.drop j) j=idxG F l 0) (hj:j < l.length) (hF:F (atZ l (j:Int))=false):idxG F (l.drop (j+1)) (j+1)=idxG F l 0:=by
 have e:l.drop j=atZ l (j:Int)::l.drop (j+1):=by rw[bm (ge hj),zQ hj]
 rw[e,idxG,hF] at h;exact h
theorem a66 {α:Type} {F:α→Bool} {l:List α} {j:Nat} (h:idxG F (l.drop j) j=idxG F l 0) (hj:l.length≤j):(-1:Int)=idxG F l 0:=by
 rw[List.drop_of_length_le hj] at h;exact h
theorem xo {n:Nat}:(((a7 n).length:Int) == 0)=decide (n=0):=by
 by_cases h:n=0
 ·subst h;rw[al];rfl
 ·rw[df h];have:(a7 n).length≠0:=fun e=>h (bw.1 e)
  exact beq_eq_false_iff_ne.2 om
theorem yq {q:Q}:decide (q=Q.zero)=(!q.neg&&((((a7 q.num).length:Int) == 0)&&(((a7 q.den).length:Int) == 0))):=by
 obtain⟨n,a,d⟩:=q;simp only[xo];cases n<;>by_cases h1:a=0<;>by_cases h2:d=0<;>simp[h1,h2]
theorem kne {k a b:Int} (h:(k == a)=true) (hab:(a == b)=false):(k == b)=false:=by
 have e:k=a:=eq_of_beq h;rw[e];exact hab
theorem ahk {x y:Q} (h:y.Ok):Q.sub x y=Q.add x y.neg':=by
 unfold Q.sub Q.neg';by_cases h0:y.num=0
 ·obtain rfl:=Q.zero_of h h0;rfl
 ·have hf:y.flip.Ok:=⟨h.one,h.cop,fun e=>absurd e h0⟩;rw[l5 hf]
abbrev usC (s:Sc) (r:Rw) (v p:Fm) (l u:Q×Bool):List PV:=scC s++(rwC r++(fmC v++(fmC p++(qC l.1++(qC u.1++[bP l.2,bP u.2])))))
theorem zl {q:Q} (h:q.Sm):PCalls Tryz.prog [] 130 [ratP q] (iP (sgQ q)):=a9v h
theorem alz {x y:Q} {s t:Nat} (h:x.S s) (k:y.S t) (hs:s≤10000) (ht:t≤10000):PCalls Tryz.prog TU 282 [ratP x,ratP y] (ratP (Q.add x y.neg')):=by
 have:=aof (h.sm hs) (k.sm ht);rwa [ahk k.ok] at this
theorem ae5 {l:List Dc} {f:Nat} {caps:List PV} {F:Dc→Bool} (hl:l.length≤100000) (h:∀d∈l,PCalls Tryz.prog TU f (dcP d::caps) (bP (F d))):PCalls Tryz.prog TU 185 [dcsP l,.fn f caps] (iP (idxG F l 0)):=by
 refine pcA [] Tryz.func185 (fun D=>?_);refine au ?_;refine pl (ι:={i:Nat // i≤l.length∧idxG F (l.drop i) i=idxG F l 0}) (fun i=>[(0,.pv (dcsP l)),(1,.pv (.fn f caps)),(7,.pv (iP ((l.map dcC).length:Int))),(8,.pv (iP i.1))]) (fun _=>[]) [] (fun i=>l.length - i.1) ⟨0,nq _,rfl⟩ (c4 Y Y Y Y trivial) trivial (fun _=>rfl) ?_;intro ⟨i,hi0,hg⟩;refine a2 (fun e9=>?_) (fun e9=>?_)
 ·have hi:i < l.length:=dw e9;refine ax (c:=(ae (ab hi))) ?_;refine au ?_;refine rcv (h _ (mg (ab hi))) Y Y Y Y Y Y Y Y Y ?_;refine a2 (fun e16=>?_) (fun e16=>?_)
  ·exact ar (c:=congrArg iP (a65 hg hi e16))
  ·refine aa (c:=a8 (by show i≤_;omega)) ?_;refine au ?_;exact pe ⟨i+1,hi,a2c hg hi e16⟩ (c4 Y Y Y Y trivial) trivial Y (by show l.length - (i+1) < l.length - i;omega)
 ·have hj:l.length≤i:=fx e9;exact ar (c:=congrArg iP (a66 hg hj))
theorem lh {l:List Dc} {f:Nat} {caps:List PV} {F:Dc→Bool} (hl:l.length≤100000) (h:∀d∈l,PCalls Tryz.prog TU f (dcP d::caps) (bP (F d))):PCalls Tryz.prog TU 135 [dcsP l,.fn f caps] (bP (l.any F)):=by
 refine pcA [] Tryz.func135 (fun D=>?_);refine ac (c:=ae5 hl h) ?_;exact ar (c:=congrArg bP a0b)
theorem ae6 {l:List Fm} {f:Nat} {caps:List PV} {F:Fm→Bool} (hl:l.length≤100000) (h:∀d∈l,PCalls Tryz.prog TU f (fmP d::caps) (bP (F d))):PCalls Tryz.prog TU 181 [bc l,.fn f caps] (iP (idxG F l 0)):=by
 refine pcA [] Tryz.func181 (fun D=>?_);refine au ?_;refine pl (ι:={i:Nat // i≤l.length∧idxG F (l.drop i) i=idxG F l 0}) (fun i=>[(0,.pv (bc l)),(1,.pv (.fn f caps)),(7,.pv (iP ((l.map fmC).length:Int))),(8,.pv (iP i.1))]) (fun _=>[]) [] (fun i=>l.length - i.1) ⟨0,nq _,rfl⟩ (c4 Y Y Y Y trivial) trivial (fun _=>rfl) ?_;intro ⟨i,hi0,hg⟩;refine a2 (fun e9=>?_) (fun e9=>?_)
 ·have hi:i < l.length:=dw e9;refine ax (c:=(ae (ab hi))) ?_;refine au ?_;refine rcv (h _ (mg (ab hi))) Y Y Y Y Y Y Y Y Y ?_;refine a2 (fun e16=>?_) (fun e16=>?_)
  ·exact ar (c:=congrArg iP (a65 hg hi e16))
  ·refine aa (c:=a8 (by show i≤_;omega)) ?_;refine au ?_;exact pe ⟨i+1,hi,a2c hg hi e16⟩ (c4 Y Y Y Y trivial) trivial Y (by show l.length - (i+1) < l.length - i;omega)
 ·have hj:l.length≤i:=fx e9;exact ar (c:=congrArg iP (a66 hg hj))
theorem vx {l:List Fm} {f:Nat} {caps:List PV} {F:Fm→Bool} (hl:l.length≤100000) (h:∀d∈l,PCalls Tryz.prog TU f (fmP d::caps) (bP (F d))):PCalls Tryz.prog TU 128 [bc l,.fn f caps] (bP (l.any F)):=by
 refine pcA [] Tryz.func128 (fun D=>?_);refine ac (c:=ae6 hl h) ?_;exact ar (c:=congrArg bP a0b)
theorem agt {q:Q}:PCalls Tryz.prog [] 223 [ratP q] (bP (decide (q=Q.zero))):=by
 refine pcA [35] Tryz.func223 (fun D=>?_);refine a2 (fun e6=>?_) (fun e6=>?_)
 ·replace e6:=il e6;refine a2 (fun e12=>?_) (fun e12=>?_)
  ·exact ar (c:=by rw[yq];simp only[e6,e12,sb])
  ·exact ar (c:=by rw[yq];simp only[e6,e12,sb])
 ·replace e6:=j0 e6;exact ar (c:=by rw[yq];simp only[e6,sb])
theorem aa2 {q:Qr} {d:Dc} {s:Nat} (h:d.at_.S s) (hs:s≤10000):PCalls Tryz.prog [] 186 [qyP q,dcP d] (bP (cz q d)):=by
 refine pcA [39,42] Tryz.func186 (fun D=>?_);refine a2 (fun e7=>?_) (fun e7=>?_)
 ·refine a2 (fun e13=>?_) (fun e13=>?_)
  ·refine a2 (fun e22=>?_) (fun e22=>?_)
   ·refine ac (c:=agt) ?_;exact ar (c:=by (try simp only[zB] at *);simp only[cz,e7,e13,e22,sb]<;>rfl)
   ·exact ar (c:=by (try simp only[zB] at *);simp only[cz,e7,e13,e22,sb]<;>rfl)
  ·exact ar (c:=by (try simp only[zB] at *);simp only[cz,e7,e13,sb]<;>rfl)
 ·refine a2 (fun e7'=>?_) (fun e7'=>?_)
  ·refine a2 (fun e13=>?_) (fun e13=>?_)
   ·refine a2 (fun e22=>?_) (fun e22=>?_)
    ·refine ac (c:=agt) ?_;exact ar (c:=by (try simp only[zB] at *);simp only[cz,e7,e7',e13,e22,sb]<;>rfl)
    ·exact ar (c:=by (try simp only[zB] at *);simp only[cz,e7,e7',e13,e22,sb]<;>rfl)
   ·exact ar (c:=by (try simp only[zB] at *);simp only[cz,e7,e7',e13,sb]<;>rfl)
  ·refine a2 (fun e27=>?_) (fun e27=>?_)
   ·refine a2 (fun e33=>?_) (fun e33=>?_)
    ·refine a2 (fun e41=>?_) (fun e41=>?_)
     ·refine ac (c:=lc (h.sm hs) h.ok) ?_;exact ar (c:=by (try simp only[zB] at *);simp only[cz,e7,e7',e27,e33,e41,sb]<;>rfl)
     ·exact ar (c:=by (try simp only[zB] at *);simp only[cz,e7,e7',e27,e33,e41,sb]<;>rfl)
    ·exact ar (c:=by (try simp only[zB] at *);simp only[cz,e7,e7',e27,e33,sb]<;>rfl)
   ·refine a2 (fun e27'=>?_) (fun e27'=>?_)
    ·refine a2 (fun e33=>?_) (fun e33=>?_)
     ·refine a2 (fun e41=>?_) (fun e41=>?_)
      ·refine ac (c:=lc (h.sm hs) h.ok) ?_;exact ar (c:=by (try simp only[zB] at *);simp only[cz,e7,e7',e27,e27',e33,e41,sb]<;>rfl)
      ·exact ar (c:=by (try simp only[zB] at *);simp only[cz,e7,e7',e27,e27',e33,e41,sb]<;>rfl)
     ·exact ar (c:=by (try simp only[zB] at *);simp only[cz,e7,e7',e27,e27',e33,sb]<;>rfl)
    ·exact ar (c:=by (try simp only[zB] at *);simp only[cz,e7,e7',e27,e27',sb]<;>rfl)
theorem a7a {s:Sc} {d:Dc} {n:Nat} {kind unit:Int} (h:d.at_.S n) (hn:n≤10000):PCalls Tryz.prog TU 386 [dcP d,.ptr 3 [iP kind],.ptr 3 [iP unit],.ptr 85 (scC s)] (bP (hitQ s.q kind unit d)):=by
 refine pcA [42] Tryz.func386 (fun D=>?_);refine a2 (fun e10=>?_) (fun e10=>?_)
 ·refine a2 (fun e16=>?_) (fun e16=>?_)
  ·refine ac (c:=aa2 h hn) ?_;exact ar (c:=by (try simp only[zB] at *);simp only[hitQ,e10,e16,sb]<;>rfl)
  ·exact ar (c:=by (try simp only[zB] at *);simp only[hitQ,e10,e16,sb]<;>rfl)
 ·exact ar (c:=by (try simp only[zB] at *);simp only[hitQ,e10,sb]<;>rfl)
theorem a1l {s:Sc} {a b:Nat} {kind unit:Int} (h:s.Va a b):PCalls Tryz.prog TU 337 [scP s,iP kind,iP unit] (bP (je s kind unit)):=by
 refine pcA [85,3] Tryz.func337 (fun D=>?_);refine au ?_;refine rmk Y Y Y Y ?_;refine ac (c:=lh (F:=hitQ s.q kind unit) (by have:=h.p9;omega) fun d hd=>a7a (s:=s) (h.path d hd) (by have:=h.a9;omega)) ?_;exact ar (c:=rfl)
theorem a79 {q:Q} {s:Nat} (h:q.S s) (hs:s≤10000):PCalls Tryz.prog TF 277 [ratP q] (fmP (numR q)):=by
 refine pcA [37,35] Tryz.func277 (fun D=>?_);refine ac (c:=aa8 (h.sm hs)) ?_;exact ar (c:=by rw[h.canon];rfl)
theorem adu (v:Int):PCalls Tryz.prog TF 276 [iP v] (fmP (varR v)):=by
 refine pcA [37] Tryz.func276 (fun D=>?_);refine ac (c:=p_of 1 dx dx) ?_;exact ar (c:=rfl)
theorem a3f {f:Fm} {s l:Nat} (h:f.S s l) (hs:s≤10000) (hl:l≤400):PCalls Tryz.prog TF 278 [fmP f] (fmP (Fm.scaleR f Q.mone)):=by
 refine pcA [37] Tryz.func278 (fun D=>?_);refine ac (c:=p_of (-1) dx dx) ?_;refine ac (c:=qm (q:=Q.mone) h er hs dx hl) ?_;exact ar (c:=rfl)
theorem aa1 {s:Sc} {a b:Nat} {n unit:Int} {upper:Bool} (h:s.Va a b):PCalls Tryz.prog TU 279 [scP s,iP n,iP unit,bP upper] (.tup [ratP (aw s.lems n unit upper).1,bP (aw s.lems n unit upper).2]):=by
 refine pcA [85,35] Tryz.func279 (fun D=>?_);refine a2 (fun e12=>?_) (fun e12=>?_)
 ·exact ar (c:=by (try simp only[zB] at *);simp only[aw,e12,sb]<;>rfl)
 ·have g1:1≤n:=by have:=zM e12;omega
  refine a2 (fun e19=>?_) (fun e19=>?_)
  ·exact ar (c:=by (try simp only[zB] at *);simp only[aw,e12,e19,sb]<;>rfl)
  ·have g2:n≤s.lems.length:=by have:=zM e19;rw[zB] at this;omega
   have h1:0≤n - 1:=by omega
   have h2:n - 1 < s.lems.length:=by omega
   have h9:=h.l9;refine aa (c:=da om om om om) ?_;refine ay (z:=toN h1) (c:=(ae (dp h1 h2))) ?_;refine a2 (fun e30=>?_) (fun e30=>?_)
   ·exact ar (c:=by (try simp only[zB] at *);simp only[aw,e12,e19,e30,sb]<;>rfl)
   ·refine aa (c:=da om om om om) ?_;refine ay (z:=toN h1) (c:=(ae (dp h1 h2))) ?_;refine au ?_;refine re0 (((atZ s.lems (n - 1)).upper != upper)) Y Y Y Y Y Y (.inr ⟨rfl,rfl⟩) ?_;refine a2 (fun e40=>?_) (fun e40=>?_)
    ·exact ar (c:=by (try simp only[zB] at *);simp only[aw,e12,e19,e30,e40,sb]<;>rfl)
    ·refine aa (c:=da om om om om) ?_;refine ay (z:=toN h1) (c:=(ae (dp h1 h2))) ?_;refine ac (c:=aa8 ((h.lems _ (bg h1 h2)).sm (by have:=h.b9;omega))) ?_;exact ar (c:=by (try simp only[zB] at *);simp only[aw,e12,e19,e30,e40,sb]<;>rfl)
theorem a9q {s:Sc} {a b n:Nat} {r:Rw} {v p:Fm} {l u:Q×Bool} (h:s.Va a b) (hq:l.1.S n) (hn:n≤10000):PCalls Tryz.prog TU 280 [.agg (usC s r v p l u)] (bP (onQ s r l)):=by
 refine pcA [367] Tryz.func280 (fun D=>?_);refine a2 (fun e7=>?_) (fun e7=>?_)
 ·refine a2 (fun e12=>?_) (fun e12=>?_)
  ·refine ac (c:=a1l h) ?_;refine a2 (fun e20=>?_) (fun e20=>?_)
   ·exact ar (c:=by (try simp only[zB] at *);simp only[onQ,e7,e12,e20,sb]<;>rfl)
   ·refine a2 (fun e23=>?_) (fun e23=>?_)
    ·refine ac (c:=zl (hq.sm hn)) ?_;exact ar (c:=by (try simp only[zB] at *);simp only[onQ,e7,e12,e20,e23,sb]<;>rfl)
    ·exact ar (c:=by (try simp only[zB] at *);simp only[onQ,e7,e12,e20,e23,sb]<;>rfl)
  ·refine a2 (fun e23=>?_) (fun e23=>?_)
   ·refine ac (c:=zl (hq.sm hn)) ?_;exact ar (c:=by (try simp only[zB] at *);simp only[onQ,e7,e12,e23,sb]<;>rfl)
   ·exact ar (c:=by (try simp only[zB] at *);simp only[onQ,e7,e12,e23,sb]<;>rfl)
 ·exact ar (c:=by (try simp only[zB] at *);simp only[onQ,e7,sb]<;>rfl)
theorem a5a {s:Sc} {a b n:Nat} {r:Rw} {v p:Fm} {l u:Q×Bool} (h:s.Va a b) (hq:u.1.S n) (hn:n≤10000):PCalls Tryz.prog TU 281 [.agg (usC s r v p l u)] (bP (offQ s r u)):=by
 refine pcA [367] Tryz.func281 (fun D=>?_);refine a2 (fun e7=>?_) (fun e7=>?_)
 ·refine a2 (fun e12=>?_) (fun e12=>?_)
  ·refine ac (c:=a1l h) ?_;refine a2 (fun e20=>?_) (fun e20=>?_)
   ·exact ar (c:=by (try simp only[zB] at *);simp only[offQ,e7,e12,e20,sb]<;>rfl)
   ·refine a2 (fun e23=>?_) (fun e23=>?_)
    ·refine ac (c:=zl (hq.sm hn)) ?_;exact ar (c:=by (try simp only[zB] at *);simp only[offQ,e7,e12,e20,e23,sb]<;>rfl)
    ·exact ar (c:=by (try simp only[zB] at *);simp only[offQ,e7,e12,e20,e23,sb]<;>rfl)
  ·refine a2 (fun e23=>?_) (fun e23=>?_)
   ·refine ac (c:=zl (hq.sm hn)) ?_;exact ar (c:=by (try simp only[zB] at *);simp only[offQ,e7,e12,e23,sb]<;>rfl)
   ·exact ar (c:=by (try simp only[zB] at *);simp only[offQ,e7,e12,e23,sb]<;>rfl)
 ·exact ar (c:=by (try simp only[zB] at *);simp only[offQ,e7,sb]<;>rfl)
theorem alr {s:Sc} {a b:Nat} {r:Rw} (h:s.Va a b):PCalls Tryz.prog TF 228 [scP s,rwP r] (.tup [fmP (ce s r).1,bP (ce s r).2]):=by
 refine pcA [85,96,37,27,367] Tryz.func228 (fun D=>?_);refine a2 (fun e15=>?_) (fun e15=>?_)
 ·exact ar (c:=by (try simp only[zB] at *);simp only[ce,bz,e15,sb]<;>rfl)
 ·have g0:=t5 e15;refine a2 (fun e22=>?_) (fun e22=>?_)
  ·exact ar (c:=by (try simp only[zB] at *);simp only[ce,bz,e15,e22,sb]<;>rfl)
  ·have g1:=wu e22;have hn:=h.n9;have hv:(varR (s.q.g.inputs+r.index)).S 1 1:=ff _;have hp:(atZ s.q.g.units r.index).S 2 8:=(h.q.us _ (bg g0 g1)).up h.a9 h.n9;have hl:(aw s.lems r.lo r.index false).1.S 8:=(np h.lems h.b1).up h.b9;have hu:(aw s.lems r.hi r.index true).1.S 8:=(np h.lems h.b1).up h.b9;refine aa (c:=j9 om om om om) ?_;refine ac (c:=adu _) ?_;refine ay (z:=toN g0) (c:=(ae (dp g0 g1))) ?_;refine ac (c:=aa1 h) ?_;refine ac (c:=aa1 h) ?_;refine a2 (fun e65=>?_) (fun e65=>?_)
   ·refine ac (c:=vu r) ?_;refine a2 (fun e61=>?_) (fun e61=>?_)
    ·exact ar (c:=by (try rw[hp.cn.addR_zero]);(try simp only[zB] at *);simp only[ce,bz,e15,e22,e65,e61,sb]<;>rfl)
    ·refine akF (c:=by exact (kne e65 dx)) ?_;refine akF (c:=by exact (kne e65 dx)) ?_;refine akF (c:=by exact (kne e65 dx)) ?_;refine akF (c:=by exact (kne e65 dx)) ?_;refine akF (c:=by exact (kne e65 dx)) ?_;refine akF (c:=by exact (kne e65 dx)) ?_;refine akF (c:=by exact (kne e65 dx)) ?_;refine akF (c:=by exact (kne e65 dx)) ?_;exact ar (c:=by (try rw[hp.cn.addR_zero]);(try simp only[zB] at *);simp only[ce,bz,e15,e22,e65,e61,sb]<;>rfl)
   ·refine a2 (fun e75=>?_) (fun e75=>?_)
    ·refine ac (c:=vu r) ?_;refine a2 (fun e71=>?_) (fun e71=>?_)
     ·refine ac (c:=mn hv hp dx dx dx dx) ?_;exact ar (c:=by (try rw[hp.cn.addR_zero]);(try simp only[zB] at *);simp only[ce,bz,e15,e22,e65,e75,e71,sb]<;>rfl)
     ·refine akF (c:=by exact (kne e75 dx)) ?_;refine akF (c:=by exact (kne e75 dx)) ?_;refine akF (c:=by exact (kne e75 dx)) ?_;refine akF (c:=by exact (kne e75 dx)) ?_;refine akF (c:=by exact (kne e75 dx)) ?_;refine akF (c:=by exact (kne e75 dx)) ?_;refine akF (c:=by exact (kne e75 dx)) ?_;exact ar (c:=by (try rw[hp.cn.addR_zero]);(try simp only[zB] at *);simp only[ce,bz,e15,e22,e65,e75,e71,sb]<;>rfl)
    ·refine a2 (fun e88=>?_) (fun e88=>?_)
     ·refine ac (c:=a9q (l:=aw s.lems r.lo r.index false) (u:=aw s.lems r.hi r.index true) h hl dx) ?_;refine a2 (fun e84=>?_) (fun e84=>?_)
      ·refine ac (c:=aa3 hp fm_zero_S dx dx dx dx) ?_;exact ar (c:=by (try rw[hp.cn.addR_zero]);(try simp only[zB] at *);simp only[ce,bz,e15,e22,e65,e75,e88,e84,sb]<;>rfl)
      ·refine akF (c:=by exact (kne e88 dx)) ?_;refine akF (c:=by exact (kne e88 dx)) ?_;refine akF (c:=by exact (kne e88 dx)) ?_;refine akF (c:=by exact (kne e88 dx)) ?_;refine akF (c:=by exact (kne e88 dx)) ?_;refine akF (c:=by exact (kne e88 dx)) ?_;exact ar (c:=by (try rw[hp.cn.addR_zero]);(try simp only[zB] at *);simp only[ce,bz,e15,e22,e65,e75,e88,e84,sb]<;>rfl)
     ·refine a2 (fun e100=>?_) (fun e100=>?_)
      ·refine ac (c:=a9q (l:=aw s.lems r.lo r.index false) (u:=aw s.lems r.hi r.index true) h hl dx) ?_;refine a2 (fun e96=>?_) (fun e96=>?_)
       ·refine ac (c:=mn hp hv dx dx dx dx) ?_;exact ar (c:=by (try rw[hp.cn.addR_zero]);(try simp only[zB] at *);simp only[ce,bz,e15,e22,e65,e75,e88,e100,e96,sb]<;>rfl)
       ·refine akF (c:=by exact (kne e100 dx)) ?_;refine akF (c:=by exact (kne e100 dx)) ?_;refine akF (c:=by exact (kne e100 dx)) ?_;refine akF (c:=by exact (kne e100 dx)) ?_;refine akF (c:=by exact (kne e100 dx)) ?_;exact ar (c:=by (try rw[hp.cn.addR_zero]);(try simp only[zB] at *);simp only[ce,bz,e15,e22,e65,e75,e88,e100,e96,sb]<;>rfl)
      ·refine a2 (fun e113=>?_) (fun e113=>?_)
       ·refine ac (c:=a5a (l:=aw s.lems r.lo r.index false) (u:=aw s.lems r.hi r.index true) h hu dx) ?_;refine a2 (fun e109=>?_) (fun e109=>?_)
        ·refine ac (c:=a3f hp dx dx) ?_;exact ar (c:=by (try rw[hp.cn.addR_zero]);(try simp only[zB] at *);simp only[ce,bz,e15,e22,e65,e75,e88,e100,e113,e109,sb]<;>rfl)
        ·refine akF (c:=by exact (kne e113 dx)) ?_;refine akF (c:=by exact (kne e113 dx)) ?_;refine akF (c:=by exact (kne e113 dx)) ?_;refine akF (c:=by exact (kne e113 dx)) ?_;exact ar (c:=by (try rw[hp.cn.addR_zero]);(try simp only[zB] at *);simp only[ce,bz,e15,e22,e65,e75,e88,e100,e113,e109,sb]<;>rfl)
       ·refine a2 (fun e124=>?_) (fun e124=>?_)
        ·refine ac (c:=a5a (l:=aw s.lems r.lo r.index false) (u:=aw s.lems r.hi r.index true) h hu dx) ?_;refine a2 (fun e120=>?_) (fun e120=>?_)
         ·refine ac (c:=a3f hv dx dx) ?_;exact ar (c:=by (try rw[hp.cn.addR_zero]);(try simp only[zB] at *);simp only[ce,bz,e15,e22,e65,e75,e88,e100,e113,e124,e120,sb]<;>rfl)
         ·refine akF (c:=by exact (kne e124 dx)) ?_;refine akF (c:=by exact (kne e124 dx)) ?_;refine akF (c:=by exact (kne e124 dx)) ?_;exact ar (c:=by (try rw[hp.cn.addR_zero]);(try simp only[zB] at *);simp only[ce,bz,e15,e22,e65,e75,e88,e100,e113,e124,e120,sb]<;>rfl)
        ·refine a2 (fun e135=>?_) (fun e135=>?_)
         ·refine a2 (fun e139=>?_) (fun e139=>?_)
          ·refine a2 (fun e131=>?_) (fun e131=>?_)
           ·refine ac (c:=a79 hl dx) ?_;refine ac (c:=mn hp (db hl) dx dx dx dx) ?_;exact ar (c:=by (try rw[hp.cn.addR_zero]);(try simp only[zB] at *);simp only[ce,bz,e15,e22,e65,e75,e88,e100,e113,e124,e135,e139,e131,sb]<;>rfl)
           ·refine akF (c:=by exact (kne e135 dx)) ?_;refine akF (c:=by exact (kne e135 dx)) ?_;exact ar (c:=by (try rw[hp.cn.addR_zero]);(try simp only[zB] at *);simp only[ce,bz,e15,e22,e65,e75,e88,e100,e113,e124,e135,e139,e131,sb]<;>rfl)
          ·refine akF (c:=by exact (kne e135 dx)) ?_;refine akF (c:=by exact (kne e135 dx)) ?_;exact ar (c:=by (try rw[hp.cn.addR_zero]);(try simp only[zB] at *);simp only[ce,bz,e15,e22,e65,e75,e88,e100,e113,e124,e135,e139,sb]<;>rfl)
         ·refine a2 (fun e154=>?_) (fun e154=>?_)
          ·refine a2 (fun e158=>?_) (fun e158=>?_)
           ·refine a2 (fun e150=>?_) (fun e150=>?_)
            ·refine ac (c:=a79 hu dx) ?_;refine ac (c:=mn (db hu) hp dx dx dx dx) ?_;exact ar (c:=by (try rw[hp.cn.addR_zero]);(try simp only[zB] at *);simp only[ce,bz,e15,e22,e65,e75,e88,e100,e113,e124,e135,e154,e158,e150,sb]<;>rfl)
            ·refine akF (c:=by exact (kne e154 dx)) ?_;exact ar (c:=by (try rw[hp.cn.addR_zero]);(try simp only[zB] at *);simp only[ce,bz,e15,e22,e65,e75,e88,e100,e113,e124,e135,e154,e158,e150,sb]<;>rfl)
           ·refine akF (c:=by exact (kne e154 dx)) ?_;exact ar (c:=by (try rw[hp.cn.addR_zero]);(try simp only[zB] at *);simp only[ce,bz,e15,e22,e65,e75,e88,e100,e113,e124,e135,e154,e158,sb]<;>rfl)
          ·refine a2 (fun e173=>?_) (fun e173=>?_)
           ·refine a2 (fun e177=>?_) (fun e177=>?_)
            ·refine a2 (fun e181=>?_) (fun e181=>?_)
             ·refine ac (c:=zl (hl.sm dx)) ?_;refine a2 (fun e187=>?_) (fun e187=>?_)
              ·refine ac (c:=zl (hu.sm dx)) ?_;refine a2 (fun e169=>?_) (fun e169=>?_)
               ·refine ac (c:=a79 hl dx) ?_;refine ac (c:=mn hp (db hl) dx dx dx dx) ?_;refine ac (c:=qm (hp.subR (db hl)) hu dx dx dx) ?_;refine ac (c:=alz hu hl dx dx) ?_;refine ac (c:=qm hv (hu.add hl.neg) dx dx dx) ?_;refine ac (c:=mn ((hp.subR (db hl)).scaleR hu) (hv.scaleR (hu.add hl.neg)) dx dx dx dx) ?_;exact ar (c:=by (try rw[hp.cn.addR_zero]);(try simp only[zB] at *);simp only[ce,bz,e15,e22,e65,e75,e88,e100,e113,e124,e135,e154,e173,e177,e181,e187,e169,sb]<;>rfl)
               ·exact ar (c:=by (try rw[hp.cn.addR_zero]);(try simp only[zB] at *);simp only[ce,bz,e15,e22,e65,e75,e88,e100,e113,e124,e135,e154,e173,e177,e181,e187,e169,sb]<;>rfl)
              ·exact ar (c:=by (try rw[hp.cn.addR_zero]);(try simp only[zB] at *);simp only[ce,bz,e15,e22,e65,e75,e88,e100,e113,e124,e135,e154,e173,e177,e181,e187,sb]<;>rfl)
             ·exact ar (c:=by (try rw[hp.cn.addR_zero]);(try simp only[zB] at *);simp only[ce,bz,e15,e22,e65,e75,e88,e100,e113,e124,e135,e154,e173,e177,e181,sb]<;>rfl)
            ·exact ar (c:=by (try rw[hp.cn.addR_zero]);(try simp only[zB] at *);simp only[ce,bz,e15,e22,e65,e75,e88,e100,e113,e124,e135,e154,e173,e177,sb]<;>rfl)
           ·exact ar (c:=by (try rw[hp.cn.addR_zero]);(try simp only[zB] at *);simp only[ce,bz,e15,e22,e65,e75,e88,e100,e113,e124,e135,e154,e173,sb]<;>rfl)
theorem a58 {a b:Int} {x:Bool} (h:(a == 0&&b == 0)=false):((a != 0)||((b != 0)||x))=true:=by
 show (!(a == 0)||(!(b == 0)||x))=true;cases h1:a == 0<;>cases h2:b == 0<;>simp_all
theorem a9m {a b:Int} (h:(a == 0&&b == 0)=true):(a != 0)=false∧(b != 0)=false:=by
 show (!(a == 0))=false∧(!(b == 0))=false;cases h1:a == 0<;>cases h2:b == 0<;>simp_all
theorem aix {s:Sc} {a b:Nat} {r:Rw} (h:s.Va a b) (h5:decide (5≤r.kind)=false):PCalls Tryz.prog TF 227 [scP s,rwP r] (.tup [fmP (bo s r).1,bP (bo s r).2]):=by
 refine pcA [85,96,37,30,42] Tryz.func227 (fun D=>?_);refine ac (c:=vu r) ?_;refine a2 (fun e18=>?_) (fun e18=>?_)
 ·replace e18:=il e18;exact ar (c:=by unfold bo;rw[h5];simp only[cond_false];rw[a58 e18];rfl)
 ·replace e18:=j0 e18;obtain⟨e18b,e18c⟩:=a9m e18;refine a2 (fun e21=>?_) (fun e21=>?_)
  ·exact ar (c:=by unfold bo;rw[h5];simp only[cond_false];first | (rw[a58 e18];rfl) | (rw[e18b,e18c,e21];rfl))
  ·have g0:=t5 e21;refine a2 (fun e27=>?_) (fun e27=>?_)
   ·refine a2 (fun e23=>?_) (fun e23=>?_)
    ·have g1:=wv e23;refine ac (c:=adu _) ?_;refine ay (z:=toN g0) (c:=(ae (dp g0 g1))) ?_;refine ac (c:=a79 ((h.q.rg.los _ (bg g0 g1)).up h.a9) dx) ?_;refine ac (c:=mn (ff _) (db ((h.q.rg.los _ (bg g0 g1)).up h.a9)) dx dx dx dx) ?_;exact ar (c:=by (try simp only[zB] at *);simp only[bo,gk,h5,e18,e18b,e18c,e21,e27,e23,sb]<;>rfl)
    ·refine akF (c:=by exact (kne e27 dx)) ?_;refine akF (c:=by exact (kne e27 dx)) ?_;refine akF (c:=by exact (kne e27 dx)) ?_;exact ar (c:=by (try simp only[zB] at *);simp only[bo,gk,h5,e18,e18b,e18c,e21,e27,e23,sb]<;>rfl)
   ·refine a2 (fun e47=>?_) (fun e47=>?_)
    ·refine a2 (fun e43=>?_) (fun e43=>?_)
     ·have g1:=wv e43;refine ay (z:=toN g0) (c:=(ae (dp g0 g1))) ?_;refine ac (c:=a79 ((h.q.rg.his _ (bg g0 g1)).up h.a9) dx) ?_;refine ac (c:=adu _) ?_;refine ac (c:=mn (db ((h.q.rg.his _ (bg g0 g1)).up h.a9)) (ff _) dx dx dx dx) ?_;exact ar (c:=by (try simp only[zB] at *);simp only[bo,gk,h5,e18,e18b,e18c,e21,e27,e47,e43,sb]<;>rfl)
     ·refine akF (c:=by exact (kne e47 dx)) ?_;refine akF (c:=by exact (kne e47 dx)) ?_;exact ar (c:=by (try simp only[zB] at *);simp only[bo,gk,h5,e18,e18b,e18c,e21,e27,e47,e43,sb]<;>rfl)
    ·refine a2 (fun e67=>?_) (fun e67=>?_)
     ·refine a2 (fun e63=>?_) (fun e63=>?_)
      ·have g1:=wv e63;have hrow:(atZ s.q.rg.rows r.index).S 2 8:=(h.q.rg.rows _ (bg g0 g1)).2.up h.a9 (by have:=h.n9;omega);refine ay (z:=toN g0) (c:=(ae (dp g0 g1))) ?_;refine ac (c:=aa3 hrow fm_zero_S dx dx dx dx) ?_;exact ar (c:=by (try rw[hrow.cn.addR_zero]);(try simp only[zB] at *);simp only[bo,gk,h5,e18,e18b,e18c,e21,e27,e47,e67,e63,sb]<;>rfl)
      ·refine akF (c:=by exact (kne e67 dx)) ?_;exact ar (c:=by (try simp only[zB] at *);simp only[bo,gk,h5,e18,e18b,e18c,e21,e27,e47,e67,e63,sb]<;>rfl)
     ·refine a2 (fun e85=>?_) (fun e85=>?_)
      ·refine a2 (fun e92=>?_) (fun e92=>?_)
       ·have g1:=wv e92;have e92b:decide ((s.path.length:Int)≤r.index)=false:=df om;have hd:(atZ s.path r.index).at_.S 2:=(h.path _ (bg g0 g1)).up h.a9;refine ay (z:=toN g0) (c:=(ae (dp g0 g1))) ?_;refine ac (c:=aa2 (h.path _ (bg g0 g1)) (by have:=h.a9;omega)) ?_;refine a2 (fun e81=>?_) (fun e81=>?_)
        ·refine ay (z:=toN g0) (c:=(ae (dp g0 g1))) ?_;refine ac (c:=adu _) ?_;refine ac (c:=a79 hd dx) ?_;refine ac (c:=mn (ff _) (db hd) dx dx dx dx) ?_;refine a2 (fun e116=>?_) (fun e116=>?_)
         ·exact ar (c:=by (try simp only[zB] at *);simp only[bo,gk,h5,e18,e18b,e18c,e21,e27,e47,e67,e85,e92,e92b,e81,e116,sb]<;>rfl)
         ·refine a2 (fun e119=>?_) (fun e119=>?_)
          ·refine ac (c:=a3f ((ff _).subR (db hd)) dx dx) ?_;exact ar (c:=by (try simp only[zB] at *);simp only[bo,gk,h5,e18,e18b,e18c,e21,e27,e47,e67,e85,e92,e92b,e81,e116,e119,sb]<;>rfl)
          ·exact ar (c:=by (try simp only[zB] at *);simp only[bo,gk,h5,e18,e18b,e18c,e21,e27,e47,e67,e85,e92,e92b,e81,e116,e119,sb]<;>rfl)
        ·exact ar (c:=by (try simp only[zB] at *);simp only[bo,gk,h5,e18,e18b,e18c,e21,e27,e47,e67,e85,e92,e92b,e81,sb]<;>rfl)
       ·have e92b:decide ((s.path.length:Int)≤r.index)=true:=dt (by have:=zM e92;rw[zB] at this;omega);exact ar (c:=by (try simp only[zB] at *);simp only[bo,gk,h5,e18,e18b,e18c,e21,e27,e47,e67,e85,e92,e92b,sb]<;>rfl)
      ·exact ar (c:=by (try simp only[zB] at *);simp only[bo,gk,h5,e18,e18b,e18c,e21,e27,e47,e67,e85,sb]<;>rfl)
theorem ac9 {α:Type}:∀(l:List α),(l.any fun _=>false)=false
 | []=>rfl
 | a::l=>by rw[List.any_cons,ac9 l];rfl
theorem am8 {f:Fm} {v:Nat} (h:f.Sm v):PCalls Tryz.prog TU 175 [fmP f,.ptr 3 [iP v]] (bP false):=by
 refine pcA [37] Tryz.func175 (fun D=>?_);refine ac (c:=aiw h.num h.const h.ok) ?_;exact ar (c:=rfl)
theorem am9 {l:List Fm} {v:Nat} (hl:l.length≤100000) (h:∀x∈l,x.Sm v):PCalls Tryz.prog TU 125 [bc l,iP v] (bP true):=by
 refine pcA [3] Tryz.func125 (fun D=>?_);refine au ?_;refine rmk Y Y Y Y ?_;refine ac (c:=vx (F:=fun _=>false) (caps:=[.ptr 3 [iP v]]) hl fun f hf=>am8 (h f hf)) ?_;exact ar (c:=congrArg (fun b=>bP (!b)) (ac9 _))
theorem aea {g:Gm} (h:g.Va):PCalls Tryz.prog TU 71 [gmP g] (bP true):=by
 have g1:=h.i0;have g2:=h.i9;have g3:=h.u9;have g4:=h.o0;have g5:=h.o9;refine pcA [27,37] Tryz.func71 (fun D=>?_);refine akF (c:=by exact df om) ?_;refine akF (c:=by exact df om) ?_;refine akF (c:=by exact df (by rw[zB];omega)) ?_;refine akF (c:=by exact df (by rw[zB];omega)) ?_;refine akF (c:=by exact df (by rw[zB];omega)) ?_;refine au ?_;refine pl (ι:={j:Nat // j≤g.units.length}) (fun j=>[(1,.box 1 0),(2,.pv (bP false)),(32,.pv (bc g.units)),(33,.pv (iP ((g.units.map fmC).length:Int))),(34,.pv (iP (j.1:Int)))]) (fun _=>[(1,.box 27 [.pv (iP g.inputs),.pv (bc g.units),.pv (bc g.outputs)])]) [27,37] (fun j=>g.units.length - j.1) ⟨0,nq _⟩ (ai Y (ai Y (ai Y (ai Y (ai Y trivial))))) (ai Y trivial) (fun _=>rfl) ?_;intro ⟨j,hj0⟩;refine a2 (fun e35=>?_) (fun e35=>?_)
 ·have hi:j < g.units.length:=dw e35;have hu:=h.us j _ (ab hi);refine ax (c:=(ae (ab hi))) ?_;refine aa (c:=ac7 om (by show j≤_;omega)) ?_;refine ac (c:=aiw hu.num hu.const hu.ok) ?_;refine aa (c:=xi (by show j < _;omega)) ?_;refine au ?_;exact pe ⟨j+1,hi⟩ (ai Y (ai Y (ai Y (ai Y (ai Y trivial))))) (ai Y trivial) Y (by show g.units.length - (j+1) < g.units.length - j;omega)
 ·refine aa (c:=ahd om om) ?_;refine ac (c:=am9 om h.os) ?_;exact ar (c:=rfl)
theorem a0q {m n:Nat} (h:m≤1000000) (k:n≤1000000):ariO .add .i64 (m:Int) (n:Int)=some (((m+n:Nat)):Int):=by
 show some (IntKind.wrap .i64 ((m:Int)+n))=_;rw[fd om om];rfl
theorem ais {f:Fm} {v s l:Nat} (h:f.S s l) (hs:s≤10000) (hl:l≤400) (k:f.Ok v):PCalls Tryz.prog TU 129 [fmP f,.ptr 3 [iP v]] (bP false):=by
 refine pcA [37] Tryz.func129 (fun D=>?_);refine ac (c:=zo (h.lo hs hl) k) ?_;exact ar (c:=rfl)
theorem a9x {r:Rgm} {n s:Nat} (h:r.Va n s):PCalls Tryz.prog TU 72 [rgP r,iP n] (bP true):=by
 refine pcA [30,3,35] Tryz.func72 (fun D=>?_);refine akF (c:=by exact (show _=false from df (by have:=h.i0;omega))) ?_;refine akF (c:=by exact (show _=false from df (by have:=h.i9;omega))) ?_;refine akF (c:=by exact (show _=false from by rw[zB,h.lo];exact bne_self_eq_false _)) ?_;refine akF (c:=by exact (show _=false from by rw[zB,h.hi];exact bne_self_eq_false _)) ?_;refine akF (c:=by exact (show _=false from df (by have:=h.r9;rw[zB];omega))) ?_;refine au ?_;refine pl (ι:={i:Nat // i≤r.lo.length}) (fun i=>[(2,.box 2 0),(3,.box 3 0),(4,.pv (bP false)),(34,.pv (dg r.lo)),(35,.pv (iP ((r.lo.map qC).length:Int))),(36,.pv (iP i.1))]) (fun _=>[(2,.box 30 [.pv (dg r.lo),.pv (dg r.hi),.pv (bc r.rows)]),(3,.box 3 [.pv (iP n)])]) [30,3,35] (fun i=>r.lo.length - i.1) ⟨0,nq _⟩ (c6 Y Y Y Y Y Y trivial) (c2 Y Y trivial) (fun _=>rfl) ?_;intro ⟨i,hi⟩;refine a2 (fun e37=>?_) (fun e37=>?_)
 ·have h1:i < r.lo.length:=dw e37;have h2:i < r.hi.length:=by have:=h.lo;have:=h.hi;omega
  have hlo:=h.los _ (mg (ab h1));have hhi:=h.his _ (mg (ab h2));have hs9:=h.s9;refine ax (c:=(ae (ab h1))) ?_;refine ac (c:=lc (hlo.sm om) hlo.ok) ?_;refine ax (c:=(ae (ab h2))) ?_;refine ac (c:=lc (hhi.sm om) hhi.ok) ?_;refine ax (c:=(ae (ab h2))) ?_;refine ac (c:=aol (hlo.sm om) (hhi.sm om)) ?_;refine akF (c:=by exact (show _=false from df (by have:=(h.le i _ _ (ab h1) (ab h2)).2;omega))) ?_;refine aa (c:=a8 (by have:=h.i9;have:=h.lo;show i≤_;omega)) ?_;refine au ?_;exact pe ⟨i+1,h1⟩ (c6 Y Y Y Y Y Y trivial) (c2 Y Y trivial) Y (by show r.lo.length - (i+1) < r.lo.length - i;omega)
 ·refine au ?_;refine rmk Y Y Y Y ?_;refine ac (c:=vx (F:=fun _=>false) (by have:=h.r9;omega) fun f hf=>ais (h.rows f hf).2 (by have:=h.s9;omega) (by have:=h.i9;omega) (h.rows f hf).1) ?_;exact ar (c:=congrArg bP (by rw[ac9];rfl))
theorem ld {q:Qr} {s:Nat} (h:q.Va s) (h4:q.g.inputs+q.g.units.length≤400):PCalls Tryz.prog TU 35 [qyP q] (bP true):=by
 refine pcA [39] Tryz.func35 (fun D=>?_);refine ac (c:=aea h.g) ?_;refine ac (c:=a9x h.rg) ?_;refine aa (c:=a0q (by have:=h.rg.i9;omega) (by rw[zB];have:=h.g.u9;omega)) ?_;refine ac (c:=zo (v:=q.g.inputs+(q.g.units.map fmC).length) (h.goal.lo (by have:=h.rg.s9;omega) h4) (by rw[zB];exact h.ok)) ?_;exact ar (c:=rfl)
abbrev tblF:List Value:=.nilFunc::(List.replicate 4 (.func (.func 227) #[] #[])++List.replicate 9 (.func (.func 228) #[] #[]))
theorem al0 {k:Int} (h1:1≤k) (h2:k < 5):(tblF.map fun v=>SV.pv (.raw v))[0+k.toNat]?=some (.pv (.raw (.func (.func 227) #[] #[]))):=by
 have:k=1∨k=2∨k=3∨k=4:=by omega
 rcases this with rfl | rfl | rfl | rfl<;>rfl
theorem akz {k:Int} (h1:5≤k) (h2:k < 14):(tblF.map fun v=>SV.pv (.raw v))[0+k.toNat]?=some (.pv (.raw (.func (.func 228) #[] #[]))):=by
 have:k=5∨k=6∨k=7∨k=8∨k=9∨k=10∨k=11∨k=12∨k=13:=by omega
 rcases this with rfl | rfl | rfl | rfl | rfl | rfl | rfl | rfl | rfl<;>rfl
theorem a6a {s:Sc} {r:Rw} (h:r.kind < 1∨14≤r.kind):bo s r=(Fm.zero,false):=by
 rcases h with h | h
 ·have h5:decide (5≤r.kind)=false:=df om;have h1:(r.kind == 1)=false:=beq_eq_false_iff_ne.2 om;have h2:(r.kind == 2)=false:=beq_eq_false_iff_ne.2 om;have h3:(r.kind == 3)=false:=beq_eq_false_iff_ne.2 om;have h4:(r.kind == 4)=false:=beq_eq_false_iff_ne.2 om;unfold bo;rw[h5];simp only[h1,h2,h3,h4,cond_false];cases r.lo != 0||(r.hi != 0||decide (r.index < 0))<;>rfl
 ·have h5:decide (5≤r.kind)=true:=dt om;unfold bo;rw[h5];unfold ce bz;have e:∀k:Int,k < 14→(r.kind == k)=false:=fun k hk=>beq_eq_false_iff_ne.2 om
  simp only[e 5 dx,e 6 dx,e 7 dx,e 8 dx,e 9 dx,e 10 dx,e 11 dx,e 12 dx,e 13 dx,cond_false,cond_true];simp
theorem aef {s:Sc} {a b:Nat} {r:Rw} (h:s.Va a b) (h1:1≤r.kind) (h2:r.kind < 5):PCalls Tryz.prog TF 190 [scP s,rwP r] (.tup [fmP (bo s r).1,bP (bo s r).2]):=by
 refine pcA [85,96,37,320] Tryz.func190 (fun D=>?_);refine pa Y Y (pr0 (ro0 Y Y Y (fun hd=>w9 (n:=14) (e:=270) (us:=tblF) (zs:=List.replicate 14 .nilFunc) Y (by kernel_rfl) (by kernel_rfl) (by kernel_rfl) (by rfl) (by rfl) hd) ?_));refine akF (c:=by exact (show _=false from df om)) ?_;refine akF (c:=by exact (show _=false from df om)) ?_;refine ac (c:=ld h.q (by have:=h.n9;omega)) ?_;refine qg 2 ?_;refine rn Y (pj Y ?_);refine pk (pr0 (qg 2 ?_));refine ro0 Y Y Y (fun hd=>a5l (n:=14) (e:=270) Y (by kernel_rfl) (by kernel_rfl) Y Y (show r.kind=(r.kind.toNat:Int) by omega) om hd) ?_;refine ro0 Y Y Y (fun hd=>a1o ah Y Y Y Y Y (al0 om h2) hd) ?_;refine qg 2 ?_;refine rcr (aix h (df om)) Y Y Y Y Y Y Y Y Y ?_;exact ar (c:=rfl)
theorem aed {s:Sc} {a b:Nat} {r:Rw} (h:s.Va a b) (h1:5≤r.kind) (h2:r.kind < 14):PCalls Tryz.prog TF 190 [scP s,rwP r] (.tup [fmP (bo s r).1,bP (bo s r).2]):=by
 rw[show bo s r=ce s r from by unfold bo;rw[dt (show (5:Int)≤r.kind from h1)];rfl];refine pcA [85,96,37,320] Tryz.func190 (fun D=>?_);refine pa Y Y (pr0 (ro0 Y Y Y (fun hd=>w9 (n:=14) (e:=270) (us:=tblF) (zs:=List.replicate 14 .nilFunc) Y (by kernel_rfl) (by kernel_rfl) (by kernel_rfl) (by rfl) (by rfl) hd) ?_));refine akF (c:=by exact (show _=false from df om)) ?_;refine akF (c:=by exact (show _=false from df om)) ?_;refine ac (c:=ld h.q (by have:=h.n9;omega)) ?_;refine qg 2 ?_;refine rn Y (pj Y ?_);refine pk (pr0 (qg 2 ?_));refine ro0 Y Y Y (fun hd=>a5l (n:=14) (e:=270) Y (by kernel_rfl) (by kernel_rfl) Y Y (show r.kind=(r.kind.toNat:Int) by omega) om hd) ?_;refine ro0 Y Y Y (fun hd=>a1o ah Y Y Y Y Y (akz om h2) hd) ?_;refine qg 2 ?_;refine rcr (alr h) Y Y Y Y Y Y Y Y Y ?_;exact ar (c:=rfl)
theorem aee {s:Sc} {r:Rw} (h1:r.kind < 1):PCalls Tryz.prog TF 190 [scP s,rwP r] (.tup [fmP Fm.zero,bP false]):=by
 refine pcA [85,96,37,320] Tryz.func190 (fun D=>?_);refine pa Y Y (pr0 (ro0 Y Y Y (fun hd=>w9 (n:=14) (e:=270) (us:=tblF) (zs:=List.replicate 14 .nilFunc) Y (by kernel_rfl) (by kernel_rfl) (by kernel_rfl) (by rfl) (by rfl) hd) ?_));refine akT (c:=by exact (show _=true from dt om)) ?_;exact ar (c:=rfl)
theorem aeg {s:Sc} {r:Rw} (h1:14≤r.kind):PCalls Tryz.prog TF 190 [scP s,rwP r] (.tup [fmP Fm.zero,bP false]):=by
 refine pcA [85,96,37,320] Tryz.func190 (fun D=>?_);refine pa Y Y (pr0 (ro0 Y Y Y (fun hd=>w9 (n:=14) (e:=270) (us:=tblF) (zs:=List.replicate 14 .nilFunc) Y (by kernel_rfl) (by kernel_rfl) (by kernel_rfl) (by rfl) (by rfl) hd) ?_));refine akF (c:=by exact (show _=false from df om)) ?_;refine akT (c:=by exact (show _=true from dt om)) ?_;exact ar (c:=rfl)
theorem ama {s:Sc} {a b:Nat} (r:Rw) (h:s.Va a b):PCalls Tryz.prog TF 190 [scP s,rwP r] (.tup [fmP (bo s r).1,bP (bo s r).2]):=by
 by_cases h1:r.kind < 1
 ·rw[a6a (.inl h1)];exact aee h1
 ·by_cases h2:14≤r.kind
  ·rw[a6a (.inr h2)];exact aeg h2
  ·by_cases h3:r.kind < 5
   ·exact aef h om h3
   ·exact aed h om om
abbrev af6 (l:List Int):PV:=.rows 3 1 [] (l.map fun x=>[iP x])
def cmpZ (x y:Int):Int:=bif decide (x < y) then -1 else bif decide (y < x) then 1 else 0
def orZ:List Int→Int
 | []=>0
 | x::l=>bif x != 0 then x else orZ l
def akg (a b:Rw):Int:=orZ [cmpZ a.kind b.kind,cmpZ a.index b.index,cmpZ a.lo b.lo,cmpZ a.hi b.hi]
theorem akf {x y:Int}:(cmpZ x y != 0)=(x != y):=by
 unfold cmpZ;by_cases h1:x < y
 ·rw[dt h1];have:x≠y:=by omega
  simp[this]
 ·rw[df h1];by_cases h2:y < x
  ·rw[dt h2];have:x≠y:=by omega
   simp[this]
  ·rw[df h2];have:x=y:=by omega
   simp[this]
theorem a0n {x y:Int}:decide (0≤cmpZ x y)=!decide (x < y):=by
 unfold cmpZ;by_cases h1:x < y
 ·rw[dt h1];rfl
 ·rw[df h1];cases decide (y < x)<;>rfl
theorem ur {a b:Rw}:decide (0≤akg a b)=!gx a b:=by
 unfold akg gx orZ orZ orZ orZ orZ;simp only[akf];cases a.kind != b.kind
 ·cases a.index != b.index
  ·cases a.lo != b.lo
   ·cases h:a.hi != b.hi
    ·have e:a.hi=b.hi:=by simpa using h
     simp[e]
    ·exact a0n
   ·exact a0n
  ·exact a0n
 ·exact a0n
theorem aj5 {l:List Int} {i:Nat} (h:orZ (l.drop i)=orZ l) (hi:i < l.length) (hF:(atZ l (i:Int) != 0)=true):atZ l (i:Int)=orZ l:=by
 have e:l.drop i=atZ l (i:Int)::l.drop (i+1):=by rw[bm (ge hi),zQ hi]
 rw[e,orZ,hF] at h;exact h
theorem aei {l:List Int} {i:Nat} (h:orZ (l.drop i)=orZ l) (hi:i < l.length) (hF:(atZ l (i:Int) != 0)=false):orZ (l.drop (i+1))=orZ l:=by
 have e:l.drop i=atZ l (i:Int)::l.drop (i+1):=by rw[bm (ge hi),zQ hi]
 rw[e,orZ,hF] at h;exact h
theorem aj6 {l:List Int} {i:Nat} (h:orZ (l.drop i)=orZ l) (hi:l.length≤i):(0:Int)=orZ l:=by
 rw[List.drop_of_length_le hi] at h;exact h
theorem am3 (x:Int):PCalls Tryz.prog [] 336 [iP x] (bP false):=by
 refine pcA [] Tryz.func336 (fun D=>?_);exact ar (c:=congrArg bP (by simp))
theorem a5e (x y:Int):PCalls Tryz.prog [] 274 [iP x,iP y] (iP (cmpZ x y)):=by
 refine pcA [] Tryz.func274 (fun D=>?_);refine ac (c:=am3 x) ?_;refine ac (c:=am3 y) ?_;refine a2 (fun e16=>?_) (fun e16=>?_)
 ·exact ar (c:=by (try simp only[zB] at *);simp only[cmpZ,e16,sb]<;>rfl)
 ·refine a2 (fun e19=>?_) (fun e19=>?_)
  ·exact ar (c:=by (try simp only[zB] at *);simp only[cmpZ,e16,e19,sb]<;>rfl)
  ·exact ar (c:=by (try simp only[zB] at *);simp only[cmpZ,e16,e19,sb]<;>rfl)
theorem aog {l:List Int} (hl:l.length≤1000):PCalls Tryz.prog [] 273 [af6 l] (iP (orZ l)):=by
 refine pcA [] Tryz.func273 (fun D=>?_);refine au ?_;refine pl (ι:={i:Nat // i≤l.length∧orZ (l.drop i)=orZ l}) (fun i=>[(2,.pv (iP 0)),(3,.pv (iP 0)),(6,.pv (af6 l)),(7,.pv (iP ((l.map fun x=>[iP x]).length:Int))),(8,.pv (iP i.1))]) (fun _=>[]) [] (fun i=>l.length - i.1) ⟨0,nq _,rfl⟩ (c5 Y Y Y Y Y trivial) trivial (fun _=>rfl) ?_;intro ⟨i,hi0,hg⟩;refine a2 (fun e9=>?_) (fun e9=>?_)
 ·have hi:i < l.length:=dw e9;refine ax (c:=(ae (f:=fun x=>[iP x]) (ab hi))) ?_;refine a2 (fun e14=>?_) (fun e14=>?_)
  ·exact ar (c:=congrArg iP (aj5 hg hi e14))
  ·refine aa (c:=a8 (by show i≤_;omega)) ?_;refine au ?_;exact pe ⟨i+1,hi,aei hg hi e14⟩ (c5 Y Y Y Y Y trivial) trivial Y (by show l.length - (i+1) < l.length - i;omega)
 ·have hj:l.length≤i:=fx e9;exact ar (c:=congrArg iP (aj6 hg hj))
theorem aa7 {a b:Rw}:PCalls Tryz.prog [] 226 [rwP a,rwP b] (iP (akg a b)):=by
 refine pcA [96] Tryz.func226 (fun D=>?_);refine ac (c:=a5e _ _) ?_;refine ac (c:=a5e _ _) ?_;refine ac (c:=a5e _ _) ?_;refine ac (c:=a5e _ _) ?_;refine ac (c:=aog (l:=[cmpZ a.kind b.kind,cmpZ a.index b.index,cmpZ a.lo b.lo,cmpZ a.hi b.hi]) (by simp)) ?_;exact ar (c:=rfl)
theorem a3h {l:List Mm} {n:Nat} (h:∀m∈l,m.2.S n) (hn:n≤10000) (hl:l.length≤1000):PCalls Tryz.prog [] 189 [mmsP l] (bP (fj l)):=by
 refine pcA [98] Tryz.func189 (fun D=>?_);refine au ?_;refine pl (ι:={i:Nat // i≤l.length∧∀j,j < i→badM l j=false}) (fun i=>[(0,.pv (mmsP l)),(2,.pv (bP false)),(5,.pv (mmsP l)),(6,.pv (iP ((l.map mmC).length:Int))),(7,.pv (iP i.1))]) (fun _=>[]) [98] (fun i=>l.length - i.1) ⟨0,nq _,fun j hj=>by omega⟩ (c5 Y Y Y Y Y trivial) trivial (fun _=>rfl) ?_;intro ⟨i,hi0,hnb⟩;refine a2 (fun e8=>?_) (fun e8=>?_)
 ·have hi:i < l.length:=dw e8;have hm:=h _ (mg (ab hi));refine ax (c:=(ae (ab hi))) ?_;refine ac (c:=zl (hm.sm hn)) ?_;refine a2 (fun e16=>?_) (fun e16=>?_)
  ·exact ar (c:=by rw[ra hi (by simp only[badM,← ur,e8,e16,sb])])
  ·refine ac (c:=lc (hm.sm hn) hm.ok) ?_;refine a2 (fun e25=>?_) (fun e25=>?_)
   ·refine aa (c:=ir e25 (by show i≤_;omega)) ?_;refine ax (c:=(ae (ab (show i - 1 < l.length by omega)))) ?_;refine ac (c:=aa7) ?_;refine a2 (fun e37=>?_) (fun e37=>?_)
    ·exact ar (c:=by rw[ra hi (by simp only[badM,← ur,e8,e16,e25,e37,sb])])
    ·refine aa (c:=a8 (by show i≤_;omega)) ?_;refine au ?_;exact pe ⟨i+1,hi,m7 hnb (by simp only[badM,← ur,e8,e16,e25,e37,sb])⟩ (c5 Y Y Y Y Y trivial) trivial Y (by show l.length - (i+1) < l.length - i;omega)
   ·refine aa (c:=a8 (by show i≤_;omega)) ?_;refine au ?_;exact pe ⟨i+1,hi,m7 hnb (by simp only[badM,← ur,e8,e16,e25,sb])⟩ (c5 Y Y Y Y Y trivial) trivial Y (by show l.length - (i+1) < l.length - i;omega)
 ·have hj:l.length≤i:=fx e8;exact ar (c:=by rw[rd hnb hj])
structure PfOk (l:List Mm):Prop where
 each:∀m∈l,m.2.S 500
 len:l.length≤16
structure LmOk (m:Lm):Prop where
 value:m.value.S 8
 proof:PfOk m.proof
theorem PfOk.sum {s:Sc} {a b:Nat} {l:List Mm} (h:PfOk l) (hs:s.Va a b):(sumR s l).1.S 8700 144:=by
 have:=zT (41+500) h.len;have h2:=h.len;exact (a82 hs h.each).up om om
def dv (s:Sc) (f:Fm) (l:List Mm):Bool:=bif (sumR s l).2 != 0 then false else ((((Fm.subR f (sumR s l).1).terms.length:Int) == 0)&&decide (0≤sgQ (Fm.subR f (sumR s l).1).const))
def g9 (s:Sc) (l:List Mm):Bool:=((sumR s l).2 == 0)&&((((sumR s l).1.terms.length:Int) == 0)&&decide (sgQ (sumR s l).1.const < 0))
def lemF (q:Qr) (m:Lm):Fm:=bif m.upper then Fm.scaleR (Fm.subR (atZ q.g.units m.unit) (numR m.value)) Q.mone else Fm.subR (atZ q.g.units m.unit) (numR m.value)
def gy (s:Sc) (m:Lm):Bool:=bif decide (m.unit < 0)||decide ((s.q.g.units.length:Int)≤m.unit) then false else dv s (lemF s.q m) m.proof
def badL (s:Sc) (i:Nat):Bool:=!gy ⟨s.q,s.path,s.lems.take i⟩ (atZ s.lems (i:Int))
def t4 (s:Sc):Bool:=!(s.path.any fun d=>!cz s.q d)&&!((List.range s.lems.length).any (badL s))
theorem a1c {n i:Nat} {f:Nat→Bool} (hi:i < n) (h:f i=true):(List.range n).any f=true:=List.any_eq_true.2 ⟨i,List.mem_range.2 hi,h⟩
theorem vi {n i:Nat} {f:Nat→Bool} (h:∀j,j < i→f j=false) (hi:n≤i):(List.range n).any f=false:=by
 rw[List.any_eq_false];intro j hj;rw[h j (by have:=List.mem_range.1 hj;omega)];exact Bool.false_ne_true
theorem Fm.Cn.ok {f:Fm} {n:Nat} (h:f.Cn) (hv:∀t∈f.terms,0≤t.1∧t.1 < (n:Int)):f.Ok n:=by
 refine⟨fun i s t hs ht=>?_,fun t ht=>⟨(hv t ht).1,(hv t ht).2,(h.nz t ht).2,(h.nz t ht).1⟩,h.const⟩;obtain⟨h1,rfl⟩:=gs hs;obtain⟨h2,rfl⟩:=gs ht;exact List.pairwise_iff_getElem.1 h.srt i (i+1) h1 h2 (Nat.lt_succ_self i)
theorem ag2 {f g:Fm} (h:f.Cn) (k:g.Cn) {P:Int→Prop} (hf:∀t∈f.terms,P t.1) (hg:∀t∈g.terms,P t.1):∀t∈(Fm.addR f g).terms,P t.1:=fun t ht=>by
 by_cases h1:∃u∈f.terms,u.1=t.1
 ·obtain⟨u,hu,e⟩:=h1;rw[← e];exact hf u hu
 ·by_cases h2:∃u∈g.terms,u.1=t.1
  ·obtain⟨u,hu,e⟩:=h2;rw[← e];exact hg u hu
  ·exfalso
   have h3:cfL f.terms t.1=Q.zero:=f4 fun u hu e=>h1 ⟨u,hu,e⟩
   have h4:cfL g.terms t.1=Q.zero:=f4 fun u hu e=>h2 ⟨u,hu,e⟩
   have h5:=h.add_cf k t.1;rw[h3,h4,a41 (h.addR k).srt ht] at h5;have:=((h.addR k).nz t ht).2;rw[h5] at this;exact this rfl
theorem acp {f g:Fm} (h:f.Cn) (k:g.Cn) {P:Int→Prop} (hf:∀t∈f.terms,P t.1) (hg:∀t∈g.terms,P t.1):∀t∈(Fm.subR f g).terms,P t.1:=ag2 h k.scaleR hf (kn k hg)
theorem amt {q:Q} (h:q.Ok):(numR q).Cn:=⟨List.Pairwise.nil,(fun t ht=>by cases ht),h⟩
theorem ab4 {q:Qr} {a:Nat} {m:Lm} (h:q.Va a) (h0:0≤m.unit) (h1:m.unit < q.g.units.length) (hv:m.value.S 8) (ha:a≤2) (h9:q.g.inputs+q.g.units.length≤8):(lemF q m).S 20 8∧(lemF q m).Ok (q.g.inputs+q.g.units.length):=by
 have hm:=bg h0 h1;have hp:(atZ q.g.units m.unit).S 2 8:=(h.us _ hm).up ha h9;have hs:(Fm.subR (atZ q.g.units m.unit) (numR m.value)).S 12 8:=hp.subR (db hv);have hvar:∀t∈(atZ q.g.units m.unit).terms,0≤t.1∧t.1 < ((q.g.inputs+q.g.units.length:Nat):Int):=fun t ht=>by
  obtain⟨j,hj⟩:=List.mem_iff_getElem?.1 hm;have hjl:=(gs hj).1;have:=(h.g.us j _ hj).ok.each t ht;exact⟨this.1,by have:=this.2.1;omega⟩
 have hsv:∀t∈(Fm.subR (atZ q.g.units m.unit) (numR m.value)).terms,0≤t.1∧t.1 < ((q.g.inputs+q.g.units.length:Nat):Int):=acp (P:=fun v=>0≤v∧v < ((q.g.inputs+q.g.units.length:Nat):Int)) hp.cn (amt hv.ok) hvar fun t ht=>by cases ht
 unfold lemF;cases m.upper with
 | false=>exact⟨hs.up dx dx,hs.cn.ok hsv⟩
 | true=>exact⟨(hs.scaleR er).up dx dx,hs.cn.scaleR.ok (kn (P:=fun v=>0≤v∧v < ((q.g.inputs+q.g.units.length:Nat):Int)) hs.cn hsv)⟩
theorem alu {s:Sc} {l:List Mm} {a b n:Nat} (h:s.Va a b) (hl:∀m∈l,m.2.S n) (h9:l.length≤40) (hn9:n≤9000) (hK:1+l.length*(41+n)≤9000):PCalls Tryz.prog TF 139 [scP s,mmsP l] (.tup [fmP (sumR s l).1,iP (sumR s l).2]):=by
 refine pcA [85,37,98] Tryz.func139 (fun D=>?_);refine ac (c:=a3h (n:=n) hl om om) ?_;refine a2 (fun e13=>?_) (fun e13=>?_)
 ·replace e13:=il e13;exact ar (c:=by rw[a11 e13];rfl)
 ·replace e13:=j0 e13;refine au ?_;refine pwk ?_;refine pl (ι:={p:Nat×Fm // p.1≤l.length∧eu s (l.drop p.1) p.2=eu s l Fm.zero∧p.2.S (1+p.1*(41+n)) (p.1*9)}) (fun p=>[(2,.box 2 0),(4,.box 4 0),(6,.box 6 0),(15,.pv (mmsP l)),(16,.pv (iP ((l.map mmC).length:Int))),(17,.pv (iP p.1.1))]) (fun p=>[(2,.box 85 [.pv (iP s.q.g.inputs),.pv (bc s.q.g.units),.pv (bc s.q.g.outputs),.pv (dg s.q.rg.lo),.pv (dg s.q.rg.hi),.pv (bc s.q.rg.rows),.pv (cf s.q.goal.terms),.pv (bP s.q.goal.const.neg),.pv (.nat s.q.goal.const.num),.pv (.nat s.q.goal.const.den),.pv (dcsP s.path),.pv (lmsP s.lems)]),(4,.box 37 [.pv (cf []),.pv (.raw (.bool false)),.pv (.nat 0),.pv (.nat 0)]),(6,.box 37 [.pv (cf p.1.2.terms),.pv (bP p.1.2.const.neg),.pv (.nat p.1.2.const.num),.pv (.nat p.1.2.const.den)])]) [85,37,98] (fun p=>l.length - p.1.1) ⟨(0,Fm.zero),nq _,rfl,fm_zero_S.up om om⟩ (c6 Y Y Y Y Y Y trivial) (c3 Y Y Y trivial) (fun _=>rfl) ?_;intro ⟨(i,acc),hi0,hg,ha⟩;simp only at hi0 hg ha;refine a2 (fun e18=>?_) (fun e18=>?_)
  ·have hi:i < l.length:=dw e18;have hm:=hl _ (mg (ab hi));have hf:=h.formS (r:=(atZ l (i:Int)).1);have hii:=zT (41+n) (show i+1≤l.length from hi);rw[Nat.add_mul,Nat.one_mul] at hii;refine ax (c:=(ae (ab hi))) ?_;refine ac (c:=ama _ h) ?_;refine a2 (fun e29=>?_) (fun e29=>?_)
   ·replace e29:=il e29;exact ar (c:=by rw[a4j e13 hi hg e29];rfl)
   ·replace e29:=j0 e29;refine ac (c:=qm hf hm dx om dx) ?_;refine ac (c:=aa3 ha (hf.scaleR hm) om om om dx) ?_;refine aa (c:=a8 (by show i≤_;omega)) ?_;refine au ?_;exact pe ⟨(i+1,Fm.addR acc (Fm.scaleR (bo s (atZ l (i:Int)).1).1 (atZ l (i:Int)).2)),hi,a4i hi hg e29,(ha.addR (hf.scaleR hm)).up (by show _≤1+(i+1)*(41+n);rw[Nat.add_mul,Nat.one_mul];omega) (by show i*9+9≤(i+1)*9;omega)⟩ (c6 Y Y Y Y Y Y trivial) (c3 Y Y Y trivial) Y (by show l.length - (i+1) < l.length - i;omega)
  ·have hj:l.length≤i:=fx e18;exact ar (c:=by rw[a81 e13 hj hg];rfl)
theorem uf {s:Sc} {f:Fm} {l:List Mm} {a b v:Nat} (h:s.Va a b) (hf:f.S 100 8) (hv:f.Ok v) (hv9:v≤9223372036854775807) (hl:PfOk l):PCalls Tryz.prog TF 85 [scP s,fmP f,mmsP l] (bP (dv s f l)):=by
 have hs:=hl.sum h;have hr:=hf.subR hs;refine pcA [85,37] Tryz.func85 (fun D=>?_);refine ac (c:=alu (n:=500) h hl.each (by have:=hl.len;omega) dx (by have:=hl.len;omega)) ?_;refine a2 (fun e18=>?_) (fun e18=>?_)
 ·exact ar (c:=by (try simp only[zB] at *);simp only[dv,e18,sb]<;>rfl)
 ·refine ac (c:=zo (v:=9223372036854775807) (hf.lo dx dx) (hv.mono hv9)) ?_;refine ac (c:=mn hf hs dx dx dx dx) ?_;refine a2 (fun e30=>?_) (fun e30=>?_)
  ·refine ac (c:=zl (hr.const.sm dx)) ?_;exact ar (c:=by (try simp only[zB] at *);simp only[dv,e18,e30,sb]<;>rfl)
  ·exact ar (c:=by (try simp only[zB] at *);simp only[dv,e18,e30,sb]<;>rfl)
theorem a1j {s:Sc} {l:List Mm} {a b:Nat} (h:s.Va a b) (hl:PfOk l):PCalls Tryz.prog TF 84 [scP s,mmsP l] (bP (g9 s l)):=by
 have hs:=hl.sum h;refine pcA [85,37] Tryz.func84 (fun D=>?_);refine ac (c:=alu (n:=500) h hl.each (by have:=hl.len;omega) dx (by have:=hl.len;omega)) ?_;refine a2 (fun e15=>?_) (fun e15=>?_)
 ·refine a2 (fun e21=>?_) (fun e21=>?_)
  ·refine ac (c:=zl (hs.const.sm dx)) ?_;exact ar (c:=by (try simp only[zB] at *);simp only[g9,e15,e21,sb]<;>rfl)
  ·exact ar (c:=by (try simp only[zB] at *);simp only[g9,e15,e21,sb]<;>rfl)
 ·exact ar (c:=by (try simp only[zB] at *);simp only[g9,e15,sb]<;>rfl)
abbrev scL (q:Qr) (path:List Dc) (rows:List (List PV)):PV:=.agg [iP q.g.inputs,bc q.g.units,bc q.g.outputs,dg q.rg.lo,dg q.rg.hi,bc q.rg.rows,cf q.goal.terms,bP q.goal.const.neg,.nat q.goal.const.num,.nat q.goal.const.den,dcsP path,.rows 100 6 [200,98] rows]
theorem ae4 {s:Sc} {m:Lm} {a b:Nat} (h:s.Va a b) (hm:LmOk m):PCalls Tryz.prog TF 138 [scP s,lmP m] (bP (gy s m)):=by
 refine pcA [85,100,37] Tryz.func138 (fun D=>?_);refine a2 (fun e9=>?_) (fun e9=>?_)
 ·exact ar (c:=by (try simp only[zB] at *);simp only[gy,e9,sb]<;>rfl)
 ·have g0:=t5 e9;refine a2 (fun e19=>?_) (fun e19=>?_)
  ·exact ar (c:=by (try simp only[zB] at *);simp only[gy,e9,e19,sb]<;>rfl)
  ·have g1:=wu e19;obtain⟨k1,k2⟩:=ab4 h.q g0 g1 hm.value h.a9 h.n9;have hp:(atZ s.q.g.units m.unit).S 2 8:=(h.q.us _ (bg g0 g1)).up h.a9 h.n9;have hs:(Fm.subR (atZ s.q.g.units m.unit) (numR m.value)).S 12 8:=hp.subR (db hm.value);refine ac (c:=lc (hm.value.sm dx) hm.value.ok) ?_;refine ac (c:=ld h.q (by have:=h.n9;omega)) ?_;refine ay (z:=toN g0) (c:=(ae (dp g0 g1))) ?_;refine ac (c:=mn hp (db hm.value) dx dx dx dx) ?_;refine a2 (fun e44=>?_) (fun e44=>?_)
   ·have ef:Fm.scaleR (Fm.subR (atZ s.q.g.units m.unit) (numR m.value)) Q.mone=lemF s.q m:=by unfold lemF;rw[e44];rfl
    refine ac (c:=p_of (-1) dx dx) ?_;refine ac (c:=qm (q:=Q.mone) hs er dx dx dx) ?_;refine ac (c:=uf (f:=Fm.scaleR (Fm.subR (atZ s.q.g.units m.unit) (numR m.value)) Q.mone) h (ef▸k1.up dx dx) (ef▸k2) (by have:=h.n9;omega) hm.proof) ?_;exact ar (c:=by rw[ef];(try simp only[zB] at *);simp only[gy,e9,e19,e44,sb]<;>rfl)
   ·have ef:Fm.subR (atZ s.q.g.units m.unit) (numR m.value)=lemF s.q m:=by unfold lemF;rw[e44];rfl
    refine ac (c:=uf (f:=Fm.subR (atZ s.q.g.units m.unit) (numR m.value)) h (ef▸k1.up dx dx) (ef▸k2) (by have:=h.n9;omega) hm.proof) ?_;exact ar (c:=by rw[ef];(try simp only[zB] at *);simp only[gy,e9,e19,e44,sb]<;>rfl)
theorem ae3 {q:Qr} {path:List Dc} {ls:List Lm} {rows:List (List PV)} {m:Lm} {a b:Nat} (e:rows=ls.map lmC) (h:(⟨q,path,ls⟩:Sc).Va a b) (hm:LmOk m):PCalls Tryz.prog TF 138 [scL q path rows,lmP m] (bP (gy ⟨q,path,ls⟩ m)):=by
 subst e;exact ae4 h hm
theorem Sc.Va.take {s:Sc} {a b:Nat} (h:s.Va a b) (i:Nat):(⟨s.q,s.path,s.lems.take i⟩:Sc).Va a b:=
 ⟨h.q,h.path,h.p9,fun m hm=>h.lems m (List.mem_of_mem_take hm),nt (by rw[List.length_take];exact Nat.min_le_right ..) h.l9,h.b1,h.b9,h.a9,h.n9⟩
theorem agz {q:Qr} {d:Dc} {a n:Nat} (h:q.Va a) (h4:q.g.inputs+q.g.units.length≤400) (hd:d.at_.S n) (hn:n≤10000):PCalls Tryz.prog TU 137 [qyP q,dcP d] (bP (cz q d)):=by
 refine pcA [39,42] Tryz.func137 (fun D=>?_);refine ac (c:=ld h h4) ?_;refine ac (c:=aa2 hd hn) ?_;exact ar (c:=rfl)
theorem adx {s:Sc} {d:Dc} {a b:Nat} (h:s.Va a b) (hd:d.at_.S a):PCalls Tryz.prog TU 136 [dcP d,.ptr 85 (scC s)] (bP (!cz s.q d)):=by
 refine pcA [42] Tryz.func136 (fun D=>?_);refine ac (c:=agz h.q (by have:=h.n9;omega) hd (by have:=h.a9;omega)) ?_;exact ar (c:=rfl)
theorem a5b {s:Sc} {a b:Nat} (h:s.Va a b) (hl:∀m∈s.lems,LmOk m):PCalls Tryz.prog TF 83 [scP s] (bP (t4 s)):=by
 refine pcA [85,100] Tryz.func83 (fun D=>?_);refine ac (c:=ld h.q (by have:=h.n9;omega)) ?_;refine au ?_;refine rmk Y Y Y Y ?_;refine ac (c:=lh (F:=fun d=>!cz s.q d) (by have:=h.p9;omega) fun d hd=>adx (s:=s) h (h.path d hd)) ?_;refine a2 (fun e14=>?_) (fun e14=>?_)
 ·exact ar (c:=by unfold t4;simp[e14])
 ·refine au ?_;refine pl (ι:={i:Nat // i≤s.lems.length∧∀j,j < i→badL s j=false}) (fun i=>[(1,.box 1 0),(2,.pv (bP false)),(16,.pv (lmsP s.lems)),(17,.pv (iP ((s.lems.map lmC).length:Int))),(18,.pv (iP i.1))]) (fun _=>[(1,.box 85 [.pv (iP s.q.g.inputs),.pv (bc s.q.g.units),.pv (bc s.q.g.outputs),.pv (dg s.q.rg.lo),.pv (dg s.q.rg.hi),.pv (bc s.q.rg.rows),.pv (cf s.q.goal.terms),.pv (bP s.q.goal.const.neg),.pv (.nat s.q.goal.const.num),.pv (.nat s.q.goal.const.den),.pv (dcsP s.path),.pv (lmsP s.lems)])]) [85,100] (fun i=>s.lems.length - i.1) ⟨0,nq _,fun j hj=>by omega⟩ (c5 Y Y Y Y Y trivial) (ai Y trivial) (fun _=>rfl) ?_;intro ⟨i,hi0,hnb⟩;refine a2 (fun e19=>?_) (fun e19=>?_)
  ·have hi:i < s.lems.length:=dw e19;have hm:=hl _ (mg (ab hi));refine ax (c:=(ae (ab hi))) ?_;refine au ?_;refine ro0 Y Y Y (fun hd=>ct ah Y Y Y (.inl ⟨rfl,rfl⟩) (.inr ⟨_,rfl,rfl⟩) (nq _) (by rw[zB];exact hi0) Y dx hd) ?_;refine ac (c:=ae3 (ls:=s.lems.take i) (List.map_take ..).symm (h.take i) hm) ?_;refine a2 (fun e34=>?_) (fun e34=>?_)
   ·replace e34:=il e34;exact ar (c:=by unfold t4;rw[a1c hi (show badL s i=true by unfold badL;rw[e34];rfl)];simp)
   ·replace e34:=j0 e34;refine aa (c:=a8 (by have:=h.l9;show i≤_;omega)) ?_;refine au ?_;exact pe ⟨i+1,hi,m7 hnb (by unfold badL;rw[e34];rfl)⟩ (c5 Y Y Y Y Y trivial) (ai Y trivial) Y (by show s.lems.length - (i+1) < s.lems.length - i;omega)
  ·have hj:s.lems.length≤i:=fx e19;exact ar (c:=by unfold t4;rw[vi hnb hj];simp[e14])
theorem aa0 (m n:Nat):PCalls Tryz.prog [] 222 [.nat m,.nat n] (bP (decide (m=n))):=⟨by kernel_rfl,fun w X us h1 h2 h3=>by
 obtain⟨u,v,rfl,g1,g2⟩:=a2o h3;obtain⟨x,rfl,hx⟩:=qt g1;obtain⟨y,rfl,hy⟩:=qt g2;exact (ang w x y m n hx hy).mono fun e w' ⟨he,G⟩=>⟨_,he,m8 _,G⟩⟩
theorem als (x y:Q):PCalls Tryz.prog [] 184 [ratP x,ratP y] (bP (decide (x=y))):=by
 refine pcA [35] Tryz.func184 (fun D=>?_);refine au ?_;refine re0 (x.neg == y.neg) Y Y Y Y Y Y (.inl ⟨rfl,rfl⟩) ?_;refine a2 (fun e10=>?_) (fun e10=>?_)
 ·refine ac (c:=aa0 _ _) ?_;refine a2 (fun e17=>?_) (fun e17=>?_)
  ·refine ac (c:=aa0 _ _) ?_;exact ar (c:=by rw[Q.dec_eq];(try simp only[zB] at *);simp only[bP,e10,e17,sb]<;>rfl)
  ·exact ar (c:=by rw[Q.dec_eq];(try simp only[zB] at *);simp only[bP,e10,e17,sb]<;>rfl)
 ·exact ar (c:=by rw[Q.dec_eq];(try simp only[zB] at *);simp only[bP,e10,sb]<;>rfl)
def dcEq (a b:Dc):Bool:=a.kind == b.kind&&(a.index == b.index&&decide (a.at_=b.at_))
theorem alt (x y:Dc):PCalls Tryz.prog [] 131 [dcP x,dcP y] (bP (dcEq x y)):=by
 refine pcA [42] Tryz.func131 (fun D=>?_);refine a2 (fun e10=>?_) (fun e10=>?_)
 ·refine a2 (fun e17=>?_) (fun e17=>?_)
  ·refine ac (c:=als _ _) ?_;exact ar (c:=by (try simp only[zB] at *);simp only[dcEq,e10,e17,sb]<;>rfl)
  ·exact ar (c:=by (try simp only[zB] at *);simp only[dcEq,e10,e17,sb]<;>rfl)
 ·exact ar (c:=by (try simp only[zB] at *);simp only[dcEq,e10,sb]<;>rfl)
def Nd.Wf:Nat→Nd→Prop
 | 0,.mk _ d ks _ _=>d=dc0∧ks=[]
 | k+1,.mk _ d ks e p=>e=false∧p=[]∧1≤d.kind∧d.kind≤4∧∃a b,ks=[a,b]∧Nd.Wf k a∧Nd.Wf k b
def szK:Nat→Nat
 | 0=>1
 | k+1=>1+szK k+szK k
theorem a4h:∀k,k≤10→szK k≤2047:=by decide
theorem ahj:∀k,1≤szK k
 | 0=>nr _
 | k+1=>by rw[szK];omega
theorem aio {ls:List Lm} {e:Bool} {p:List Mm} {depth most:Int} (h:1≤most):PCalls Tryz.prog [] 74 [ndP (.mk ls dc0 [] e p),iP depth,iP most] (.tup [iP 1,bP true]):=by
 refine pcA [46] Tryz.func74 (fun D=>?_);refine akF (c:=by exact (show _=false from df om)) ?_;refine akT (c:=by exact rfl) ?_;refine ac (c:=alt dc0 dc0) ?_;exact ar (c:=rfl)
theorem ain {ls:List Lm} {d:Dc} {a b:Nd} {depth most A:Int} (h:1≤most) (h1:1≤d.kind) (h2:d.kind≤4) (hd:1≤depth) (hd9:depth≤100000) (hm9:most≤1000000) (hA:0≤A) (hA9:A≤1000000) (ia:PCalls Tryz.prog [] 74 [ndP a,iP (depth - 1),iP (most - 1)] (.tup [iP A,bP true])) (ib:PCalls Tryz.prog [] 74 [ndP b,iP (depth - 1),iP (most - 1 - A)] (.tup [iP A,bP true])):PCalls Tryz.prog [] 74 [ndP (.mk ls d [a,b] false []),iP depth,iP most] (.tup [iP (1+A+A),bP true]):=by
 obtain⟨l1,d1,k1,e1,p1⟩:=a;obtain⟨l2,d2,k2,e2,p2⟩:=b;refine pcA [46] Tryz.func74 (fun D=>?_);refine akF (c:=by exact (show _=false from df om)) ?_;refine akF (c:=by exact (show _=false from rfl)) ?_;refine akF (c:=by exact (show _=false from rfl)) ?_;refine akF (c:=by exact (show _=false from df om)) ?_;refine akF (c:=by exact (show _=false from df om)) ?_;refine akF (c:=by exact (show _=false from rfl)) ?_;refine akF (c:=by exact (show _=false from beq_eq_false_iff_ne.2 om)) ?_;refine au ?_;refine ro0 Y Y Y (fun hd=>cg (i:=0) ah Y Y Y Y Y dx Y Y hd) ?_;refine aa (c:=da om om om om) ?_;refine aa (c:=da om om om om) ?_;refine ac (c:=ia) ?_;refine au ?_;refine ro0 Y Y Y (fun hd=>cg (i:=1) ah Y Y Y Y Y dx Y Y hd) ?_;refine aa (c:=da om om om om) ?_;refine aa (c:=da om om om om) ?_;refine aa (c:=da om om om om) ?_;refine ac (c:=ib) ?_;refine aa (c:=j9 om om om om) ?_;refine aa (c:=j9 om om om om) ?_;exact ar (c:=rfl)
theorem a9u:∀(k:Nat) {n:Nd} {depth most:Int},n.Wf k→(k:Int)≤depth→(szK k:Int)≤most→depth≤100000→most≤1000000→k≤10→PCalls Tryz.prog [] 74 [ndP n,iP depth,iP most] (.tup [iP (szK k),bP true])
 | 0,.mk ls d ks e p,depth,most,h,_,hm,_,_,_=>by
  obtain⟨rfl,rfl⟩:=h;exact aio hm
 | k+1,.mk ls d ks e p,depth,most,h,hd,hm,hd9,hm9,hk=>by
  obtain⟨rfl,rfl,h1,h2,a,b,rfl,ha,hb⟩:=h;have hs:=a4h k om;have hs0:=ahj k;rw[szK] at hm;have:=ain (ls:=ls) (d:=d) (a:=a) (b:=b) (depth:=depth) (most:=most) (A:=(szK k:Int)) om h1 h2 om hd9 hm9 om om (a9u k ha om om om om om) (a9u k hb om om om om om);exact this
theorem adw {n:Nd} {k:Nat} (h:n.Wf k) (hk:k≤10):PCalls Tryz.prog [] 36 [ndP n] (bP true):=by
 obtain⟨ls,d,ks,e,p⟩:=n;have hs:=a4h k hk;refine pcA [46] Tryz.func36 (fun D=>?_);refine au ?_;refine rc0 (a9u k h om om dx dx hk) Y Y Y Y Y Y Y ?_;exact ar (c:=rfl)
structure En where
 path:List Dc
 lems:List Lm
 empty:Bool
 proof:List Mm
 deriving Inhabited
abbrev enT:List Nat:=[42,100,98,200,46]
def enC (x:En):List PV:=[dcsP x.path,lmsP x.lems,iP 0,iP 0,bP false,.nat 0,.nat 0,.rows 46 9 ndT [],bP x.empty,mmsP x.proof]
abbrev enP (x:En):PV:=.agg (enC x)
abbrev ensP (l:List En):PV:=.rows 77 10 enT (l.map enC)
def En.sc (q:Qr) (x:En):Sc:=⟨q,x.path,x.lems⟩
structure EnOk (x:En):Prop where
 lems:∀m∈x.lems,LmOk m
 proof:PfOk x.proof
def d6 (q:Qr) (x:En):Bool:=t4 (x.sc q)&&(bif x.empty then g9 (x.sc q) x.proof else dv (x.sc q) q.goal x.proof)
theorem aa9 {q:Qr} {x:En} {a b:Nat} (h:(x.sc q).Va a b) (hx:EnOk x) (hg:q.goal.S 100 8):PCalls Tryz.prog TF 39 [qyP q,enP x] (bP (d6 q x)):=by
 refine pcA [39,77,85] Tryz.func39 (fun D=>?_);refine ac (c:=a5b (s:=x.sc q) h hx.lems) ?_;refine a2 (fun e15=>?_) (fun e15=>?_)
 ·replace e15:=il e15;exact ar (c:=by (try simp only[zB] at *);simp only[d6,e15,sb]<;>rfl)
 ·replace e15:=j0 e15;refine a2 (fun e18=>?_) (fun e18=>?_)
  ·refine ac (c:=a1j (s:=x.sc q) h hx.proof) ?_;exact ar (c:=by (try simp only[zB] at *);simp only[d6,e15,e18,sb]<;>rfl)
  ·refine ac (c:=uf (s:=x.sc q) h hg h.q.ok (by have:=h.n9;show q.g.inputs+q.g.units.length≤_;have:q.g.inputs+q.g.units.length≤8:=h.n9;omega) hx.proof) ?_;exact ar (c:=by (try simp only[zB] at *);simp only[d6,e15,e18,sb]<;>rfl)
def addM (one:Int→List Bool→List Bool):List Mm→List Bool→List Bool
 | [],is=>is
 | m::l,is=>addM one l (one m.1.hi (one m.1.lo is))
def hitM (ls:List Lm) (n:Int) (is:List Bool):Bool:=decide (1≤n)&&(decide (n≤(ls.length:Int))&&!atZ is (n - 1))
def oneM (ls:List Lm):Nat→Int→List Bool→List Bool
 | 0,_,is=>is
 | k+1,n,is=>bif hitM ls n is then addM (oneM ls k) (atZ ls (n - 1)).proof (is.set (n - 1).toNat true) else is
def cntF (is:List Bool):Nat:=is.countP fun b=>!b
theorem xd {is:List Bool} {i:Nat} (h:is[i]?=some false):cntF (is.set i true)+1=cntF is:=by
 induction is generalizing i with
 | nil=>simp at h
 | cons b is ih=>
  cases i with
  | zero=>simp at h;subst h;simp[cntF]
  | succ i=>
   have:=ih (i:=i) (by simpa using h);simp only[cntF,List.set_cons_succ,List.countP_cons] at this ⊢;omega
theorem kb {α:Type} [Inhabited α] {l:List α} {z:Int} {n:Nat} (h1:1≤z) (h2:z≤(n:Int)) (hl:l.length=n):l[(z - 1).toNat]?=some (atZ l (z - 1)):=by
 have h:=dp (l:=l) (z:=z - 1) om om;exact h
theorem xj {one:Int→List Bool→List Bool} {n k:Nat} (h:∀x is,is.length=n→cntF is≤k→(one x is).length=n∧cntF (one x is)≤cntF is):∀(l:List Mm) (is:List Bool),is.length=n→cntF is≤k→(addM one l is).length=n∧cntF (addM one l is)≤cntF is
 | [],is,h1,h2=>⟨h1,nr _⟩
 | m::l,is,h1,h2=>by
  obtain⟨a1,a2⟩:=h m.1.lo is h1 h2;obtain⟨b1,b2⟩:=h m.1.hi _ a1 (nt a2 h2);obtain⟨c1,c2⟩:=xj h l _ b1 om;exact⟨c1,by rw[addM];omega⟩
theorem qp {ls:List Lm}:∀(k:Nat) (x:Int) (is:List Bool),is.length=ls.length→cntF is≤k→(oneM ls k x is).length=ls.length∧cntF (oneM ls k x is)≤cntF is
 | 0,x,is,h1,_=>⟨h1,nr _⟩
 | k+1,x,is,h1,h2=>by
  rw[oneM];cases hh:hitM ls x is with
  | false=>exact⟨h1,nr _⟩
  | true=>
   simp only[hitM,be,de,Bool.not_eq_true'] at hh;obtain⟨g1,g2,g3⟩:=hh;have h3:=kb (l:=is) g1 g2 h1;rw[g3] at h3;have h4:=xd h3;obtain⟨c1,c2⟩:=xj (qp k) (atZ ls (x - 1)).proof (is.set (x - 1).toNat true) (by rw[List.length_set];exact h1) om;exact⟨c1,by rw[cond_true];omega⟩
theorem ace {one:Int→List Bool→List Bool} {l:List Mm} {i:Nat} {is:List Bool} (hi:i < l.length):addM one (l.drop i) is=addM one (l.drop (i+1)) (one (atZ l (i:Int)).1.hi (one (atZ l (i:Int)).1.lo is)):=by
 have e:l.drop i=atZ l (i:Int)::l.drop (i+1):=by rw[bm (ge hi),zQ hi]
 rw[e,addM]
abbrev bsC (is:List Bool):List (List PV):=is.map fun b=>[bP b]
abbrev mkR (ls:List Lm) (is:List Bool):List (Nat×Res):=[(1000,.box 154 [.pv (lmsP ls),.tok 1001]),(1001,.tok 4 1 [] (bsC is))]
theorem anv {is:List Bool} {i:Nat}:(bsC is).set i [bP true]=bsC (is.set i true):=(List.map_set ..).symm
theorem am2 {ls:List Lm} {n:Int} {is is2:List Bool} (h9:ls.length≤100000) (hl:is.length=ls.length) (hh:hitM ls n is=true) (ih:MCalls Tryz.prog [] 81 [.box 1000 0,.pv (mmsP (atZ ls (n - 1)).proof)] (mkR ls (is.set (n - 1).toNat true)) (mkR ls is2) (.tup [])):MCalls Tryz.prog [] 134 [.box 1000 0,.pv (iP n)] (mkR ls is) (mkR ls is2) (.tup []):=by
 simp only[hitM,be,de,Bool.not_eq_true'] at hh;obtain⟨g1,g2,g3⟩:=hh;refine pcm [154,4] (by kernel_rfl) Tryz.func134 Y Y (fun D hG=>?_);refine akT (c:=by exact (show _=true from dt g1)) ?_;refine akT (c:=by exact (show _=true from dt (by rw[zB];exact g2))) ?_;refine aa (c:=da om om om om) ?_;refine ro0 Y Y Y (fun hd=>iq (i:=(n - 1).toNat) ah Y Y Y Y Y Y dx (show n - 1=((n - 1).toNat:Int) by omega) (ae (f:=fun b=>[bP b]) (kb g1 g2 hl)) hd) ?_;refine ro0 Y Y Y (fun hd=>cb (i:=(n - 1).toNat) (j:=0) ah Y Y Y Y Y Y (ae (f:=fun b=>[bP b]) (kb g1 g2 hl)) Y hd) ?_;refine a2 (fun e25=>?_) (fun e25=>?_)
 ·refine aa (c:=da om om om om) ?_;refine ro0 Y Y Y (fun hd=>iq (i:=(n - 1).toNat) ah Y Y Y Y Y Y dx (show n - 1=((n - 1).toNat:Int) by omega) (ae (f:=fun b=>[bP b]) (kb g1 g2 hl)) hd) ?_;refine ro0 Y Y Y (fun hd=>ed (i:=(n - 1).toNat) (j:=0) ah Y Y Y Y Y Y Y (ae (f:=fun b=>[bP b]) (kb g1 g2 hl)) Y Y Y Y Y) ?_;refine aa (c:=da om om om om) ?_;refine ay (z:=show n - 1=((n - 1).toNat:Int) by omega) (c:=(ae (kb g1 g2 rfl))) ?_;refine au ?_;refine rm0 [] [] hG (ih) Y Y Y Y Y Y (ai (Y) (ai (congrArg (fun x=>some (Res.tok _ _ _ x)) anv) trivial)) trivial trivial Y Y Y ?_;exact a6z Y Y ((c2 Y Y trivial))
 ·have e25:=e25;rw[g3] at e25;cases e25
theorem agv {ls:List Lm} {n:Int} {is:List Bool} (h9:ls.length≤100000) (hl:is.length=ls.length) (hh:hitM ls n is=false):MCalls Tryz.prog [] 134 [.box 1000 0,.pv (iP n)] (mkR ls is) (mkR ls is) (.tup []):=by
 refine pcm [154,4] (by kernel_rfl) Tryz.func134 Y Y (fun D hG=>?_);refine a2 (fun e6=>?_) (fun e6=>?_)
 ·have g1:=zK e6;refine a2 (fun e15=>?_) (fun e15=>?_)
  ·have g2:n≤(ls.length:Int):=by have:=zK e15;rw[zB] at this;exact this
   refine aa (c:=da om om om om) ?_;refine ro0 Y Y Y (fun hd=>iq (i:=(n - 1).toNat) ah Y Y Y Y Y Y dx (show n - 1=((n - 1).toNat:Int) by omega) (ae (f:=fun b=>[bP b]) (kb g1 g2 hl)) hd) ?_;refine ro0 Y Y Y (fun hd=>cb (i:=(n - 1).toNat) (j:=0) ah Y Y Y Y Y Y (ae (f:=fun b=>[bP b]) (kb g1 g2 hl)) Y hd) ?_;refine a2 (fun e25=>?_) (fun e25=>?_)
   ·exfalso
    have e25:(!atZ is (n - 1))=true:=e25;rw[hitM,dt g1,dt g2,e25] at hh;cases hh
   ·refine au ?_;exact a6z Y Y ((c2 Y Y trivial))
  ·refine au ?_;exact a6z Y Y ((c2 Y Y trivial))
 ·refine au ?_;exact a6z Y Y ((c2 Y Y trivial))
theorem agx {ls:List Lm} {l:List Mm} {is:List Bool} {k:Nat} (h9:l.length≤100000) (hl:is.length=ls.length) (hk:cntF is≤k) (one:∀(n:Int) (is:List Bool),is.length=ls.length→cntF is≤k→MCalls Tryz.prog [] 134 [.box 1000 0,.pv (iP n)] (mkR ls is) (mkR ls (oneM ls k n is)) (.tup [])):MCalls Tryz.prog [] 81 [.box 1000 0,.pv (mmsP l)] (mkR ls is) (mkR ls (addM (oneM ls k) l is)) (.tup []):=by
 refine pcm [98,154,4] (by kernel_rfl) Tryz.func81 Y Y (fun D hG=>?_);refine au ?_;refine pl (ι:={p:Nat×List Bool // p.1≤l.length∧addM (oneM ls k) (l.drop p.1) p.2=addM (oneM ls k) l is∧p.2.length=ls.length∧cntF p.2≤k}) (fun p=>[(0,.box 1000 0),(6,.pv (mmsP l)),(7,.pv (iP ((l.map mmC).length:Int))),(8,.pv (iP p.1.1))]) (fun p=>mkR ls p.1.2) [98,154,4] (fun p=>l.length - p.1.1) ⟨(0,is),nq _,rfl,hl,hk⟩ (c4 Y Y Y Y trivial) (c2 Y Y trivial) (fun _=>rfl) ?_;intro ⟨(i,is'),hi0,hg,hl1,hk1⟩;simp only at hi0 hg hl1 hk1;refine a2 (fun e9=>?_) (fun e9=>?_)
 ·have hi:i < l.length:=dw e9;obtain⟨a1,a2⟩:=qp k (atZ l (i:Int)).1.lo is' hl1 hk1;obtain⟨b1,b2⟩:=qp k (atZ l (i:Int)).1.hi _ a1 (nt a2 hk1);refine ax (c:=(ae (ab hi))) ?_;refine au ?_;refine rm0 [(0,.box 1000 0),(6,.pv (mmsP l)),(7,.pv (iP ((l.map mmC).length:Int))),(8,.pv (iP (i:Int))),(5,.box 5 0)] [(5,.box 98 [.pv (iP (atZ l (i:Int)).1.kind),.pv (iP (atZ l (i:Int)).1.index),.pv (iP (atZ l (i:Int)).1.lo),.pv (iP (atZ l (i:Int)).1.hi),.pv (bP (atZ l (i:Int)).2.neg),.pv (.nat (atZ l (i:Int)).2.num),.pv (.nat (atZ l (i:Int)).2.den)])] hG (one (atZ l (i:Int)).1.lo is' hl1 hk1) Y Y Y Y Y Y (c2 Y Y trivial) (c5 Y Y Y Y Y trivial) (ai Y trivial) Y Y Y ?_;refine au ?_;refine rm0 [(0,.box 1000 0),(6,.pv (mmsP l)),(7,.pv (iP ((l.map mmC).length:Int))),(8,.pv (iP (i:Int)))] [] hG (one (atZ l (i:Int)).1.hi _ a1 (nt a2 hk1)) Y Y Y Y Y Y (c2 Y Y trivial) (c4 Y Y Y Y trivial) trivial Y Y Y ?_;refine aa (c:=a8 (by show i≤_;omega)) ?_;refine au ?_;exact pe ⟨(i+1,oneM ls k (atZ l (i:Int)).1.hi (oneM ls k (atZ l (i:Int)).1.lo is')),hi,by rw[← hg,ace hi],b1,nt b2 (nt a2 hk1)⟩ (c4 Y Y Y Y trivial) (c2 Y Y trivial) Y (by show l.length - (i+1) < l.length - i;omega)
 ·have hj:l.length≤i:=fx e9;refine au ?_;exact a6z Y Y (ai Y (ai (congrArg (fun x=>some (Res.tok _ _ _ (bsC x))) (by have hg:=hg;rw[List.drop_of_length_le hj] at hg;exact hg)) trivial))
theorem agu {ls:List Lm} (h9:ls.length≤100000) (hp:∀m∈ls,m.proof.length≤100000):∀(k:Nat) (n:Int) (is:List Bool),is.length=ls.length→cntF is≤k→MCalls Tryz.prog [] 134 [.box 1000 0,.pv (iP n)] (mkR ls is) (mkR ls (oneM ls k n is)) (.tup [])
 | 0,n,is,hl,hk=>by
  cases hh:hitM ls n is with
  | false=>exact agv h9 hl hh
  | true=>
   simp only[hitM,be,de,Bool.not_eq_true'] at hh;obtain⟨g1,g2,g3⟩:=hh;have h3:=kb (l:=is) g1 g2 hl;rw[g3] at h3;have h4:=xd h3;omega
 | k+1,n,is,hl,hk=>by
  cases hh:hitM ls n is with
  | false=>rw[oneM,hh];exact agv h9 hl hh
  | true=>
   have hh':=hh;simp only[hitM,be,de,Bool.not_eq_true'] at hh;obtain⟨g1,g2,g3⟩:=hh;have h3:=kb (l:=is) g1 g2 hl;rw[g3] at h3;have h4:=xd h3;rw[oneM,hh'];exact am2 h9 hl hh' (agx (hp _ (bg om om)) (by rw[List.length_set];exact hl) om (agu h9 hp k))
end Go.Proofs.YtbhbainhmfjpdaaGreatDoor
