/- Walks of the search and of what it calls, part 13. -/
import Derived.Test.YtbhbainhmfjpdaaGreatDoorMl
import Derived.OpenShut
set_option linter.unusedVariables false
set_option linter.unusedSimpArgs false
set_option maxRecDepth 100000
set_option maxHeartbeats 8000000
namespace Go.Proofs.YtbhbainhmfjpdaaGreatDoor
open Go.RowKit
theorem r_best {s:Sc} {a b:Nat} {unit:Int} (h:s.Va a b):PCalls Tryz.prog TU 170 [scP s,iP unit] (.tup [iP (bestR s.lems unit).1,iP (bestR s.lems unit).2]):=by
 refine pcA [85,100] Tryz.func170 (fun D=>?_);refine au ?_;refine pl (ι:={p:Nat×Nat×Nat // p.1≤s.lems.length∧(List.range p.1).foldl (bestF s.lems unit) (0,0)=(p.2.1,p.2.2)∧p.2.1≤s.lems.length∧p.2.2≤s.lems.length}) (fun p=>[(1,.pv (iP unit)),(2,.box 2 0),(6,.pv (iP p.1.2.1)),(7,.pv (iP p.1.2.2)),(8,.pv (iP ((p.1.1+1:Nat):Int)))]) (fun p=>[(2,.box 85 [.pv (iP s.q.g.inputs),.pv (formsP s.q.g.units),.pv (formsP s.q.g.outputs),.pv (ratsP s.q.rg.lo),.pv (ratsP s.q.rg.hi),.pv (formsP s.q.rg.rows),.pv (termsP s.q.goal.terms),.pv (bP s.q.goal.const.neg),.pv (.nat s.q.goal.const.num),.pv (.nat s.q.goal.const.den),.pv (dcsP s.path),.pv (lmsP s.lems)])]) [85,100] (fun p=>s.lems.length - p.1.1) ⟨(0,0,0),nq _,rfl,nq _,nq _⟩ (c5 Y Y Y Y Y trivial) (ai Y trivial) (fun _=>rfl) ?_;intro ⟨(i,lo,hi),hi0,hf,hlo,hhi⟩;simp only at hi0 hf hlo hhi;refine a2 (fun e14=>?_) (fun e14=>?_)
 ·have hi1:i < s.lems.length:=le_lt e14;have h9:=h.l9;have vm:=(h.lems _ (mg (get_of hi1))).up h.b9;refine aa (c:=ari_back (by show i≤_;omega)) ?_;refine ax (c:=(getmap (get_of hi1))) ?_;refine a2 (fun e26=>?_) (fun e26=>?_)
  ·refine aa (c:=ari_succ (by show i+1≤_;omega)) ?_;refine au ?_;exact pe ⟨(i+1,lo,hi),hi1,best_step hf (by simp only[bestF,e14,e26,sb]),by first | exact hi1 | exact hlo,by first | exact hi1 | exact hhi⟩ (c5 Y Y Y Y Y trivial) (ai Y trivial) Y (by show s.lems.length - (i+1) < s.lems.length - i;omega)
  ·refine a2 (fun e29=>?_) (fun e29=>?_)
   ·refine a2 (fun e32=>?_) (fun e32=>?_)
    ·refine a2 (fun e50=>?_) (fun e50=>?_)
     ·replace e50:=not_t e50;refine a2 (fun e53=>?_) (fun e53=>?_)
      ·refine aa (c:=ari_succ (by show i+1≤_;omega)) ?_;refine au ?_;exact pe ⟨(i+1,(i+1),(i+1)),hi1,best_step hf (by (first | (exact absurd (e29.symm.trans e50) dx) | simp only[bestF,e14,e26,e29,e32,e50,e53,sb])),by first | exact hi1 | exact hlo,by first | exact hi1 | exact hhi⟩ (c5 Y Y Y Y Y trivial) (ai Y trivial) Y (by show s.lems.length - (i+1) < s.lems.length - i;omega)
      ·obtain⟨gb,vb⟩:=lem_at h e53 hlo;refine aa (c:=ari_pred (nz_pos e53) (by show lo≤_;omega)) ?_;refine ax (c:=(getmap (get_of gb))) ?_;refine ac (c:=r_cmp (vm.sm dx) (vb.sm dx) vm.ok vb.neg.ok ((vm.add vb.neg).sm dx)) ?_;refine a2 (fun e66=>?_) (fun e66=>?_)
       ·refine aa (c:=ari_succ (by show i+1≤_;omega)) ?_;refine au ?_;exact pe ⟨(i+1,(i+1),(i+1)),hi1,best_step hf (by (first | (exact absurd (e29.symm.trans e50) dx) | simp only[bestF,e14,e26,e29,e32,e50,e53,e66,sb])),by first | exact hi1 | exact hlo,by first | exact hi1 | exact hhi⟩ (c5 Y Y Y Y Y trivial) (ai Y trivial) Y (by show s.lems.length - (i+1) < s.lems.length - i;omega)
       ·refine aa (c:=ari_succ (by show i+1≤_;omega)) ?_;refine au ?_;exact pe ⟨(i+1,lo,(i+1)),hi1,best_step hf (by (first | (exact absurd (e29.symm.trans e50) dx) | simp only[bestF,e14,e26,e29,e32,e50,e53,e66,sb])),by first | exact hi1 | exact hlo,by first | exact hi1 | exact hhi⟩ (c5 Y Y Y Y Y trivial) (ai Y trivial) Y (by show s.lems.length - (i+1) < s.lems.length - i;omega)
     ·replace e50:=not_f e50;refine aa (c:=ari_succ (by show i+1≤_;omega)) ?_;refine au ?_;exact pe ⟨(i+1,lo,(i+1)),hi1,best_step hf (by (first | (exact absurd (e29.symm.trans e50) dx) | simp only[bestF,e14,e26,e29,e32,e50,sb])),by first | exact hi1 | exact hlo,by first | exact hi1 | exact hhi⟩ (c5 Y Y Y Y Y trivial) (ai Y trivial) Y (by show s.lems.length - (i+1) < s.lems.length - i;omega)
    ·obtain⟨gb,vb⟩:=lem_at h e32 hhi;refine aa (c:=ari_pred (nz_pos e32) (by show hi≤_;omega)) ?_;refine ax (c:=(getmap (get_of gb))) ?_;refine ac (c:=r_cmp (vm.sm dx) (vb.sm dx) vm.ok vb.neg.ok ((vm.add vb.neg).sm dx)) ?_;refine a2 (fun e45=>?_) (fun e45=>?_)
     ·refine a2 (fun e50=>?_) (fun e50=>?_)
      ·replace e50:=not_t e50;refine a2 (fun e53=>?_) (fun e53=>?_)
       ·refine aa (c:=ari_succ (by show i+1≤_;omega)) ?_;refine au ?_;exact pe ⟨(i+1,(i+1),(i+1)),hi1,best_step hf (by (first | (exact absurd (e29.symm.trans e50) dx) | simp only[bestF,e14,e26,e29,e32,e45,e50,e53,sb])),by first | exact hi1 | exact hlo,by first | exact hi1 | exact hhi⟩ (c5 Y Y Y Y Y trivial) (ai Y trivial) Y (by show s.lems.length - (i+1) < s.lems.length - i;omega)
       ·obtain⟨gb,vb⟩:=lem_at h e53 hlo;refine aa (c:=ari_pred (nz_pos e53) (by show lo≤_;omega)) ?_;refine ax (c:=(getmap (get_of gb))) ?_;refine ac (c:=r_cmp (vm.sm dx) (vb.sm dx) vm.ok vb.neg.ok ((vm.add vb.neg).sm dx)) ?_;refine a2 (fun e66=>?_) (fun e66=>?_)
        ·refine aa (c:=ari_succ (by show i+1≤_;omega)) ?_;refine au ?_;exact pe ⟨(i+1,(i+1),(i+1)),hi1,best_step hf (by (first | (exact absurd (e29.symm.trans e50) dx) | simp only[bestF,e14,e26,e29,e32,e45,e50,e53,e66,sb])),by first | exact hi1 | exact hlo,by first | exact hi1 | exact hhi⟩ (c5 Y Y Y Y Y trivial) (ai Y trivial) Y (by show s.lems.length - (i+1) < s.lems.length - i;omega)
        ·refine aa (c:=ari_succ (by show i+1≤_;omega)) ?_;refine au ?_;exact pe ⟨(i+1,lo,(i+1)),hi1,best_step hf (by (first | (exact absurd (e29.symm.trans e50) dx) | simp only[bestF,e14,e26,e29,e32,e45,e50,e53,e66,sb])),by first | exact hi1 | exact hlo,by first | exact hi1 | exact hhi⟩ (c5 Y Y Y Y Y trivial) (ai Y trivial) Y (by show s.lems.length - (i+1) < s.lems.length - i;omega)
      ·replace e50:=not_f e50;refine aa (c:=ari_succ (by show i+1≤_;omega)) ?_;refine au ?_;exact pe ⟨(i+1,lo,(i+1)),hi1,best_step hf (by (first | (exact absurd (e29.symm.trans e50) dx) | simp only[bestF,e14,e26,e29,e32,e45,e50,sb])),by first | exact hi1 | exact hlo,by first | exact hi1 | exact hhi⟩ (c5 Y Y Y Y Y trivial) (ai Y trivial) Y (by show s.lems.length - (i+1) < s.lems.length - i;omega)
     ·refine a2 (fun e50=>?_) (fun e50=>?_)
      ·replace e50:=not_t e50;refine a2 (fun e53=>?_) (fun e53=>?_)
       ·refine aa (c:=ari_succ (by show i+1≤_;omega)) ?_;refine au ?_;exact pe ⟨(i+1,(i+1),hi),hi1,best_step hf (by (first | (exact absurd (e29.symm.trans e50) dx) | simp only[bestF,e14,e26,e29,e32,e45,e50,e53,sb])),by first | exact hi1 | exact hlo,by first | exact hi1 | exact hhi⟩ (c5 Y Y Y Y Y trivial) (ai Y trivial) Y (by show s.lems.length - (i+1) < s.lems.length - i;omega)
       ·obtain⟨gb,vb⟩:=lem_at h e53 hlo;refine aa (c:=ari_pred (nz_pos e53) (by show lo≤_;omega)) ?_;refine ax (c:=(getmap (get_of gb))) ?_;refine ac (c:=r_cmp (vm.sm dx) (vb.sm dx) vm.ok vb.neg.ok ((vm.add vb.neg).sm dx)) ?_;refine a2 (fun e66=>?_) (fun e66=>?_)
        ·refine aa (c:=ari_succ (by show i+1≤_;omega)) ?_;refine au ?_;exact pe ⟨(i+1,(i+1),hi),hi1,best_step hf (by (first | (exact absurd (e29.symm.trans e50) dx) | simp only[bestF,e14,e26,e29,e32,e45,e50,e53,e66,sb])),by first | exact hi1 | exact hlo,by first | exact hi1 | exact hhi⟩ (c5 Y Y Y Y Y trivial) (ai Y trivial) Y (by show s.lems.length - (i+1) < s.lems.length - i;omega)
        ·refine aa (c:=ari_succ (by show i+1≤_;omega)) ?_;refine au ?_;exact pe ⟨(i+1,lo,hi),hi1,best_step hf (by (first | (exact absurd (e29.symm.trans e50) dx) | simp only[bestF,e14,e26,e29,e32,e45,e50,e53,e66,sb])),by first | exact hi1 | exact hlo,by first | exact hi1 | exact hhi⟩ (c5 Y Y Y Y Y trivial) (ai Y trivial) Y (by show s.lems.length - (i+1) < s.lems.length - i;omega)
      ·replace e50:=not_f e50;refine aa (c:=ari_succ (by show i+1≤_;omega)) ?_;refine au ?_;exact pe ⟨(i+1,lo,hi),hi1,best_step hf (by (first | (exact absurd (e29.symm.trans e50) dx) | simp only[bestF,e14,e26,e29,e32,e45,e50,sb])),by first | exact hi1 | exact hlo,by first | exact hi1 | exact hhi⟩ (c5 Y Y Y Y Y trivial) (ai Y trivial) Y (by show s.lems.length - (i+1) < s.lems.length - i;omega)
   ·refine a2 (fun e50=>?_) (fun e50=>?_)
    ·replace e50:=not_t e50;refine a2 (fun e53=>?_) (fun e53=>?_)
     ·refine aa (c:=ari_succ (by show i+1≤_;omega)) ?_;refine au ?_;exact pe ⟨(i+1,(i+1),hi),hi1,best_step hf (by (first | (exact absurd (e29.symm.trans e50) dx) | simp only[bestF,e14,e26,e29,e50,e53,sb])),by first | exact hi1 | exact hlo,by first | exact hi1 | exact hhi⟩ (c5 Y Y Y Y Y trivial) (ai Y trivial) Y (by show s.lems.length - (i+1) < s.lems.length - i;omega)
     ·obtain⟨gb,vb⟩:=lem_at h e53 hlo;refine aa (c:=ari_pred (nz_pos e53) (by show lo≤_;omega)) ?_;refine ax (c:=(getmap (get_of gb))) ?_;refine ac (c:=r_cmp (vm.sm dx) (vb.sm dx) vm.ok vb.neg.ok ((vm.add vb.neg).sm dx)) ?_;refine a2 (fun e66=>?_) (fun e66=>?_)
      ·refine aa (c:=ari_succ (by show i+1≤_;omega)) ?_;refine au ?_;exact pe ⟨(i+1,(i+1),hi),hi1,best_step hf (by (first | (exact absurd (e29.symm.trans e50) dx) | simp only[bestF,e14,e26,e29,e50,e53,e66,sb])),by first | exact hi1 | exact hlo,by first | exact hi1 | exact hhi⟩ (c5 Y Y Y Y Y trivial) (ai Y trivial) Y (by show s.lems.length - (i+1) < s.lems.length - i;omega)
      ·refine aa (c:=ari_succ (by show i+1≤_;omega)) ?_;refine au ?_;exact pe ⟨(i+1,lo,hi),hi1,best_step hf (by (first | (exact absurd (e29.symm.trans e50) dx) | simp only[bestF,e14,e26,e29,e50,e53,e66,sb])),by first | exact hi1 | exact hlo,by first | exact hi1 | exact hhi⟩ (c5 Y Y Y Y Y trivial) (ai Y trivial) Y (by show s.lems.length - (i+1) < s.lems.length - i;omega)
    ·replace e50:=not_f e50;refine aa (c:=ari_succ (by show i+1≤_;omega)) ?_;refine au ?_;exact pe ⟨(i+1,lo,hi),hi1,best_step hf (by (first | (exact absurd (e29.symm.trans e50) dx) | simp only[bestF,e14,e26,e29,e50,sb])),by first | exact hi1 | exact hlo,by first | exact hi1 | exact hhi⟩ (c5 Y Y Y Y Y trivial) (ai Y trivial) Y (by show s.lems.length - (i+1) < s.lems.length - i;omega)
 ·have hj:s.lems.length≤i:=le_ge e14;exact ar (c:=by rw[best_end hf hi0 hj])
theorem r_atLeast {s:Sc} {a b:Nat} {v:Int} (h:s.Va a b) (h0:0≤v) (h9:v≤1000000):PCalls Tryz.prog TU 119 [scP s,iP v] (mmsP (atLeastR s v)):=by
 refine pcA [85] Tryz.func119 (fun D=>?_);refine a2 (fun e10=>?_) (fun e10=>?_)
 ·refine ac (c:=r_of 1 dx dx) ?_;exact ar (c:=by (try simp only[List.length_map] at *);simp only[atLeastR,e10,sb]<;>rfl)
 ·refine aa (c:=ari_sub om om om (by have:=h.n9;omega)) ?_;refine ac (c:=r_of 1 dx dx) ?_;exact ar (c:=by (try simp only[List.length_map] at *);simp only[atLeastR,e10,sb]<;>rfl)
theorem r_atMost {s:Sc} {a b:Nat} {v:Int} (h:s.Va a b) (h0:0≤v) (h9:v≤1000000):PCalls Tryz.prog TU 118 [scP s,iP v] (.tup [mmsP (atMostR s v).1,bP (atMostR s v).2]):=by
 refine pcA [85,35] Tryz.func118 (fun D=>?_);refine ac (c:=r_of 1 dx dx) ?_;refine a2 (fun e20=>?_) (fun e20=>?_)
 ·exact ar (c:=by (try simp only[List.length_map] at *);simp only[atMostR,e20,sb]<;>rfl)
 ·obtain⟨b1,b2⟩:=bestR_le s.lems (v - s.q.g.inputs);refine aa (c:=ari_sub om om om (by have:=h.n9;omega)) ?_;refine ac (c:=r_best h) ?_;refine a2 (fun e40=>?_) (fun e40=>?_)
  ·exact ar (c:=by (try simp only[List.length_map] at *);simp only[atMostR,e20,e40,sb]<;>rfl)
  ·refine a2 (fun e43=>?_) (fun e43=>?_)
   ·exact ar (c:=by (try simp only[List.length_map] at *);simp only[atMostR,e20,e40,e43,sb]<;>rfl)
   ·obtain⟨g1,l8⟩:=lem_at h e40 b1;obtain⟨g2,u8⟩:=lem_at h e43 b2;refine aa (c:=ari_pred (nz_pos e40) (by have:=h.l9;omega)) ?_;refine ax (c:=(getmap (get_of g1))) ?_;refine aa (c:=ari_pred (nz_pos e43) (by have:=h.l9;omega)) ?_;refine ax (c:=(getmap (get_of g2))) ?_;refine ac (c:=r_sign (u8.sm dx)) ?_;refine a2 (fun e58=>?_) (fun e58=>?_)
    ·exact ar (c:=by (try simp only[List.length_map] at *);simp only[atMostR,e20,e40,e43,e58,sb]<;>rfl)
    ·refine ac (c:=r_sign (l8.sm dx)) ?_;refine a2 (fun e68=>?_) (fun e68=>?_)
     ·exact ar (c:=by (try simp only[List.length_map] at *);simp only[atMostR,e20,e40,e43,e58,e68,sb]<;>rfl)
     ·have h00:=span_pos l8.ok (of_decide_eq_false e58) (of_decide_eq_false e68);have hd8:=sz_one.div (u8.add l8.neg) h00;refine ac (c:=r_sub (u8.sm dx) (l8.sm dx) u8.ok l8.neg.ok) ?_;refine ac (c:=r_div (x:=Q.one) (sz_one.sm dx) ((u8.add l8.neg).sm dx) h00) ?_;refine ac (c:=r_mul (hd8.sm dx) (u8.sm dx)) ?_;exact ar (c:=by (try simp only[List.length_map] at *);simp only[atMostR,e20,e40,e43,e58,e68,sb]<;>rfl)
theorem r_above {s:Sc} {f:Fm} {a b:Nat} (h:s.Va a b) (hf:f.S 3 8) (hv:∀t∈f.terms,0≤t.1∧t.1≤1000):PCalls Tryz.prog TF 64 [scP s,fmP f] (.tup [ratP (aboveR s f).1,mmsP (aboveR s f).2.1,bP (aboveR s f).2.2]):=by
 refine pcA [85,37,35,138] Tryz.func64 (fun D=>?_);refine pa Y Y (pa Y Y ?_)
 apply pcutP (sl:=[(2,_),(3,_),(4,_),(5,_),(6,_),(7,.pv (mmsP ((aboveGo s f.terms []).getD [])))]) (rs:=[(2,_),(3,_),(4,_)]) [85,37,35] (aboveGo s f.terms []=some ((aboveGo s f.terms []).getD []))
 case h1=>
  refine au ?_;refine pwk ?_;refine pl (ι:={p:Nat×List Mm // p.1≤f.terms.length∧aboveGo s (f.terms.drop p.1) p.2=aboveGo s f.terms []∧(∀x∈p.2,x.2.S (1+p.1*60))∧p.2.length≤p.1*2}) (fun p=>[(2,.box 2 0),(3,.box 3 0),(4,.box 4 0),(5,.pv (mmsP [])),(6,.pv (bP false)),(7,.pv (mmsP p.1.2)),(8,.pv (iP p.1.1))]) (fun p=>[(2,.box 85 [.pv (iP s.q.g.inputs),.pv (formsP s.q.g.units),.pv (formsP s.q.g.outputs),.pv (ratsP s.q.rg.lo),.pv (ratsP s.q.rg.hi),.pv (formsP s.q.rg.rows),.pv (termsP s.q.goal.terms),.pv (bP s.q.goal.const.neg),.pv (.nat s.q.goal.const.num),.pv (.nat s.q.goal.const.den),.pv (dcsP s.path),.pv (lmsP s.lems)]),(3,.box 37 [.pv (termsP f.terms),.pv (bP f.const.neg),.pv (.nat f.const.num),.pv (.nat f.const.den)]),(4,.box 35 [.pv (.raw (.bool false)),.pv (.nat 0),.pv (.nat 0)])]) [85,37,35,138] (fun p=>f.terms.length - p.1.1) ⟨(0,[]),nq _,rfl,(fun x hx=>by cases hx),nr _⟩ (c7 Y Y Y Y Y Y Y trivial) (c3 Y Y Y trivial) (fun _=>rfl) ?_;intro ⟨(i,acc),hi0,hg,hacc,hlen⟩;simp only at hi0 hg hacc hlen;refine a2 (fun e19=>?_) (fun e19=>?_)
  ·have hi:i < f.terms.length:=lt_of e19;have hl8:=hf.len;have ht:=hf.each _ (mg (get_of hi));have vt:=hv _ (mg (get_of hi));obtain⟨ms,ml⟩:=more_S h (atZ f.terms (i:Int));refine ax (c:=(getmap (get_of hi))) ?_;refine ac (c:=r_atMost h vt.1 om) ?_;refine ac (c:=r_sign (ht.sm dx)) ?_;refine a2 (fun e37=>?_) (fun e37=>?_)
   ·have hmo:moreR s (atZ f.terms (i:Int))=(atLeastR s (atZ f.terms (i:Int)).1,true):=by simp only[moreR,e37,cond_true]
    rw[hmo] at ms ml;simp only at ms ml;refine ac (c:=r_atLeast h vt.1 om) ?_;refine ac (c:=r_merge (n:=1+i*60) (m:=26) (k:=3) hacc ms ht.abs om dx dx om) ?_;refine aa (c:=ari_succ (by show i≤_;omega)) ?_;refine au ?_;obtain⟨k1,k2⟩:=merge_S ht.abs hacc ms;exact pe ⟨(i+1,mergeR (atZ f.terms (i:Int)).2.abs acc _),hi,above_step hi hg (hmo.trans (Prod.ext Y Y)),fun x hx=>(k1 x hx).up (by show _≤1+(i+1)*60;have:=Nat.mul_le_mul_right 30 ml;omega),nt k2 (by show _≤(i+1)*2;omega)⟩ (c7 Y Y Y Y Y Y Y trivial) (c3 Y Y Y trivial) Y (by show f.terms.length - (i+1) < f.terms.length - i;omega)
   ·have hmo:moreR s (atZ f.terms (i:Int))=atMostR s (atZ f.terms (i:Int)).1:=by simp only[moreR,e37,cond_false]
    rw[hmo] at ms ml;refine a2 (fun e43=>?_) (fun e43=>?_)
    ·replace e43:=not_t e43;exact ar (c:=by rw[above_none hi hg (by rw[hmo];exact e43)];rfl)
    ·replace e43:=not_f e43;refine ac (c:=r_merge (n:=1+i*60) (m:=26) (k:=3) hacc ms ht.abs om dx dx om) ?_;refine aa (c:=ari_succ (by show i≤_;omega)) ?_;refine au ?_;obtain⟨k1,k2⟩:=merge_S ht.abs hacc ms;exact pe ⟨(i+1,mergeR (atZ f.terms (i:Int)).2.abs acc _),hi,above_step hi hg (hmo.trans (Prod.ext Y e43)),fun x hx=>(k1 x hx).up (by show _≤1+(i+1)*60;have:=Nat.mul_le_mul_right 30 ml;omega),nt k2 (by show _≤(i+1)*2;omega)⟩ (c7 Y Y Y Y Y Y Y trivial) (c3 Y Y Y trivial) Y (by show f.terms.length - (i+1) < f.terms.length - i;omega)
  ·have hj:f.terms.length≤i:=ge_of e19;refine au ?_;refine⟨?_,by rw[above_end hg hj];rfl⟩;refine Sub.of ?_ ?_ ?_
   ·exact (c5 Y Y Y Y Y (ai (congrArg (fun x=>some (SV.pv (mmsP x))) (by show acc=_;rw[above_end hg hj];rfl)) trivial))
   ·exact (c3 Y Y Y trivial)
   ·rfl
 case h2=>
  intro hsome;have hL:=aboveGo_S h hf hsome;have hl8:=hf.len;have hKK:=Nat.mul_le_mul_right (41+481) hL.2;refine ac (c:=r_sum (n:=481) h hL.1 om dx om) ?_;refine ac (c:=r_fsub hf (sumR_S h hL.1) om om) ?_;exact ar (c:=by unfold aboveR;rw[hsome];rfl)
theorem r_bounded {s:Sc} {a b:Nat} (h:∀j,j≤s.q.g.units.length→(boundedN s j).Va a b) (hv:∀p∈s.q.g.units,∀t∈p.terms,0≤t.1∧t.1≤1000):PCalls Tryz.prog TF 26 [scP s] (scP (boundedR s)):=by
 have hs0:s.Va a b:=h 0 (nq _);have hu8:=hs0.n9;refine pcA [85,37,35,100] Tryz.func26 (fun D=>?_);refine au ?_;refine rp0 el_Lemma (by have:=(show s.lems.length≤1000 from hs0.l9);simp;omega) Y Y Y Y Y Y Y Y ?_;refine au ?_;refine pwk ?_;refine pl (ι:={p:Nat×List Lm // p.1≤s.q.g.units.length∧boundedN s p.1=⟨s.q,s.path,p.2⟩}) (fun p=>[(1,.box 1 0),(2,.box 2 0),(3,.box 3 0),(4,.pv (iP p.1.1))]) (fun p=>[(1,.box 85 [.pv (iP s.q.g.inputs),.pv (formsP s.q.g.units),.pv (formsP s.q.g.outputs),.pv (ratsP s.q.rg.lo),.pv (ratsP s.q.rg.hi),.pv (formsP s.q.rg.rows),.pv (termsP s.q.goal.terms),.pv (bP s.q.goal.const.neg),.pv (.nat s.q.goal.const.num),.pv (.nat s.q.goal.const.den),.pv (dcsP s.path),.pv (lmsP s.lems)]),(2,.box 85 [.pv (.raw (.int .i64 0)),.pv (formsP []),.pv (formsP []),.pv (ratsP []),.pv (ratsP []),.pv (formsP []),.pv (termsP []),.pv (.raw (.bool false)),.pv (.nat 0),.pv (.nat 0),.pv (dcsP []),.pv (lmsP [])]),(3,.box 85 [.pv (iP s.q.g.inputs),.pv (formsP s.q.g.units),.pv (formsP s.q.g.outputs),.pv (ratsP s.q.rg.lo),.pv (ratsP s.q.rg.hi),.pv (formsP s.q.rg.rows),.pv (termsP s.q.goal.terms),.pv (bP s.q.goal.const.neg),.pv (.nat s.q.goal.const.num),.pv (.nat s.q.goal.const.den),.pv (dcsP s.path),.tok 16]),(16,.tok 100 6 [200,98] (p.1.2.map lmC))]) [85,37,35,100] (fun p=>s.q.g.units.length - p.1.1) ⟨(0,s.lems),nq _,rfl⟩ (c4 Y Y Y Y trivial) (c4 Y Y Y Y trivial) (fun _=>rfl) ?_;intro ⟨(j,ls),hj0,hg⟩;simp only at hj0 hg;refine a2 (fun e27=>?_) (fun e27=>?_)
 ·have hj1:j < s.q.g.units.length:=lt_of e27;have hva:(⟨s.q,s.path,ls⟩:Sc).Va a b:=hg▸h j hj0;have hp:(atZ s.q.g.units (j:Int)).S 2 8:=(hs0.q.us _ (mg (get_of hj1))).up hs0.a9 hs0.n9;have hvv:=hv _ (mg (get_of hj1));have hw:=(aboveR_S hva (hp.scaleR sz_mone)).1;refine ax (c:=(getmap (get_of hj1))) ?_;refine ac (c:=r_above hva (hp.up dx (nr _)) hvv) ?_;refine ac (c:=r_of (-1) dx dx) ?_;refine ac (c:=r_fscale (q:=Q.mone) hp sz_mone dx dx dx) ?_;refine ac (c:=r_above hva (hp.scaleR sz_mone) (scale_vars hp.cn (P:=fun v=>0≤v∧v≤1000) hvv)) ?_;refine a2 (fun e53=>?_) (fun e53=>?_)
  ·refine au ?_;refine rp0 el_Lemma (by have:=(show ls.length≤1000 from hva.l9);simp;omega) Y Y Y Y Y Y Y Y ?_;refine a2 (fun e63=>?_) (fun e63=>?_)
   ·refine ac (c:=r_neg (hw.sm dx)) ?_;refine au ?_;refine rp0 el_Lemma (by have:=(show ls.length≤1000 from hva.l9);simp;omega) Y Y Y Y Y Y Y Y ?_;refine aa (c:=ari_succ (by show j≤_;omega)) ?_;refine au ?_;exact pe ⟨(j+1,addLm ls (j:Int) (aboveR ⟨s.q,s.path,ls⟩ (atZ s.q.g.units (j:Int))) (aboveR ⟨s.q,s.path,ls⟩ (Fm.scaleR (atZ s.q.g.units (j:Int)) Q.mone))),hj1,by rw[boundedN,hg];rfl⟩ (c4 Y Y Y Y trivial) (c3 Y Y Y (ai (congrArg (fun x=>some (Res.tok 100 6 [200,98] x)) (by show _=(addLm ls (j:Int) (aboveR ⟨s.q,s.path,ls⟩ (atZ s.q.g.units (j:Int))) (aboveR ⟨s.q,s.path,ls⟩ (Fm.scaleR (atZ s.q.g.units (j:Int)) Q.mone))).map lmC;simp only[addLm,e27,e53,e63,sb,List.map_append,List.map_cons,List.map_nil,List.append_nil,List.nil_append,List.append_assoc]<;>rfl)) trivial)) Y (by show s.q.g.units.length - (j+1) < s.q.g.units.length - j;omega)
   ·refine aa (c:=ari_succ (by show j≤_;omega)) ?_;refine au ?_;exact pe ⟨(j+1,addLm ls (j:Int) (aboveR ⟨s.q,s.path,ls⟩ (atZ s.q.g.units (j:Int))) (aboveR ⟨s.q,s.path,ls⟩ (Fm.scaleR (atZ s.q.g.units (j:Int)) Q.mone))),hj1,by rw[boundedN,hg];rfl⟩ (c4 Y Y Y Y trivial) (c3 Y Y Y (ai (congrArg (fun x=>some (Res.tok 100 6 [200,98] x)) (by show _=(addLm ls (j:Int) (aboveR ⟨s.q,s.path,ls⟩ (atZ s.q.g.units (j:Int))) (aboveR ⟨s.q,s.path,ls⟩ (Fm.scaleR (atZ s.q.g.units (j:Int)) Q.mone))).map lmC;simp only[addLm,e27,e53,e63,sb,List.map_append,List.map_cons,List.map_nil,List.append_nil,List.nil_append,List.append_assoc]<;>rfl)) trivial)) Y (by show s.q.g.units.length - (j+1) < s.q.g.units.length - j;omega)
  ·refine a2 (fun e63=>?_) (fun e63=>?_)
   ·refine ac (c:=r_neg (hw.sm dx)) ?_;refine au ?_;refine rp0 el_Lemma (by have:=(show ls.length≤1000 from hva.l9);simp;omega) Y Y Y Y Y Y Y Y ?_;refine aa (c:=ari_succ (by show j≤_;omega)) ?_;refine au ?_;exact pe ⟨(j+1,addLm ls (j:Int) (aboveR ⟨s.q,s.path,ls⟩ (atZ s.q.g.units (j:Int))) (aboveR ⟨s.q,s.path,ls⟩ (Fm.scaleR (atZ s.q.g.units (j:Int)) Q.mone))),hj1,by rw[boundedN,hg];rfl⟩ (c4 Y Y Y Y trivial) (c3 Y Y Y (ai (congrArg (fun x=>some (Res.tok 100 6 [200,98] x)) (by show _=(addLm ls (j:Int) (aboveR ⟨s.q,s.path,ls⟩ (atZ s.q.g.units (j:Int))) (aboveR ⟨s.q,s.path,ls⟩ (Fm.scaleR (atZ s.q.g.units (j:Int)) Q.mone))).map lmC;simp only[addLm,e27,e53,e63,sb,List.map_append,List.map_cons,List.map_nil,List.append_nil,List.nil_append,List.append_assoc]<;>rfl)) trivial)) Y (by show s.q.g.units.length - (j+1) < s.q.g.units.length - j;omega)
   ·refine aa (c:=ari_succ (by show j≤_;omega)) ?_;refine au ?_;exact pe ⟨(j+1,addLm ls (j:Int) (aboveR ⟨s.q,s.path,ls⟩ (atZ s.q.g.units (j:Int))) (aboveR ⟨s.q,s.path,ls⟩ (Fm.scaleR (atZ s.q.g.units (j:Int)) Q.mone))),hj1,by rw[boundedN,hg];rfl⟩ (c4 Y Y Y Y trivial) (c3 Y Y Y (ai (congrArg (fun x=>some (Res.tok 100 6 [200,98] x)) (by show _=(addLm ls (j:Int) (aboveR ⟨s.q,s.path,ls⟩ (atZ s.q.g.units (j:Int))) (aboveR ⟨s.q,s.path,ls⟩ (Fm.scaleR (atZ s.q.g.units (j:Int)) Q.mone))).map lmC;simp only[addLm,e27,e53,e63,sb,List.map_append,List.map_cons,List.map_nil,List.append_nil,List.nil_append,List.append_assoc]<;>rfl)) trivial)) Y (by show s.q.g.units.length - (j+1) < s.q.g.units.length - j;omega)
 ·have hjj:s.q.g.units.length≤j:=ge_of e27;exact ar (c:=by rw[show boundedR s=⟨s.q,s.path,ls⟩ from by unfold boundedR;rw[← hg,show s.q.g.units.length=j from by omega]];rfl)
inductive Nd where
 | mk (lems:List Lm) (split:Dc) (kids:List Nd) (empty:Bool) (proof:List Mm)
abbrev ndT:List Nat:=[100,98,200,46]
mutual
def ndC:Nd→List PV
 | .mk ls d ks e p=>[lmsP ls,iP d.kind,iP d.index,bP d.at_.neg,.nat d.at_.num,.nat d.at_.den,.rows 46 9 ndT (ndCs ks),bP e,mmsP p]
def ndCs:List Nd→List (List PV)
 | []=>[]
 | k::ks=>ndC k::ndCs ks
end
abbrev ndP (n:Nd):PV:=.agg (ndC n)
abbrev ndsP (l:List Nd):PV:=.rows 46 9 ndT (ndCs l)
theorem ndCs_map:∀(l:List Nd),ndCs l=l.map ndC
 | []=>by rw[ndCs];rfl
 | k::ks=>by rw[ndCs,ndCs_map ks];rfl
def Nd.lems:Nd→List Lm | .mk ls _ _ _ _=>ls
def Nd.split:Nd→Dc | .mk _ d _ _ _=>d
def Nd.kids:Nd→List Nd | .mk _ _ ks _ _=>ks
def Nd.empty:Nd→Bool | .mk _ _ _ e _=>e
def Nd.proof:Nd→List Mm | .mk _ _ _ _ p=>p
abbrev dc0:Dc:=⟨0,0,Q.zero⟩
abbrev scR (q:Qr) (rows:List (List PV)) (ls:List Lm):PV:=.agg [iP q.g.inputs,formsP q.g.units,formsP q.g.outputs,ratsP q.rg.lo,ratsP q.rg.hi,formsP q.rg.rows,termsP q.goal.terms,bP q.goal.const.neg,.nat q.goal.const.num,.nat q.goal.const.den,.rows 42 5 [200] rows,lmsP ls]
theorem scR_eq (q:Qr) (p:List Dc) (d:Dc) (ls:List Lm):scR q (p.map dcC++[dcC d]) ls=scP ⟨q,p++[d],ls⟩:=by
 show scR q (p.map dcC++[dcC d]) ls=scR q ((p++[d]).map dcC) ls;rw[List.map_append];rfl
def Sc.dec (s:Sc) (kind:Int) (k:Nat):Sc:=⟨s.q,s.path++[⟨kind,(k:Int),Q.zero⟩],s.lems⟩
def growR:Nat→Sc→Bool→Nd×Q
 | 0,s,root=>(.mk ((boundedR s).lems.drop (bif root then 0 else s.lems.length)) dc0 [] false (aboveR (boundedR s) s.q.goal).2.1,(aboveR (boundedR s) s.q.goal).1)
 | k+1,s,root=>(.mk (bif root then s.lems else []) ⟨1,(k:Int),Q.zero⟩ [(growR k (s.dec 1 k) false).1,(growR k (s.dec 2 k) false).1] false [],minR (growR k (s.dec 1 k) false).2 (growR k (s.dec 2 k) false).2)
def GrowOk (a b:Nat):Nat→Sc→Prop
 | 0,s=>∀j,j≤s.q.g.units.length→(boundedN s j).Va a b
 | k+1,s=>GrowOk a b k (s.dec 1 k)∧GrowOk a b k (s.dec 2 k)∧(growR k (s.dec 1 k) false).2.S 1000∧(growR k (s.dec 2 k) false).2.S 1000∧s.path.length≤100
theorem bounded_len (s:Sc):∀j,s.lems.length≤(boundedN s j).lems.length
 | 0=>nr _
 | j+1=>by
  show _≤(addLm _ _ _ _).length;unfold addLm;rw[List.length_append];exact nt (bounded_len s j) (Nat.le_add_right ..)
theorem bounded_q (s:Sc):∀j,(boundedN s j).q=s.q∧(boundedN s j).path=s.path
 | 0=>⟨rfl,rfl⟩
 | j+1=>bounded_q s j
theorem rz_S {q:Q} {D M:Nat} (h:q.Ok) (hz:Rz q.r D M) (hD:0 < D) (hD9:D < 79228162514264337593543950336) (hM:M < 79228162514264337593543950336):q.S 3:=by
 obtain⟨z,hz,hm⟩:=hz;obtain⟨h1,h2⟩:=dz_bd h hD hz;have hb:∀n,n < 79228162514264337593543950336→(limbs n).length≤3:=fun n hn=>limbs_len_le (k:=3) (by rw[show B32 ^ 3=79228162514264337593543950336 from rfl];exact hn)
 exact⟨hb _ om,hb _ om,h⟩
theorem above_ok (s:Sc) (f:Fm):(aboveR s f).1.Ok:=by
 unfold aboveR;cases aboveGo s f.terms [] with
 | none=>exact (by decide:Q.zero.Ok)
 | some L=>exact Q.add_ok ..
theorem scale_dz {p:Fm} {n C:Nat} (h:p.Dz n C) (hc:p.Cn):(Fm.scaleR p Q.mone).Dz n C where
 each t ht:=by
  refine⟨?_,scale_vars hc (P:=fun v=>0≤v∧v < (n:Int)) (fun t ht=>(h.each t ht).2) t ht⟩;exact scaleT_all (P:=fun x=>Rz x.r 4 C) p.terms [] (fun x hx=>by cases hx) (fun x hx=>by
   show Rz (Q.mul x.2 Q.mone).r 4 C;rw[Q.mul_r,mone_r];have:x.2.r*-1=-x.2.r:=by grind
   rw[this];exact (h.each x hx).1.neg) t ht
 const:=by
  show Rz (Q.mul p.const Q.mone).r 4 C;rw[Q.mul_r,mone_r];have:p.const.r*-1=-p.const.r:=by grind
  rw[this];exact h.const.neg
def MM (D M:Nat):Nat→Nat
 | 0=>M
 | j+1=>16*(4 ^ j*D)+128*MM D M j
theorem bounded_dz {s:Sc} {a D M:Nat} (hs:s.Va a 3) (hl:s.lems.length≤900) (hz:s.Dz D M) (hu:∀p∈s.q.g.units,p.Dz (s.q.g.inputs+s.q.g.units.length) 16) (hD:0 < D):∀j,j≤s.q.g.units.length→4 ^ j*D < 79228162514264337593543950336→MM D M j < 79228162514264337593543950336→(boundedN s j).Va a 3∧(boundedN s j).Dz (4 ^ j*D) (MM D M j)∧(boundedN s j).lems.length≤s.lems.length+2*j
 | 0,_,_,_=>⟨hs,by rw[Nat.pow_zero,Nat.one_mul];exact hz,nr _⟩
 | j+1,hj,h1,h2=>by
  have hp:4 ^ (j+1)*D=4*(4 ^ j*D):=by rw[Nat.pow_succ,Nat.mul_comm (4 ^ j),Nat.mul_assoc]
  have hDj:0 < 4 ^ j*D:=Nat.mul_pos (Nat.pow_pos dx) hD;have hM:MM D M (j+1)=16*(4 ^ j*D)+128*MM D M j:=rfl;obtain⟨v1,z1,l1⟩:=bounded_dz hs hl hz hu hD j om om om;obtain⟨q1,q2⟩:=bounded_q s j;have hn9:=hs.n9;have hja:j < s.q.g.units.length:=hj;generalize ht:boundedN s j=t at*;have hmem:atZ s.q.g.units (j:Int)∈s.q.g.units:=mg (get_of hja);have hpS:=hs.q.us _ hmem;have hpD:=hu _ hmem;have hlen:(atZ s.q.g.units (j:Int)).terms.length≤8:=nt hpS.len hn9;have new:∀f:Fm,f.Dz (s.q.g.inputs+s.q.g.units.length) 16→f.terms.length≤8→Rz (aboveR t f).1.r (4*(4 ^ j*D)) (MM D M (j+1)):=fun f hf hfl=>by
   have:=above_dz v1 z1 (f:=f) (C:=16) (by rw[q1];exact hf);refine this.up ?_;rw[hM];have:=Nat.mul_le_mul_right (16*MM D M j) hfl;omega
  have hA:=new _ hpD hlen;have hB:=new _ (scale_dz hpD hpS.cn) (nt (scaleT_len ..) (by simpa using hlen));have ev:∀m∈(boundedN s (j+1)).lems,m.value.Ok∧Rz m.value.r (4*(4 ^ j*D)) (MM D M (j+1)):=fun m hm=>by
   have hm':m∈(bStep t j).lems:=by rw[← ht];exact hm
   unfold bStep addLm at hm';simp only[List.mem_append,q1] at hm';rcases hm' with hm' | hm' | hm'
   ·refine⟨(v1.lems m hm').ok,?_⟩;have:=(z1.lems m hm').scale 4;rw[Nat.mul_comm _ 4] at this;exact this.up (by rw[hM];omega)
   ·cases hc:(aboveR t (atZ s.q.g.units (j:Int))).2.2 with
    | false=>rw[hc] at hm';cases hm'
    | true=>
     rw[hc] at hm';rw[mj hm'];exact⟨above_ok ..,hA⟩
   ·cases hc:(aboveR t (Fm.scaleR (atZ s.q.g.units (j:Int)) Q.mone)).2.2 with
    | false=>rw[hc] at hm';cases hm'
    | true=>
     rw[hc] at hm';rw[mj hm'];refine⟨quot_ok _ _ (Q.un_pos _),?_⟩;show Rz (Q.neg' _).r _ _;rw[Q.neg_r];exact hB.neg
  obtain⟨q3,q4⟩:=bounded_q s (j+1);have hlen2:(boundedN s (j+1)).lems.length≤s.lems.length+2*(j+1):=by
   have e:(boundedN s (j+1)).lems=(bStep t j).lems:=by rw[← ht];rfl
   rw[e];unfold bStep addLm;simp only[List.length_append];cases (aboveR t (atZ t.q.g.units (j:Int))).2.2<;>cases (aboveR t (Fm.scaleR (atZ t.q.g.units (j:Int)) Q.mone)).2.2<;>simp<;>omega
  refine⟨⟨by rw[q3];exact hs.q,by rw[q4];exact hs.path,by rw[q4];exact hs.p9,fun m hm=>rz_S (ev m hm).1 (ev m hm).2 om om h2,by omega,hs.b1,hs.b9,hs.a9,by rw[q3];exact hs.n9⟩,⟨?_,?_,?_⟩,hlen2⟩
  ·rw[q3,hp];intro q hq;have:=(hz.lo q hq);exact z_up (z1.lo q (by rw[q1];exact hq)) hM
  ·rw[q3,hp];intro q hq;exact z_up (z1.hi q (by rw[q1];exact hq)) hM
  ·rw[hp];exact fun m hm=>(ev m hm).2
where
 z_up {x:Rat} {D' M' M2 X:Nat} (h:Rz x D' M') (hM:M2=X+128*M'):Rz x (4*D') M2:=by
  have:=h.scale 4;rw[Nat.mul_comm _ 4] at this;exact this.up om
theorem above_dz2 {s:Sc} {a b D M C m K:Nat} (hs:s.Va a b) (h:s.Dz D M) {f:Fm} (hf:∀t∈f.terms,Rz t.2.r 4 C∧0≤t.1∧t.1 < ((s.q.g.inputs+s.q.g.units.length:Nat):Int)) (hc:Rz f.const.r (4*D*m) K):Rz (aboveR s f).1.r (4*D*m) (K+f.terms.length*(C*M)*m):=by
 unfold aboveR;cases e:aboveGo s f.terms [] with
 | none=>rw[show ((Q.zero,([]:List Mm),false):Q×List Mm×Bool).1=Q.zero from rfl,zero_r];exact Rz.zero _ _
 | some L=>
  simp only;rw[sub_const_r];rcases sumR_val s L with h1 | h1
  ·rw[h1];have:f.const.r - 0=f.const.r:=by grind
   rw[this];exact hc.up (Nat.le_add_right ..)
  ·rw[h1];obtain⟨ws,g1,g2,g3⟩:=above_val e;have hw:∀w∈ws,Rz w (4*D) (C*M):=fun w hw=>by
    obtain⟨i,hi,rfl⟩:=List.mem_iff_getElem.1 hw;have hi':i < f.terms.length:=by omega
    obtain⟨e1,e2⟩:=g3 i _ _ (ge hi') (ge hi);obtain⟨t1,t2,t3⟩:=hf _ (List.getElem_mem hi');rw[e1];exact (Rz.abs t1).mul (more_dz hs h t2 t3 e2)
   have hsum:=(Rz.sum hw).scale m;rw[g1] at hsum;have:f.const.r - valM (kR s) L=f.const.r+-(ws.sum):=by rw[g2,valM];grind
   rw[this];exact hc.add hsum.neg
theorem minR_or (x y:Q):minR x y=canonQ x∨minR x y=canonQ y:=by
 unfold minR;cases decide (isg (Q.add x y.neg').neg (Q.add x y.neg').num≤0)
 ·exact .inr rfl
 ·exact .inl rfl
structure GrowIn (s:Sc) (a D M m K:Nat):Prop where
 va:s.Va a 3
 len:s.lems.length≤900
 dz:s.Dz D M
 us:∀p∈s.q.g.units,p.Dz (s.q.g.inputs+s.q.g.units.length) 16
 pos:0 < D
 goal:∀t∈s.q.goal.terms,Rz t.2.r 4 16∧0≤t.1∧t.1 < ((s.q.g.inputs+s.q.g.units.length:Nat):Int)
 gl:s.q.goal.terms.length≤8
 const:Rz s.q.goal.const.r (4*(4 ^ s.q.g.units.length*D)*m) K
 mp:0 < m
 b1:4*(4 ^ s.q.g.units.length*D)*m < 79228162514264337593543950336
 b2:∀j,j≤s.q.g.units.length→MM D M j < 79228162514264337593543950336
 b3:K+8*(16*MM D M s.q.g.units.length)*m < 79228162514264337593543950336
theorem GrowIn.dec {s:Sc} {a D M m K k:Nat} {kind:Int} (h:GrowIn s a D M m K) (hp:s.path.length≤100) (ha:1≤a):GrowIn (s.dec kind k) a D M m K:=
 ⟨⟨h.va.q,fun d hd=>by
   rcases List.mem_append.1 hd with e | e
   ·exact h.va.path d e
   ·rw[mj e];exact sz_zero.up ha,by show (s.path++_).length≤1000;simp;omega,h.va.lems,h.va.l9,h.va.b1,h.va.b9,h.va.a9,h.va.n9⟩,
  h.len,⟨h.dz.lo,h.dz.hi,h.dz.lems⟩,h.us,h.pos,h.goal,h.gl,h.const,h.mp,h.b1,h.b2,h.b3⟩
theorem GrowIn.bd {s:Sc} {a D M m K:Nat} (h:GrowIn s a D M m K) (j:Nat) (hj:j≤s.q.g.units.length):(boundedN s j).Va a 3∧(boundedN s j).Dz (4 ^ j*D) (MM D M j):=by
 have h4:4 ^ j*D≤4 ^ s.q.g.units.length*D:=Nat.mul_le_mul_right _ (Nat.pow_le_pow_right dx hj);have h5:4*(4 ^ s.q.g.units.length*D)≤4*(4 ^ s.q.g.units.length*D)*m:=Nat.le_mul_of_pos_right _ h.mp;have hb1:=h.b1;obtain⟨v,z,_⟩:=bounded_dz h.va h.len h.dz h.us h.pos j hj om (h.b2 j hj);exact⟨v,z⟩
theorem GrowIn.ok {a D M m K:Nat} (ha:1≤a):∀(k:Nat) {s:Sc} {root:Bool},GrowIn s a D M m K→s.path.length+k≤100→GrowOk a 3 k s∧(growR k s root).2.S 3∧Rz (growR k s root).2.r (4*(4 ^ s.q.g.units.length*D)*m) (K+8*(16*MM D M s.q.g.units.length)*m)
 | 0,s,root,h,hp=>by
  refine⟨fun j hj=>(h.bd j hj).1,?_⟩;obtain⟨v,z⟩:=h.bd s.q.g.units.length (nr _);have hq:=(bounded_q s s.q.g.units.length).1;have:=above_dz2 (s:=boundedR s) (f:=s.q.goal) (C:=16) v z (fun t ht=>by
   have:=h.goal t ht;show Rz t.2.r 4 16∧0≤t.1∧t.1 < (((boundedN s s.q.g.units.length).q.g.inputs+(boundedN s s.q.g.units.length).q.g.units.length:Nat):Int);rw[hq];exact this) h.const
  have this:=this.up (N:=K+8*(16*MM D M s.q.g.units.length)*m) (Nat.add_le_add_left (Nat.mul_le_mul_right _ (Nat.mul_le_mul_right _ h.gl)) _);exact⟨rz_S (above_ok ..) this (Nat.mul_pos (Nat.mul_pos dx (Nat.mul_pos (Nat.pow_pos dx) h.pos)) h.mp) h.b1 h.b3,this⟩
 | k+1,s,root,h,hp=>by
  obtain⟨a1,a2,a3⟩:=GrowIn.ok ha k (root:=false) (h.dec (kind:=1) (k:=k) om ha) (by show (s.path++_).length+k≤100;simp;omega);obtain⟨b1,b2,b3⟩:=GrowIn.ok ha k (root:=false) (h.dec (kind:=2) (k:=k) om ha) (by show (s.path++_).length+k≤100;simp;omega);refine⟨⟨a1,b1,a2.up dx,b2.up dx,by omega⟩,?_⟩;show (minR _ _).S 3∧Rz (minR _ _).r _ _;rcases minR_or (growR k (s.dec 1 k) false).2 (growR k (s.dec 2 k) false).2 with e | e
  ·rw[e,a2.canon];exact⟨a2,a3⟩
  ·rw[e,b2.canon];exact⟨b2,b3⟩
theorem srt_of:∀{l:List Tm},(∀(i:Nat) (s t:Tm),l[i]?=some s→l[i+1]?=some t→s.1 < t.1)→Srt' l
 | [],_=>by simp[Srt']
 | [t],_=>by simp[Srt']
 | s::t::l,h=>by
  have ih:Srt' (t::l):=srt_of fun i a b ha hb=>h (i+1) a b (by simpa using ha) (by simpa using hb)
  have hst:=h 0 s t rfl rfl;rw[Srt',List.pairwise_cons];refine⟨fun u hu=>?_,ih⟩;rcases List.mem_cons.1 hu with e | e
  ·rw[e];exact hst
  ·have:=(List.pairwise_cons.1 ih).1 u e;omega
theorem cn_of {f:Fm} {v:Nat} (h:f.Ok v):f.Cn:=⟨srt_of h.asc,fun t ht=>⟨(h.each t ht).2.2.2,(h.each t ht).2.2.1⟩,h.const⟩
theorem srt_len:∀{l:List Tm} {a b:Int},Srt' l→(∀t∈l,a≤t.1∧t.1 < b)→a≤b→(l.length:Int)≤b - a
 | [],a,b,_,_,h=>by simp;omega
 | t::l,a,b,hs,h,hab=>by
  rw[Srt',List.pairwise_cons] at hs;have ht:=h t (mf ..);have:=srt_len (l:=l) (a:=t.1+1) (b:=b) hs.2 (fun u hu=>⟨by have:=hs.1 u hu;omega,(h u (List.mem_cons_of_mem _ hu)).2⟩) om;rw[List.length_cons];omega
theorem ok_len {f:Fm} {v:Nat} (h:f.Ok v):f.terms.length≤v:=by
 have:=srt_len (a:=0) (b:=(v:Int)) (cn_of h).srt (fun t ht=>⟨(h.each t ht).1,(h.each t ht).2.1⟩) om;omega
theorem tiny_S {q:Q} (h:q.Tiny):q.S 1:=small_S (nj h.num dx) (by unfold Q.un;split;decide;exact nj h.den dx) h.ok
theorem smallF_S {f:Fm} {v:Nat} (h:f.Small v):f.S 1 v:=⟨cn_of h.ok,fun t ht=>tiny_S (h.num t ht),tiny_S h.const,ok_len h.ok⟩
theorem qt_rz {q:Q} (h:q.Qt):Rz q.r 4 16:=by
 obtain⟨e,he⟩:=h.un;have hu:=q.un_ne;have hcast:(4:Rat)=(q.un:Rat)*(e:Rat):=by
  have:((4:Nat):Rat)=((q.un*e:Nat):Rat):=by rw[← he]
  rw[Rat.natCast_mul] at this;exact_mod_cast this
 have hle:e≤4:=Nat.le_of_dvd dx ⟨q.un,by rw[Nat.mul_comm];exact he⟩;have hn:=h.num;have hb:q.num*e≤16:=nt (Nat.mul_le_mul hn hle) dx;have ec:∀n:Nat,((n:Int):Rat)=(n:Rat):=fun n=>Rat.intCast_natCast _
 cases hs:q.neg with
 | false=>
  refine⟨((q.num*e:Nat):Int),?_,by rw[Int.natAbs_natCast];exact hb⟩;rw[ec,Rat.natCast_mul];unfold Q.r;rw[hs];simp only[sgnR,cond_false];show (q.num:Rat) / (q.un:Rat)*4=_;rw[hcast];grind
 | true=>
  refine⟨-((q.num*e:Nat):Int),?_,by rw[Int.natAbs_neg,Int.natAbs_natCast];exact hb⟩;rw[Rat.intCast_neg,ec,Rat.natCast_mul];unfold Q.r;rw[hs];simp only[sgnR,cond_true];show -(q.num:Rat) / (q.un:Rat)*4=_;rw[hcast];grind
theorem Fdp.formT {L:List Nat}:∀(n v:Nat) (ts:List Tm) {r:List Nat},Fdp L r→Fdp L (formT n v ts r).2
 | 0,_,_,_,h=>h
 | n+1,v,ts,r,h=>by
  unfold Go.Proofs.YtbhbainhmfjpdaaGreatDoor.formT;split
  ·exact Fdp.formT n (v+1) _ (h.nx 3).num
  ·exact Fdp.formT n (v+1) _ (h.nx 3)
theorem Fdp.form {L r:List Nat} (h:Fdp L r) (v:Nat):Fdp L (formQ v r).2:=Fdp.formT v 0 [] h.num
theorem form_yes {v j:Nat} {ts:List Tm} {r:List Nat} {X:List Tm×List Nat} (hj:j < v) (h:formT (v - j) j ts r=X) (h0:decide ((0:Int) < ((nx 3 r).1:Int))=true):formT (v - (j+1)) (j+1) (snoc ts j (numQ (nx 3 r).2).1) (numQ (nx 3 r).2).2=X:=by
 have h0:=of_decide_eq_true h0;rw[show v - j=v - (j+1)+1 from by omega,formT,if_pos om] at h;exact h
theorem form_no {v j:Nat} {ts:List Tm} {r:List Nat} {X:List Tm×List Nat} (hj:j < v) (h:formT (v - j) j ts r=X) (h0:decide ((0:Int) < ((nx 3 r).1:Int))=false):formT (v - (j+1)) (j+1) ts (nx 3 r).2=X:=by
 have h0:=of_decide_eq_false h0;rw[show v - j=v - (j+1)+1 from by omega,formT,if_neg om] at h;exact h
theorem form_end {v j:Nat} {ts:List Tm} {r:List Nat} {X:List Tm×List Nat} (hj:v≤j) (h:formT (v - j) j ts r=X):ts=X.1∧r=X.2:=by
 rw[show v - j=0 from by omega,formT] at h;rw[← h];exact⟨rfl,rfl⟩
theorem r_form15 {L r:List Nat} {v:Nat} (h:Fdp L r) (hv:v≤100):SCalls Tryz.prog (fun _=>True) TF 33 [.box 1000 0,.pv (iP (v:Int))] (some (feedR L r)) (feedR L (formQ v r).2) (.pv (fmP (formQ v r).1)) false:=by
 refine pcs [135,37] Tryz.func33 (fun D hH hF=>?_);refine au ?_;refine rsc0 (fun _ _ _=>trivial) (fun e=>by cases e) (r_number h) ?_;refine au ?_;refine pwk ?_;refine pl (ι:={p:Nat×List Tm×List Nat // p.1≤v∧formT (v - p.1) p.1 p.2.1 p.2.2=formT v 0 [] (numQ r).2∧Fm.Small ⟨p.2.1,(numQ r).1⟩ p.1∧Fdp L p.2.2}) (fun p=>[(0,.box 1000 0),(1,.pv (iP (v:Int))),(4,.box 4 0),(5,.box 5 0),(6,.pv (iP (p.1.1:Int)))]) (fun p=>[(4,.box 37 [.pv (termsP []),.pv (bP false),.pv (.nat 0),.pv (.nat 0)]),(5,.box 37 [.pv (termsP p.1.2.1),.pv (bP (numQ r).1.neg),.pv (.nat (numQ r).1.num),.pv (.nat (numQ r).1.den)]),(1000,feedR L p.1.2.2)]) [135,37] (fun p=>v - p.1.1) ⟨(0,[],(numQ r).2),nq _,rfl,⟨⟨fun i s t hs=>(by simp at hs),fun t ht=>(by cases ht),(numQ_tiny r).ok⟩,fun t ht=>(by cases ht),numQ_tiny r⟩,h.num⟩ (ai Y (ai Y (ai Y (ai Y (ai Y trivial))))) (ai Y (ai Y (ai Y trivial))) (fun _=>rfl) ?_;intro ⟨(j,ts,rr),hi0,hg,hs,hF⟩;simp only at hi0 hg hs hF;refine a2 (fun e12=>?_) (fun e12=>?_)
 ·have hj:j < v:=by have h:(j:Int) < (v:Int):=of_decide_eq_true e12;omega
  refine au ?_;refine rsc0 (fun _ _ _=>trivial) (fun e=>by cases e) (r_next (n:=3) hF dx) ?_;refine a2 (fun e17=>?_) (fun e17=>?_)
  ·refine ac (c:=r_var (j:Int)) ?_;refine au ?_;refine rsc0 (fun _ _ _=>trivial) (fun e=>by cases e) (r_number (hF.nx 3)) ?_;refine ac (c:=r_fscale (f:=varR (j:Int)) (q:=(numQ (nx 3 rr).2).1) (sz_var _) (tiny_S (numQ_tiny _)) dx dx dx) ?_;refine ac (c:=r_fadd (f:=⟨ts,(numQ r).1⟩) (smallF_S hs) ((sz_var _).scaleR (tiny_S (numQ_tiny _))) dx om) ?_;refine aa (c:=ari_succ (by show j≤_;omega)) ?_;refine au ?_;exact pe ⟨(j+1,snoc ts j (numQ (nx 3 rr).2).1,(numQ (nx 3 rr).2).2),hj,form_yes hj hg e17,snoc_small hs (numQ_tiny _),(hF.nx 3).num⟩ (ai Y (ai Y (ai Y (ai Y (ai Y trivial))))) (ai Y (ai (congrArg (fun f:Fm=>some (Res.box 37 [.pv (termsP f.terms),.pv (bP f.const.neg),.pv (.nat f.const.num),.pv (.nat f.const.den)])) (addR_var hs (numQ_tiny _))) (ai Y trivial))) Y (by show v - (j+1) < v - j;omega)
  ·refine aa (c:=ari_succ (by show j≤_;omega)) ?_;refine au ?_;exact pe ⟨(j+1,ts,(nx 3 rr).2),hj,form_no hj hg e17,⟨hs.ok.mono (Nat.le_succ _),hs.num,hs.const⟩,hF.nx 3⟩ (ai Y (ai Y (ai Y (ai Y (ai Y trivial))))) (ai Y (ai Y (ai Y trivial))) Y (by show v - (j+1) < v - j;omega)
 ·have hj:v≤j:=by have h:¬(j:Int) < (v:Int):=of_decide_eq_false e12;omega
  refine au ?_;exact rets Y (congrArg (fun l=>SV.pv (fmP ⟨l,(numQ r).1⟩)) (form_end hj hg).1) (congrArg (fun l=>some (feedR L l)) (form_end hj hg).2)
theorem Fdp.units {L:List Nat}:∀(n v:Nat) {r:List Nat},Fdp L r→Fdp L (unitsQ n v r).2
 | 0,_,_,h=>h
 | n+1,v,r,h=>Fdp.units n (v+1) (h.form v)
theorem Fdp.outs {L:List Nat}:∀(n v:Nat) {r:List Nat},Fdp L r→Fdp L (outsQ n v r).2
 | 0,_,_,h=>h
 | n+1,v,r,h=>Fdp.outs n v (h.form v)
theorem units_step {u n j:Nat} {acc:List Fm} {r:List Nat} {X:List Fm×List Nat} (hj:j < u) (h:(acc++(unitsQ (u - j) (n+j) r).1,(unitsQ (u - j) (n+j) r).2)=X):((acc++[(formQ (n+j) r).1])++(unitsQ (u - (j+1)) (n+(j+1)) (formQ (n+j) r).2).1,(unitsQ (u - (j+1)) (n+(j+1)) (formQ (n+j) r).2).2)=X:=by
 rw[← h,show u - j=u - (j+1)+1 from by omega,unitsQ,List.append_assoc];rfl
theorem units_end {u n j:Nat} {acc:List Fm} {r:List Nat} {X:List Fm×List Nat} (hj:u≤j) (h:(acc++(unitsQ (u - j) (n+j) r).1,(unitsQ (u - j) (n+j) r).2)=X):acc=X.1∧r=X.2:=by
 rw[← h,show u - j=0 from by omega,unitsQ,List.append_nil];exact⟨rfl,rfl⟩
theorem outs_step {u n j:Nat} {acc:List Fm} {r:List Nat} {X:List Fm×List Nat} (hj:j < u) (h:(acc++(outsQ (u - j) n r).1,(outsQ (u - j) n r).2)=X):((acc++[(formQ n r).1])++(outsQ (u - (j+1)) n (formQ n r).2).1,(outsQ (u - (j+1)) n (formQ n r).2).2)=X:=by
 rw[← h,show u - j=u - (j+1)+1 from by omega,outsQ,List.append_assoc];rfl
theorem outs_end {u n j:Nat} {acc:List Fm} {r:List Nat} {X:List Fm×List Nat} (hj:u≤j) (h:(acc++(outsQ (u - j) n r).1,(outsQ (u - j) n r).2)=X):acc=X.1∧r=X.2:=by
 rw[← h,show u - j=0 from by omega,outsQ,List.append_nil];exact⟨rfl,rfl⟩
theorem ari_one {x:Nat} (h:x≤1000):ariO .add .i64 1 (x:Int)=some ((1+x:Nat):Int):=by
 show some (IntKind.wrap .i64 (1+(x:Int)))=_;rw[i64_wrap om om];exact congrArg some om
theorem ari_nat {x y:Nat} (h:x≤1000) (k:y≤1000):ariO .add .i64 (x:Int) (y:Int)=some ((x+y:Nat):Int):=by
 show some (IntKind.wrap .i64 ((x:Int)+(y:Int)))=_;rw[i64_wrap om om];exact congrArg some om
theorem fm_snoc {l:List Fm} {f:Fm}:l.map fmC++[fmC f]=(l++[f]).map fmC:=by rw[List.map_append];rfl
theorem q_snoc {l:List Q} {f:Q}:l.map qC++[qC f]=(l++[f]).map qC:=by rw[List.map_append];rfl
theorem r_graph {L r:List Nat} (h:Fdp L r):SCalls Tryz.prog (fun _=>True) TF 116 [.box 1000 0] (some (feedR L r)) (feedR L (graphQ r).2) (.pv (gmP (graphQ r).1)) false:=by
 have n1:=nx_lt (n:=3) dx r;have n2:=nx_lt (n:=5) dx (nx 3 r).2;have n3:=nx_lt (n:=3) dx (nx 5 (nx 3 r).2).2;have hr3:=((h.nx 3).nx 5).nx 3;refine pcs [135,27,37] Tryz.func116 (fun D hH hF=>?_);refine au ?_;refine rsc0 (fun _ _ _=>trivial) (fun e=>by cases e) (r_next (n:=3) h dx) ?_;refine aa (c:=ari_one om) ?_;refine au ?_;refine rsc0 (fun _ _ _=>trivial) (fun e=>by cases e) (r_next (n:=5) (h.nx 3) dx) ?_;refine au ?_;refine rsc0 (fun _ _ _=>trivial) (fun e=>by cases e) (r_next (n:=3) ((h.nx 3).nx 5) dx) ?_;refine aa (c:=ari_one om) ?_;refine au ?_;refine tkb (b:=3) (off:=1) (id:=31) (e:=37) (k:=4) (ts:=[138,200]) Y ?_;refine tkb (b:=3) (off:=2) (id:=47) (e:=37) (k:=4) (ts:=[138,200]) Y ?_;refine pl (ι:={p:Nat×List Fm×List Nat // p.1≤(nx 5 (nx 3 r).2).1∧(p.2.1++(unitsQ ((nx 5 (nx 3 r).2).1 - p.1) ((1+(nx 3 r).1)+p.1) p.2.2).1,(unitsQ ((nx 5 (nx 3 r).2).1 - p.1) ((1+(nx 3 r).1)+p.1) p.2.2).2)=unitsQ (nx 5 (nx 3 r).2).1 (1+(nx 3 r).1) (nx 3 (nx 5 (nx 3 r).2).2).2∧p.2.1.length=p.1∧Fdp L p.2.2}) (fun p=>[(0,.box 1000 0),(2,.box 2 0),(3,.box 3 0),(4,.pv (iP ((nx 5 (nx 3 r).2).1:Nat))),(5,.pv (iP ((1+(nx 3 (nx 5 (nx 3 r).2).2).1):Nat))),(6,.pv (iP (p.1.1:Nat)))]) (fun p=>[(2,.box 27 [.pv (iP 0),.nil 37 4 [138,200],.nil 37 4 [138,200]]),(3,.box 27 [.pv (iP ((1+(nx 3 r).1):Nat)),.tok 31,.tok 47]),(31,.tok 37 4 [138,200] (p.1.2.1.map fmC)),(47,.tok 37 4 [138,200] (([]:List Fm).map fmC)),(1000,feedR L p.1.2.2)]) [135,27,37] (fun p=>(nx 5 (nx 3 r).2).1 - p.1.1) ⟨(0,[],(nx 3 (nx 5 (nx 3 r).2).2).2),nq _,rfl,rfl,hr3⟩ (ai Y (ai Y (ai Y (ai Y (ai Y (ai Y trivial)))))) (ai Y (ai Y (ai Y (ai Y (ai Y trivial))))) (fun _=>rfl) ?_;intro ⟨(j,acc,rr),hj0,hg,hl,hF⟩;simp only at hj0 hg hl hF;refine a2 (fun e19=>?_) (fun e19=>?_)
 ·have hj:j < (nx 5 (nx 3 r).2).1:=by have h:(j:Int) < (((nx 5 (nx 3 r).2).1:Nat):Int):=of_decide_eq_true e19;omega
  refine aa (c:=ari_nat om (by show j≤_;omega)) ?_;refine rsc0 (fun _ _ _=>trivial) (fun e=>by cases e) (r_form15 (v:=(1+(nx 3 r).1)+j) hF om) ?_;refine au ?_;refine rp0 el_Affine (by rw[List.length_map];show acc.length+1≤_;omega) Y Y Y Y Y Y Y Y ?_;refine aa (c:=ari_succ (by show j≤_;omega)) ?_;refine au ?_;exact pe ⟨(j+1,acc++[(formQ ((1+(nx 3 r).1)+j) rr).1],(formQ ((1+(nx 3 r).1)+j) rr).2),hj,units_step hj hg,by rw[List.length_append,hl];rfl,hF.form _⟩ (ai Y (ai Y (ai Y (ai Y (ai Y (ai Y trivial)))))) (ai Y (ai Y (ai (congrArg (fun x=>some (Res.tok _ _ _ x)) fm_snoc) (ai Y (ai Y trivial))))) Y (by show (nx 5 (nx 3 r).2).1 - (j+1) < (nx 5 (nx 3 r).2).1 - j;omega)
 ·have hj:(nx 5 (nx 3 r).2).1≤j:=by have h:¬(j:Int) < (((nx 5 (nx 3 r).2).1:Nat):Int):=of_decide_eq_false e19;omega
  obtain⟨rfl,rfl⟩:=units_end hj hg;refine au ?_;refine pl (ι:={p:Nat×List Fm×List Nat // p.1≤(1+(nx 3 (nx 5 (nx 3 r).2).2).1)∧(p.2.1++(outsQ ((1+(nx 3 (nx 5 (nx 3 r).2).2).1) - p.1) ((1+(nx 3 r).1)+(nx 5 (nx 3 r).2).1) p.2.2).1,(outsQ ((1+(nx 3 (nx 5 (nx 3 r).2).2).1) - p.1) ((1+(nx 3 r).1)+(nx 5 (nx 3 r).2).1) p.2.2).2)=outsQ (1+(nx 3 (nx 5 (nx 3 r).2).2).1) ((1+(nx 3 r).1)+(nx 5 (nx 3 r).2).1) (unitsQ (nx 5 (nx 3 r).2).1 (1+(nx 3 r).1) (nx 3 (nx 5 (nx 3 r).2).2).2).2∧p.2.1.length=p.1∧Fdp L p.2.2}) (fun p=>[(0,.box 1000 0),(2,.box 2 0),(3,.box 3 0),(4,.pv (iP ((nx 5 (nx 3 r).2).1:Nat))),(5,.pv (iP ((1+(nx 3 (nx 5 (nx 3 r).2).2).1):Nat))),(7,.pv (iP (p.1.1:Nat)))]) (fun p=>[(2,.box 27 [.pv (iP 0),.nil 37 4 [138,200],.nil 37 4 [138,200]]),(3,.box 27 [.pv (iP ((1+(nx 3 r).1):Nat)),.tok 31,.tok 47]),(31,.tok 37 4 [138,200] ((unitsQ (nx 5 (nx 3 r).2).1 (1+(nx 3 r).1) (nx 3 (nx 5 (nx 3 r).2).2).2).1.map fmC)),(47,.tok 37 4 [138,200] (p.1.2.1.map fmC)),(1000,feedR L p.1.2.2)]) [135,27,37] (fun p=>(1+(nx 3 (nx 5 (nx 3 r).2).2).1) - p.1.1) ⟨(0,[],(unitsQ (nx 5 (nx 3 r).2).1 (1+(nx 3 r).1) (nx 3 (nx 5 (nx 3 r).2).2).2).2),nq _,rfl,rfl,hF⟩ (ai Y (ai Y (ai Y (ai Y (ai Y (ai Y trivial)))))) (ai Y (ai Y (ai Y (ai Y (ai Y trivial))))) (fun _=>rfl) ?_;intro ⟨(i,acc2,rr2),hi0,hg2,hl2,hF2⟩;simp only at hi0 hg2 hl2 hF2;refine a2 (fun e35=>?_) (fun e35=>?_)
  ·have hi:i < (1+(nx 3 (nx 5 (nx 3 r).2).2).1):=by have h:(i:Int) < (((1+(nx 3 (nx 5 (nx 3 r).2).2).1):Nat):Int):=of_decide_eq_true e35;omega
   refine aa (c:=ari_nat om om) ?_;refine rsc0 (fun _ _ _=>trivial) (fun e=>by cases e) (r_form15 (v:=(1+(nx 3 r).1)+(nx 5 (nx 3 r).2).1) hF2 om) ?_;refine au ?_;refine rp0 el_Affine (by rw[List.length_map];show acc2.length+1≤_;omega) Y Y Y Y Y Y Y Y ?_;refine aa (c:=ari_succ (by show i≤_;omega)) ?_;refine au ?_;exact pe ⟨(i+1,acc2++[(formQ ((1+(nx 3 r).1)+(nx 5 (nx 3 r).2).1) rr2).1],(formQ ((1+(nx 3 r).1)+(nx 5 (nx 3 r).2).1) rr2).2),hi,outs_step hi hg2,by rw[List.length_append,hl2];rfl,hF2.form _⟩ (ai Y (ai Y (ai Y (ai Y (ai Y (ai Y trivial)))))) (ai Y (ai Y (ai Y (ai (congrArg (fun x=>some (Res.tok _ _ _ x)) fm_snoc) (ai Y trivial))))) Y (by show (1+(nx 3 (nx 5 (nx 3 r).2).2).1) - (i+1) < (1+(nx 3 (nx 5 (nx 3 r).2).2).1) - i;omega)
  ·have hi:(1+(nx 3 (nx 5 (nx 3 r).2).2).1)≤i:=by have h:¬(i:Int) < (((1+(nx 3 (nx 5 (nx 3 r).2).2).1):Nat):Int):=of_decide_eq_false e35;omega
   refine au ?_;exact rets Y (congrArg (fun l=>SV.pv (gmP ⟨(1+(nx 3 r).1),(unitsQ (nx 5 (nx 3 r).2).1 (1+(nx 3 r).1) (nx 3 (nx 5 (nx 3 r).2).2).2).1,l⟩)) (outs_end hi hg2).1) (congrArg (fun l=>some (feedR L l)) (outs_end hi hg2).2)
def idxG {α:Type} (F:α→Bool):List α→Nat→Int
 | [],_=>-1
 | a::l,i=>bif F a then (i:Int) else idxG F l (i+1)
theorem idxG_any {α:Type} {F:α→Bool}:∀{l:List α} {i:Nat},decide (0≤idxG F l i)=l.any F
 | [],i=>rfl
 | a::l,i=>by
  rw[idxG,List.any_cons];cases F a with
  | true=>simp
  | false=>simp only[cond_false,Bool.false_or];exact idxG_any
theorem idxG_hit {α:Type} [Inhabited α] {F:α→Bool} {l:List α} {j:Nat} (h:idxG F (l.drop j) j=idxG F l 0) (hj:j < l.length) (hF:F (atZ l (j:Int))=true):(j:Int)=idxG F l 0:=by
 have e:l.drop j=atZ l (j:Int)::l.drop (j+1):=by rw[atZ_nat (ge hj),List.drop_eq_getElem_cons hj]
 rw[e,idxG,hF] at h;exact h
theorem idxG_step {α:Type} [Inhabited α] {F:α→Bool} {l:List α} {j:Nat} (h:idxG F (l.drop j) j=idxG F l 0) (hj:j < l.length) (hF:F (atZ l (j:Int))=false):idxG F (l.drop (j+1)) (j+1)=idxG F l 0:=by
 have e:l.drop j=atZ l (j:Int)::l.drop (j+1):=by rw[atZ_nat (ge hj),List.drop_eq_getElem_cons hj]
 rw[e,idxG,hF] at h;exact h
theorem idxG_end {α:Type} {F:α→Bool} {l:List α} {j:Nat} (h:idxG F (l.drop j) j=idxG F l 0) (hj:l.length≤j):(-1:Int)=idxG F l 0:=by
 rw[List.drop_of_length_le hj] at h;exact h
theorem limbs_zero_iff {n:Nat}:(((limbs n).length:Int) == 0)=decide (n=0):=by
 by_cases h:n=0
 ·subst h;rw[limbs_zero];rfl
 ·rw[df h];have:(limbs n).length≠0:=fun e=>h (limbs_len0.1 e)
  exact beq_eq_false_iff_ne.2 om
theorem zero_all {q:Q}:decide (q=Q.zero)=(!q.neg&&((((limbs q.num).length:Int) == 0)&&(((limbs q.den).length:Int) == 0))):=by
 obtain⟨n,a,d⟩:=q;simp only[limbs_zero_iff];cases n<;>by_cases h1:a=0<;>by_cases h2:d=0<;>simp[h1,h2]
theorem kne {k a b:Int} (h:(k == a)=true) (hab:(a == b)=false):(k == b)=false:=by
 have e:k=a:=eq_of_beq h;rw[e];exact hab
theorem sub_neg {x y:Q} (h:y.Ok):Q.sub x y=Q.add x y.neg':=by
 unfold Q.sub Q.neg';by_cases h0:y.num=0
 ·obtain rfl:=Q.zero_of h h0;rfl
 ·have hf:y.flip.Ok:=⟨h.one,h.cop,fun e=>absurd e h0⟩;rw[canonQ_ok hf]
abbrev usC (s:Sc) (r:Rw) (v p:Fm) (l u:Q×Bool):List PV:=scC s++(rwC r++(fmC v++(fmC p++(qC l.1++(qC u.1++[bP l.2,bP u.2])))))
theorem p_sgn {q:Q} (h:q.Sm):PCalls Tryz.prog [] 130 [ratP q] (iP (sgQ q)):=p_sign h
theorem p_qsub {x y:Q} {s t:Nat} (h:x.S s) (k:y.S t) (hs:s≤10000) (ht:t≤10000):PCalls Tryz.prog TU 282 [ratP x,ratP y] (ratP (Q.add x y.neg')):=by
 have:=p_sub (h.sm hs) (k.sm ht);rwa [sub_neg k.ok] at this
theorem Fdp.box {L:List Nat}:∀(n:Nat) {r:List Nat},Fdp L r→Fdp L (boxQ n r).2
 | 0,_,h=>h
 | n+1,r,h=>Fdp.box n h.num.num
theorem Fdp.region {L r:List Nat} (h:Fdp L r) (n:Nat):Fdp L (regionQ n r).2:=Fdp.outs _ n ((Fdp.box n h).nx 3)
theorem Fdp.graph {L r:List Nat} (h:Fdp L r):Fdp L (graphQ r).2:=Fdp.outs _ _ (Fdp.units _ _ (((h.nx 3).nx 5).nx 3))
theorem box_step {n i:Nat} {lo hi:List Q} {r:List Nat} {X:(List Q×List Q)×List Nat} (hi':i < n) (h:((lo++(boxQ (n - i) r).1.1,hi++(boxQ (n - i) r).1.2),(boxQ (n - i) r).2)=X):(((lo++[(numQ r).1])++(boxQ (n - (i+1)) (numQ (numQ r).2).2).1.1,(hi++[Q.add (numQ r).1 (numQ (numQ r).2).1.abs])++(boxQ (n - (i+1)) (numQ (numQ r).2).2).1.2),(boxQ (n - (i+1)) (numQ (numQ r).2).2).2)=X:=by
 rw[← h,show n - i=n - (i+1)+1 from by omega,boxQ,List.append_assoc,List.append_assoc];rfl
theorem box_end {n i:Nat} {lo hi:List Q} {r:List Nat} {X:(List Q×List Q)×List Nat} (hi':n≤i) (h:((lo++(boxQ (n - i) r).1.1,hi++(boxQ (n - i) r).1.2),(boxQ (n - i) r).2)=X):lo=X.1.1∧hi=X.1.2∧r=X.2:=by
 rw[← h,show n - i=0 from by omega,boxQ,List.append_nil,List.append_nil];exact⟨rfl,rfl,rfl⟩
theorem ari_down {n j:Nat} (h:n≤1000) (hj:j < n):ariO .sub .i64 ((n - j:Nat):Int) 1=some ((n - (j+1):Nat):Int):=by
 show some (IntKind.wrap .i64 (((n - j:Nat):Int) - 1))=_;rw[i64_wrap om om];exact congrArg some om
theorem ari_len {α β:Type} {f:α→β} {x:Nat} {l:List α} (h:x≤1000) (k:l.length≤1000):ariO .add .i64 (x:Int) ((l.map f).length:Int)=some ((x+l.length:Nat):Int):=by rw[List.length_map];exact ari_nat h k
theorem ari_len1 {α β:Type} {f:α→β} {l:List α} (k:l.length≤1000):ariO .add .i64 ((l.map f).length:Int) 1=some ((l.length+1:Nat):Int):=by rw[List.length_map];exact ari_succ om
theorem Q.Tiny.abs {q:Q} (h:q.Tiny):q.abs.Tiny:=⟨⟨h.ok.one,h.ok.cop,fun h0=>⟨rfl,(h.ok.pos h0).2⟩⟩,h.num,h.den⟩
theorem r_small {L r:List Nat} {n:Nat} (h:Fdp L r) (hn:n≤100):SCalls Tryz.prog (fun _=>True) TF 117 [.box 1000 0,.pv (iP (n:Int))] (some (feedR L r)) (feedR L (regionQ n r).2) (.pv (rgP (regionQ n r).1)) false:=by
 have n1:=nx_lt (n:=3) dx (boxQ n r).2;refine pcs [135,30,35,37] Tryz.func117 (fun D hH hF=>?_);refine au ?_;refine tkb (b:=5) (off:=0) (id:=41) (e:=35) (k:=3) (ts:=[200]) Y ?_;refine tkb (b:=5) (off:=1) (id:=42) (e:=35) (k:=3) (ts:=[200]) Y ?_;refine tkb (b:=5) (off:=2) (id:=43) (e:=37) (k:=4) (ts:=[138,200]) Y ?_;refine pl (ι:={p:Nat×List Q×List Q×List Nat // p.1≤n∧((p.2.1++(boxQ (n - p.1) p.2.2.2).1.1,p.2.2.1++(boxQ (n - p.1) p.2.2.2).1.2),(boxQ (n - p.1) p.2.2.2).2)=(boxQ n r)∧p.2.1.length=p.1∧p.2.2.1.length=p.1∧Fdp L p.2.2.2}) (fun p=>[(0,.box 1000 0),(1,.pv (iP (n:Int))),(4,.box 4 0),(5,.box 5 0),(6,.pv (iP (p.1.1:Int)))]) (fun p=>[(4,.box 30 [.nil 35 3 [200],.nil 35 3 [200],.nil 37 4 [138,200]]),(5,.box 30 [.tok 41,.tok 42,.tok 43]),(41,.tok 35 3 [200] (p.1.2.1.map qC)),(42,.tok 35 3 [200] (p.1.2.2.1.map qC)),(43,.tok 37 4 [138,200] (([]:List Fm).map fmC)),(1000,feedR L p.1.2.2.2)]) [135,30,35,37] (fun p=>n - p.1.1) ⟨(0,[],[],r),nq _,rfl,rfl,rfl,h⟩ (ai Y (ai Y (ai Y (ai Y (ai Y trivial))))) (ai Y (ai Y (ai Y (ai Y (ai Y (ai Y trivial)))))) (fun _=>rfl) ?_;intro ⟨(i,lo,hi,rr),hi0,hg,hl1,hl2,hF⟩;simp only at hi0 hg hl1 hl2 hF;refine a2 (fun e12=>?_) (fun e12=>?_)
 ·have hj:i < n:=by have h:(i:Int) < (n:Int):=of_decide_eq_true e12;omega
  refine au ?_;refine rsc0 (fun _ _ _=>trivial) (fun e=>by cases e) (r_number hF) ?_;refine au ?_;refine rsc0 (fun _ _ _=>trivial) (fun e=>by cases e) (r_number hF.num) ?_;refine au ?_;refine rp0 el_Rat (by rw[List.length_map];show lo.length+1≤_;omega) Y Y Y Y Y Y Y Y ?_;refine ac (c:=r_add (x:=(numQ rr).1) (y:=(numQ (numQ rr).2).1.abs) (numQ_tiny _).sm (numQ_tiny _).abs.sm (numQ_tiny _).ok (numQ_tiny _).abs.ok) ?_;refine au ?_;refine rp0 el_Rat (by rw[List.length_map];show hi.length+1≤_;omega) Y Y Y Y Y Y Y Y ?_;refine aa (c:=ari_succ (by show i≤_;omega)) ?_;refine au ?_;exact pe ⟨(i+1,lo++[(numQ rr).1],hi++[Q.add (numQ rr).1 (numQ (numQ rr).2).1.abs],(numQ (numQ rr).2).2),hj,box_step hj hg,by rw[List.length_append,hl1];rfl,by rw[List.length_append,hl2];rfl,hF.num.num⟩ (ai Y (ai Y (ai Y (ai Y (ai Y trivial))))) (ai Y (ai Y (ai (congrArg (fun x=>some (Res.tok _ _ _ x)) q_snoc) (ai (congrArg (fun x=>some (Res.tok _ _ _ x)) q_snoc) (ai Y (ai Y trivial)))))) Y (by show n - (i+1) < n - i;omega)
 ·have hj:n≤i:=by have h:¬(i:Int) < (n:Int):=of_decide_eq_false e12;omega
  obtain⟨rfl,rfl,rfl⟩:=box_end hj hg;refine au ?_;refine rsc0 (fun _ _ _=>trivial) (fun e=>by cases e) (r_next (n:=3) hF dx) ?_;refine au ?_;refine pl (ι:={p:Nat×List Fm×List Nat // p.1≤(nx 3 (boxQ n r).2).1∧(p.2.1++(outsQ ((nx 3 (boxQ n r).2).1 - p.1) n p.2.2).1,(outsQ ((nx 3 (boxQ n r).2).1 - p.1) n p.2.2).2)=outsQ (nx 3 (boxQ n r).2).1 n (nx 3 (boxQ n r).2).2∧p.2.1.length=p.1∧Fdp L p.2.2}) (fun p=>[(0,.box 1000 0),(1,.pv (iP (n:Int))),(4,.box 4 0),(5,.box 5 0),(9,.pv (iP (((nx 3 (boxQ n r).2).1 - p.1.1:Nat):Int)))]) (fun p=>[(4,.box 30 [.nil 35 3 [200],.nil 35 3 [200],.nil 37 4 [138,200]]),(5,.box 30 [.tok 41,.tok 42,.tok 43]),(41,.tok 35 3 [200] ((boxQ n r).1.1.map qC)),(42,.tok 35 3 [200] ((boxQ n r).1.2.map qC)),(43,.tok 37 4 [138,200] (p.1.2.1.map fmC)),(1000,feedR L p.1.2.2)]) [135,30,35,37] (fun p=>(nx 3 (boxQ n r).2).1 - p.1.1) ⟨(0,[],(nx 3 (boxQ n r).2).2),nq _,rfl,rfl,hF.nx 3⟩ (ai Y (ai Y (ai Y (ai Y (ai Y trivial))))) (ai Y (ai Y (ai Y (ai Y (ai Y (ai Y trivial)))))) (fun _=>rfl) ?_;intro ⟨(j,acc,rr2),hj0,hg2,hl3,hF2⟩;simp only at hj0 hg2 hl3 hF2;refine a2 (fun e37=>?_) (fun e37=>?_)
  ·have hk:j < (nx 3 (boxQ n r).2).1:=by have h:(0:Int) < (((nx 3 (boxQ n r).2).1 - j:Nat):Int):=of_decide_eq_true e37;omega
   refine au ?_;refine rsc0 (fun _ _ _=>trivial) (fun e=>by cases e) (r_form15 (v:=n) hF2 om) ?_;refine au ?_;refine rp0 el_Affine (by rw[List.length_map];show acc.length+1≤_;omega) Y Y Y Y Y Y Y Y ?_;refine aa (c:=ari_down om hk) ?_;refine au ?_;exact pe ⟨(j+1,acc++[(formQ n rr2).1],(formQ n rr2).2),hk,outs_step hk hg2,by rw[List.length_append,hl3];rfl,hF2.form _⟩ (ai Y (ai Y (ai Y (ai Y (ai Y trivial))))) (ai Y (ai Y (ai Y (ai Y (ai (congrArg (fun x=>some (Res.tok _ _ _ x)) fm_snoc) (ai Y trivial)))))) Y (by show (nx 3 (boxQ n r).2).1 - (j+1) < (nx 3 (boxQ n r).2).1 - j;omega)
  ·have hk:(nx 3 (boxQ n r).2).1≤j:=by have h:¬(0:Int) < (((nx 3 (boxQ n r).2).1 - j:Nat):Int):=of_decide_eq_false e37;omega
   refine au ?_;exact rets Y (congrArg (fun l=>SV.pv (rgP ⟨(boxQ n r).1.1,(boxQ n r).1.2,l⟩)) (outs_end hk hg2).1) (congrArg (fun l=>some (feedR L l)) (outs_end hk hg2).2)
theorem r_query {L r:List Nat} (h:Fdp L r):SCalls Tryz.prog (fun _=>True) TF 63 [.box 1000 0] (some (feedR L r)) (feedR L (queryQ r).2) (.pv (qyP (queryQ r).1)) false:=by
 have g:=graphQ_ok r;have g1:=g.i9;have g2:=g.u9;refine pcs [135,30,27,39] Tryz.func63 (fun D hH hF=>?_);refine au ?_;refine rsc0 (fun _ _ _=>trivial) (fun e=>by cases e) (r_graph h) ?_;refine au ?_;refine rsc0 (fun _ _ _=>trivial) (fun e=>by cases e) (r_small (n:=(graphQ r).1.inputs) h.graph om) ?_;refine aa (c:=ari_len om om) ?_;refine rsc0 (fun _ _ _=>trivial) (fun e=>by cases e) (r_form15 (v:=(graphQ r).1.inputs+(graphQ r).1.units.length) (h.graph.region _) om) ?_;refine au ?_;exact rets Y (Y) Y
theorem r_instance {x:Sv} {L:List Nat} (hl:∀y∈L,y < 256) (hn:L.length≤1000):PCallsW (By x L) Tryz.prog TQ 24 [.raw x.v] (qyP (queryQ L).1):=by
 refine pcW [135,39] (by kernel_rfl) Tryz.func24 rfl rfl (fun D hF hM hH=>?_);refine au ?_;refine rsc0 (fun _ _ g=>hH.gr (g.gr hM)) (fun _=>hF) (r_new hn) ?_;refine rsc0 (fun _ _ _=>trivial) (fun e=>by cases e) (r_query (Fdp.one hl hn)) ?_;exact ar (c:=rfl)
def IsRow (k:IntKind) (w:World) (a:Option Addr) (len cap:Nat) (zs:List Int):Prop:=
 (a=none∧len=0∧cap=0∧zs=[])∨
 ∃x,a=some x∧len≤cap∧cap≤maxLen∧zs.length=cap∧(∀i,i < zs.length→w.cell? (x.add i)=some (.int k (zs.getD i 0)))∧∀n∈zs,(Lit.int k n).wf=true
section
variable {k:IntKind} {w:World} {a:Option Addr} {len cap:Nat} {zs:List Int}
theorem IsRow.caps (h:IsRow k w a len cap zs):len≤cap∧cap≤maxLen:=by
 rcases h with ⟨_,rfl,rfl,_⟩ | ⟨x,_,h1,h2,_⟩
 ·exact⟨nr _,nq _⟩
 ·exact⟨h1,h2⟩
theorem IsRow.nil0 (h:IsRow k w a len cap zs) (h0:a=none):cap=0:=by
 rcases h with ⟨_,rfl,rfl,_⟩ | ⟨x,e,_⟩
 ·rfl
 ·rw[h0] at e;cases e
theorem IsRow.lens (h:IsRow k w a len cap zs):(zs.take len).length=len:=by
 rcases h with ⟨_,rfl,rfl,rfl⟩ | ⟨x,_,h1,h2,h3,_⟩
 ·rfl
 ·rw[List.length_take];omega
theorem IsRow.sees (h:IsRow k w a len cap zs):Sees w w.heap.size a ((zs.take len).map (Value.int k)):=by
 rcases h with ⟨_,rfl,rfl,rfl⟩ | ⟨x,rfl,h1,h2,h3,h4,_⟩
 ·exact Sees.nil
 ·intro j u hu;rw[List.getElem?_map] at hu;have hj:j < (zs.take len).length:=by
   rcases Nat.lt_or_ge j (zs.take len).length with h | h
   ·exact h
   ·rw[List.getElem?_eq_none h] at hu;cases hu
  rw[List.length_take] at hj;rw[List.getElem?_take_of_lt om,ge om] at hu;simp only[Option.map_some,oq] at hu;have hc:=h4 j om;rw[List.getD_eq_getElem?_getD,ge om,Option.getD_some,hu] at hc;exact⟨x,rfl,by have:=World.block_lt_of_cell? w _ hc;rwa [add_blk] at this,hc⟩
theorem IsRow.bytes (h:IsRow .u8 w a len cap zs):∀x∈zs.take len,0≤x∧x≤255:=by
 rcases h with ⟨_,rfl,rfl,rfl⟩ | ⟨x,rfl,h1,h2,h3,h4,h5⟩
 ·intro x hx;simp at hx
 ·intro x hx;exact bounds_u8 (h5 x (List.mem_of_mem_take hx))
def bytesOf (zs:List Int) (len:Nat):List Nat:=(zs.take len).map Int.toNat
theorem IsRow.nats (h:IsRow .u8 w a len cap zs):(bytesOf zs len).map bv=(zs.take len).map (Value.int .u8):=by
 unfold bytesOf;rw[List.map_map]
 apply List.map_congr_left
 intro x hx;have:=(h.bytes x hx).1;show Value.int .u8 ((x.toNat:Nat):Int)=Value.int .u8 x;rw[Int.toNat_of_nonneg this]
theorem IsRow.is (h:IsRow .u8 w a len cap zs):Sv.Is w ⟨a,len,cap⟩ 1 ((bytesOf zs len).map bv):=by
 refine⟨?_,h.caps.1,by have:=h.caps.2;unfold maxLen at this;exact this,h.nil0,?_⟩
 ·rw[h.nats,List.length_map,h.lens,Nat.mul_one]
 ·rw[h.nats];exact h.sees
theorem IsRow.lim (h:IsRow .u8 w a len cap zs):∀y∈bytesOf zs len,y < 256:=fun y hy=>by
 unfold bytesOf at hy;obtain⟨x,hx,rfl⟩:=List.mem_map.1 hy;have:=h.bytes x hx;omega
end
theorem p_indexD {l:List Dc} {f:Nat} {caps:List PV} {F:Dc→Bool} (hl:l.length≤100000) (h:∀d∈l,PCalls Tryz.prog TU f (dcP d::caps) (bP (F d))):PCalls Tryz.prog TU 185 [dcsP l,.fn f caps] (iP (idxG F l 0)):=by
 refine pcA [] Tryz.func185 (fun D=>?_);refine au ?_;refine pl (ι:={i:Nat // i≤l.length∧idxG F (l.drop i) i=idxG F l 0}) (fun i=>[(0,.pv (dcsP l)),(1,.pv (.fn f caps)),(7,.pv (iP ((l.map dcC).length:Int))),(8,.pv (iP i.1))]) (fun _=>[]) [] (fun i=>l.length - i.1) ⟨0,nq _,rfl⟩ (c4 Y Y Y Y trivial) trivial (fun _=>rfl) ?_;intro ⟨i,hi0,hg⟩;refine a2 (fun e9=>?_) (fun e9=>?_)
 ·have hi:i < l.length:=lt_of e9;refine ax (c:=(getmap (get_of hi))) ?_;refine au ?_;refine rcv (h _ (mg (get_of hi))) Y Y Y Y Y Y Y Y Y ?_;refine a2 (fun e16=>?_) (fun e16=>?_)
  ·exact ar (c:=congrArg iP (idxG_hit hg hi e16))
  ·refine aa (c:=ari_succ (by show i≤_;omega)) ?_;refine au ?_;exact pe ⟨i+1,hi,idxG_step hg hi e16⟩ (c4 Y Y Y Y trivial) trivial Y (by show l.length - (i+1) < l.length - i;omega)
 ·have hj:l.length≤i:=ge_of e9;exact ar (c:=congrArg iP (idxG_end hg hj))
theorem p_containsD {l:List Dc} {f:Nat} {caps:List PV} {F:Dc→Bool} (hl:l.length≤100000) (h:∀d∈l,PCalls Tryz.prog TU f (dcP d::caps) (bP (F d))):PCalls Tryz.prog TU 135 [dcsP l,.fn f caps] (bP (l.any F)):=by
 refine pcA [] Tryz.func135 (fun D=>?_);refine ac (c:=p_indexD hl h) ?_;exact ar (c:=congrArg bP idxG_any)
theorem p_indexA {l:List Fm} {f:Nat} {caps:List PV} {F:Fm→Bool} (hl:l.length≤100000) (h:∀d∈l,PCalls Tryz.prog TU f (fmP d::caps) (bP (F d))):PCalls Tryz.prog TU 181 [formsP l,.fn f caps] (iP (idxG F l 0)):=by
 refine pcA [] Tryz.func181 (fun D=>?_);refine au ?_;refine pl (ι:={i:Nat // i≤l.length∧idxG F (l.drop i) i=idxG F l 0}) (fun i=>[(0,.pv (formsP l)),(1,.pv (.fn f caps)),(7,.pv (iP ((l.map fmC).length:Int))),(8,.pv (iP i.1))]) (fun _=>[]) [] (fun i=>l.length - i.1) ⟨0,nq _,rfl⟩ (c4 Y Y Y Y trivial) trivial (fun _=>rfl) ?_;intro ⟨i,hi0,hg⟩;refine a2 (fun e9=>?_) (fun e9=>?_)
 ·have hi:i < l.length:=lt_of e9;refine ax (c:=(getmap (get_of hi))) ?_;refine au ?_;refine rcv (h _ (mg (get_of hi))) Y Y Y Y Y Y Y Y Y ?_;refine a2 (fun e16=>?_) (fun e16=>?_)
  ·exact ar (c:=congrArg iP (idxG_hit hg hi e16))
  ·refine aa (c:=ari_succ (by show i≤_;omega)) ?_;refine au ?_;exact pe ⟨i+1,hi,idxG_step hg hi e16⟩ (c4 Y Y Y Y trivial) trivial Y (by show l.length - (i+1) < l.length - i;omega)
 ·have hj:l.length≤i:=ge_of e9;exact ar (c:=congrArg iP (idxG_end hg hj))
theorem p_containsA {l:List Fm} {f:Nat} {caps:List PV} {F:Fm→Bool} (hl:l.length≤100000) (h:∀d∈l,PCalls Tryz.prog TU f (fmP d::caps) (bP (F d))):PCalls Tryz.prog TU 128 [formsP l,.fn f caps] (bP (l.any F)):=by
 refine pcA [] Tryz.func128 (fun D=>?_);refine ac (c:=p_indexA hl h) ?_;exact ar (c:=congrArg bP idxG_any)
theorem p_zero {q:Q}:PCalls Tryz.prog [] 223 [ratP q] (bP (decide (q=Q.zero))):=by
 refine pcA [35] Tryz.func223 (fun D=>?_);refine a2 (fun e6=>?_) (fun e6=>?_)
 ·replace e6:=not_t e6;refine a2 (fun e12=>?_) (fun e12=>?_)
  ·exact ar (c:=by rw[zero_all];simp only[e6,e12,sb])
  ·exact ar (c:=by rw[zero_all];simp only[e6,e12,sb])
 ·replace e6:=not_f e6;exact ar (c:=by rw[zero_all];simp only[e6,sb])
theorem p_fits {q:Qr} {d:Dc} {s:Nat} (h:d.at_.S s) (hs:s≤10000):PCalls Tryz.prog [] 186 [qyP q,dcP d] (bP (fitsQ q d)):=by
 refine pcA [39,42] Tryz.func186 (fun D=>?_);refine a2 (fun e7=>?_) (fun e7=>?_)
 ·refine a2 (fun e13=>?_) (fun e13=>?_)
  ·refine a2 (fun e22=>?_) (fun e22=>?_)
   ·refine ac (c:=p_zero) ?_;exact ar (c:=by (try simp only[List.length_map] at *);simp only[fitsQ,e7,e13,e22,sb]<;>rfl)
   ·exact ar (c:=by (try simp only[List.length_map] at *);simp only[fitsQ,e7,e13,e22,sb]<;>rfl)
  ·exact ar (c:=by (try simp only[List.length_map] at *);simp only[fitsQ,e7,e13,sb]<;>rfl)
 ·refine a2 (fun e7'=>?_) (fun e7'=>?_)
  ·refine a2 (fun e13=>?_) (fun e13=>?_)
   ·refine a2 (fun e22=>?_) (fun e22=>?_)
    ·refine ac (c:=p_zero) ?_;exact ar (c:=by (try simp only[List.length_map] at *);simp only[fitsQ,e7,e7',e13,e22,sb]<;>rfl)
    ·exact ar (c:=by (try simp only[List.length_map] at *);simp only[fitsQ,e7,e7',e13,e22,sb]<;>rfl)
   ·exact ar (c:=by (try simp only[List.length_map] at *);simp only[fitsQ,e7,e7',e13,sb]<;>rfl)
  ·refine a2 (fun e27=>?_) (fun e27=>?_)
   ·refine a2 (fun e33=>?_) (fun e33=>?_)
    ·refine a2 (fun e41=>?_) (fun e41=>?_)
     ·refine ac (c:=p_valid (h.sm hs) h.ok) ?_;exact ar (c:=by (try simp only[List.length_map] at *);simp only[fitsQ,e7,e7',e27,e33,e41,sb]<;>rfl)
     ·exact ar (c:=by (try simp only[List.length_map] at *);simp only[fitsQ,e7,e7',e27,e33,e41,sb]<;>rfl)
    ·exact ar (c:=by (try simp only[List.length_map] at *);simp only[fitsQ,e7,e7',e27,e33,sb]<;>rfl)
   ·refine a2 (fun e27'=>?_) (fun e27'=>?_)
    ·refine a2 (fun e33=>?_) (fun e33=>?_)
     ·refine a2 (fun e41=>?_) (fun e41=>?_)
      ·refine ac (c:=p_valid (h.sm hs) h.ok) ?_;exact ar (c:=by (try simp only[List.length_map] at *);simp only[fitsQ,e7,e7',e27,e27',e33,e41,sb]<;>rfl)
      ·exact ar (c:=by (try simp only[List.length_map] at *);simp only[fitsQ,e7,e7',e27,e27',e33,e41,sb]<;>rfl)
     ·exact ar (c:=by (try simp only[List.length_map] at *);simp only[fitsQ,e7,e7',e27,e27',e33,sb]<;>rfl)
    ·exact ar (c:=by (try simp only[List.length_map] at *);simp only[fitsQ,e7,e7',e27,e27',sb]<;>rfl)
theorem p_decided1 {s:Sc} {d:Dc} {n:Nat} {kind unit:Int} (h:d.at_.S n) (hn:n≤10000):PCalls Tryz.prog TU 386 [dcP d,.ptr 3 [iP kind],.ptr 3 [iP unit],.ptr 85 (scC s)] (bP (hitQ s.q kind unit d)):=by
 refine pcA [42] Tryz.func386 (fun D=>?_);refine a2 (fun e10=>?_) (fun e10=>?_)
 ·refine a2 (fun e16=>?_) (fun e16=>?_)
  ·refine ac (c:=p_fits h hn) ?_;exact ar (c:=by (try simp only[List.length_map] at *);simp only[hitQ,e10,e16,sb]<;>rfl)
  ·exact ar (c:=by (try simp only[List.length_map] at *);simp only[hitQ,e10,e16,sb]<;>rfl)
 ·exact ar (c:=by (try simp only[List.length_map] at *);simp only[hitQ,e10,sb]<;>rfl)
theorem p_decided {s:Sc} {a b:Nat} {kind unit:Int} (h:s.Va a b):PCalls Tryz.prog TU 337 [scP s,iP kind,iP unit] (bP (decidedQ s kind unit)):=by
 refine pcA [85,3] Tryz.func337 (fun D=>?_);refine au ?_;refine rmk Y Y Y Y ?_;refine ac (c:=p_containsD (F:=hitQ s.q kind unit) (by have:=h.p9;omega) fun d hd=>p_decided1 (s:=s) (h.path d hd) (by have:=h.a9;omega)) ?_;exact ar (c:=rfl)
theorem p_num {q:Q} {s:Nat} (h:q.S s) (hs:s≤10000):PCalls Tryz.prog TF 277 [ratP q] (fmP (numR q)):=by
 refine pcA [37,35] Tryz.func277 (fun D=>?_);refine ac (c:=p_canon (h.sm hs)) ?_;exact ar (c:=by rw[h.canon];rfl)
theorem p_var (v:Int):PCalls Tryz.prog TF 276 [iP v] (fmP (varR v)):=by
 refine pcA [37] Tryz.func276 (fun D=>?_);refine ac (c:=p_of 1 dx dx) ?_;exact ar (c:=rfl)
theorem p_minus {f:Fm} {s l:Nat} (h:f.S s l) (hs:s≤10000) (hl:l≤400):PCalls Tryz.prog TF 278 [fmP f] (fmP (Fm.scaleR f Q.mone)):=by
 refine pcA [37] Tryz.func278 (fun D=>?_);refine ac (c:=p_of (-1) dx dx) ?_;refine ac (c:=p_fscale (q:=Q.mone) h sz_mone hs dx hl) ?_;exact ar (c:=rfl)
theorem p_lemma {s:Sc} {a b:Nat} {n unit:Int} {upper:Bool} (h:s.Va a b):PCalls Tryz.prog TU 279 [scP s,iP n,iP unit,bP upper] (.tup [ratP (lemmaQ s.lems n unit upper).1,bP (lemmaQ s.lems n unit upper).2]):=by
 refine pcA [85,35] Tryz.func279 (fun D=>?_);refine a2 (fun e12=>?_) (fun e12=>?_)
 ·exact ar (c:=by (try simp only[List.length_map] at *);simp only[lemmaQ,e12,sb]<;>rfl)
 ·have g1:1≤n:=by have:=of_decide_eq_false e12;omega
  refine a2 (fun e19=>?_) (fun e19=>?_)
  ·exact ar (c:=by (try simp only[List.length_map] at *);simp only[lemmaQ,e12,e19,sb]<;>rfl)
  ·have g2:n≤s.lems.length:=by have:=of_decide_eq_false e19;rw[List.length_map] at this;omega
   have h1:0≤n - 1:=by omega
   have h2:n - 1 < s.lems.length:=by omega
   have h9:=h.l9;refine aa (c:=ari_sub om om om om) ?_;refine ay (z:=toN h1) (c:=(getmap (atZ_get h1 h2))) ?_;refine a2 (fun e30=>?_) (fun e30=>?_)
   ·exact ar (c:=by (try simp only[List.length_map] at *);simp only[lemmaQ,e12,e19,e30,sb]<;>rfl)
   ·refine aa (c:=ari_sub om om om om) ?_;refine ay (z:=toN h1) (c:=(getmap (atZ_get h1 h2))) ?_;refine au ?_;refine re0 (((atZ s.lems (n - 1)).upper != upper)) Y Y Y Y Y Y (.inr ⟨rfl,rfl⟩) ?_;refine a2 (fun e40=>?_) (fun e40=>?_)
    ·exact ar (c:=by (try simp only[List.length_map] at *);simp only[lemmaQ,e12,e19,e30,e40,sb]<;>rfl)
    ·refine aa (c:=ari_sub om om om om) ?_;refine ay (z:=toN h1) (c:=(getmap (atZ_get h1 h2))) ?_;refine ac (c:=p_canon ((h.lems _ (atZ_mem h1 h2)).sm (by have:=h.b9;omega))) ?_;exact ar (c:=by (try simp only[List.length_map] at *);simp only[lemmaQ,e12,e19,e30,e40,sb]<;>rfl)
theorem p_useOn {s:Sc} {a b n:Nat} {r:Rw} {v p:Fm} {l u:Q×Bool} (h:s.Va a b) (hq:l.1.S n) (hn:n≤10000):PCalls Tryz.prog TU 280 [.agg (usC s r v p l u)] (bP (onQ s r l)):=by
 refine pcA [367] Tryz.func280 (fun D=>?_);refine a2 (fun e7=>?_) (fun e7=>?_)
 ·refine a2 (fun e12=>?_) (fun e12=>?_)
  ·refine ac (c:=p_decided h) ?_;refine a2 (fun e20=>?_) (fun e20=>?_)
   ·exact ar (c:=by (try simp only[List.length_map] at *);simp only[onQ,e7,e12,e20,sb]<;>rfl)
   ·refine a2 (fun e23=>?_) (fun e23=>?_)
    ·refine ac (c:=p_sgn (hq.sm hn)) ?_;exact ar (c:=by (try simp only[List.length_map] at *);simp only[onQ,e7,e12,e20,e23,sb]<;>rfl)
    ·exact ar (c:=by (try simp only[List.length_map] at *);simp only[onQ,e7,e12,e20,e23,sb]<;>rfl)
  ·refine a2 (fun e23=>?_) (fun e23=>?_)
   ·refine ac (c:=p_sgn (hq.sm hn)) ?_;exact ar (c:=by (try simp only[List.length_map] at *);simp only[onQ,e7,e12,e23,sb]<;>rfl)
   ·exact ar (c:=by (try simp only[List.length_map] at *);simp only[onQ,e7,e12,e23,sb]<;>rfl)
 ·exact ar (c:=by (try simp only[List.length_map] at *);simp only[onQ,e7,sb]<;>rfl)
theorem p_useOff {s:Sc} {a b n:Nat} {r:Rw} {v p:Fm} {l u:Q×Bool} (h:s.Va a b) (hq:u.1.S n) (hn:n≤10000):PCalls Tryz.prog TU 281 [.agg (usC s r v p l u)] (bP (offQ s r u)):=by
 refine pcA [367] Tryz.func281 (fun D=>?_);refine a2 (fun e7=>?_) (fun e7=>?_)
 ·refine a2 (fun e12=>?_) (fun e12=>?_)
  ·refine ac (c:=p_decided h) ?_;refine a2 (fun e20=>?_) (fun e20=>?_)
   ·exact ar (c:=by (try simp only[List.length_map] at *);simp only[offQ,e7,e12,e20,sb]<;>rfl)
   ·refine a2 (fun e23=>?_) (fun e23=>?_)
    ·refine ac (c:=p_sgn (hq.sm hn)) ?_;exact ar (c:=by (try simp only[List.length_map] at *);simp only[offQ,e7,e12,e20,e23,sb]<;>rfl)
    ·exact ar (c:=by (try simp only[List.length_map] at *);simp only[offQ,e7,e12,e20,e23,sb]<;>rfl)
  ·refine a2 (fun e23=>?_) (fun e23=>?_)
   ·refine ac (c:=p_sgn (hq.sm hn)) ?_;exact ar (c:=by (try simp only[List.length_map] at *);simp only[offQ,e7,e12,e23,sb]<;>rfl)
   ·exact ar (c:=by (try simp only[List.length_map] at *);simp only[offQ,e7,e12,e23,sb]<;>rfl)
 ·exact ar (c:=by (try simp only[List.length_map] at *);simp only[offQ,e7,sb]<;>rfl)
theorem p_unit {s:Sc} {a b:Nat} {r:Rw} (h:s.Va a b):PCalls Tryz.prog TF 228 [scP s,rwP r] (.tup [fmP (unitQ s r).1,bP (unitQ s r).2]):=by
 refine pcA [85,96,37,27,367] Tryz.func228 (fun D=>?_);refine a2 (fun e15=>?_) (fun e15=>?_)
 ·exact ar (c:=by (try simp only[List.length_map] at *);simp only[unitQ,unitF,e15,sb]<;>rfl)
 ·have g0:=ge_ofZ e15;refine a2 (fun e22=>?_) (fun e22=>?_)
  ·exact ar (c:=by (try simp only[List.length_map] at *);simp only[unitQ,unitF,e15,e22,sb]<;>rfl)
  ·have g1:=lt_ofZ' e22;have hn:=h.n9;have hv:(varR (s.q.g.inputs+r.index)).S 1 1:=sz_var _;have hp:(atZ s.q.g.units r.index).S 2 8:=(h.q.us _ (atZ_mem g0 g1)).up h.a9 h.n9;have hl:(lemmaQ s.lems r.lo r.index false).1.S 8:=(lemmaQ_S h.lems h.b1).up h.b9;have hu:(lemmaQ s.lems r.hi r.index true).1.S 8:=(lemmaQ_S h.lems h.b1).up h.b9;refine aa (c:=ari_add om om om om) ?_;refine ac (c:=p_var _) ?_;refine ay (z:=toN g0) (c:=(getmap (atZ_get g0 g1))) ?_;refine ac (c:=p_lemma h) ?_;refine ac (c:=p_lemma h) ?_;refine a2 (fun e65=>?_) (fun e65=>?_)
   ·refine ac (c:=plain_any r) ?_;refine a2 (fun e61=>?_) (fun e61=>?_)
    ·exact ar (c:=by (try rw[hp.cn.addR_zero]);(try simp only[List.length_map] at *);simp only[unitQ,unitF,e15,e22,e65,e61,sb]<;>rfl)
    ·refine akF (c:=by exact (kne e65 dx)) ?_;refine akF (c:=by exact (kne e65 dx)) ?_;refine akF (c:=by exact (kne e65 dx)) ?_;refine akF (c:=by exact (kne e65 dx)) ?_;refine akF (c:=by exact (kne e65 dx)) ?_;refine akF (c:=by exact (kne e65 dx)) ?_;refine akF (c:=by exact (kne e65 dx)) ?_;refine akF (c:=by exact (kne e65 dx)) ?_;exact ar (c:=by (try rw[hp.cn.addR_zero]);(try simp only[List.length_map] at *);simp only[unitQ,unitF,e15,e22,e65,e61,sb]<;>rfl)
   ·refine a2 (fun e75=>?_) (fun e75=>?_)
    ·refine ac (c:=plain_any r) ?_;refine a2 (fun e71=>?_) (fun e71=>?_)
     ·refine ac (c:=p_fsub hv hp dx dx dx dx) ?_;exact ar (c:=by (try rw[hp.cn.addR_zero]);(try simp only[List.length_map] at *);simp only[unitQ,unitF,e15,e22,e65,e75,e71,sb]<;>rfl)
     ·refine akF (c:=by exact (kne e75 dx)) ?_;refine akF (c:=by exact (kne e75 dx)) ?_;refine akF (c:=by exact (kne e75 dx)) ?_;refine akF (c:=by exact (kne e75 dx)) ?_;refine akF (c:=by exact (kne e75 dx)) ?_;refine akF (c:=by exact (kne e75 dx)) ?_;refine akF (c:=by exact (kne e75 dx)) ?_;exact ar (c:=by (try rw[hp.cn.addR_zero]);(try simp only[List.length_map] at *);simp only[unitQ,unitF,e15,e22,e65,e75,e71,sb]<;>rfl)
    ·refine a2 (fun e88=>?_) (fun e88=>?_)
     ·refine ac (c:=p_useOn (l:=lemmaQ s.lems r.lo r.index false) (u:=lemmaQ s.lems r.hi r.index true) h hl dx) ?_;refine a2 (fun e84=>?_) (fun e84=>?_)
      ·refine ac (c:=p_fadd hp fm_zero_S dx dx dx dx) ?_;exact ar (c:=by (try rw[hp.cn.addR_zero]);(try simp only[List.length_map] at *);simp only[unitQ,unitF,e15,e22,e65,e75,e88,e84,sb]<;>rfl)
      ·refine akF (c:=by exact (kne e88 dx)) ?_;refine akF (c:=by exact (kne e88 dx)) ?_;refine akF (c:=by exact (kne e88 dx)) ?_;refine akF (c:=by exact (kne e88 dx)) ?_;refine akF (c:=by exact (kne e88 dx)) ?_;refine akF (c:=by exact (kne e88 dx)) ?_;exact ar (c:=by (try rw[hp.cn.addR_zero]);(try simp only[List.length_map] at *);simp only[unitQ,unitF,e15,e22,e65,e75,e88,e84,sb]<;>rfl)
     ·refine a2 (fun e100=>?_) (fun e100=>?_)
      ·refine ac (c:=p_useOn (l:=lemmaQ s.lems r.lo r.index false) (u:=lemmaQ s.lems r.hi r.index true) h hl dx) ?_;refine a2 (fun e96=>?_) (fun e96=>?_)
       ·refine ac (c:=p_fsub hp hv dx dx dx dx) ?_;exact ar (c:=by (try rw[hp.cn.addR_zero]);(try simp only[List.length_map] at *);simp only[unitQ,unitF,e15,e22,e65,e75,e88,e100,e96,sb]<;>rfl)
       ·refine akF (c:=by exact (kne e100 dx)) ?_;refine akF (c:=by exact (kne e100 dx)) ?_;refine akF (c:=by exact (kne e100 dx)) ?_;refine akF (c:=by exact (kne e100 dx)) ?_;refine akF (c:=by exact (kne e100 dx)) ?_;exact ar (c:=by (try rw[hp.cn.addR_zero]);(try simp only[List.length_map] at *);simp only[unitQ,unitF,e15,e22,e65,e75,e88,e100,e96,sb]<;>rfl)
      ·refine a2 (fun e113=>?_) (fun e113=>?_)
       ·refine ac (c:=p_useOff (l:=lemmaQ s.lems r.lo r.index false) (u:=lemmaQ s.lems r.hi r.index true) h hu dx) ?_;refine a2 (fun e109=>?_) (fun e109=>?_)
        ·refine ac (c:=p_minus hp dx dx) ?_;exact ar (c:=by (try rw[hp.cn.addR_zero]);(try simp only[List.length_map] at *);simp only[unitQ,unitF,e15,e22,e65,e75,e88,e100,e113,e109,sb]<;>rfl)
        ·refine akF (c:=by exact (kne e113 dx)) ?_;refine akF (c:=by exact (kne e113 dx)) ?_;refine akF (c:=by exact (kne e113 dx)) ?_;refine akF (c:=by exact (kne e113 dx)) ?_;exact ar (c:=by (try rw[hp.cn.addR_zero]);(try simp only[List.length_map] at *);simp only[unitQ,unitF,e15,e22,e65,e75,e88,e100,e113,e109,sb]<;>rfl)
       ·refine a2 (fun e124=>?_) (fun e124=>?_)
        ·refine ac (c:=p_useOff (l:=lemmaQ s.lems r.lo r.index false) (u:=lemmaQ s.lems r.hi r.index true) h hu dx) ?_;refine a2 (fun e120=>?_) (fun e120=>?_)
         ·refine ac (c:=p_minus hv dx dx) ?_;exact ar (c:=by (try rw[hp.cn.addR_zero]);(try simp only[List.length_map] at *);simp only[unitQ,unitF,e15,e22,e65,e75,e88,e100,e113,e124,e120,sb]<;>rfl)
         ·refine akF (c:=by exact (kne e124 dx)) ?_;refine akF (c:=by exact (kne e124 dx)) ?_;refine akF (c:=by exact (kne e124 dx)) ?_;exact ar (c:=by (try rw[hp.cn.addR_zero]);(try simp only[List.length_map] at *);simp only[unitQ,unitF,e15,e22,e65,e75,e88,e100,e113,e124,e120,sb]<;>rfl)
        ·refine a2 (fun e135=>?_) (fun e135=>?_)
         ·refine a2 (fun e139=>?_) (fun e139=>?_)
          ·refine a2 (fun e131=>?_) (fun e131=>?_)
           ·refine ac (c:=p_num hl dx) ?_;refine ac (c:=p_fsub hp (sz_num hl) dx dx dx dx) ?_;exact ar (c:=by (try rw[hp.cn.addR_zero]);(try simp only[List.length_map] at *);simp only[unitQ,unitF,e15,e22,e65,e75,e88,e100,e113,e124,e135,e139,e131,sb]<;>rfl)
           ·refine akF (c:=by exact (kne e135 dx)) ?_;refine akF (c:=by exact (kne e135 dx)) ?_;exact ar (c:=by (try rw[hp.cn.addR_zero]);(try simp only[List.length_map] at *);simp only[unitQ,unitF,e15,e22,e65,e75,e88,e100,e113,e124,e135,e139,e131,sb]<;>rfl)
          ·refine akF (c:=by exact (kne e135 dx)) ?_;refine akF (c:=by exact (kne e135 dx)) ?_;exact ar (c:=by (try rw[hp.cn.addR_zero]);(try simp only[List.length_map] at *);simp only[unitQ,unitF,e15,e22,e65,e75,e88,e100,e113,e124,e135,e139,sb]<;>rfl)
         ·refine a2 (fun e154=>?_) (fun e154=>?_)
          ·refine a2 (fun e158=>?_) (fun e158=>?_)
           ·refine a2 (fun e150=>?_) (fun e150=>?_)
            ·refine ac (c:=p_num hu dx) ?_;refine ac (c:=p_fsub (sz_num hu) hp dx dx dx dx) ?_;exact ar (c:=by (try rw[hp.cn.addR_zero]);(try simp only[List.length_map] at *);simp only[unitQ,unitF,e15,e22,e65,e75,e88,e100,e113,e124,e135,e154,e158,e150,sb]<;>rfl)
            ·refine akF (c:=by exact (kne e154 dx)) ?_;exact ar (c:=by (try rw[hp.cn.addR_zero]);(try simp only[List.length_map] at *);simp only[unitQ,unitF,e15,e22,e65,e75,e88,e100,e113,e124,e135,e154,e158,e150,sb]<;>rfl)
           ·refine akF (c:=by exact (kne e154 dx)) ?_;exact ar (c:=by (try rw[hp.cn.addR_zero]);(try simp only[List.length_map] at *);simp only[unitQ,unitF,e15,e22,e65,e75,e88,e100,e113,e124,e135,e154,e158,sb]<;>rfl)
          ·refine a2 (fun e173=>?_) (fun e173=>?_)
           ·refine a2 (fun e177=>?_) (fun e177=>?_)
            ·refine a2 (fun e181=>?_) (fun e181=>?_)
             ·refine ac (c:=p_sgn (hl.sm dx)) ?_;refine a2 (fun e187=>?_) (fun e187=>?_)
              ·refine ac (c:=p_sgn (hu.sm dx)) ?_;refine a2 (fun e169=>?_) (fun e169=>?_)
               ·refine ac (c:=p_num hl dx) ?_;refine ac (c:=p_fsub hp (sz_num hl) dx dx dx dx) ?_;refine ac (c:=p_fscale (hp.subR (sz_num hl)) hu dx dx dx) ?_;refine ac (c:=p_qsub hu hl dx dx) ?_;refine ac (c:=p_fscale hv (hu.add hl.neg) dx dx dx) ?_;refine ac (c:=p_fsub ((hp.subR (sz_num hl)).scaleR hu) (hv.scaleR (hu.add hl.neg)) dx dx dx dx) ?_;exact ar (c:=by (try rw[hp.cn.addR_zero]);(try simp only[List.length_map] at *);simp only[unitQ,unitF,e15,e22,e65,e75,e88,e100,e113,e124,e135,e154,e173,e177,e181,e187,e169,sb]<;>rfl)
               ·exact ar (c:=by (try rw[hp.cn.addR_zero]);(try simp only[List.length_map] at *);simp only[unitQ,unitF,e15,e22,e65,e75,e88,e100,e113,e124,e135,e154,e173,e177,e181,e187,e169,sb]<;>rfl)
              ·exact ar (c:=by (try rw[hp.cn.addR_zero]);(try simp only[List.length_map] at *);simp only[unitQ,unitF,e15,e22,e65,e75,e88,e100,e113,e124,e135,e154,e173,e177,e181,e187,sb]<;>rfl)
             ·exact ar (c:=by (try rw[hp.cn.addR_zero]);(try simp only[List.length_map] at *);simp only[unitQ,unitF,e15,e22,e65,e75,e88,e100,e113,e124,e135,e154,e173,e177,e181,sb]<;>rfl)
            ·exact ar (c:=by (try rw[hp.cn.addR_zero]);(try simp only[List.length_map] at *);simp only[unitQ,unitF,e15,e22,e65,e75,e88,e100,e113,e124,e135,e154,e173,e177,sb]<;>rfl)
           ·exact ar (c:=by (try rw[hp.cn.addR_zero]);(try simp only[List.length_map] at *);simp only[unitQ,unitF,e15,e22,e65,e75,e88,e100,e113,e124,e135,e154,e173,sb]<;>rfl)
theorem plain_no {a b:Int} {x:Bool} (h:(a == 0&&b == 0)=false):((a != 0)||((b != 0)||x))=true:=by
 show (!(a == 0)||(!(b == 0)||x))=true;cases h1:a == 0<;>cases h2:b == 0<;>simp_all
theorem plain_yes {a b:Int} (h:(a == 0&&b == 0)=true):(a != 0)=false∧(b != 0)=false:=by
 show (!(a == 0))=false∧(!(b == 0))=false;cases h1:a == 0<;>cases h2:b == 0<;>simp_all
theorem p_input {s:Sc} {a b:Nat} {r:Rw} (h:s.Va a b) (h5:decide (5≤r.kind)=false):PCalls Tryz.prog TF 227 [scP s,rwP r] (.tup [fmP (formR s r).1,bP (formR s r).2]):=by
 refine pcA [85,96,37,30,42] Tryz.func227 (fun D=>?_);refine ac (c:=plain_any r) ?_;refine a2 (fun e18=>?_) (fun e18=>?_)
 ·replace e18:=not_t e18;exact ar (c:=by unfold formR;rw[h5];simp only[cond_false];rw[plain_no e18];rfl)
 ·replace e18:=not_f e18;obtain⟨e18b,e18c⟩:=plain_yes e18;refine a2 (fun e21=>?_) (fun e21=>?_)
  ·exact ar (c:=by unfold formR;rw[h5];simp only[cond_false];first | (rw[plain_no e18];rfl) | (rw[e18b,e18c,e21];rfl))
  ·have g0:=ge_ofZ e21;refine a2 (fun e27=>?_) (fun e27=>?_)
   ·refine a2 (fun e23=>?_) (fun e23=>?_)
    ·have g1:=lt_ofZ e23;refine ac (c:=p_var _) ?_;refine ay (z:=toN g0) (c:=(getmap (atZ_get g0 g1))) ?_;refine ac (c:=p_num ((h.q.rg.los _ (atZ_mem g0 g1)).up h.a9) dx) ?_;refine ac (c:=p_fsub (sz_var _) (sz_num ((h.q.rg.los _ (atZ_mem g0 g1)).up h.a9)) dx dx dx dx) ?_;exact ar (c:=by (try simp only[List.length_map] at *);simp only[formR,pathF,h5,e18,e18b,e18c,e21,e27,e23,sb]<;>rfl)
    ·refine akF (c:=by exact (kne e27 dx)) ?_;refine akF (c:=by exact (kne e27 dx)) ?_;refine akF (c:=by exact (kne e27 dx)) ?_;exact ar (c:=by (try simp only[List.length_map] at *);simp only[formR,pathF,h5,e18,e18b,e18c,e21,e27,e23,sb]<;>rfl)
   ·refine a2 (fun e47=>?_) (fun e47=>?_)
    ·refine a2 (fun e43=>?_) (fun e43=>?_)
     ·have g1:=lt_ofZ e43;refine ay (z:=toN g0) (c:=(getmap (atZ_get g0 g1))) ?_;refine ac (c:=p_num ((h.q.rg.his _ (atZ_mem g0 g1)).up h.a9) dx) ?_;refine ac (c:=p_var _) ?_;refine ac (c:=p_fsub (sz_num ((h.q.rg.his _ (atZ_mem g0 g1)).up h.a9)) (sz_var _) dx dx dx dx) ?_;exact ar (c:=by (try simp only[List.length_map] at *);simp only[formR,pathF,h5,e18,e18b,e18c,e21,e27,e47,e43,sb]<;>rfl)
     ·refine akF (c:=by exact (kne e47 dx)) ?_;refine akF (c:=by exact (kne e47 dx)) ?_;exact ar (c:=by (try simp only[List.length_map] at *);simp only[formR,pathF,h5,e18,e18b,e18c,e21,e27,e47,e43,sb]<;>rfl)
    ·refine a2 (fun e67=>?_) (fun e67=>?_)
     ·refine a2 (fun e63=>?_) (fun e63=>?_)
      ·have g1:=lt_ofZ e63;have hrow:(atZ s.q.rg.rows r.index).S 2 8:=(h.q.rg.rows _ (atZ_mem g0 g1)).2.up h.a9 (by have:=h.n9;omega);refine ay (z:=toN g0) (c:=(getmap (atZ_get g0 g1))) ?_;refine ac (c:=p_fadd hrow fm_zero_S dx dx dx dx) ?_;exact ar (c:=by (try rw[hrow.cn.addR_zero]);(try simp only[List.length_map] at *);simp only[formR,pathF,h5,e18,e18b,e18c,e21,e27,e47,e67,e63,sb]<;>rfl)
      ·refine akF (c:=by exact (kne e67 dx)) ?_;exact ar (c:=by (try simp only[List.length_map] at *);simp only[formR,pathF,h5,e18,e18b,e18c,e21,e27,e47,e67,e63,sb]<;>rfl)
     ·refine a2 (fun e85=>?_) (fun e85=>?_)
      ·refine a2 (fun e92=>?_) (fun e92=>?_)
       ·have g1:=lt_ofZ e92;have e92b:decide ((s.path.length:Int)≤r.index)=false:=df om;have hd:(atZ s.path r.index).at_.S 2:=(h.path _ (atZ_mem g0 g1)).up h.a9;refine ay (z:=toN g0) (c:=(getmap (atZ_get g0 g1))) ?_;refine ac (c:=p_fits (h.path _ (atZ_mem g0 g1)) (by have:=h.a9;omega)) ?_;refine a2 (fun e81=>?_) (fun e81=>?_)
        ·refine ay (z:=toN g0) (c:=(getmap (atZ_get g0 g1))) ?_;refine ac (c:=p_var _) ?_;refine ac (c:=p_num hd dx) ?_;refine ac (c:=p_fsub (sz_var _) (sz_num hd) dx dx dx dx) ?_;refine a2 (fun e116=>?_) (fun e116=>?_)
         ·exact ar (c:=by (try simp only[List.length_map] at *);simp only[formR,pathF,h5,e18,e18b,e18c,e21,e27,e47,e67,e85,e92,e92b,e81,e116,sb]<;>rfl)
         ·refine a2 (fun e119=>?_) (fun e119=>?_)
          ·refine ac (c:=p_minus ((sz_var _).subR (sz_num hd)) dx dx) ?_;exact ar (c:=by (try simp only[List.length_map] at *);simp only[formR,pathF,h5,e18,e18b,e18c,e21,e27,e47,e67,e85,e92,e92b,e81,e116,e119,sb]<;>rfl)
          ·exact ar (c:=by (try simp only[List.length_map] at *);simp only[formR,pathF,h5,e18,e18b,e18c,e21,e27,e47,e67,e85,e92,e92b,e81,e116,e119,sb]<;>rfl)
        ·exact ar (c:=by (try simp only[List.length_map] at *);simp only[formR,pathF,h5,e18,e18b,e18c,e21,e27,e47,e67,e85,e92,e92b,e81,sb]<;>rfl)
       ·have e92b:decide ((s.path.length:Int)≤r.index)=true:=dt (by have:=of_decide_eq_false e92;rw[List.length_map] at this;omega);exact ar (c:=by (try simp only[List.length_map] at *);simp only[formR,pathF,h5,e18,e18b,e18c,e21,e27,e47,e67,e85,e92,e92b,sb]<;>rfl)
      ·exact ar (c:=by (try simp only[List.length_map] at *);simp only[formR,pathF,h5,e18,e18b,e18c,e21,e27,e47,e67,e85,sb]<;>rfl)
theorem any_no {α:Type}:∀(l:List α),(l.any fun _=>false)=false
 | []=>rfl
 | a::l=>by rw[List.any_cons,any_no l];rfl
theorem p_gclo {f:Fm} {v:Nat} (h:f.Sm v):PCalls Tryz.prog TU 175 [fmP f,.ptr 3 [iP v]] (bP false):=by
 refine pcA [37] Tryz.func175 (fun D=>?_);refine ac (c:=p_lvS h.num h.const h.ok) ?_;exact ar (c:=rfl)
theorem p_gall {l:List Fm} {v:Nat} (hl:l.length≤100000) (h:∀x∈l,x.Sm v):PCalls Tryz.prog TU 125 [formsP l,iP v] (bP true):=by
 refine pcA [3] Tryz.func125 (fun D=>?_);refine au ?_;refine rmk Y Y Y Y ?_;refine ac (c:=p_containsA (F:=fun _=>false) (caps:=[.ptr 3 [iP v]]) hl fun f hf=>p_gclo (h f hf)) ?_;exact ar (c:=congrArg (fun b=>bP (!b)) (any_no _))
theorem p_gvalid {g:Gm} (h:g.Va):PCalls Tryz.prog TU 71 [gmP g] (bP true):=by
 have g1:=h.i0;have g2:=h.i9;have g3:=h.u9;have g4:=h.o0;have g5:=h.o9;refine pcA [27,37] Tryz.func71 (fun D=>?_);refine akF (c:=by exact df om) ?_;refine akF (c:=by exact df om) ?_;refine akF (c:=by exact df (by rw[List.length_map];omega)) ?_;refine akF (c:=by exact df (by rw[List.length_map];omega)) ?_;refine akF (c:=by exact df (by rw[List.length_map];omega)) ?_;refine au ?_;refine pl (ι:={j:Nat // j≤g.units.length}) (fun j=>[(1,.box 1 0),(2,.pv (bP false)),(32,.pv (formsP g.units)),(33,.pv (iP ((g.units.map fmC).length:Int))),(34,.pv (iP (j.1:Int)))]) (fun _=>[(1,.box 27 [.pv (iP g.inputs),.pv (formsP g.units),.pv (formsP g.outputs)])]) [27,37] (fun j=>g.units.length - j.1) ⟨0,nq _⟩ (ai Y (ai Y (ai Y (ai Y (ai Y trivial))))) (ai Y trivial) (fun _=>rfl) ?_;intro ⟨j,hj0⟩;refine a2 (fun e35=>?_) (fun e35=>?_)
 ·have hi:j < g.units.length:=lt_of e35;have hu:=h.us j _ (get_of hi);refine ax (c:=(getmap (get_of hi))) ?_;refine aa (c:=ari_ad om (by show j≤_;omega)) ?_;refine ac (c:=p_lvS hu.num hu.const hu.ok) ?_;refine aa (c:=ari_sM (by show j < _;omega)) ?_;refine au ?_;exact pe ⟨j+1,hi⟩ (ai Y (ai Y (ai Y (ai Y (ai Y trivial))))) (ai Y trivial) Y (by show g.units.length - (j+1) < g.units.length - j;omega)
 ·refine aa (c:=ari_al om om) ?_;refine ac (c:=p_gall om h.os) ?_;exact ar (c:=rfl)
end Go.Proofs.YtbhbainhmfjpdaaGreatDoor
