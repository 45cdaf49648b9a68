/- Walks of the search and of what it calls, part 12. -/
import Derived.Test.YtbhbainhmfjpdaaGreatDoorMk
set_option linter.unusedVariables false
set_option linter.unusedSimpArgs false
set_option maxRecDepth 100000
set_option maxHeartbeats 8000000
namespace Go.Proofs.YtbhbainhmfjpdaaGreatDoor
open Go.RowKit
theorem r_decided {s:Sc} {a b:Nat} {kind unit:Int} (h:s.Va a b):PCalls Tryz.prog [] 264 [scP s,iP kind,iP unit] (bP (decidedQ s kind unit)):=by
 refine pcA [85] Tryz.func264 (fun D=>?_);refine au ?_;refine pl (ι:={i:Nat // i≤s.path.length∧(s.path.take i).any (hitQ s.q kind unit)=false}) (fun i=>[(1,.pv (iP kind)),(2,.pv (iP unit)),(3,.box 3 0),(6,.pv (bP false)),(7,.pv (iP i.1))]) (fun _=>[(3,.box 85 [.pv (iP s.q.g.inputs),.pv (formsP s.q.g.units),.pv (formsP s.q.g.outputs),.pv (ratsP s.q.rg.lo),.pv (ratsP s.q.rg.hi),.pv (formsP s.q.rg.rows),.pv (termsP s.q.goal.terms),.pv (bP s.q.goal.const.neg),.pv (.nat s.q.goal.const.num),.pv (.nat s.q.goal.const.den),.pv (dcsP s.path),.pv (lmsP s.lems)])]) [85] (fun i=>s.path.length - i.1) ⟨0,nq _,rfl⟩ (c5 Y Y Y Y Y trivial) (ai Y trivial) (fun _=>rfl) ?_;intro ⟨i,hi0,hn⟩;refine a2 (fun e12=>?_) (fun e12=>?_)
 ·have hi:i < s.path.length:=lt_of e12;refine ax (c:=(getmap (get_of hi))) ?_;refine a2 (fun e23=>?_) (fun e23=>?_)
  ·refine ax (c:=(getmap (get_of hi))) ?_;refine a2 (fun e33=>?_) (fun e33=>?_)
   ·refine ax (c:=(getmap (get_of hi))) ?_;refine ac (c:=r_fits (h.path _ (mg (get_of hi))) (by have:=h.a9;omega)) ?_;refine a2 (fun e42=>?_) (fun e42=>?_)
    ·have hh:hitQ s.q kind unit (atZ s.path i)=true:=by simp only[hitQ,e12,e23,e33,e42,sb]
     exact ar (c:=by rw[show decidedQ s kind unit=true from any_hit hi hh])
    ·refine aa (c:=ari_succ (by have:=h.p9;show i≤_;omega)) ?_;refine au ?_;exact pe ⟨i+1,hi,any_step hn hi (by simp only[hitQ,e12,e23,e33,e42,sb])⟩ (c5 Y Y Y Y Y trivial) (ai Y trivial) Y (by show s.path.length - (i+1) < s.path.length - i;omega)
   ·refine aa (c:=ari_succ (by have:=h.p9;show i≤_;omega)) ?_;refine au ?_;exact pe ⟨i+1,hi,any_step hn hi (by simp only[hitQ,e12,e23,e33,sb])⟩ (c5 Y Y Y Y Y trivial) (ai Y trivial) Y (by show s.path.length - (i+1) < s.path.length - i;omega)
  ·refine aa (c:=ari_succ (by have:=h.p9;show i≤_;omega)) ?_;refine au ?_;exact pe ⟨i+1,hi,any_step hn hi (by simp only[hitQ,e12,e23,sb])⟩ (c5 Y Y Y Y Y trivial) (ai Y trivial) Y (by show s.path.length - (i+1) < s.path.length - i;omega)
 ·have hj:s.path.length≤i:=ge_of e12;exact ar (c:=by rw[show decidedQ s kind unit=false from any_end hn hj])
theorem r_lemma {s:Sc} {a b:Nat} {n unit:Int} {upper:Bool} (h:s.Va a b):PCalls Tryz.prog TU 263 [scP s,iP n,iP unit,bP upper] (.tup [ratP (lemmaQ s.lems n unit upper).1,bP (lemmaQ s.lems n unit upper).2]):=by
 refine pcA [85,35] Tryz.func263 (fun D=>?_);refine a2 (fun e12=>?_) (fun e12=>?_)
 ·exact ar (c:=by (try simp only[List.length_map] at *);simp only[lemmaQ,e12,sb]<;>rfl)
 ·have g1:1≤n:=by have:=of_decide_eq_false e12;omega
  refine a2 (fun e19=>?_) (fun e19=>?_)
  ·exact ar (c:=by (try simp only[List.length_map] at *);simp only[lemmaQ,e12,e19,sb]<;>rfl)
  ·have g2:n≤s.lems.length:=by have:=of_decide_eq_false e19;rw[List.length_map] at this;omega
   have h1:0≤n - 1:=by omega
   have h2:n - 1 < s.lems.length:=by omega
   have h9:=h.l9;refine aa (c:=ari_sub om om om om) ?_;refine ay (z:=toN h1) (c:=(getmap (atZ_get h1 h2))) ?_;refine a2 (fun e30=>?_) (fun e30=>?_)
   ·exact ar (c:=by (try simp only[List.length_map] at *);simp only[lemmaQ,e12,e19,e30,sb]<;>rfl)
   ·refine aa (c:=ari_sub om om om om) ?_;refine ay (z:=toN h1) (c:=(getmap (atZ_get h1 h2))) ?_;refine au ?_;refine re0 (((atZ s.lems (n - 1)).upper != upper)) Y Y Y Y Y Y (.inr ⟨rfl,rfl⟩) ?_;refine a2 (fun e40=>?_) (fun e40=>?_)
    ·exact ar (c:=by (try simp only[List.length_map] at *);simp only[lemmaQ,e12,e19,e30,e40,sb]<;>rfl)
    ·refine aa (c:=ari_sub om om om om) ?_;refine ay (z:=toN h1) (c:=(getmap (atZ_get h1 h2))) ?_;refine ac (c:=r_canon ((h.lems _ (atZ_mem h1 h2)).sm (by have:=h.b9;omega))) ?_;exact ar (c:=by (try simp only[List.length_map] at *);simp only[lemmaQ,e12,e19,e30,e40,sb]<;>rfl)
theorem r_unit {s:Sc} {a b:Nat} {r:Rw} (h:s.Va a b):PCalls Tryz.prog TF 215 [scP s,rwP r] (.tup [fmP (unitQ s r).1,bP (unitQ s r).2]):=by
 refine pcA [85,96,37,27,35] Tryz.func215 (fun D=>?_);refine a2 (fun e25=>?_) (fun e25=>?_)
 ·exact ar (c:=by (try simp only[List.length_map] at *);simp only[unitQ,unitF,e25,sb]<;>rfl)
 ·have g0:=ge_ofZ e25;refine a2 (fun e32=>?_) (fun e32=>?_)
  ·exact ar (c:=by (try simp only[List.length_map] at *);simp only[unitQ,unitF,e25,e32,sb]<;>rfl)
  ·have g1:=lt_ofZ' e32;have hn:=h.n9;have hv:(varR (s.q.g.inputs+r.index)).S 1 1:=sz_var _;have hp:(atZ s.q.g.units r.index).S 2 8:=(h.q.us _ (atZ_mem g0 g1)).up h.a9 h.n9;have hl:(lemmaQ s.lems r.lo r.index false).1.S 8:=(lemmaQ_S h.lems h.b1).up h.b9;have hu:(lemmaQ s.lems r.hi r.index true).1.S 8:=(lemmaQ_S h.lems h.b1).up h.b9;refine aa (c:=ari_add om om om om) ?_;refine ac (c:=r_var _) ?_;refine ay (z:=toN g0) (c:=(getmap (atZ_get g0 g1))) ?_;refine ac (c:=r_lemma h) ?_;refine ac (c:=r_lemma h) ?_;refine ac (c:=r_of (-1) dx dx) ?_;refine qg 2 ?_;refine rn Y ?_
   apply pcut (sl:=[(2,_),(3,_),(4,_),(6,_),(7,_),(8,_),(9,_),(11,_),(13,_),(5,_),(10,_),(12,_),(14,.pv (bP (onQ s r (lemmaQ s.lems r.lo r.index false))))]) (rs:=[(2,_),(3,_),(4,_),(6,_),(7,_),(8,_),(9,_),(11,_),(13,_)])
   case h1=>
    refine a2 (fun e68=>?_) (fun e68=>?_)
    ·refine a2 (fun e72=>?_) (fun e72=>?_)
     ·refine ac (c:=r_decided h) ?_;refine a2 (fun e78=>?_) (fun e78=>?_)
      ·refine au ?_;refine Sub.of ?_ ?_ ?_
       ·exact (c12 Y Y Y Y Y Y Y Y Y Y Y Y (ai (congrArg (fun b=>some (SV.pv (PV.raw (Value.bool b)))) (by (try simp only[List.length_map] at *);simp only[onQ,e25,e32,e68,e72,e78,sb]<;>rfl)) trivial))
       ·exact (c9 Y Y Y Y Y Y Y Y Y trivial)
       ·rfl
      ·refine a2 (fun e80=>?_) (fun e80=>?_)
       ·refine ac (c:=r_sign (hl.sm dx)) ?_;refine au ?_;refine Sub.of ?_ ?_ ?_
        ·exact (c12 Y Y Y Y Y Y Y Y Y Y Y Y (ai (congrArg (fun b=>some (SV.pv (PV.raw (Value.bool b)))) (by (try simp only[List.length_map] at *);simp only[onQ,e25,e32,e68,e72,e78,e80,sb]<;>rfl)) trivial))
        ·exact (c9 Y Y Y Y Y Y Y Y Y trivial)
        ·rfl
       ·refine au ?_;refine Sub.of ?_ ?_ ?_
        ·exact (c12 Y Y Y Y Y Y Y Y Y Y Y Y (ai (congrArg (fun b=>some (SV.pv (PV.raw (Value.bool b)))) (by (try simp only[List.length_map] at *);simp only[onQ,e25,e32,e68,e72,e78,e80,sb]<;>rfl)) trivial))
        ·exact (c9 Y Y Y Y Y Y Y Y Y trivial)
        ·rfl
     ·refine a2 (fun e80=>?_) (fun e80=>?_)
      ·refine ac (c:=r_sign (hl.sm dx)) ?_;refine au ?_;refine Sub.of ?_ ?_ ?_
       ·exact (c12 Y Y Y Y Y Y Y Y Y Y Y Y (ai (congrArg (fun b=>some (SV.pv (PV.raw (Value.bool b)))) (by (try simp only[List.length_map] at *);simp only[onQ,e25,e32,e68,e72,e80,sb]<;>rfl)) trivial))
       ·exact (c9 Y Y Y Y Y Y Y Y Y trivial)
       ·rfl
      ·refine au ?_;refine Sub.of ?_ ?_ ?_
       ·exact (c12 Y Y Y Y Y Y Y Y Y Y Y Y (ai (congrArg (fun b=>some (SV.pv (PV.raw (Value.bool b)))) (by (try simp only[List.length_map] at *);simp only[onQ,e25,e32,e68,e72,e80,sb]<;>rfl)) trivial))
       ·exact (c9 Y Y Y Y Y Y Y Y Y trivial)
       ·rfl
    ·refine au ?_;refine Sub.of ?_ ?_ ?_
     ·exact (c12 Y Y Y Y Y Y Y Y Y Y Y Y (ai (congrArg (fun b=>some (SV.pv (PV.raw (Value.bool b)))) (by (try simp only[List.length_map] at *);simp only[onQ,e25,e32,e68,sb]<;>rfl)) trivial))
     ·exact (c9 Y Y Y Y Y Y Y Y Y trivial)
     ·rfl
   case h2=>
    apply pcut (sl:=[(2,_),(3,_),(4,_),(6,_),(7,_),(8,_),(9,_),(11,_),(13,_),(5,_),(10,_),(12,_),(14,_),(15,.pv (bP (offQ s r (lemmaQ s.lems r.hi r.index true))))]) (rs:=[(2,_),(3,_),(4,_),(6,_),(7,_),(8,_),(9,_),(11,_),(13,_)])
    case h1=>
     refine a2 (fun e90=>?_) (fun e90=>?_)
     ·refine a2 (fun e94=>?_) (fun e94=>?_)
      ·refine ac (c:=r_decided h) ?_;refine a2 (fun e100=>?_) (fun e100=>?_)
       ·refine au ?_;refine Sub.of ?_ ?_ ?_
        ·exact (c12 Y Y Y Y Y Y Y Y Y Y Y Y (ai (rfl) (ai (congrArg (fun b=>some (SV.pv (PV.raw (Value.bool b)))) (by (try simp only[List.length_map] at *);simp only[offQ,e25,e32,e90,e94,e100,sb]<;>rfl)) trivial)))
        ·exact (c9 Y Y Y Y Y Y Y Y Y trivial)
        ·rfl
       ·refine a2 (fun e102=>?_) (fun e102=>?_)
        ·refine ac (c:=r_sign (hu.sm dx)) ?_;refine au ?_;refine Sub.of ?_ ?_ ?_
         ·exact (c12 Y Y Y Y Y Y Y Y Y Y Y Y (ai (rfl) (ai (congrArg (fun b=>some (SV.pv (PV.raw (Value.bool b)))) (by (try simp only[List.length_map] at *);simp only[offQ,e25,e32,e90,e94,e100,e102,sb]<;>rfl)) trivial)))
         ·exact (c9 Y Y Y Y Y Y Y Y Y trivial)
         ·rfl
        ·refine au ?_;refine Sub.of ?_ ?_ ?_
         ·exact (c12 Y Y Y Y Y Y Y Y Y Y Y Y (ai (rfl) (ai (congrArg (fun b=>some (SV.pv (PV.raw (Value.bool b)))) (by (try simp only[List.length_map] at *);simp only[offQ,e25,e32,e90,e94,e100,e102,sb]<;>rfl)) trivial)))
         ·exact (c9 Y Y Y Y Y Y Y Y Y trivial)
         ·rfl
      ·refine a2 (fun e102=>?_) (fun e102=>?_)
       ·refine ac (c:=r_sign (hu.sm dx)) ?_;refine au ?_;refine Sub.of ?_ ?_ ?_
        ·exact (c12 Y Y Y Y Y Y Y Y Y Y Y Y (ai (rfl) (ai (congrArg (fun b=>some (SV.pv (PV.raw (Value.bool b)))) (by (try simp only[List.length_map] at *);simp only[offQ,e25,e32,e90,e94,e102,sb]<;>rfl)) trivial)))
        ·exact (c9 Y Y Y Y Y Y Y Y Y trivial)
        ·rfl
       ·refine au ?_;refine Sub.of ?_ ?_ ?_
        ·exact (c12 Y Y Y Y Y Y Y Y Y Y Y Y (ai (rfl) (ai (congrArg (fun b=>some (SV.pv (PV.raw (Value.bool b)))) (by (try simp only[List.length_map] at *);simp only[offQ,e25,e32,e90,e94,e102,sb]<;>rfl)) trivial)))
        ·exact (c9 Y Y Y Y Y Y Y Y Y trivial)
        ·rfl
     ·refine au ?_;refine Sub.of ?_ ?_ ?_
      ·exact (c12 Y Y Y Y Y Y Y Y Y Y Y Y (ai (rfl) (ai (congrArg (fun b=>some (SV.pv (PV.raw (Value.bool b)))) (by (try simp only[List.length_map] at *);simp only[offQ,e25,e32,e90,sb]<;>rfl)) trivial)))
      ·exact (c9 Y Y Y Y Y Y Y Y Y trivial)
      ·rfl
    case h2=>
     refine a2 (fun e112=>?_) (fun e112=>?_)
     ·refine a2 (fun e118=>?_) (fun e118=>?_)
      ·refine a2 (fun e212=>?_) (fun e212=>?_)
       ·replace e212:=not_t e212;exact ar (c:=by (try simp only[List.length_map] at *);simp only[unitQ,unitF,e25,e32,e112,e118,e212,sb]<;>rfl)
       ·replace e212:=not_f e212;exact ar (c:=by (try simp only[List.length_map] at *);simp only[unitQ,unitF,e25,e32,e112,e118,e212,sb]<;>rfl)
      ·exact ar (c:=by (try simp only[List.length_map] at *);simp only[unitQ,unitF,e25,e32,e112,e118,sb]<;>rfl)
     ·refine a2 (fun e123=>?_) (fun e123=>?_)
      ·refine ac (c:=r_fsub hv hp dx dx) ?_;refine a2 (fun e131=>?_) (fun e131=>?_)
       ·refine a2 (fun e212=>?_) (fun e212=>?_)
        ·replace e212:=not_t e212;exact ar (c:=by (try simp only[List.length_map] at *);simp only[unitQ,unitF,e25,e32,e112,e123,e131,e212,sb]<;>rfl)
        ·replace e212:=not_f e212;exact ar (c:=by (try simp only[List.length_map] at *);simp only[unitQ,unitF,e25,e32,e112,e123,e131,e212,sb]<;>rfl)
       ·exact ar (c:=by (try simp only[List.length_map] at *);simp only[unitQ,unitF,e25,e32,e112,e123,e131,sb]<;>rfl)
      ·refine a2 (fun e136=>?_) (fun e136=>?_)
       ·refine a2 (fun e212=>?_) (fun e212=>?_)
        ·replace e212:=not_t e212;exact ar (c:=by (try simp only[List.length_map] at *);simp only[unitQ,unitF,e25,e32,e112,e123,e136,e212,sb]<;>rfl)
        ·replace e212:=not_f e212;exact ar (c:=by (try simp only[List.length_map] at *);simp only[unitQ,unitF,e25,e32,e112,e123,e136,e212,sb]<;>rfl)
       ·refine a2 (fun e140=>?_) (fun e140=>?_)
        ·refine ac (c:=r_fsub hp hv dx dx) ?_;refine a2 (fun e212=>?_) (fun e212=>?_)
         ·replace e212:=not_t e212;exact ar (c:=by (try simp only[List.length_map] at *);simp only[unitQ,unitF,e25,e32,e112,e123,e136,e140,e212,sb]<;>rfl)
         ·replace e212:=not_f e212;exact ar (c:=by (try simp only[List.length_map] at *);simp only[unitQ,unitF,e25,e32,e112,e123,e136,e140,e212,sb]<;>rfl)
        ·refine a2 (fun e146=>?_) (fun e146=>?_)
         ·refine ac (c:=r_fscale (q:=Q.mone) hp sz_mone dx dx dx) ?_;refine a2 (fun e212=>?_) (fun e212=>?_)
          ·replace e212:=not_t e212;exact ar (c:=by (try simp only[List.length_map] at *);simp only[unitQ,unitF,e25,e32,e112,e123,e136,e140,e146,e212,sb]<;>rfl)
          ·replace e212:=not_f e212;exact ar (c:=by (try simp only[List.length_map] at *);simp only[unitQ,unitF,e25,e32,e112,e123,e136,e140,e146,e212,sb]<;>rfl)
         ·refine a2 (fun e152=>?_) (fun e152=>?_)
          ·refine ac (c:=r_fscale (q:=Q.mone) hv sz_mone dx dx dx) ?_;refine a2 (fun e212=>?_) (fun e212=>?_)
           ·replace e212:=not_t e212;exact ar (c:=by (try simp only[List.length_map] at *);simp only[unitQ,unitF,e25,e32,e112,e123,e136,e140,e146,e152,e212,sb]<;>rfl)
           ·replace e212:=not_f e212;exact ar (c:=by (try simp only[List.length_map] at *);simp only[unitQ,unitF,e25,e32,e112,e123,e136,e140,e146,e152,e212,sb]<;>rfl)
          ·refine a2 (fun e158=>?_) (fun e158=>?_)
           ·refine ac (c:=r_num) ?_;refine ac (c:=r_fsub hp (sz_num hl) dx dx) ?_;refine a2 (fun e165=>?_) (fun e165=>?_)
            ·refine a2 (fun e212=>?_) (fun e212=>?_)
             ·replace e212:=not_t e212;exact ar (c:=by (try simp only[List.length_map] at *);simp only[unitQ,unitF,e25,e32,e112,e123,e136,e140,e146,e152,e158,e165,e212,sb]<;>rfl)
             ·replace e212:=not_f e212;exact ar (c:=by (try simp only[List.length_map] at *);simp only[unitQ,unitF,e25,e32,e112,e123,e136,e140,e146,e152,e158,e165,e212,sb]<;>rfl)
            ·exact ar (c:=by (try simp only[List.length_map] at *);simp only[unitQ,unitF,e25,e32,e112,e123,e136,e140,e146,e152,e158,e165,sb]<;>rfl)
           ·refine a2 (fun e170=>?_) (fun e170=>?_)
            ·refine ac (c:=r_num) ?_;refine ac (c:=r_fsub (sz_num hu) hp dx dx) ?_;refine a2 (fun e177=>?_) (fun e177=>?_)
             ·refine a2 (fun e212=>?_) (fun e212=>?_)
              ·replace e212:=not_t e212;exact ar (c:=by (try simp only[List.length_map] at *);simp only[unitQ,unitF,e25,e32,e112,e123,e136,e140,e146,e152,e158,e170,e177,e212,sb]<;>rfl)
              ·replace e212:=not_f e212;exact ar (c:=by (try simp only[List.length_map] at *);simp only[unitQ,unitF,e25,e32,e112,e123,e136,e140,e146,e152,e158,e170,e177,e212,sb]<;>rfl)
             ·exact ar (c:=by (try simp only[List.length_map] at *);simp only[unitQ,unitF,e25,e32,e112,e123,e136,e140,e146,e152,e158,e170,e177,sb]<;>rfl)
            ·refine a2 (fun e182=>?_) (fun e182=>?_)
             ·refine ac (c:=r_num) ?_;refine ac (c:=r_fsub hp (sz_num hl) dx dx) ?_;refine ac (c:=r_fscale (hp.subR (sz_num hl)) hu dx dx dx) ?_;refine ac (c:=r_sub (hu.sm dx) (hl.sm dx) hu.ok hl.neg.ok) ?_;refine ac (c:=r_fscale hv (hu.add hl.neg) dx dx dx) ?_;refine ac (c:=r_fsub ((hp.subR (sz_num hl)).scaleR hu) (hv.scaleR (hu.add hl.neg)) dx dx) ?_;refine a2 (fun e198=>?_) (fun e198=>?_)
              ·refine a2 (fun e201=>?_) (fun e201=>?_)
               ·refine ac (c:=r_sign (hl.sm dx)) ?_;refine a2 (fun e206=>?_) (fun e206=>?_)
                ·refine ac (c:=r_sign (hu.sm dx)) ?_;refine a2 (fun e212=>?_) (fun e212=>?_)
                 ·replace e212:=not_t e212;exact ar (c:=by (try simp only[List.length_map] at *);simp only[unitQ,unitF,e25,e32,e112,e123,e136,e140,e146,e152,e158,e170,e182,e198,e201,e206,e212,sb]<;>rfl)
                 ·replace e212:=not_f e212;exact ar (c:=by (try simp only[List.length_map] at *);simp only[unitQ,unitF,e25,e32,e112,e123,e136,e140,e146,e152,e158,e170,e182,e198,e201,e206,e212,sb]<;>rfl)
                ·exact ar (c:=by (try simp only[List.length_map] at *);simp only[unitQ,unitF,e25,e32,e112,e123,e136,e140,e146,e152,e158,e170,e182,e198,e201,e206,sb]<;>rfl)
               ·exact ar (c:=by (try simp only[List.length_map] at *);simp only[unitQ,unitF,e25,e32,e112,e123,e136,e140,e146,e152,e158,e170,e182,e198,e201,sb]<;>rfl)
              ·exact ar (c:=by (try simp only[List.length_map] at *);simp only[unitQ,unitF,e25,e32,e112,e123,e136,e140,e146,e152,e158,e170,e182,e198,sb]<;>rfl)
             ·exact ar (c:=by (try simp only[List.length_map] at *);simp only[unitQ,unitF,e25,e32,e112,e123,e136,e140,e146,e152,e158,e170,e182,sb]<;>rfl)
theorem r_form {s:Sc} {a b:Nat} {r:Rw} (h:s.Va a b):PCalls Tryz.prog TF 174 [scP s,rwP r] (.tup [fmP (formR s r).1,bP (formR s r).2]):=by
 refine pcA [85,96,37,30,42] Tryz.func174 (fun D=>?_);refine ac (c:=r_qvalid h.q) ?_;refine a2 (fun e16=>?_) (fun e16=>?_)
 ·refine ac (c:=r_unit h) ?_;exact ar (c:=by (try simp only[List.length_map] at *);simp only[formR,pathF,e16,sb]<;>rfl)
 ·refine a2 (fun e25=>?_) (fun e25=>?_)
  ·exact ar (c:=by (try simp only[List.length_map] at *);simp only[formR,pathF,e16,e25,sb]<;>rfl)
  ·refine a2 (fun e30=>?_) (fun e30=>?_)
   ·exact ar (c:=by (try simp only[List.length_map] at *);simp only[formR,pathF,e16,e25,e30,sb]<;>rfl)
   ·refine a2 (fun e34=>?_) (fun e34=>?_)
    ·exact ar (c:=by (try simp only[List.length_map] at *);simp only[formR,pathF,e16,e25,e30,e34,sb]<;>rfl)
    ·have g0:=ge_ofZ e34;refine a2 (fun e41=>?_) (fun e41=>?_)
     ·refine a2 (fun e48=>?_) (fun e48=>?_)
      ·have g1:=lt_ofZ e48;refine ac (c:=r_var _) ?_;refine ay (z:=toN g0) (c:=(getmap (atZ_get g0 g1))) ?_;refine ac (c:=r_num) ?_;refine ac (c:=r_fsub (sz_var _) (sz_num ((h.q.rg.los _ (atZ_mem g0 g1)).up h.a9)) dx dx) ?_;exact ar (c:=by (try simp only[List.length_map] at *);simp only[formR,pathF,e16,e25,e30,e34,e41,e48,sb]<;>rfl)
      ·exact ar (c:=by (try simp only[List.length_map] at *);simp only[formR,pathF,e16,e25,e30,e34,e41,e48,sb]<;>rfl)
     ·refine a2 (fun e60=>?_) (fun e60=>?_)
      ·refine a2 (fun e67=>?_) (fun e67=>?_)
       ·have g1:=lt_ofZ e67;refine ay (z:=toN g0) (c:=(getmap (atZ_get g0 g1))) ?_;refine ac (c:=r_num) ?_;refine ac (c:=r_var _) ?_;refine ac (c:=r_fsub (sz_num ((h.q.rg.his _ (atZ_mem g0 g1)).up h.a9)) (sz_var _) dx dx) ?_;exact ar (c:=by (try simp only[List.length_map] at *);simp only[formR,pathF,e16,e25,e30,e34,e41,e60,e67,sb]<;>rfl)
       ·exact ar (c:=by (try simp only[List.length_map] at *);simp only[formR,pathF,e16,e25,e30,e34,e41,e60,e67,sb]<;>rfl)
      ·refine a2 (fun e79=>?_) (fun e79=>?_)
       ·refine a2 (fun e86=>?_) (fun e86=>?_)
        ·have g1:=lt_ofZ e86;refine ay (z:=toN g0) (c:=(getmap (atZ_get g0 g1))) ?_;exact ar (c:=by (try simp only[List.length_map] at *);simp only[formR,pathF,e16,e25,e30,e34,e41,e60,e79,e86,sb]<;>rfl)
        ·exact ar (c:=by (try simp only[List.length_map] at *);simp only[formR,pathF,e16,e25,e30,e34,e41,e60,e79,e86,sb]<;>rfl)
       ·refine a2 (fun e93=>?_) (fun e93=>?_)
        ·refine a2 (fun e101=>?_) (fun e101=>?_)
         ·exact ar (c:=by (try simp only[List.length_map] at *);simp only[formR,pathF,e16,e25,e30,e34,e41,e60,e79,e93,e101,sb]<;>rfl)
         ·have g1:=lt_ofZ' e101;refine ay (z:=toN g0) (c:=(getmap (atZ_get g0 g1))) ?_;refine ac (c:=r_fits (h.path _ (atZ_mem g0 g1)) (by have:=h.a9;omega)) ?_;refine a2 (fun e112=>?_) (fun e112=>?_)
          ·exact ar (c:=by (try simp only[List.length_map] at *);simp only[formR,pathF,e16,e25,e30,e34,e41,e60,e79,e93,e101,e112,sb]<;>rfl)
          ·refine ay (z:=toN g0) (c:=(getmap (atZ_get g0 g1))) ?_;refine ac (c:=r_var _) ?_;refine ac (c:=r_num) ?_;refine ac (c:=r_fsub (sz_var _) (sz_num ((h.path _ (atZ_mem g0 g1)).up h.a9)) dx dx) ?_;refine a2 (fun e129=>?_) (fun e129=>?_)
           ·exact ar (c:=by (try simp only[List.length_map] at *);simp only[formR,pathF,e16,e25,e30,e34,e41,e60,e79,e93,e101,e112,e129,sb]<;>rfl)
           ·refine a2 (fun e133=>?_) (fun e133=>?_)
            ·refine ac (c:=r_of (-1) dx dx) ?_;refine ac (c:=r_fscale (q:=Q.mone) ((sz_var _).subR (sz_num ((h.path _ (atZ_mem g0 g1)).up h.a9))) sz_mone dx dx dx) ?_;exact ar (c:=by (try simp only[List.length_map] at *);simp only[formR,pathF,e16,e25,e30,e34,e41,e60,e79,e93,e101,e112,e129,e133,sb]<;>rfl)
            ·exact ar (c:=by (try simp only[List.length_map] at *);simp only[formR,pathF,e16,e25,e30,e34,e41,e60,e79,e93,e101,e112,e129,e133,sb]<;>rfl)
        ·exact ar (c:=by (try simp only[List.length_map] at *);simp only[formR,pathF,e16,e25,e30,e34,e41,e60,e79,e93,sb]<;>rfl)
theorem r_less {a b:Rw}:PCalls Tryz.prog [] 214 [rwP a,rwP b] (bP (lessR a b)):=by
 refine pcA [96] Tryz.func214 (fun D=>?_);refine a2 (fun e5=>?_) (fun e5=>?_)
 ·exact ar (c:=by (try simp only[List.length_map] at *);simp only[lessR,e5,sb]<;>rfl)
 ·refine a2 (fun e16=>?_) (fun e16=>?_)
  ·exact ar (c:=by (try simp only[List.length_map] at *);simp only[lessR,e5,e16,sb]<;>rfl)
  ·refine a2 (fun e27=>?_) (fun e27=>?_)
   ·exact ar (c:=by (try simp only[List.length_map] at *);simp only[lessR,e5,e16,e27,sb]<;>rfl)
   ·exact ar (c:=by (try simp only[List.length_map] at *);simp only[lessR,e5,e16,e27,sb]<;>rfl)
theorem ari_pred {n:Nat} (h:decide (0 < (n:Int))=true) (h9:n≤1000000000):ariO .sub .i64 (n:Int) 1=some (((n - 1:Nat)):Int):=by
 have:=of_decide_eq_true h;show some (IntKind.wrap .i64 ((n:Int) - 1))=_;rw[i64_wrap om om]
 congr 1;omega
def badM (l:List Mm) (i:Nat):Bool:=decide (sgQ (atZ l (i:Int)).2≤0)||(decide (0 < (i:Int))&&!lessR (atZ l ((i - 1:Nat):Int)).1 (atZ l (i:Int)).1)
def canonR (l:List Mm):Bool:=(List.range l.length).all fun i=>!badM l i
theorem canon_bad {l:List Mm} {i:Nat} (hi:i < l.length) (h:badM l i=true):canonR l=false:=by
 unfold canonR;rw[List.all_eq_false];exact⟨i,List.mem_range.2 hi,by rw[h];decide⟩
theorem canon_all {l:List Mm} {i:Nat} (h:∀j,j < i→badM l j=false) (hi:l.length≤i):canonR l=true:=by
 unfold canonR;rw[List.all_eq_true];intro j hj;rw[h j (by have:=List.mem_range.1 hj;omega)];rfl
theorem all_succ {p:Nat→Prop} {i:Nat} (h:∀j,j < i→p j) (hi:p i):∀j,j < i+1→p j:=fun j hj=>by
 rcases Nat.lt_or_ge j i with g | g
 ·exact h j g
 ·have:j=i:=by omega
  subst this;exact hi
def posR (r:Rw):List Mm→Nat
 | []=>0
 | m::l=>bif lessR m.1 r then posR r l+1 else 0
theorem pos_of {r:Rw}:∀{l:List Mm} {k:Nat},k≤l.length→(∀j,j < k→lessR (atZ l (j:Int)).1 r=true)→(l.length≤k∨lessR (atZ l (k:Int)).1 r=false)→posR r l=k
 | [],k,hk,_,_=>by simp at hk;rw[hk];rfl
 | m::l,0,hk,_,h=>by
  rcases h with h | h
  ·simp at h
  ·rw[atZ_nat (l:=m::l) (i:=0) (a:=m) rfl] at h;rw[posR,h];rfl
 | m::l,k+1,hk,ha,h=>by
  have sh:∀j,j < l.length→atZ (m::l) ((j+1:Nat):Int)=atZ l (j:Int):=fun j hj=>by
   rw[atZ_nat (l:=m::l) (i:=j+1) (a:=l[j]) (by simp[hj]),atZ_nat (ge hj)]
  have h0:=ha 0 om;rw[atZ_nat (l:=m::l) (i:=0) (a:=m) rfl] at h0;rw[posR,h0];have hk':k≤l.length:=by simpa using hk
  rw[pos_of (l:=l) (k:=k) hk' (fun j hj=>by rw[← sh j om];exact ha (j+1) om) ?_];rfl;rcases h with h | h
  ·left;simpa using h
  ·rcases Nat.lt_or_ge k l.length with g | g
   ·right;rw[← sh k g];exact h
   ·left;exact g
def plusR (l:List Mm) (r:Rw) (c:Q):List Mm:=
 bif sgQ c == 0 then l
 else bif decide ((posR r l:Int) < (l.length:Int))&&rowEq (atZ l (posR r l:Int)).1 r then l.take (posR r l)++[(r,Q.add (atZ l (posR r l:Int)).2 c)]++l.drop (posR r l+1)
 else l.take (posR r l)++[(r,canonQ c)]++l.drop (posR r l)
def sumGo (s:Sc):List Mm→Fm→Option Fm
 | [],acc=>some acc
 | m::l,acc=>bif (formR s m.1).2 then sumGo s l (Fm.addR acc (Fm.scaleR (formR s m.1).1 m.2)) else none
def sumR (s:Sc) (l:List Mm):Fm×Int:=bif canonR l then (match sumGo s l Fm.zero with
 | some f=>(f,0)
 | none=>(Fm.zero,12)) else (Fm.zero,1)
def mergeR (c:Q):List Mm→List Mm→List Mm
 | a,[]=>a
 | a,m::b=>mergeR c (plusR a m.1 (Q.mul m.2 c)) b
theorem Sc.Va.unitS {s:Sc} {a b:Nat} {r:Rw} (h:s.Va a b):(unitQ s r).1.S 40 9:=by
 have hz:Fm.zero.S 40 9:=fm_zero_S.up dx dx;unfold unitQ;cases h1:decide (r.index < 0) with
 | true=>exact hz
 | false=>
  cases h2:decide ((s.q.g.units.length:Int)≤r.index) with
  | true=>exact hz
  | false=>
   have g0:0≤r.index:=ge_ofZ h1;have g1:r.index < s.q.g.units.length:=by have:=of_decide_eq_false h2;omega
   have hv:(varR (s.q.g.inputs+r.index)).S 1 1:=sz_var _;have hp:(atZ s.q.g.units r.index).S 2 8:=(h.q.us _ (atZ_mem g0 g1)).up h.a9 h.n9;have hl:(lemmaQ s.lems r.lo r.index false).1.S 8:=(lemmaQ_S h.lems h.b1).up h.b9;have hu:(lemmaQ s.lems r.hi r.index true).1.S 8:=(lemmaQ_S h.lems h.b1).up h.b9;simp only[Bool.false_or,cond_false];generalize varR (s.q.g.inputs+r.index)=v at hv;generalize atZ s.q.g.units r.index=p at hp;generalize onQ s r (lemmaQ s.lems r.lo r.index false)=on;generalize offQ s r (lemmaQ s.lems r.hi r.index true)=off;generalize lemmaQ s.lems r.lo r.index false=l at hl;generalize lemmaQ s.lems r.hi r.index true=u at hu;have key:(unitF v p l u on off r).1.S 40 9:=by
    unfold unitF
    repeat' (cases h3:(r.kind == _)<;>simp only[cond_true,cond_false])
    all_goals first
     | exact hz
     | exact hv.up dx dx
     | exact hp.up dx dx
     | exact (hv.subR hp).up dx dx
     | exact (hp.subR hv).up dx dx
     | exact (hp.scaleR sz_mone).up dx dx
     | exact (hv.scaleR sz_mone).up dx dx
     | exact (hp.subR (sz_num hl)).up dx dx
     | exact ((sz_num hu).subR hp).up dx dx
     | exact (((hp.subR (sz_num hl)).scaleR hu).subR (hv.scaleR (hu.add hl.neg))).up dx dx
   cases (unitF v p l u on off r).2
   ·exact hz
   ·exact key
theorem Sc.Va.formS {s:Sc} {a b:Nat} {r:Rw} (h:s.Va a b):(formR s r).1.S 40 9:=by
 have hz:Fm.zero.S 40 9:=fm_zero_S.up dx dx;have ha:=h.a9;unfold formR;cases h5:decide (5≤r.kind) with
 | true=>exact h.unitS
 | false=>
  simp only[cond_false];cases r.lo != 0 with
  | true=>exact hz
  | false=>
   cases r.hi != 0 with
   | true=>exact hz
   | false=>
    cases h1:decide (r.index < 0) with
    | true=>exact hz
    | false=>
     have g0:0≤r.index:=ge_ofZ h1;simp only[Bool.false_or,cond_false];cases r.kind == 1 with
     | true=>
      cases h2:decide (r.index < (s.q.rg.lo.length:Int)) with
      | false=>exact hz
      | true=>exact ((sz_var _).subR (sz_num ((h.q.rg.los _ (atZ_mem g0 (of_decide_eq_true h2))).up ha))).up dx dx
     | false=>
      cases r.kind == 2 with
      | true=>
       cases h2:decide (r.index < (s.q.rg.hi.length:Int)) with
       | false=>exact hz
       | true=>exact ((sz_num ((h.q.rg.his _ (atZ_mem g0 (of_decide_eq_true h2))).up ha)).subR (sz_var _)).up dx dx
      | false=>
       cases r.kind == 3 with
       | true=>
        cases h2:decide (r.index < (s.q.rg.rows.length:Int)) with
        | false=>exact hz
        | true=>exact (h.q.rg.rows _ (atZ_mem g0 (of_decide_eq_true h2))).2.up om (by have:=h.n9;omega)
       | false=>
        cases r.kind == 4 with
        | false=>exact hz
        | true=>
         cases h2:decide ((s.path.length:Int)≤r.index) with
         | true=>exact hz
         | false=>
          cases h3:fitsQ s.q (atZ s.path r.index) with
          | false=>exact hz
          | true=>
           have hd:=(h.path _ (atZ_mem g0 (by have:=of_decide_eq_false h2;omega))).up ha;simp only[Bool.false_or,Bool.not_true,cond_true,cond_false];unfold pathF;cases (atZ s.path r.index).kind == 3 with
           | true=>exact ((sz_var _).subR (sz_num hd)).up dx dx
           | false=>
            cases (atZ s.path r.index).kind == 4 with
            | true=>exact (((sz_var _).subR (sz_num hd)).scaleR sz_mone).up dx dx
            | false=>exact hz
theorem plus_zero {l:List Mm} {r:Rw} {c:Q} (h:(sgQ c == 0)=true):plusR l r c=l:=by unfold plusR;rw[h];rfl
theorem plus_hit {l:List Mm} {r:Rw} {c:Q} {i:Nat} (h:(sgQ c == 0)=false) (hp:posR r l=i) (hi:i < l.length) (he:rowEq (atZ l (i:Int)).1 r=true):plusR l r c=l.take i++[(r,Q.add (atZ l (i:Int)).2 c)]++l.drop (i+1):=by
 unfold plusR;rw[h,hp,he,dt (by omega:(i:Int) < (l.length:Int))];rfl
theorem plus_miss {l:List Mm} {r:Rw} {c:Q} {i:Nat} (h:(sgQ c == 0)=false) (hp:posR r l=i) (he:l.length≤i∨rowEq (atZ l (i:Int)).1 r=false):plusR l r c=l.take i++[(r,canonQ c)]++l.drop i:=by
 unfold plusR;rw[h,hp];have:(decide ((i:Int) < (l.length:Int))&&rowEq (atZ l (i:Int)).1 r)=false:=by
  rcases he with he | he
  ·rw[df om];rfl
  ·rw[he,Bool.and_false]
 rw[this];rfl
theorem rows_mid {l:List Mm} {i k:Nat} {m:Mm} {row:List PV} (e:row=mmC m):PV.rows 98 7 [200] (([]++List.drop 0 (List.take i (l.map mmC))++[row])++List.drop k (List.take (l.map mmC).length (l.map mmC)))=mmsP (l.take i++[m]++l.drop k):=by
 subst e;rw[List.take_length];show _=PV.rows _ _ _ ((l.take i++[m]++l.drop k).map mmC);simp only[List.nil_append,List.drop_zero,List.map_append,List.map_take,List.map_drop,List.map_cons,List.map_nil]
theorem r_canonical {l:List Mm} {n:Nat} (h:∀m∈l,m.2.S n) (hn:n≤10000) (hl:l.length≤1000):PCalls Tryz.prog [] 173 [mmsP l] (bP (canonR l)):=by
 refine pcA [] Tryz.func173 (fun D=>?_);refine au ?_;refine pl (ι:={i:Nat // i≤l.length∧∀j,j < i→badM l j=false}) (fun i=>[(0,.pv (mmsP l)),(2,.pv (bP false)),(3,.pv (iP i.1))]) (fun _=>[]) [] (fun i=>l.length - i.1) ⟨0,nq _,fun j hj=>by omega⟩ (c3 Y Y Y trivial) trivial (fun _=>rfl) ?_;intro ⟨i,hi0,hnb⟩;refine a2 (fun e7=>?_) (fun e7=>?_)
 ·have hi:i < l.length:=lt_of e7;have hm:=h _ (mg (get_of hi));refine ax (c:=(getmap (get_of hi))) ?_;refine ac (c:=r_valid (hm.sm hn) hm.ok) ?_;refine ax (c:=(getmap (get_of hi))) ?_;refine ac (c:=r_sign (hm.sm hn)) ?_;refine a2 (fun e26=>?_) (fun e26=>?_)
  ·exact ar (c:=by rw[canon_bad hi (by simp only[badM,e7,e26,sb])])
  ·refine a2 (fun e29=>?_) (fun e29=>?_)
   ·refine aa (c:=ari_pred e29 (by show i≤_;omega)) ?_;refine ax (c:=(getmap (get_of (show i - 1 < l.length by omega)))) ?_;refine ax (c:=(getmap (get_of hi))) ?_;refine ac (c:=r_less) ?_;refine a2 (fun e44=>?_) (fun e44=>?_)
    ·exact ar (c:=by rw[canon_bad hi (by simp only[badM,e7,e26,e29,e44,sb])])
    ·refine aa (c:=ari_succ (by show i≤_;omega)) ?_;refine au ?_;exact pe ⟨i+1,hi,all_succ hnb (by simp only[badM,e7,e26,e29,e44,sb])⟩ (c3 Y Y Y trivial) trivial Y (by show l.length - (i+1) < l.length - i;omega)
   ·refine aa (c:=ari_succ (by show i≤_;omega)) ?_;refine au ?_;exact pe ⟨i+1,hi,all_succ hnb (by simp only[badM,e7,e26,e29,sb])⟩ (c3 Y Y Y trivial) trivial Y (by show l.length - (i+1) < l.length - i;omega)
 ·have hj:l.length≤i:=ge_of e7;exact ar (c:=by rw[canon_all hnb hj])
theorem r_plus {l:List Mm} {r:Rw} {c:Q} {n m:Nat} (h:∀m∈l,m.2.S n) (hc:c.S m) (hn:n+m+1≤10000) (hl:l.length≤1000):PCalls Tryz.prog TU 172 [mmsP l,rwP r,ratP c] (mmsP (plusR l r c)):=by
 refine pcA [96,35,98] Tryz.func172 (fun D=>?_);refine ac (c:=r_sign (hc.sm om)) ?_;refine a2 (fun e11=>?_) (fun e11=>?_)
 ·exact ar (c:=by rw[plus_zero e11])
 ·refine au ?_;refine pl (ι:={i:Nat // i≤l.length∧∀j,j < i→lessR (atZ l (j:Int)).1 r=true}) (fun i=>[(0,.pv (mmsP l)),(4,.box 4 0),(5,.box 5 0),(7,.pv (iP i.1))]) (fun _=>[(4,.box 96 [.pv (iP r.kind),.pv (iP r.index),.pv (iP r.lo),.pv (iP r.hi)]),(5,.box 35 [.pv (bP c.neg),.pv (.nat c.num),.pv (.nat c.den)])]) [96,35,98] (fun i=>l.length - i.1) ⟨0,nq _,fun j hj=>by omega⟩ (c4 Y Y Y Y trivial) (c2 Y Y trivial) (fun _=>rfl) ?_;intro ⟨i,hi0,hnb⟩;refine a2 (fun e17=>?_) (fun e17=>?_)
  ·have hi:i < l.length:=lt_of e17;refine ax (c:=(getmap (get_of hi))) ?_;refine ac (c:=r_less) ?_;refine a2 (fun e25=>?_) (fun e25=>?_)
   ·refine aa (c:=ari_succ (by show i≤_;omega)) ?_;refine au ?_;exact pe ⟨i+1,hi,all_succ hnb e25⟩ (c4 Y Y Y Y trivial) (c2 Y Y trivial) Y (by show l.length - (i+1) < l.length - i;omega)
   ·refine au ?_;refine ro0 Y Y Y (fun hd=>opE_sub tab_ok Y Y Y (.inl ⟨rfl,rfl⟩) (.inr ⟨_,rfl,rfl⟩) (nq _) (by rw[List.length_map];exact hi0) Y dx hd) ?_;refine rp0 el_Mult (by simp;omega) Y Y Y Y Y Y Y Y ?_;refine a2 (fun e37=>?_) (fun e37=>?_)
    ·have hi:i < l.length:=lt_of e37;have hm:=h _ (mg (get_of hi));refine ax (c:=(getmap (get_of hi))) ?_;refine au ?_;refine rr0 (rowEq (atZ l (i:Int)).1 r) Y Y Y Y Y Y Y Y Y (.inl ⟨rfl,rfl⟩) ?_;refine a2 (fun e45=>?_) (fun e45=>?_)
     ·refine ax (c:=(getmap (get_of hi))) ?_;refine ac (c:=r_add (hm.sm om) (hc.sm om) hm.ok hc.ok) ?_;refine au ?_;refine rp0 el_Mult (by simp;omega) Y Y Y Y Y Y Y Y ?_;refine aa (c:=ari_succ (by show i≤_;omega)) ?_;refine au ?_;refine ro0 Y Y Y (fun hd=>opE_sub tab_ok Y Y Y (.inr ⟨_,rfl,rfl⟩) (.inl ⟨rfl,rfl⟩) (by rw[List.length_map];first | exact hi | exact hi0) (nr _) Y dx hd) ?_;refine rp0 el_Mult (by simp;omega) Y Y Y Y Y Y Y Y ?_;exact ar (c:=by first | (exfalso;omega) | (rw[plus_hit e11 (pos_of hi0 hnb (by first | exact .inl hj | exact .inr e25)) hi e45];exact rows_mid rfl) | (rw[plus_miss e11 (pos_of hi0 hnb (by first | exact .inl hj | exact .inr e25)) (by first | exact .inr e45 | exact .inl (ge_of e37))];exact rows_mid rfl))
     ·refine ac (c:=r_canon (hc.sm om)) ?_;refine au ?_;refine rp0 el_Mult (by simp;omega) Y Y Y Y Y Y Y Y ?_;refine au ?_;refine ro0 Y Y Y (fun hd=>opE_sub tab_ok Y Y Y (.inr ⟨_,rfl,rfl⟩) (.inl ⟨rfl,rfl⟩) (by rw[List.length_map];first | exact hi | exact hi0) (nr _) Y dx hd) ?_;refine rp0 el_Mult (by simp;omega) Y Y Y Y Y Y Y Y ?_;exact ar (c:=by first | (exfalso;omega) | (rw[plus_hit e11 (pos_of hi0 hnb (by first | exact .inl hj | exact .inr e25)) hi e45];exact rows_mid rfl) | (rw[plus_miss e11 (pos_of hi0 hnb (by first | exact .inl hj | exact .inr e25)) (by first | exact .inr e45 | exact .inl (ge_of e37))];exact rows_mid rfl))
    ·refine ac (c:=r_canon (hc.sm om)) ?_;refine au ?_;refine rp0 el_Mult (by simp;omega) Y Y Y Y Y Y Y Y ?_;refine au ?_;refine ro0 Y Y Y (fun hd=>opE_sub tab_ok Y Y Y (.inr ⟨_,rfl,rfl⟩) (.inl ⟨rfl,rfl⟩) (by rw[List.length_map];first | exact hi | exact hi0) (nr _) Y dx hd) ?_;refine rp0 el_Mult (by simp;omega) Y Y Y Y Y Y Y Y ?_;exact ar (c:=by first | (exfalso;omega) | (rw[plus_hit e11 (pos_of hi0 hnb (by first | exact .inl hj | exact .inr e25)) hi e45];exact rows_mid rfl) | (rw[plus_miss e11 (pos_of hi0 hnb (by first | exact .inl hj | exact .inr e25)) (by first | exact .inr e45 | exact .inl (ge_of e37))];exact rows_mid rfl))
  ·have hj:l.length≤i:=ge_of e17;refine au ?_;refine ro0 Y Y Y (fun hd=>opE_sub tab_ok Y Y Y (.inl ⟨rfl,rfl⟩) (.inr ⟨_,rfl,rfl⟩) (nq _) (by rw[List.length_map];exact hi0) Y dx hd) ?_;refine rp0 el_Mult (by simp;omega) Y Y Y Y Y Y Y Y ?_;refine a2 (fun e37=>?_) (fun e37=>?_)
   ·have hi:i < l.length:=lt_of e37;have hm:=h _ (mg (get_of hi));refine ax (c:=(getmap (get_of hi))) ?_;refine au ?_;refine rr0 (rowEq (atZ l (i:Int)).1 r) Y Y Y Y Y Y Y Y Y (.inl ⟨rfl,rfl⟩) ?_;refine a2 (fun e45=>?_) (fun e45=>?_)
    ·refine ax (c:=(getmap (get_of hi))) ?_;refine ac (c:=r_add (hm.sm om) (hc.sm om) hm.ok hc.ok) ?_;refine au ?_;refine rp0 el_Mult (by simp;omega) Y Y Y Y Y Y Y Y ?_;refine aa (c:=ari_succ (by show i≤_;omega)) ?_;refine au ?_;refine ro0 Y Y Y (fun hd=>opE_sub tab_ok Y Y Y (.inr ⟨_,rfl,rfl⟩) (.inl ⟨rfl,rfl⟩) (by rw[List.length_map];first | exact hi | exact hi0) (nr _) Y dx hd) ?_;refine rp0 el_Mult (by simp;omega) Y Y Y Y Y Y Y Y ?_;exact ar (c:=by first | (exfalso;omega) | (rw[plus_hit e11 (pos_of hi0 hnb (by first | exact .inl hj | exact .inr e25)) hi e45];exact rows_mid rfl) | (rw[plus_miss e11 (pos_of hi0 hnb (by first | exact .inl hj | exact .inr e25)) (by first | exact .inr e45 | exact .inl (ge_of e37))];exact rows_mid rfl))
    ·refine ac (c:=r_canon (hc.sm om)) ?_;refine au ?_;refine rp0 el_Mult (by simp;omega) Y Y Y Y Y Y Y Y ?_;refine au ?_;refine ro0 Y Y Y (fun hd=>opE_sub tab_ok Y Y Y (.inr ⟨_,rfl,rfl⟩) (.inl ⟨rfl,rfl⟩) (by rw[List.length_map];first | exact hi | exact hi0) (nr _) Y dx hd) ?_;refine rp0 el_Mult (by simp;omega) Y Y Y Y Y Y Y Y ?_;exact ar (c:=by first | (exfalso;omega) | (rw[plus_hit e11 (pos_of hi0 hnb (by first | exact .inl hj | exact .inr e25)) hi e45];exact rows_mid rfl) | (rw[plus_miss e11 (pos_of hi0 hnb (by first | exact .inl hj | exact .inr e25)) (by first | exact .inr e45 | exact .inl (ge_of e37))];exact rows_mid rfl))
   ·refine ac (c:=r_canon (hc.sm om)) ?_;refine au ?_;refine rp0 el_Mult (by simp;omega) Y Y Y Y Y Y Y Y ?_;refine au ?_;refine ro0 Y Y Y (fun hd=>opE_sub tab_ok Y Y Y (.inr ⟨_,rfl,rfl⟩) (.inl ⟨rfl,rfl⟩) (by rw[List.length_map];first | exact hi | exact hi0) (nr _) Y dx hd) ?_;refine rp0 el_Mult (by simp;omega) Y Y Y Y Y Y Y Y ?_;exact ar (c:=by first | (exfalso;omega) | (rw[plus_hit e11 (pos_of hi0 hnb (by first | exact .inl hj | exact .inr e25)) hi e45];exact rows_mid rfl) | (rw[plus_miss e11 (pos_of hi0 hnb (by first | exact .inl hj | exact .inr e25)) (by first | exact .inr e45 | exact .inl (ge_of e37))];exact rows_mid rfl))
theorem sum_none {s:Sc} {l:List Mm} {i:Nat} {acc:Fm} (hc:canonR l=true) (hi:i < l.length) (h:sumGo s (l.drop i) acc=sumGo s l Fm.zero) (hf:(formR s (atZ l (i:Int)).1).2=false):sumR s l=(Fm.zero,12):=by
 have e:l.drop i=atZ l (i:Int)::l.drop (i+1):=by rw[atZ_nat (ge hi),List.drop_eq_getElem_cons hi]
 rw[e,sumGo,hf] at h;unfold sumR;rw[hc,← h];rfl
theorem sum_step {s:Sc} {l:List Mm} {i:Nat} {acc:Fm} (hi:i < l.length) (h:sumGo s (l.drop i) acc=sumGo s l Fm.zero) (hf:(formR s (atZ l (i:Int)).1).2=true):sumGo s (l.drop (i+1)) (Fm.addR acc (Fm.scaleR (formR s (atZ l (i:Int)).1).1 (atZ l (i:Int)).2))=sumGo s l Fm.zero:=by
 have e:l.drop i=atZ l (i:Int)::l.drop (i+1):=by rw[atZ_nat (ge hi),List.drop_eq_getElem_cons hi]
 rw[e,sumGo,hf] at h;exact h
theorem sum_end {s:Sc} {l:List Mm} {i:Nat} {acc:Fm} (hc:canonR l=true) (hi:l.length≤i) (h:sumGo s (l.drop i) acc=sumGo s l Fm.zero):sumR s l=(acc,0):=by
 rw[List.drop_of_length_le hi,sumGo] at h;unfold sumR;rw[hc,← h];rfl
theorem sum_canon {s:Sc} {l:List Mm} (hc:canonR l=false):sumR s l=(Fm.zero,1):=by unfold sumR;rw[hc];rfl
theorem sumGo_S {s:Sc} {a b n:Nat} (hs:s.Va a b):∀{l:List Mm} {acc:Fm} {k m:Nat},(∀x∈l,x.2.S n)→acc.S k m→∀f,sumGo s l acc=some f→f.S (k+l.length*(41+n)) (m+l.length*9)
 | [],acc,k,m,_,h,f,e=>by rw[sumGo] at e;injection e with e;subst e;exact h.up om om
 | x::l,acc,k,m,hl,h,f,e=>by
  rw[sumGo] at e;cases hf:(formR s x.1).2 with
  | false=>rw[hf] at e;cases e
  | true=>
   rw[hf] at e;have:=sumGo_S hs (fun y hy=>hl y (List.mem_cons_of_mem _ hy)) (h.addR ((hs.formS (r:=x.1)).scaleR (hl x (mf ..)))) f e;refine this.up ?_ ?_
   ·rw[List.length_cons,Nat.add_mul,Nat.one_mul];omega
   ·rw[List.length_cons,Nat.add_mul];omega
theorem sumR_S {s:Sc} {a b n:Nat} (hs:s.Va a b) {l:List Mm} (hl:∀x∈l,x.2.S n):(sumR s l).1.S (1+l.length*(41+n)) (l.length*9):=by
 unfold sumR;have hz:Fm.zero.S (1+l.length*(41+n)) (l.length*9):=fm_zero_S.up om om;cases canonR l with
 | false=>exact hz
 | true=>
  cases e:sumGo s l Fm.zero with
  | none=>exact hz
  | some f=>have:=sumGo_S hs hl fm_zero_S f e;exact this.up om om
theorem merge_step {c:Q} {a:List Mm}:∀{b:List Mm} {i:Nat},i < b.length→mergeR c a (b.drop i)=mergeR c (plusR a (atZ b (i:Int)).1 (Q.mul (atZ b (i:Int)).2 c)) (b.drop (i+1)):=fun {b i} hi=>by
 have e:b.drop i=atZ b (i:Int)::b.drop (i+1):=by rw[atZ_nat (ge hi),List.drop_eq_getElem_cons hi]
 rw[e,mergeR]
theorem plus_S {l:List Mm} {r:Rw} {c:Q} {n m:Nat} (h:∀x∈l,x.2.S n) (hc:c.S m):(∀x∈plusR l r c,x.2.S (n+m+1))∧(plusR l r c).length≤l.length+1:=by
 have hu:∀x∈l,x.2.S (n+m+1):=fun x hx=>(h x hx).up om
 have tk:∀(k:Nat) x,x∈l.take k→x.2.S (n+m+1):=fun k x hx=>hu x (List.mem_of_mem_take hx)
 have dr:∀(k:Nat) x,x∈l.drop k→x.2.S (n+m+1):=fun k x hx=>hu x (List.mem_of_mem_drop hx)
 unfold plusR;cases sgQ c == 0 with
 | true=>exact⟨hu,by simp⟩
 | false=>
  simp only[cond_false];cases h1:decide ((posR r l:Int) < (l.length:Int))&&rowEq (atZ l (posR r l:Int)).1 r with
  | true=>
   rw[be] at h1;have hp:=of_decide_eq_true h1.1;have hm:=h _ (atZ_mem (l:=l) (z:=(posR r l:Int)) om hp);refine⟨fun x hx=>?_,by simp only[cond_true,List.length_append,List.length_take,List.length_drop,List.length_singleton];omega⟩;simp only[cond_true,List.mem_append,List.mem_singleton] at hx;rcases hx with (hx | hx) | hx
   ·exact tk _ x hx
   ·rw[hx];exact hm.add hc
   ·exact dr _ x hx
  | false=>
   refine⟨fun x hx=>?_,by simp only[cond_false,List.length_append,List.length_take,List.length_drop,List.length_singleton];omega⟩;simp only[cond_false,List.mem_append,List.mem_singleton] at hx;rcases hx with (hx | hx) | hx
   ·exact tk _ x hx
   ·rw[hx];show (canonQ c).S _;rw[hc.canon];exact hc.up om
   ·exact dr _ x hx
theorem merge_S {c:Q} {n m k:Nat} (hc:c.S k):∀{b a:List Mm},(∀x∈a,x.2.S n)→(∀x∈b,x.2.S m)→(∀x∈mergeR c a b,x.2.S (n+b.length*(m+k+1)))∧(mergeR c a b).length≤a.length+b.length
 | [],a,ha,_=>⟨by simpa [mergeR] using ha,by simp[mergeR]⟩
 | x::b,a,ha,hb=>by
  obtain⟨h1,h2⟩:=plus_S (r:=x.1) ha ((hb x (mf ..)).mul hc);obtain⟨h3,h4⟩:=merge_S hc (a:=plusR a x.1 (Q.mul x.2 c)) h1 fun y hy=>hb y (List.mem_cons_of_mem _ hy)
  rw[mergeR];refine⟨fun y hy=>(h3 y hy).up ?_,by rw[List.length_cons];omega⟩;rw[List.length_cons,Nat.add_mul,Nat.one_mul];omega
theorem Q.S.abs {s:Nat} {q:Q} (h:q.S s):q.abs.S s:=⟨h.num,h.den,⟨h.ok.one,h.ok.cop,fun h0=>⟨rfl,(h.ok.pos h0).2⟩⟩⟩
theorem ari_back {n:Nat} (h:n≤1000000000):ariO .sub .i64 ((n+1:Nat):Int) 1=some (n:Int):=by
 show some (IntKind.wrap .i64 (((n+1:Nat):Int) - 1))=_;rw[i64_wrap om om]
 congr 1;omega
theorem nz_pos {n:Nat} (h:((n:Int) == 0)=false):decide (0 < (n:Int))=true:=by
 refine dt ?_;have:n≠0:=fun e=>by subst e;simp at h
 omega
theorem le_lt {α β:Type} {f:α→β} {l:List α} {i:Nat} (h:decide (((i+1:Nat):Int)≤((l.map f).length:Int))=true):i < l.length:=by
 have:=of_decide_eq_true h;rw[List.length_map] at this;omega
theorem le_ge {α β:Type} {f:α→β} {l:List α} {i:Nat} (h:decide (((i+1:Nat):Int)≤((l.map f).length:Int))=false):l.length≤i:=by
 have:=of_decide_eq_false h;rw[List.length_map] at this;omega
abbrev cmpR (x y:Q):Int:=sgQ (Q.add x y.neg')
def bestF (ls:List Lm) (unit:Int) (p:Nat×Nat) (n:Nat):Nat×Nat:=
 bif (atZ ls (n:Int)).unit != unit then p
 else (bif !(atZ ls (n:Int)).upper&&(((p.1:Int) == 0)||decide (0 < cmpR (atZ ls (n:Int)).value (atZ ls ((p.1 - 1:Nat):Int)).value)) then n+1 else p.1,
  bif (atZ ls (n:Int)).upper&&(((p.2:Int) == 0)||decide (cmpR (atZ ls (n:Int)).value (atZ ls ((p.2 - 1:Nat):Int)).value < 0)) then n+1 else p.2)
def bestR (ls:List Lm) (unit:Int):Nat×Nat:=(List.range ls.length).foldl (bestF ls unit) (0,0)
theorem best_step {ls:List Lm} {unit:Int} {i lo hi lo' hi':Nat} (h:(List.range i).foldl (bestF ls unit) (0,0)=(lo,hi)) (hs:bestF ls unit (lo,hi) i=(lo',hi')):(List.range (i+1)).foldl (bestF ls unit) (0,0)=(lo',hi'):=by
 rw[List.range_succ,List.foldl_append,h];exact hs
theorem best_end {ls:List Lm} {unit:Int} {i lo hi:Nat} (h:(List.range i).foldl (bestF ls unit) (0,0)=(lo,hi)) (h1:i≤ls.length) (h2:ls.length≤i):bestR ls unit=(lo,hi):=by
 have:i=ls.length:=by omega
 subst this;exact h
theorem bestF_le {ls:List Lm} {unit:Int} {p:Nat×Nat} {n:Nat} (hn:n < ls.length) (h1:p.1≤ls.length) (h2:p.2≤ls.length):(bestF ls unit p n).1≤ls.length∧(bestF ls unit p n).2≤ls.length:=by
 unfold bestF;cases (atZ ls (n:Int)).unit != unit with
 | true=>exact⟨h1,h2⟩
 | false=>
  simp only[cond_false]
  constructor
  ·cases !(atZ ls (n:Int)).upper&&(((p.1:Int) == 0)||decide (0 < cmpR (atZ ls (n:Int)).value (atZ ls ((p.1 - 1:Nat):Int)).value)) with
   | true=>exact hn
   | false=>exact h1
  ·cases (atZ ls (n:Int)).upper&&(((p.2:Int) == 0)||decide (cmpR (atZ ls (n:Int)).value (atZ ls ((p.2 - 1:Nat):Int)).value < 0)) with
   | true=>exact hn
   | false=>exact h2
theorem bestR_le (ls:List Lm) (unit:Int):(bestR ls unit).1≤ls.length∧(bestR ls unit).2≤ls.length:=by
 have:∀i,i≤ls.length→((List.range i).foldl (bestF ls unit) (0,0)).1≤ls.length∧((List.range i).foldl (bestF ls unit) (0,0)).2≤ls.length:=fun i=>by
  induction i with
  | zero=>intro _;exact⟨nq _,nq _⟩
  | succ i ih=>
   intro h;rw[List.range_succ,List.foldl_append];obtain⟨h1,h2⟩:=ih om;exact bestF_le om h1 h2
 exact this _ (nr _)
def atLeastR (s:Sc) (v:Int):List Mm:=bif decide (v < (s.q.g.inputs:Int)) then [(⟨1,v,0,0⟩,Q.one)] else [(⟨5,v - s.q.g.inputs,0,0⟩,Q.one)]
def atMostR (s:Sc) (v:Int):List Mm×Bool:=
 bif decide (v < (s.q.g.inputs:Int)) then ([(⟨2,v,0,0⟩,Q.one)],true)
 else bif (((bestR s.lems (v - s.q.g.inputs)).1:Int) == 0)||(((bestR s.lems (v - s.q.g.inputs)).2:Int) == 0) then ([],false)
 else bif decide (sgQ (atZ s.lems (((bestR s.lems (v - s.q.g.inputs)).2 - 1:Nat):Int)).value≤0) then ([(⟨10,v - s.q.g.inputs,0,((bestR s.lems (v - s.q.g.inputs)).2:Int)⟩,Q.one)],true)
 else bif decide (0≤sgQ (atZ s.lems (((bestR s.lems (v - s.q.g.inputs)).1 - 1:Nat):Int)).value) then ([(⟨8,v - s.q.g.inputs,((bestR s.lems (v - s.q.g.inputs)).1:Int),0⟩,Q.one),(⟨12,v - s.q.g.inputs,0,((bestR s.lems (v - s.q.g.inputs)).2:Int)⟩,Q.one)],true)
 else ([(⟨12,v - s.q.g.inputs,0,((bestR s.lems (v - s.q.g.inputs)).2:Int)⟩,Q.mul (Q.div Q.one (Q.add (atZ s.lems (((bestR s.lems (v - s.q.g.inputs)).2 - 1:Nat):Int)).value (atZ s.lems (((bestR s.lems (v - s.q.g.inputs)).1 - 1:Nat):Int)).value.neg')) (atZ s.lems (((bestR s.lems (v - s.q.g.inputs)).2 - 1:Nat):Int)).value),
   (⟨13,v - s.q.g.inputs,((bestR s.lems (v - s.q.g.inputs)).1:Int),((bestR s.lems (v - s.q.g.inputs)).2:Int)⟩,Q.div Q.one (Q.add (atZ s.lems (((bestR s.lems (v - s.q.g.inputs)).2 - 1:Nat):Int)).value (atZ s.lems (((bestR s.lems (v - s.q.g.inputs)).1 - 1:Nat):Int)).value.neg'))],true)
def moreR (s:Sc) (t:Tm):List Mm×Bool:=bif decide (0 < sgQ t.2) then (atLeastR s t.1,true) else atMostR s t.1
def aboveGo (s:Sc):List Tm→List Mm→Option (List Mm)
 | [],l=>some l
 | t::r,l=>bif (moreR s t).2 then aboveGo s r (mergeR t.2.abs l (moreR s t).1) else none
def aboveR (s:Sc) (f:Fm):Q×List Mm×Bool:=match aboveGo s f.terms [] with
 | some l=>((Fm.subR f (sumR s l).1).const,l,true)
 | none=>(Q.zero,[],false)
theorem isg_pos {q:Q} (h:¬sgQ q≤0):q.neg=false∧0 < q.num:=by
 unfold sgQ isg at h;split at h
 ·omega
 ·rename_i h0
  cases hn:q.neg with
  | false=>exact⟨rfl,by omega⟩
  | true=>rw[hn] at h;simp at h
theorem isg_neg {q:Q} (h:¬0≤sgQ q):q.neg=true∧0 < q.num:=by
 unfold sgQ isg at h;split at h
 ·omega
 ·rename_i h0
  cases hn:q.neg with
  | true=>exact⟨rfl,by omega⟩
  | false=>rw[hn] at h;simp at h
theorem quot_num {b:Bool} {n d:Nat} (hn:0 < n):0 < (quot b n d).num:=by
 unfold quot;rw[if_neg om];exact Nat.div_pos (Nat.le_of_dvd hn (Nat.gcd_dvd_left ..)) (Nat.gcd_pos_of_pos_left _ hn)
theorem span_pos {u l:Q} (hl0:l.Ok) (h:¬sgQ u≤0) (k:¬0≤sgQ l):(Q.add u l.neg').num≠0:=by
 obtain⟨h1,h2⟩:=isg_pos h;obtain⟨k1,k2⟩:=isg_neg k;have e:l.neg'.neg=false∧0 < l.neg'.num:=by
  unfold Q.neg' canonQ;refine⟨?_,quot_num k2⟩;unfold quot;split
  ·rfl
  ·show (!l.neg)=false;rw[k1];rfl
 have:0 < (Q.add u l.neg').num:=by
  unfold Q.add;simp only;refine quot_num ?_;unfold sadd Q.sg;rw[h1,e.1];simp only[Bool.false_and,if_true];have:=Nat.mul_pos h2 l.neg'.un_pos;omega
 omega
theorem atLeast_S (s:Sc) (v:Int):(∀x∈atLeastR s v,x.2.S 26)∧(atLeastR s v).length≤2:=by
 unfold atLeastR;cases decide (v < (s.q.g.inputs:Int)) with
 | true=>exact⟨fun x hx=>by rw[mj hx];exact sz_one.up dx,by simp⟩
 | false=>exact⟨fun x hx=>by rw[mj hx];exact sz_one.up dx,by simp⟩
theorem lem_at {s:Sc} {a b k:Nat} (hs:s.Va a b) (h:((k:Int) == 0)=false) (hk:k≤s.lems.length):k - 1 < s.lems.length∧(atZ s.lems ((k - 1:Nat):Int)).value.S 8:=by
 have h0:k≠0:=fun e=>by subst e;simp at h
 have h1:k - 1 < s.lems.length:=by omega
 exact⟨h1,(hs.lems _ (mg (get_of h1))).up hs.b9⟩
theorem atMost_S {s:Sc} {a b:Nat} (hs:s.Va a b) (v:Int):(∀x∈(atMostR s v).1,x.2.S 26)∧(atMostR s v).1.length≤2:=by
 unfold atMostR;have one:∀(r:Rw),∀x∈[(r,Q.one)],(x:Mm).2.S 26:=fun r x hx=>by rw[mj hx];exact sz_one.up dx
 cases decide (v < (s.q.g.inputs:Int)) with
 | true=>exact⟨one _,by simp⟩
 | false=>
  obtain⟨b1,b2⟩:=bestR_le s.lems (v - s.q.g.inputs);simp only[cond_false];generalize bestR s.lems (v - s.q.g.inputs)=p at b1 b2;cases h1:((p.1:Int) == 0) with
  | true=>exact⟨fun x hx=>(by cases hx),nq _⟩
  | false=>
   cases h2:((p.2:Int) == 0) with
   | true=>exact⟨fun x hx=>(by cases hx),nq _⟩
   | false=>
    obtain⟨g1,l8⟩:=lem_at hs h1 b1;obtain⟨g2,u8⟩:=lem_at hs h2 b2;simp only[Bool.or_self,cond_false];cases h3:decide (sgQ (atZ s.lems ((p.2 - 1:Nat):Int)).value≤0) with
    | true=>exact⟨one _,by simp⟩
    | false=>
     cases h4:decide (0≤sgQ (atZ s.lems ((p.1 - 1:Nat):Int)).value) with
     | true=>
      refine⟨fun x hx=>?_,by simp⟩;simp only[cond_true,cond_false,List.mem_cons,List.not_mem_nil,or_false] at hx;rcases hx with rfl | rfl<;>exact sz_one.up dx
     | false=>
      have hd:=(sz_one.div (u8.add l8.neg) (span_pos l8.ok (of_decide_eq_false h3) (of_decide_eq_false h4)));refine⟨fun x hx=>?_,by simp⟩;simp only[cond_false,List.mem_cons,List.not_mem_nil,or_false] at hx;rcases hx with rfl | rfl
      ·exact (hd.mul u8).up dx
      ·exact hd.up dx
theorem more_S {s:Sc} {a b:Nat} (hs:s.Va a b) (t:Tm):(∀x∈(moreR s t).1,x.2.S 26)∧(moreR s t).1.length≤2:=by
 unfold moreR;cases decide (0 < sgQ t.2) with
 | true=>exact atLeast_S s t.1
 | false=>exact atMost_S hs t.1
theorem above_step {s:Sc} {ts:List Tm} {i:Nat} {acc M:List Mm} (hi:i < ts.length) (h:aboveGo s (ts.drop i) acc=aboveGo s ts []) (hm:moreR s (atZ ts (i:Int))=(M,true)):aboveGo s (ts.drop (i+1)) (mergeR (atZ ts (i:Int)).2.abs acc M)=aboveGo s ts []:=by
 have e:ts.drop i=atZ ts (i:Int)::ts.drop (i+1):=by rw[atZ_nat (ge hi),List.drop_eq_getElem_cons hi]
 rw[e,aboveGo,hm] at h;exact h
theorem above_end {s:Sc} {ts:List Tm} {i:Nat} {acc:List Mm} (h:aboveGo s (ts.drop i) acc=aboveGo s ts []) (hi:ts.length≤i):aboveGo s ts []=some acc:=by rw[← h,List.drop_of_length_le hi];rfl
theorem above_none {s:Sc} {f:Fm} {i:Nat} {acc:List Mm} (hi:i < f.terms.length) (h:aboveGo s (f.terms.drop i) acc=aboveGo s f.terms []) (hm:(moreR s (atZ f.terms (i:Int))).2=false):aboveR s f=(Q.zero,[],false):=by
 have e:f.terms.drop i=atZ f.terms (i:Int)::f.terms.drop (i+1):=by rw[atZ_nat (ge hi),List.drop_eq_getElem_cons hi]
 rw[e,aboveGo,hm] at h;unfold aboveR;rw[← h];rfl
theorem aboveGo_S' {s:Sc} {a b:Nat} (hs:s.Va a b):∀{ts:List Tm} {acc L:List Mm} {n k:Nat},(∀t∈ts,t.2.S 3)→(∀x∈acc,x.2.S n)→acc.length≤k→aboveGo s ts acc=some L→(∀x∈L,x.2.S (n+ts.length*60))∧L.length≤k+ts.length*2
 | [],acc,L,n,k,_,h,hk,e=>by rw[aboveGo] at e;injection e with e;subst e;exact⟨by simpa using h,by simpa using hk⟩
 | t::ts,acc,L,n,k,ht,h,hk,e=>by
  rw[aboveGo] at e;cases hm:(moreR s t).2 with
  | false=>rw[hm] at e;cases e
  | true=>
   rw[hm] at e;obtain⟨m1,m2⟩:=more_S hs t;obtain⟨g1,g2⟩:=merge_S (ht t (mf ..)).abs h m1;have:=Nat.mul_le_mul_right 30 m2;obtain⟨r1,r2⟩:=aboveGo_S' hs (n:=n+60) (k:=k+2) (fun x hx=>ht x (List.mem_cons_of_mem _ hx)) (fun x hx=>(g1 x hx).up om) om e;rw[List.length_cons];exact⟨fun x hx=>(r1 x hx).up om,by omega⟩
theorem aboveGo_S {s:Sc} {a b:Nat} (hs:s.Va a b) {f:Fm} (hf:f.S 3 8) {L:List Mm} (e:aboveGo s f.terms []=some L):(∀x∈L,x.2.S 481)∧L.length≤16:=by
 have hl:=hf.len;obtain⟨h1,h2⟩:=aboveGo_S' hs (n:=1) (k:=0) hf.each (fun x hx=>by cases hx) (nr _) e;exact⟨fun x hx=>(h1 x hx).up om,by omega⟩
def addLm (ls:List Lm) (j:Int) (A B:Q×List Mm×Bool):List Lm:=ls++((bif A.2.2 then [⟨j,false,A.1,A.2.1⟩] else [])++(bif B.2.2 then [⟨j,true,B.1.neg',B.2.1⟩] else []))
def bStep (s:Sc) (j:Nat):Sc:=⟨s.q,s.path,addLm s.lems j (aboveR s (atZ s.q.g.units (j:Int))) (aboveR s (Fm.scaleR (atZ s.q.g.units (j:Int)) Q.mone))⟩
def boundedN (s:Sc):Nat→Sc
 | 0=>s
 | j+1=>bStep (boundedN s j) j
def boundedR (s:Sc):Sc:=boundedN s s.q.g.units.length
theorem scale_vars {f:Fm} {q:Q} (h:f.Cn) {P:Int→Prop} (hv:∀t∈f.terms,P t.1):∀t∈(Fm.scaleR f q).terms,P t.1:=fun t ht=>by
 obtain⟨r,h1,_,_,h4,_⟩:=scaleT_cf (c:=q) f.terms [] h.srt;rw[List.nil_append] at h1;have ht':t∈r:=by rw[← h1];exact ht
 obtain⟨u,hu,e⟩:=h4 t ht';rw[← e];exact hv u hu
theorem aboveR_S {s:Sc} {a b:Nat} (hs:s.Va a b) {f:Fm} (hf:f.S 3 8):(aboveR s f).1.S 9100∧(∀x∈(aboveR s f).2.1,x.2.S 481)∧(aboveR s f).2.1.length≤16:=by
 unfold aboveR;cases e:aboveGo s f.terms [] with
 | none=>exact⟨sz_zero.up dx,(fun x hx=>by cases hx),nq _⟩
 | some L=>
  obtain⟨h1,h2⟩:=aboveGo_S hs hf e;have:=Nat.mul_le_mul_right (41+481) h2;exact⟨(hf.subR (sumR_S hs h1)).const.up om,h1,h2⟩
def sgnR (s:Bool) (a:Nat):Rat:=bif s then -(a:Rat) else (a:Rat)
def Q.r (q:Q):Rat:=sgnR q.neg q.num / (q.un:Rat)
theorem nat_ne {n:Nat} (h:0 < n):(n:Rat)≠0:=by
 have:n≠0:=by omega
 exact_mod_cast this
theorem Q.un_ne (q:Q):(q.un:Rat)≠0:=nat_ne q.un_pos
theorem sgnR_zero (s:Bool):sgnR s 0=0:=by cases s<;>simp[sgnR]
theorem sgnR_mul (s t:Bool) (a b:Nat):sgnR (s != t) (a*b)=sgnR s a*sgnR t b:=by
 cases s<;>cases t<;>simp only[sgnR,bne_self_eq_false,cond_true,cond_false,Rat.natCast_mul,Bool.true_bne,Bool.false_bne,Bool.not_false,Bool.not_true,bne]<;>first | grind | (simp;grind)
theorem quot_r (s:Bool) (a:Nat) {b:Nat} (hb:0 < b):(quot s a b).r=sgnR s a / (b:Rat):=by
 unfold quot;split
 ·rename_i h0
  subst h0;rw[sgnR_zero];show sgnR false 0 / _=_;rw[sgnR_zero];grind
 ·rename_i h0
  have hg:=Nat.gcd_pos_of_pos_left b (Nat.pos_of_ne_zero h0);obtain⟨x,hx⟩:=Nat.gcd_dvd_left a b;obtain⟨y,hy⟩:=Nat.gcd_dvd_right a b;generalize Nat.gcd a b=g at*;subst hx hy;have hd2:0 < (g*y) / g:=by
   rw[Nat.mul_div_cancel_left _ hg];rcases Nat.eq_zero_or_pos y with h1 | h1
   ·rw[h1,Nat.mul_zero] at hb;omega
   ·exact h1
  unfold Q.r;rw[den0_un _ _ _ hd2];simp only;rw[Nat.mul_div_cancel_left _ hg,Nat.mul_div_cancel_left _ hg] at*;have hyr:=nat_ne hd2;have hgr:=nat_ne hg;cases s<;>simp only[sgnR,cond_true,cond_false,Rat.natCast_mul]<;>grind
theorem sadd_r (na:Bool) (a:Nat) (nb:Bool) (b:Nat):sgnR (sadd na a nb b).1 (sadd na a nb b).2=sgnR na a+sgnR nb b:=by
 unfold sadd;split
 ·rename_i h
  subst h;rcases Nat.eq_zero_or_pos (a+b) with h0 | h0
  ·have ha:a=0:=by omega
   have hb:b=0:=by omega
   subst ha hb;rw[sgnR_zero,sgnR_zero];grind
  ·rw[dt h0,Bool.and_true];cases na<;>simp only[sgnR,cond_true,cond_false,Rat.natCast_add]<;>grind
 ·rename_i h
  split
  ·rename_i hl
   obtain⟨c,rfl⟩:=Nat.exists_eq_add_of_le (Nat.le_of_lt hl);rw[Nat.add_sub_cancel_left];cases na<;>cases nb<;>simp only[sgnR,cond_true,cond_false,Rat.natCast_add]<;>first | grind | exact absurd rfl h
  ·rename_i hl
   obtain⟨c,rfl⟩:=Nat.exists_eq_add_of_le (Nat.le_of_not_lt hl);rw[Nat.add_sub_cancel_left];rcases Nat.eq_zero_or_pos c with h0 | h0
   ·subst h0;cases na<;>cases nb<;>simp[sgnR]<;>first | grind | exact absurd rfl h
   ·rw[dt h0,Bool.and_true];cases na<;>cases nb<;>simp only[sgnR,cond_true,cond_false,Rat.natCast_add]<;>first | grind | exact absurd rfl h
theorem sg_r (x:Q) {a:Nat} {k:Nat} (ha:a=x.num*k):sgnR (x.sg&&decide (0 < a)) a=sgnR x.neg a:=by
 rcases Nat.eq_zero_or_pos a with h0 | h0
 ·rw[h0,sgnR_zero,sgnR_zero]
 ·have:0 < x.num:=by
   rcases Nat.eq_zero_or_pos x.num with h1 | h1
   ·rw[ha,h1,Nat.zero_mul] at h0;omega
   ·exact h1
  unfold Q.sg;rw[dt h0,dt this,Bool.and_true,Bool.and_true]
theorem sgnR_k (s:Bool) (a k:Nat):sgnR s (a*k)=sgnR s a*(k:Rat):=by cases s<;>simp only[sgnR,cond_true,cond_false,Rat.natCast_mul]<;>grind
theorem Q.add_r (x y:Q):(Q.add x y).r=x.r+y.r:=by
 unfold Q.add;simp only;rw[quot_r _ _ (Nat.mul_pos x.un_pos y.un_pos),sadd_r,sg_r x rfl,sg_r y rfl,sgnR_k,sgnR_k];have h1:=x.un_ne;have h2:=y.un_ne;unfold Q.r;rw[Rat.natCast_mul]
 grind
theorem Q.mul_r (x y:Q):(Q.mul x y).r=x.r*y.r:=by
 unfold Q.mul;rw[quot_r _ _ (Nat.mul_pos x.un_pos y.un_pos),sgnR_mul];have h1:=x.un_ne;have h2:=y.un_ne;unfold Q.r;rw[Rat.natCast_mul]
 grind
theorem Q.neg_r (x:Q):x.neg'.r=-x.r:=by
 show (quot (!x.neg) x.num x.un).r=_;rw[quot_r _ _ x.un_pos];have h1:=x.un_ne;unfold Q.r;cases x.neg<;>simp only[sgnR,cond_true,cond_false,Bool.not_true,Bool.not_false]<;>grind
theorem zero_r:Q.zero.r=0:=by
 show sgnR false 0 / _=_;rw[sgnR_zero];grind
theorem one_r:Q.one.r=1:=by
 show sgnR false 1 / ((1:Nat):Rat)=_;simp only[sgnR,cond_false];grind
theorem mone_r:Q.mone.r=-1:=by
 show sgnR true 1 / ((1:Nat):Rat)=_;simp only[sgnR,cond_true];grind
theorem Q.div_r (x y:Q) (h:y.num≠0):(Q.div x y).r=x.r / y.r:=by
 unfold Q.div;rw[quot_r _ _ (Nat.mul_pos x.un_pos (Nat.pos_of_ne_zero h)),sgnR_k];have h1:=x.un_ne;have h2:=y.un_ne;have h3:=nat_ne (Nat.pos_of_ne_zero h);unfold Q.r;rw[Rat.natCast_mul];cases x.neg<;>cases y.neg<;>simp only[sgnR,cond_true,cond_false,bne_self_eq_false,Bool.true_bne,Bool.false_bne,Bool.not_false,Bool.not_true,bne,beq_self_eq_true]<;>first | grind | (simp;grind)
theorem dz_bd {q:Q} {D:Nat} {z:Int} (h:q.Ok) (hD:0 < D) (he:q.r*(D:Rat)=(z:Rat)):q.num≤z.natAbs∧q.un≤D:=by
 have hu:=q.un_ne;have e1:sgnR q.neg q.num*(D:Rat)=(z:Rat)*(q.un:Rat):=by
  unfold Q.r at he
  grind
 have e2:sgnR q.neg q.num=(((bif q.neg then -(q.num:Int) else (q.num:Int)):Int):Rat):=by
  have ec:((q.num:Int):Rat)=(q.num:Rat):=Rat.intCast_natCast _;cases q.neg<;>simp only[sgnR,cond_true,cond_false]
  ·exact ec.symm
  ·rw[Rat.intCast_neg,ec]
 rw[e2] at e1;have e3:(bif q.neg then -(q.num:Int) else (q.num:Int))*(D:Int)=z*(q.un:Int):=by exact_mod_cast e1
 have e4:q.num*D=z.natAbs*q.un:=by
  have:=congrArg Int.natAbs e3;rw[Int.natAbs_mul,Int.natAbs_mul] at this;cases hn:q.neg<;>rw[hn] at this<;>simpa using this
 have hc:Nat.Coprime q.un q.num:=by rw[Nat.coprime_comm];exact h.cop
 have hdvd:q.un ∣ D:=hc.dvd_of_dvd_mul_left (show q.un ∣ q.num*D from ⟨z.natAbs,by rw[e4,Nat.mul_comm]⟩);refine⟨?_,Nat.le_of_dvd hD hdvd⟩;obtain⟨e,rfl⟩:=hdvd;have he0:0 < e:=by
  rcases Nat.eq_zero_or_pos e with g | g
  ·rw[g] at hD;simp at hD
  ·exact g
 have e5:q.num*e=z.natAbs:=by
  apply Nat.eq_of_mul_eq_mul_right q.un_pos
  rw[← e4,Nat.mul_assoc,Nat.mul_comm e]
 rw[← e5];exact Nat.le_mul_of_pos_right _ he0
structure Q.Dz (q:Q) (D M:Nat):Prop where
 ok:q.Ok
 ex:∃z:Int,q.r*(D:Rat)=(z:Rat)∧z.natAbs≤M
theorem Q.Dz.S {q:Q} {D M:Nat} (h:q.Dz D M) (hD:0 < D) (hD9:D < 18446744073709551616) (hM:M < 18446744073709551616):q.S 2:=by
 obtain⟨z,hz,hm⟩:=h.ex;obtain⟨h1,h2⟩:=dz_bd h.ok hD hz;have hb:∀n,n < 18446744073709551616→(limbs n).length≤2:=fun n hn=>limbs_len_le (k:=2) (by rw[show B32 ^ 2=18446744073709551616 from rfl];exact hn)
 exact⟨hb _ om,hb _ om,h.ok⟩
theorem canon_r (q:Q):(canonQ q).r=q.r:=quot_r _ _ q.un_pos
theorem num0_r {q:Q} (h:q.num=0):q.r=0:=by unfold Q.r;rw[h,sgnR_zero];grind
def valM (k:Rw→Rat):List Mm→Rat
 | []=>0
 | m::l=>m.2.r*k m.1+valM k l
theorem valM_app (k:Rw→Rat):∀(a b:List Mm),valM k (a++b)=valM k a+valM k b
 | [],b=>by rw[List.nil_append,valM];grind
 | m::a,b=>by rw[List.cons_append,valM,valM,valM_app k a b];grind
theorem plus_val (k:Rw→Rat) (l:List Mm) (r:Rw) (c:Q):valM k (plusR l r c)=valM k l+c.r*k r:=by
 unfold plusR;cases hz:sgQ c == 0 with
 | true=>
  have h0:c.num=0:=by
   have:=eq_of_beq hz;unfold sgQ isg at this;split at this
   ·assumption
   ·cases hn:c.neg<;>rw[hn] at this<;>simp at this
  rw[cond_true,num0_r h0];grind
 | false=>
  rw[cond_false];have e1:∀(x:Mm),valM k [x]=x.2.r*k x.1:=fun x=>by rw[valM,valM];grind
  cases hh:decide ((posR r l:Int) < (l.length:Int))&&rowEq (atZ l (posR r l:Int)).1 r with
  | true=>
   rw[be] at hh;have hi:posR r l < l.length:=by have:=of_decide_eq_true hh.1;omega
   have he:(atZ l (posR r l:Int)).1=r:=by have:=hh.2;rw[rowEq_eq] at this;exact of_decide_eq_true this
   generalize posR r l=i at*;have hl:l=l.take i++[atZ l (i:Int)]++l.drop (i+1):=by
    rw[atZ_nat (ge hi),List.append_assoc,List.singleton_append,← List.drop_eq_getElem_cons hi,List.take_append_drop]
   rw[cond_true,valM_app,valM_app,e1]
   conv=>rhs;rw[hl]
   rw[valM_app,valM_app,e1,he];simp only;rw[Q.add_r];grind
  | false=>
   rw[cond_false,valM_app,valM_app,e1]
   conv=>rhs;rw[← List.take_append_drop (posR r l) l]
   rw[valM_app];simp only;rw[canon_r];grind
theorem merge_val (k:Rw→Rat) (c:Q):∀(b a:List Mm),valM k (mergeR c a b)=valM k a+c.r*valM k b
 | [],a=>by rw[mergeR,valM];grind
 | m::b,a=>by rw[mergeR,merge_val k c b,plus_val,valM,Q.mul_r];grind
def kR (s:Sc) (r:Rw):Rat:=(formR s r).1.const.r
theorem sumGo_val {s:Sc}:∀{l:List Mm} {acc f:Fm},sumGo s l acc=some f→f.const.r=acc.const.r+valM (kR s) l
 | [],acc,f,h=>by rw[sumGo] at h;injection h with h;subst h;rw[valM];grind
 | m::l,acc,f,h=>by
  rw[sumGo] at h;cases hf:(formR s m.1).2 with
  | false=>rw[hf] at h;cases h
  | true=>
   rw[hf] at h;have:=sumGo_val (l:=l) h;rw[this,valM];show (Q.add acc.const (Q.mul (formR s m.1).1.const m.2)).r+_=_;rw[Q.add_r,Q.mul_r];unfold kR
   grind
theorem sumR_val (s:Sc) (l:List Mm):(sumR s l).1.const.r=0∨(sumR s l).1.const.r=valM (kR s) l:=by
 unfold sumR;cases canonR l with
 | false=>left;exact zero_r
 | true=>
  cases e:sumGo s l Fm.zero with
  | none=>left;exact zero_r
  | some f=>
   right
   show f.const.r=_;rw[sumGo_val e,show Fm.zero.const=Q.zero from rfl,zero_r];grind
theorem above_val {s:Sc}:∀{ts:List Tm} {acc L:List Mm},aboveGo s ts acc=some L→∃ws:List Rat,ws.length=ts.length∧valM (kR s) L=valM (kR s) acc+ws.sum∧∀(i:Nat) (t:Tm) (w:Rat),ts[i]?=some t→ws[i]?=some w→w=t.2.abs.r*valM (kR s) (moreR s t).1∧(moreR s t).2=true
 | [],acc,L,h=>by
  rw[aboveGo] at h;injection h with h;subst h;exact⟨[],rfl,by simp;grind,fun i t w hi=>by simp at hi⟩
 | t::ts,acc,L,h=>by
  rw[aboveGo] at h;cases hm:(moreR s t).2 with
  | false=>rw[hm] at h;cases h
  | true=>
   rw[hm] at h;obtain⟨ws,h1,h2,h3⟩:=above_val h;refine⟨(t.2.abs.r*valM (kR s) (moreR s t).1)::ws,by simp[h1],?_,fun i u w hi hw=>?_⟩
   ·rw[h2,merge_val,List.sum_cons];grind
   ·cases i with
    | zero=>simp at hi hw;subst hi hw;exact⟨rfl,hm⟩
    | succ i=>simp at hi hw;exact h3 i u w hi hw
def BestOk (ls:List Lm) (unit:Int) (p:Nat×Nat):Prop:=(p.1≠0→(atZ ls ((p.1 - 1:Nat):Int)).unit=unit∧(atZ ls ((p.1 - 1:Nat):Int)).upper=false)∧(p.2≠0→(atZ ls ((p.2 - 1:Nat):Int)).unit=unit∧(atZ ls ((p.2 - 1:Nat):Int)).upper=true)
theorem bestF_ok {ls:List Lm} {unit:Int} {p:Nat×Nat} {n:Nat} (h:BestOk ls unit p):BestOk ls unit (bestF ls unit p n):=by
 unfold bestF;cases hu:(atZ ls (n:Int)).unit != unit with
 | true=>exact h
 | false=>
  have hu':(atZ ls (n:Int)).unit=unit:=by simpa using hu
  simp only[cond_false];refine⟨?_,?_⟩
  ·simp only;cases hc:!(atZ ls (n:Int)).upper&&(((p.1:Int) == 0)||decide (0 < cmpR (atZ ls (n:Int)).value (atZ ls ((p.1 - 1:Nat):Int)).value)) with
   | true=>
    rw[be] at hc;intro _;simp only[cond_true,Nat.add_sub_cancel];exact⟨hu',not_t hc.1⟩
   | false=>exact h.1
  ·simp only;cases hc:(atZ ls (n:Int)).upper&&(((p.2:Int) == 0)||decide (cmpR (atZ ls (n:Int)).value (atZ ls ((p.2 - 1:Nat):Int)).value < 0)) with
   | true=>
    rw[be] at hc;intro _;simp only[cond_true,Nat.add_sub_cancel];exact⟨hu',hc.1⟩
   | false=>exact h.2
theorem bestR_ok (ls:List Lm) (unit:Int):BestOk ls unit (bestR ls unit):=by
 have:∀i,BestOk ls unit ((List.range i).foldl (bestF ls unit) (0,0)):=fun i=>by
  induction i with
  | zero=>exact⟨fun h=>absurd rfl h,fun h=>absurd rfl h⟩
  | succ i ih=>rw[List.range_succ,List.foldl_append];exact bestF_ok ih
 exact this _
theorem lemma_best {ls:List Lm} {unit:Int} {k:Nat} {up:Bool} (h0:k≠0) (h1:k≤ls.length) (hu:(atZ ls ((k - 1:Nat):Int)).unit=unit) (hp:(atZ ls ((k - 1:Nat):Int)).upper=up):lemmaQ ls (k:Int) unit up=(canonQ (atZ ls ((k - 1:Nat):Int)).value,true):=by
 have e:((k:Int) - 1)=((k - 1:Nat):Int):=by omega
 unfold lemmaQ;rw[e,df (by omega:¬((k:Int) < 1)),df (by omega:¬((ls.length:Int) < (k:Int))),hu,hp];simp
theorem sub_const_r (f g:Fm):(Fm.subR f g).const.r=f.const.r - g.const.r:=by
 show (Q.add f.const (Q.mul g.const Q.mone)).r=_;rw[Q.add_r,Q.mul_r,mone_r];grind
theorem scale_const_r (f:Fm) (q:Q):(Fm.scaleR f q).const.r=f.const.r*q.r:=Q.mul_r _ _
theorem k_lo {s:Sc} {v:Int} (h0:0≤v) (h1:v < s.q.rg.lo.length):kR s ⟨1,v,0,0⟩=-(atZ s.q.rg.lo v).r:=by
 unfold kR formR;rw[dt h1];have:decide (v < 0)=false:=df om;simp only[this];show (Fm.subR (varR v) (numR (atZ s.q.rg.lo v))).const.r=_;rw[sub_const_r,show (varR v).const=Q.zero from rfl,show (numR (atZ s.q.rg.lo v)).const=atZ s.q.rg.lo v from rfl,zero_r];grind
theorem k_hi {s:Sc} {v:Int} (h0:0≤v) (h1:v < s.q.rg.hi.length):kR s ⟨2,v,0,0⟩=(atZ s.q.rg.hi v).r:=by
 unfold kR formR;rw[dt h1];have:decide (v < 0)=false:=df om;simp only[this];show (Fm.subR (numR (atZ s.q.rg.hi v)) (varR v)).const.r=_;rw[sub_const_r,show (varR v).const=Q.zero from rfl,show (numR (atZ s.q.rg.hi v)).const=atZ s.q.rg.hi v from rfl,zero_r];grind
theorem k_unit {s:Sc} {r:Rw} (h5:5≤r.kind) (h0:0≤r.index) (h1:r.index < s.q.g.units.length):kR s r=(bif (unitF (varR (s.q.g.inputs+r.index)) (atZ s.q.g.units r.index) (lemmaQ s.lems r.lo r.index false) (lemmaQ s.lems r.hi r.index true) (onQ s r (lemmaQ s.lems r.lo r.index false)) (offQ s r (lemmaQ s.lems r.hi r.index true)) r).2 then (unitF (varR (s.q.g.inputs+r.index)) (atZ s.q.g.units r.index) (lemmaQ s.lems r.lo r.index false) (lemmaQ s.lems r.hi r.index true) (onQ s r (lemmaQ s.lems r.lo r.index false)) (offQ s r (lemmaQ s.lems r.hi r.index true)) r).1.const.r else 0):=by
 unfold kR formR;rw[dt h5,cond_true];unfold unitQ;rw[df (by omega:¬r.index < 0),df (by omega:¬((s.q.g.units.length:Int)≤r.index)),Bool.or_self,cond_false];cases (unitF (varR (s.q.g.inputs+r.index)) (atZ s.q.g.units r.index) (lemmaQ s.lems r.lo r.index false) (lemmaQ s.lems r.hi r.index true) (onQ s r (lemmaQ s.lems r.lo r.index false)) (offQ s r (lemmaQ s.lems r.hi r.index true)) r).2 with
 | true=>rfl
 | false=>exact zero_r
theorem k_zero {s:Sc} {j:Int} (h0:0≤j) (h1:j < s.q.g.units.length):kR s ⟨5,j,0,0⟩=0:=by
 rw[k_unit (by show (5:Int)≤_;simp) h0 h1];show (bif true then (varR (s.q.g.inputs+j)).const.r else 0)=0;exact zero_r
theorem k_offeq {s:Sc} {j hi:Int} (h0:0≤j) (h1:j < s.q.g.units.length):kR s ⟨10,j,0,hi⟩=0:=by
 rw[k_unit (by show (5:Int)≤_;simp) h0 h1];show (bif offQ s ⟨10,j,0,hi⟩ _ then (Fm.scaleR (varR (s.q.g.inputs+j)) Q.mone).const.r else 0)=0;cases offQ s ⟨10,j,0,hi⟩ (lemmaQ s.lems hi j true) with
 | true=>rw[cond_true,scale_const_r,show (varR (s.q.g.inputs+j)).const=Q.zero from rfl,zero_r];grind
 | false=>rfl
theorem k_upper {s:Sc} {j hi:Int} {u:Q} (h0:0≤j) (h1:j < s.q.g.units.length) (hu:lemmaQ s.lems hi j true=(u,true)):kR s ⟨12,j,0,hi⟩=u.r - (atZ s.q.g.units j).const.r:=by
 rw[k_unit (by show (5:Int)≤_;simp) h0 h1];simp only[hu];show (bif true&&true then (Fm.subR (numR u) (atZ s.q.g.units j)).const.r else 0)=_;exact sub_const_r _ _
theorem k_oneq {s:Sc} {j lo:Int} {l:Q} (h0:0≤j) (h1:j < s.q.g.units.length) (hl:lemmaQ s.lems lo j false=(l,true)) (hs:decide (0≤sgQ l)=true):kR s ⟨8,j,lo,0⟩=(atZ s.q.g.units j).const.r:=by
 rw[k_unit (by show (5:Int)≤_;simp) h0 h1];have ho:onQ s ⟨8,j,lo,0⟩ (l,true)=true:=by
  unfold onQ;simp only[hs];simp
 simp only[hl,ho];show (bif true then (Fm.subR (atZ s.q.g.units j) (varR (s.q.g.inputs+j))).const.r else 0)=_;rw[cond_true,sub_const_r,show (varR (s.q.g.inputs+j)).const=Q.zero from rfl,zero_r];grind
theorem k_tri {s:Sc} {j lo hi:Int} {l u:Q} (h0:0≤j) (h1:j < s.q.g.units.length) (hl:lemmaQ s.lems lo j false=(l,true)) (hu:lemmaQ s.lems hi j true=(u,true)) (hs:decide (sgQ l < 0)=true) (ht:decide (0 < sgQ u)=true):kR s ⟨13,j,lo,hi⟩=((atZ s.q.g.units j).const.r - l.r)*u.r:=by
 rw[k_unit (by show (5:Int)≤_;simp) h0 h1];simp only[hl,hu];show (bif true&&(true&&(decide (sgQ l < 0)&&decide (0 < sgQ u))) then (Fm.subR (Fm.scaleR (Fm.subR (atZ s.q.g.units j) (numR l)) u) (Fm.scaleR (varR (s.q.g.inputs+j)) (Q.add u l.neg'))).const.r else 0)=_;rw[hs,ht];simp only[Bool.and_self,cond_true];rw[sub_const_r,scale_const_r,scale_const_r,sub_const_r,show (varR (s.q.g.inputs+j)).const=Q.zero from rfl,zero_r,show (numR l).const=l from rfl];grind
theorem r_ne {q:Q} (h:q.num≠0):q.r≠0:=by
 have h1:=q.un_ne;have h2:=nat_ne (Nat.pos_of_ne_zero h);unfold Q.r;cases q.neg<;>simp only[sgnR,cond_true,cond_false]<;>grind
theorem least_val {s:Sc} {a b:Nat} (hs:s.Va a b) {v:Int} (h0:0≤v) (hv:v < ((s.q.g.inputs+s.q.g.units.length:Nat):Int)):valM (kR s) (atLeastR s v)=(if v < s.q.g.inputs then -(atZ s.q.rg.lo v).r else 0):=by
 unfold atLeastR;by_cases hi:v < s.q.g.inputs
 ·rw[dt hi,if_pos hi,cond_true,valM,valM];simp only;rw[k_lo h0 (by rw[hs.q.rg.lo];exact hi),one_r];grind
 ·rw[df hi,if_neg hi,cond_false,valM,valM];simp only;rw[k_zero om om];grind
def hiV (s:Sc) (v:Int):Rat:=
 if v < s.q.g.inputs then (atZ s.q.rg.hi v).r
 else if decide (sgQ (atZ s.lems (((bestR s.lems (v - s.q.g.inputs)).2 - 1:Nat):Int)).value≤0) then 0 else (atZ s.lems (((bestR s.lems (v - s.q.g.inputs)).2 - 1:Nat):Int)).value.r
theorem most_val {s:Sc} {a b:Nat} (hs:s.Va a b) {v:Int} (h0:0≤v) (hv:v < ((s.q.g.inputs+s.q.g.units.length:Nat):Int)) (hm:(atMostR s v).2=true):valM (kR s) (atMostR s v).1=hiV s v∧(¬v < s.q.g.inputs→(bestR s.lems (v - s.q.g.inputs)).2≠0∧(bestR s.lems (v - s.q.g.inputs)).2≤s.lems.length):=by
 have one:∀(r:Rw),valM (kR s) [(r,Q.one)]=kR s r:=fun r=>by rw[valM,valM];simp only;rw[one_r];grind
 unfold atMostR at hm ⊢;unfold hiV;by_cases hi:v < s.q.g.inputs
 ·rw[dt hi,if_pos hi,cond_true,one,k_hi h0 (by rw[hs.q.rg.hi];exact hi)];exact⟨rfl,fun h=>absurd hi h⟩
 ·rw[df hi,if_neg hi] at*;obtain⟨b1,b2⟩:=bestR_le s.lems (v - s.q.g.inputs);obtain⟨o1,o2⟩:=bestR_ok s.lems (v - s.q.g.inputs);simp only[cond_false] at hm ⊢;generalize bestR s.lems (v - s.q.g.inputs)=p at*;cases h1:((p.1:Int) == 0) with
  | true=>rw[h1] at hm;simp at hm
  | false=>
   cases h2:((p.2:Int) == 0) with
   | true=>rw[h1,h2] at hm;simp at hm
   | false=>
    obtain⟨g1,l8⟩:=lem_at hs h1 b1;obtain⟨g2,u8⟩:=lem_at hs h2 b2;have n1:p.1≠0:=fun e=>by rw[e] at h1;simp at h1
    have n2:p.2≠0:=fun e=>by rw[e] at h2;simp at h2
    obtain⟨lu,lp⟩:=o1 n1;obtain⟨uu,up⟩:=o2 n2;have hl:=lemma_best n1 b1 lu lp;have hu:=lemma_best n2 b2 uu up;rw[l8.canon] at hl;rw[u8.canon] at hu;generalize (atZ s.lems ((p.1 - 1:Nat):Int)).value=l at*;generalize (atZ s.lems ((p.2 - 1:Nat):Int)).value=u at*;have hj0:0≤v - s.q.g.inputs:=by omega
    have hj1:v - s.q.g.inputs < s.q.g.units.length:=by omega
    refine⟨?_,fun _=>⟨n2,b2⟩⟩;simp only[Bool.or_self,cond_false];cases h3:decide (sgQ u≤0) with
    | true=>rw[cond_true,one,k_offeq hj0 hj1];rfl
    | false=>
     rw[cond_false];cases h4:decide (0≤sgQ l) with
     | true=>
      rw[cond_true,valM,one];simp only;rw[k_oneq hj0 hj1 hl h4,k_upper hj0 hj1 hu,one_r];simp;grind
     | false=>
      have h5:decide (sgQ l < 0)=true:=dt (by have:=of_decide_eq_false h4;omega);have h6:decide (0 < sgQ u)=true:=dt (by have:=of_decide_eq_false h3;omega);have hn:=span_pos l8.ok (of_decide_eq_false h3) (of_decide_eq_false h4);have hd:=r_ne hn;rw[cond_false,valM,valM,valM];simp only;rw[k_upper hj0 hj1 hu,k_tri hj0 hj1 hl hu h5 h6,Q.mul_r,Q.div_r _ _ hn,one_r];rw[Q.add_r,Q.neg_r] at hd ⊢;simp
      grind
def Rz (x:Rat) (D M:Nat):Prop:=∃z:Int,x*(D:Rat)=(z:Rat)∧z.natAbs≤M
theorem Rz.neg {x:Rat} {D M:Nat} (h:Rz x D M):Rz (-x) D M:=by
 obtain⟨z,h1,h2⟩:=h;exact⟨-z,by rw[Rat.intCast_neg,← h1];grind,by rw[Int.natAbs_neg];exact h2⟩
theorem Rz.add {x y:Rat} {D M N:Nat} (h:Rz x D M) (k:Rz y D N):Rz (x+y) D (M+N):=by
 obtain⟨z,h1,h2⟩:=h;obtain⟨w,k1,k2⟩:=k;exact⟨z+w,by rw[Rat.intCast_add,← h1,← k1];grind,nt (Int.natAbs_add_le ..) (Nat.add_le_add h2 k2)⟩
theorem Rz.mul {x y:Rat} {D E M N:Nat} (h:Rz x D M) (k:Rz y E N):Rz (x*y) (D*E) (M*N):=by
 obtain⟨z,h1,h2⟩:=h;obtain⟨w,k1,k2⟩:=k;exact⟨z*w,by rw[Rat.intCast_mul,Rat.natCast_mul,← h1,← k1];grind,by rw[Int.natAbs_mul];exact Nat.mul_le_mul h2 k2⟩
theorem Rz.zero (D M:Nat):Rz 0 D M:=⟨0,by simp,nq _⟩
theorem Rz.up {x:Rat} {D M N:Nat} (h:Rz x D M) (k:M≤N):Rz x D N:=by
 obtain⟨z,h1,h2⟩:=h;exact⟨z,h1,nt h2 k⟩
theorem Rz.scale {x:Rat} {D M:Nat} (h:Rz x D M) (k:Nat):Rz x (D*k) (M*k):=by
 obtain⟨z,h1,h2⟩:=h;have ec:((k:Int):Rat)=(k:Rat):=Rat.intCast_natCast _;exact⟨z*k,by rw[Rat.natCast_mul,Rat.intCast_mul,ec,← h1];grind,by rw[Int.natAbs_mul,Int.natAbs_natCast];exact Nat.mul_le_mul_right _ h2⟩
theorem Rz.sum {D M:Nat}:∀{l:List Rat},(∀x∈l,Rz x D M)→Rz l.sum D (l.length*M)
 | [],_=>by rw[List.sum_nil];exact Rz.zero _ _
 | x::l,h=>by
  rw[List.sum_cons,List.length_cons,Nat.add_mul,Nat.one_mul,Nat.add_comm (l.length*M)];exact (h x (mf ..)).add (Rz.sum fun y hy=>h y (List.mem_cons_of_mem _ hy))
theorem abs_r (q:Q):q.abs.r=q.r∨q.abs.r=-q.r:=by
 unfold Q.abs Q.r;have:(Q.mk false q.num q.den).un=q.un:=rfl;rw[this];cases q.neg with
 | false=>left;rfl
 | true=>right;simp only[sgnR,cond_true,cond_false];grind
theorem Rz.abs {q:Q} {D M:Nat} (h:Rz q.r D M):Rz q.abs.r D M:=by
 rcases abs_r q with e | e
 ·rw[e];exact h
 ·rw[e];exact h.neg
structure Sc.Dz (s:Sc) (D M:Nat):Prop where
 lo:∀q∈s.q.rg.lo,Rz q.r D M
 hi:∀q∈s.q.rg.hi,Rz q.r D M
 lems:∀m∈s.lems,Rz m.value.r D M
structure Fm.Dz (f:Fm) (n C:Nat):Prop where
 each:∀t∈f.terms,Rz t.2.r 4 C∧0≤t.1∧t.1 < (n:Int)
 const:Rz f.const.r 4 C
theorem more_dz {s:Sc} {a b D M:Nat} (hs:s.Va a b) (h:s.Dz D M) {t:Tm} (h0:0≤t.1) (hv:t.1 < ((s.q.g.inputs+s.q.g.units.length:Nat):Int)) (hm:(moreR s t).2=true):Rz (valM (kR s) (moreR s t).1) D M:=by
 unfold moreR at hm ⊢;cases hd:decide (0 < sgQ t.2) with
 | true=>
  rw[cond_true];simp only;rw[least_val hs h0 hv];split
  ·rename_i hi
   exact (h.lo _ (atZ_mem h0 (by rw[hs.q.rg.lo];exact hi))).neg
  ·exact Rz.zero _ _
 | false=>
  rw[hd,cond_false] at hm;rw[cond_false];obtain⟨h1,h2⟩:=most_val hs h0 hv hm;rw[h1];unfold hiV;split
  ·rename_i hi
   exact h.hi _ (atZ_mem h0 (by rw[hs.q.rg.hi];exact hi))
  ·rename_i hi
   obtain⟨n2,b2⟩:=h2 hi;split
   ·exact Rz.zero _ _
   ·exact h.lems _ (mg (get_of (show _ - 1 < s.lems.length by omega)))
theorem above_dz {s:Sc} {a b D M C:Nat} (hs:s.Va a b) (h:s.Dz D M) {f:Fm} (hf:f.Dz (s.q.g.inputs+s.q.g.units.length) C):Rz (aboveR s f).1.r (4*D) (C*D+f.terms.length*(C*M)):=by
 unfold aboveR;cases e:aboveGo s f.terms [] with
 | none=>rw[show ((Q.zero,([]:List Mm),false):Q×List Mm×Bool).1=Q.zero from rfl,zero_r];exact Rz.zero _ _
 | some L=>
  simp only;rw[sub_const_r];have hc:Rz f.const.r (4*D) (C*D):=hf.const.scale D;rcases sumR_val s L with h1 | h1
  ·rw[h1];have:f.const.r - 0=f.const.r:=by grind
   rw[this];exact hc.up (Nat.le_add_right ..)
  ·rw[h1];obtain⟨ws,g1,g2,g3⟩:=above_val e;have hw:∀w∈ws,Rz w (4*D) (C*M):=fun w hw=>by
    obtain⟨i,hi,rfl⟩:=List.mem_iff_getElem.1 hw;have hi':i < f.terms.length:=by omega
    obtain⟨e1,e2⟩:=g3 i _ _ (ge hi') (ge hi);obtain⟨t1,t2,t3⟩:=hf.each _ (List.getElem_mem hi');rw[e1];exact (Rz.abs t1).mul (more_dz hs h t2 t3 e2)
   have hsum:=Rz.sum hw;rw[g1] at hsum;have:f.const.r - valM (kR s) L=f.const.r+-(ws.sum):=by rw[g2,valM];grind
   rw[this];exact hc.add hsum.neg
theorem r_sum {s:Sc} {l:List Mm} {a b n:Nat} (h:s.Va a b) (hl:∀m∈l,m.2.S n) (h9:l.length≤40) (hn9:n≤9000) (hK:1+l.length*(41+n)≤9000):PCalls Tryz.prog TF 121 [scP s,mmsP l] (.tup [fmP (sumR s l).1,iP (sumR s l).2]):=by
 refine pcA [85,37] Tryz.func121 (fun D=>?_);refine ac (c:=r_canonical (n:=n) hl om om) ?_;refine a2 (fun e12=>?_) (fun e12=>?_)
 ·replace e12:=not_t e12;exact ar (c:=by rw[sum_canon e12];rfl)
 ·replace e12:=not_f e12
  skip
  refine au ?_;refine pwk ?_;refine pl (ι:={p:Nat×Fm // p.1≤l.length∧sumGo s (l.drop p.1) p.2=sumGo s l Fm.zero∧p.2.S (1+p.1*(41+n)) (p.1*9)}) (fun p=>[(1,.pv (mmsP l)),(2,.box 2 0),(4,.box 4 0),(6,.box 6 0),(7,.pv (iP p.1.1))]) (fun p=>[(2,.box 85 [.pv (iP s.q.g.inputs),.pv (formsP s.q.g.units),.pv (formsP s.q.g.outputs),.pv (ratsP s.q.rg.lo),.pv (ratsP s.q.rg.hi),.pv (formsP s.q.rg.rows),.pv (termsP s.q.goal.terms),.pv (bP s.q.goal.const.neg),.pv (.nat s.q.goal.const.num),.pv (.nat s.q.goal.const.den),.pv (dcsP s.path),.pv (lmsP s.lems)]),(4,.box 37 [.pv (termsP []),.pv (.raw (.bool false)),.pv (.nat 0),.pv (.nat 0)]),(6,.box 37 [.pv (termsP p.1.2.terms),.pv (bP p.1.2.const.neg),.pv (.nat p.1.2.const.num),.pv (.nat p.1.2.const.den)])]) [85,37] (fun p=>l.length - p.1.1) ⟨(0,Fm.zero),nq _,rfl,fm_zero_S.up om om⟩ (c5 Y Y Y Y Y trivial) (c3 Y Y Y trivial) (fun _=>rfl) ?_;intro ⟨(i,acc),hi0,hg,ha⟩;simp only at hi0 hg ha;refine a2 (fun e17=>?_) (fun e17=>?_)
  ·have hi:i < l.length:=lt_of e17;have hm:=hl _ (mg (get_of hi));have hf:=h.formS (r:=(atZ l (i:Int)).1);have hii:=Nat.mul_le_mul_right (41+n) (show i+1≤l.length from hi);rw[Nat.add_mul,Nat.one_mul] at hii;refine ax (c:=(getmap (get_of hi))) ?_;refine ac (c:=r_form h) ?_;refine a2 (fun e31=>?_) (fun e31=>?_)
   ·replace e31:=not_t e31;exact ar (c:=by rw[sum_none e12 hi hg e31];rfl)
   ·replace e31:=not_f e31;refine ax (c:=(getmap (get_of hi))) ?_;refine ac (c:=r_fscale hf hm dx om dx) ?_;refine ac (c:=r_fadd ha (hf.scaleR hm) om om) ?_;refine aa (c:=ari_succ (by show i≤_;omega)) ?_;refine au ?_;exact pe ⟨(i+1,Fm.addR acc (Fm.scaleR (formR s (atZ l (i:Int)).1).1 (atZ l (i:Int)).2)),hi,sum_step hi hg e31,(ha.addR (hf.scaleR hm)).up (by show _≤1+(i+1)*(41+n);rw[Nat.add_mul,Nat.one_mul];omega) (by show i*9+9≤(i+1)*9;omega)⟩ (c5 Y Y Y Y Y trivial) (c3 Y Y Y trivial) Y (by show l.length - (i+1) < l.length - i;omega)
  ·have hj:l.length≤i:=ge_of e17;exact ar (c:=by rw[sum_end e12 hj hg];rfl)
theorem r_merge {a b:List Mm} {c:Q} {n m k:Nat} (ha:∀x∈a,x.2.S n) (hb:∀x∈b,x.2.S m) (hc:c.S k) (h9:a.length+b.length≤900) (hm9:m≤9000) (hk9:k≤9000) (hK:n+b.length*(m+k+1)≤9000):PCalls Tryz.prog TU 120 [mmsP a,mmsP b,ratP c] (mmsP (mergeR c a b)):=by
 refine pcA [35] Tryz.func120 (fun D=>?_);refine au ?_;refine pl (ι:={p:Nat×List Mm // p.1≤b.length∧mergeR c p.2 (b.drop p.1)=mergeR c a b∧(∀x∈p.2,x.2.S (n+p.1*(m+k+1)))∧p.2.length≤a.length+p.1}) (fun p=>[(0,.pv (mmsP p.1.2)),(1,.pv (mmsP b)),(5,.box 5 0),(7,.pv (iP p.1.1))]) (fun p=>[(5,.box 35 [.pv (bP c.neg),.pv (.nat c.num),.pv (.nat c.den)])]) [35] (fun p=>b.length - p.1.1) ⟨(0,a),nq _,rfl,by simpa using ha,nr _⟩ (c4 Y Y Y Y trivial) (ai Y trivial) (fun _=>rfl) ?_;intro ⟨(i,acc),hi0,hg,hacc,hlen⟩;simp only at hi0 hg hacc hlen;refine a2 (fun e11=>?_) (fun e11=>?_)
 ·have hi:i < b.length:=lt_of e11;have hm:=hb _ (mg (get_of hi));have hii:=Nat.mul_le_mul_right (m+k+1) (show i+1≤b.length from hi);rw[Nat.add_mul,Nat.one_mul] at hii;obtain⟨q1,q2⟩:=plus_S (r:=(atZ b (i:Int)).1) hacc (hm.mul hc);refine ax (c:=(getmap (get_of hi))) ?_;refine ax (c:=(getmap (get_of hi))) ?_;refine ac (c:=r_mul (hm.sm om) (hc.sm om)) ?_;refine ac (c:=r_plus hacc (hm.mul hc) om om) ?_;refine aa (c:=ari_succ (by show i≤_;omega)) ?_;refine au ?_;exact pe ⟨(i+1,plusR acc (atZ b (i:Int)).1 (Q.mul (atZ b (i:Int)).2 c)),hi,by rw[← hg,merge_step hi],fun x hx=>(q1 x hx).up (by show _≤n+(i+1)*(m+k+1);rw[Nat.add_mul,Nat.one_mul];omega),by show (plusR acc (atZ b (i:Int)).1 (Q.mul (atZ b (i:Int)).2 c)).length≤a.length+(i+1);omega⟩ (c4 Y Y Y Y trivial) (ai Y trivial) Y (by show b.length - (i+1) < b.length - i;omega)
 ·have hj:b.length≤i:=ge_of e11;exact ar (c:=congrArg mmsP (by show acc=_;rw[← hg,List.drop_of_length_le hj];rfl))
end Go.Proofs.YtbhbainhmfjpdaaGreatDoor
