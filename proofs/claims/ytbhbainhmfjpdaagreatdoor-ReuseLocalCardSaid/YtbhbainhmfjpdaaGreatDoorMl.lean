/- Walks of the search and of what it calls, part 12. -/
import Derived.Test.YtbhbainhmfjpdaaGreatDoorMk
set_option linter.unusedVariables false
set_option linter.unusedSectionVars false
set_option linter.unusedSimpArgs false
set_option maxRecDepth 100000
set_option maxHeartbeats 8000000
namespace Go.Proofs.YtbhbainhmfjpdaaGreatDoor
open Go.RowKit
theorem akr {s:Sc} {a b:Nat} {r:Rw} (h:s.Va a b):PCalls Tryz.prog TF 215 [scP s,rwP r] (.tup [fmP (cg s r).1,bP (cg s r).2]):=by
 refine pcA [85,96,37,27,35] Tryz.func215 (fun D=>?_);refine a2 (fun e25=>?_) (fun e25=>?_)
 ·exact ar (c:=by (try simp only[List.length_map] at *);simp only[cg,cd,e25,sb]<;>rfl)
 ·have g0:=uw e25;refine a2 (fun e32=>?_) (fun e32=>?_)
  ·exact ar (c:=by (try simp only[List.length_map] at *);simp only[cg,cd,e25,e32,sb]<;>rfl)
  ·have g1:=yu e32;have hn:=h.n9;have hv:(varR (s.q.g.inputs+r.index)).S 1 1:=fk _;have hp:(atZ s.q.g.units r.index).S 2 8:=(h.q.us _ (bi g0 g1)).up h.a9 h.n9;have hl:(b8 s.lems r.lo r.index false).1.S 8:=(ox h.lems h.b1).up h.b9;have hu:(b8 s.lems r.hi r.index true).1.S 8:=(ox h.lems h.b1).up h.b9;refine aa (c:=jg om om om om) ?_;refine ac (c:=a4k _) ?_;refine ay (z:=toN g0) (c:=(aj (dy g0 g1))) ?_;refine ac (c:=a9u h) ?_;refine ac (c:=a9u h) ?_;refine ac (c:=r_of (-1) dx dx) ?_;refine qg 2 ?_;refine rn Y ?_
   apply pcut (sl:=[(2,_),(3,_),(4,_),(6,_),(7,_),(8,_),(9,_),(11,_),(13,_),(5,_),(10,_),(12,_),(14,.pv (bP (onQ s r (b8 s.lems r.lo r.index false))))]) (rs:=[(2,_),(3,_),(4,_),(6,_),(7,_),(8,_),(9,_),(11,_),(13,_)])
   case h1=>
    refine a2 (fun e68=>?_) (fun e68=>?_)
    ·refine a2 (fun e72=>?_) (fun e72=>?_)
     ·refine ac (c:=a2s h) ?_;refine a2 (fun e78=>?_) (fun e78=>?_)
      ·refine au ?_;refine Sub.of ?_ ?_ ?_
       ·exact (c12 Y Y Y Y Y Y Y Y Y Y Y Y (ai (congrArg (fun b=>some (SV.pv (PV.raw (Value.bool b)))) (by (try simp only[List.length_map] at *);simp only[onQ,e25,e32,e68,e72,e78,sb]<;>rfl)) trivial))
       ·exact (c9 Y Y Y Y Y Y Y Y Y trivial)
       ·rfl
      ·refine a2 (fun e80=>?_) (fun e80=>?_)
       ·refine ac (c:=iz (hl.sm dx)) ?_;refine au ?_;refine Sub.of ?_ ?_ ?_
        ·exact (c12 Y Y Y Y Y Y Y Y Y Y Y Y (ai (congrArg (fun b=>some (SV.pv (PV.raw (Value.bool b)))) (by (try simp only[List.length_map] at *);simp only[onQ,e25,e32,e68,e72,e78,e80,sb]<;>rfl)) trivial))
        ·exact (c9 Y Y Y Y Y Y Y Y Y trivial)
        ·rfl
       ·refine au ?_;refine Sub.of ?_ ?_ ?_
        ·exact (c12 Y Y Y Y Y Y Y Y Y Y Y Y (ai (congrArg (fun b=>some (SV.pv (PV.raw (Value.bool b)))) (by (try simp only[List.length_map] at *);simp only[onQ,e25,e32,e68,e72,e78,e80,sb]<;>rfl)) trivial))
        ·exact (c9 Y Y Y Y Y Y Y Y Y trivial)
        ·rfl
     ·refine a2 (fun e80=>?_) (fun e80=>?_)
      ·refine ac (c:=iz (hl.sm dx)) ?_;refine au ?_;refine Sub.of ?_ ?_ ?_
       ·exact (c12 Y Y Y Y Y Y Y Y Y Y Y Y (ai (congrArg (fun b=>some (SV.pv (PV.raw (Value.bool b)))) (by (try simp only[List.length_map] at *);simp only[onQ,e25,e32,e68,e72,e80,sb]<;>rfl)) trivial))
       ·exact (c9 Y Y Y Y Y Y Y Y Y trivial)
       ·rfl
      ·refine au ?_;refine Sub.of ?_ ?_ ?_
       ·exact (c12 Y Y Y Y Y Y Y Y Y Y Y Y (ai (congrArg (fun b=>some (SV.pv (PV.raw (Value.bool b)))) (by (try simp only[List.length_map] at *);simp only[onQ,e25,e32,e68,e72,e80,sb]<;>rfl)) trivial))
       ·exact (c9 Y Y Y Y Y Y Y Y Y trivial)
       ·rfl
    ·refine au ?_;refine Sub.of ?_ ?_ ?_
     ·exact (c12 Y Y Y Y Y Y Y Y Y Y Y Y (ai (congrArg (fun b=>some (SV.pv (PV.raw (Value.bool b)))) (by (try simp only[List.length_map] at *);simp only[onQ,e25,e32,e68,sb]<;>rfl)) trivial))
     ·exact (c9 Y Y Y Y Y Y Y Y Y trivial)
     ·rfl
   case h2=>
    apply pcut (sl:=[(2,_),(3,_),(4,_),(6,_),(7,_),(8,_),(9,_),(11,_),(13,_),(5,_),(10,_),(12,_),(14,_),(15,.pv (bP (offQ s r (b8 s.lems r.hi r.index true))))]) (rs:=[(2,_),(3,_),(4,_),(6,_),(7,_),(8,_),(9,_),(11,_),(13,_)])
    case h1=>
     refine a2 (fun e90=>?_) (fun e90=>?_)
     ·refine a2 (fun e94=>?_) (fun e94=>?_)
      ·refine ac (c:=a2s h) ?_;refine a2 (fun e100=>?_) (fun e100=>?_)
       ·refine au ?_;refine Sub.of ?_ ?_ ?_
        ·exact (c12 Y Y Y Y Y Y Y Y Y Y Y Y (ai (rfl) (ai (congrArg (fun b=>some (SV.pv (PV.raw (Value.bool b)))) (by (try simp only[List.length_map] at *);simp only[offQ,e25,e32,e90,e94,e100,sb]<;>rfl)) trivial)))
        ·exact (c9 Y Y Y Y Y Y Y Y Y trivial)
        ·rfl
       ·refine a2 (fun e102=>?_) (fun e102=>?_)
        ·refine ac (c:=iz (hu.sm dx)) ?_;refine au ?_;refine Sub.of ?_ ?_ ?_
         ·exact (c12 Y Y Y Y Y Y Y Y Y Y Y Y (ai (rfl) (ai (congrArg (fun b=>some (SV.pv (PV.raw (Value.bool b)))) (by (try simp only[List.length_map] at *);simp only[offQ,e25,e32,e90,e94,e100,e102,sb]<;>rfl)) trivial)))
         ·exact (c9 Y Y Y Y Y Y Y Y Y trivial)
         ·rfl
        ·refine au ?_;refine Sub.of ?_ ?_ ?_
         ·exact (c12 Y Y Y Y Y Y Y Y Y Y Y Y (ai (rfl) (ai (congrArg (fun b=>some (SV.pv (PV.raw (Value.bool b)))) (by (try simp only[List.length_map] at *);simp only[offQ,e25,e32,e90,e94,e100,e102,sb]<;>rfl)) trivial)))
         ·exact (c9 Y Y Y Y Y Y Y Y Y trivial)
         ·rfl
      ·refine a2 (fun e102=>?_) (fun e102=>?_)
       ·refine ac (c:=iz (hu.sm dx)) ?_;refine au ?_;refine Sub.of ?_ ?_ ?_
        ·exact (c12 Y Y Y Y Y Y Y Y Y Y Y Y (ai (rfl) (ai (congrArg (fun b=>some (SV.pv (PV.raw (Value.bool b)))) (by (try simp only[List.length_map] at *);simp only[offQ,e25,e32,e90,e94,e102,sb]<;>rfl)) trivial)))
        ·exact (c9 Y Y Y Y Y Y Y Y Y trivial)
        ·rfl
       ·refine au ?_;refine Sub.of ?_ ?_ ?_
        ·exact (c12 Y Y Y Y Y Y Y Y Y Y Y Y (ai (rfl) (ai (congrArg (fun b=>some (SV.pv (PV.raw (Value.bool b)))) (by (try simp only[List.length_map] at *);simp only[offQ,e25,e32,e90,e94,e102,sb]<;>rfl)) trivial)))
        ·exact (c9 Y Y Y Y Y Y Y Y Y trivial)
        ·rfl
     ·refine au ?_;refine Sub.of ?_ ?_ ?_
      ·exact (c12 Y Y Y Y Y Y Y Y Y Y Y Y (ai (rfl) (ai (congrArg (fun b=>some (SV.pv (PV.raw (Value.bool b)))) (by (try simp only[List.length_map] at *);simp only[offQ,e25,e32,e90,sb]<;>rfl)) trivial)))
      ·exact (c9 Y Y Y Y Y Y Y Y Y trivial)
      ·rfl
    case h2=>
     refine a2 (fun e112=>?_) (fun e112=>?_)
     ·refine a2 (fun e118=>?_) (fun e118=>?_)
      ·refine a2 (fun e212=>?_) (fun e212=>?_)
       ·replace e212:=gq e212;exact ar (c:=by (try simp only[List.length_map] at *);simp only[cg,cd,e25,e32,e112,e118,e212,sb]<;>rfl)
       ·replace e212:=i7 e212;exact ar (c:=by (try simp only[List.length_map] at *);simp only[cg,cd,e25,e32,e112,e118,e212,sb]<;>rfl)
      ·exact ar (c:=by (try simp only[List.length_map] at *);simp only[cg,cd,e25,e32,e112,e118,sb]<;>rfl)
     ·refine a2 (fun e123=>?_) (fun e123=>?_)
      ·refine ac (c:=mu hv hp dx dx) ?_;refine a2 (fun e131=>?_) (fun e131=>?_)
       ·refine a2 (fun e212=>?_) (fun e212=>?_)
        ·replace e212:=gq e212;exact ar (c:=by (try simp only[List.length_map] at *);simp only[cg,cd,e25,e32,e112,e123,e131,e212,sb]<;>rfl)
        ·replace e212:=i7 e212;exact ar (c:=by (try simp only[List.length_map] at *);simp only[cg,cd,e25,e32,e112,e123,e131,e212,sb]<;>rfl)
       ·exact ar (c:=by (try simp only[List.length_map] at *);simp only[cg,cd,e25,e32,e112,e123,e131,sb]<;>rfl)
      ·refine a2 (fun e136=>?_) (fun e136=>?_)
       ·refine a2 (fun e212=>?_) (fun e212=>?_)
        ·replace e212:=gq e212;exact ar (c:=by (try simp only[List.length_map] at *);simp only[cg,cd,e25,e32,e112,e123,e136,e212,sb]<;>rfl)
        ·replace e212:=i7 e212;exact ar (c:=by (try simp only[List.length_map] at *);simp only[cg,cd,e25,e32,e112,e123,e136,e212,sb]<;>rfl)
       ·refine a2 (fun e140=>?_) (fun e140=>?_)
        ·refine ac (c:=mu hp hv dx dx) ?_;refine a2 (fun e212=>?_) (fun e212=>?_)
         ·replace e212:=gq e212;exact ar (c:=by (try simp only[List.length_map] at *);simp only[cg,cd,e25,e32,e112,e123,e136,e140,e212,sb]<;>rfl)
         ·replace e212:=i7 e212;exact ar (c:=by (try simp only[List.length_map] at *);simp only[cg,cd,e25,e32,e112,e123,e136,e140,e212,sb]<;>rfl)
        ·refine a2 (fun e146=>?_) (fun e146=>?_)
         ·refine ac (c:=ig (q:=Q.mone) hp ez dx dx dx) ?_;refine a2 (fun e212=>?_) (fun e212=>?_)
          ·replace e212:=gq e212;exact ar (c:=by (try simp only[List.length_map] at *);simp only[cg,cd,e25,e32,e112,e123,e136,e140,e146,e212,sb]<;>rfl)
          ·replace e212:=i7 e212;exact ar (c:=by (try simp only[List.length_map] at *);simp only[cg,cd,e25,e32,e112,e123,e136,e140,e146,e212,sb]<;>rfl)
         ·refine a2 (fun e152=>?_) (fun e152=>?_)
          ·refine ac (c:=ig (q:=Q.mone) hv ez dx dx dx) ?_;refine a2 (fun e212=>?_) (fun e212=>?_)
           ·replace e212:=gq e212;exact ar (c:=by (try simp only[List.length_map] at *);simp only[cg,cd,e25,e32,e112,e123,e136,e140,e146,e152,e212,sb]<;>rfl)
           ·replace e212:=i7 e212;exact ar (c:=by (try simp only[List.length_map] at *);simp only[cg,cd,e25,e32,e112,e123,e136,e140,e146,e152,e212,sb]<;>rfl)
          ·refine a2 (fun e158=>?_) (fun e158=>?_)
           ·refine ac (c:=a2q) ?_;refine ac (c:=mu hp (dm hl) dx dx) ?_;refine a2 (fun e165=>?_) (fun e165=>?_)
            ·refine a2 (fun e212=>?_) (fun e212=>?_)
             ·replace e212:=gq e212;exact ar (c:=by (try simp only[List.length_map] at *);simp only[cg,cd,e25,e32,e112,e123,e136,e140,e146,e152,e158,e165,e212,sb]<;>rfl)
             ·replace e212:=i7 e212;exact ar (c:=by (try simp only[List.length_map] at *);simp only[cg,cd,e25,e32,e112,e123,e136,e140,e146,e152,e158,e165,e212,sb]<;>rfl)
            ·exact ar (c:=by (try simp only[List.length_map] at *);simp only[cg,cd,e25,e32,e112,e123,e136,e140,e146,e152,e158,e165,sb]<;>rfl)
           ·refine a2 (fun e170=>?_) (fun e170=>?_)
            ·refine ac (c:=a2q) ?_;refine ac (c:=mu (dm hu) hp dx dx) ?_;refine a2 (fun e177=>?_) (fun e177=>?_)
             ·refine a2 (fun e212=>?_) (fun e212=>?_)
              ·replace e212:=gq e212;exact ar (c:=by (try simp only[List.length_map] at *);simp only[cg,cd,e25,e32,e112,e123,e136,e140,e146,e152,e158,e170,e177,e212,sb]<;>rfl)
              ·replace e212:=i7 e212;exact ar (c:=by (try simp only[List.length_map] at *);simp only[cg,cd,e25,e32,e112,e123,e136,e140,e146,e152,e158,e170,e177,e212,sb]<;>rfl)
             ·exact ar (c:=by (try simp only[List.length_map] at *);simp only[cg,cd,e25,e32,e112,e123,e136,e140,e146,e152,e158,e170,e177,sb]<;>rfl)
            ·refine a2 (fun e182=>?_) (fun e182=>?_)
             ·refine ac (c:=a2q) ?_;refine ac (c:=mu hp (dm hl) dx dx) ?_;refine ac (c:=ig (hp.subR (dm hl)) hu dx dx dx) ?_;refine ac (c:=adp (hu.sm dx) (hl.sm dx) hu.ok hl.neg.ok) ?_;refine ac (c:=ig hv (hu.add hl.neg) dx dx dx) ?_;refine ac (c:=mu ((hp.subR (dm hl)).scaleR hu) (hv.scaleR (hu.add hl.neg)) dx dx) ?_;refine a2 (fun e198=>?_) (fun e198=>?_)
              ·refine a2 (fun e201=>?_) (fun e201=>?_)
               ·refine ac (c:=iz (hl.sm dx)) ?_;refine a2 (fun e206=>?_) (fun e206=>?_)
                ·refine ac (c:=iz (hu.sm dx)) ?_;refine a2 (fun e212=>?_) (fun e212=>?_)
                 ·replace e212:=gq e212;exact ar (c:=by (try simp only[List.length_map] at *);simp only[cg,cd,e25,e32,e112,e123,e136,e140,e146,e152,e158,e170,e182,e198,e201,e206,e212,sb]<;>rfl)
                 ·replace e212:=i7 e212;exact ar (c:=by (try simp only[List.length_map] at *);simp only[cg,cd,e25,e32,e112,e123,e136,e140,e146,e152,e158,e170,e182,e198,e201,e206,e212,sb]<;>rfl)
                ·exact ar (c:=by (try simp only[List.length_map] at *);simp only[cg,cd,e25,e32,e112,e123,e136,e140,e146,e152,e158,e170,e182,e198,e201,e206,sb]<;>rfl)
               ·exact ar (c:=by (try simp only[List.length_map] at *);simp only[cg,cd,e25,e32,e112,e123,e136,e140,e146,e152,e158,e170,e182,e198,e201,sb]<;>rfl)
              ·exact ar (c:=by (try simp only[List.length_map] at *);simp only[cg,cd,e25,e32,e112,e123,e136,e140,e146,e152,e158,e170,e182,e198,sb]<;>rfl)
             ·exact ar (c:=by (try simp only[List.length_map] at *);simp only[cg,cd,e25,e32,e112,e123,e136,e140,e146,e152,e158,e170,e182,sb]<;>rfl)
theorem al0 {s:Sc} {a b:Nat} {r:Rw} (h:s.Va a b):PCalls Tryz.prog TF 174 [scP s,rwP r] (.tup [fmP (bq s r).1,bP (bq s r).2]):=by
 refine pcA [85,96,37,30,42] Tryz.func174 (fun D=>?_);refine ac (c:=r8 h.q) ?_;refine a2 (fun e16=>?_) (fun e16=>?_)
 ·refine ac (c:=akr h) ?_;exact ar (c:=by (try simp only[List.length_map] at *);simp only[bq,i6,e16,sb]<;>rfl)
 ·refine a2 (fun e25=>?_) (fun e25=>?_)
  ·exact ar (c:=by (try simp only[List.length_map] at *);simp only[bq,i6,e16,e25,sb]<;>rfl)
  ·refine a2 (fun e30=>?_) (fun e30=>?_)
   ·exact ar (c:=by (try simp only[List.length_map] at *);simp only[bq,i6,e16,e25,e30,sb]<;>rfl)
   ·refine a2 (fun e34=>?_) (fun e34=>?_)
    ·exact ar (c:=by (try simp only[List.length_map] at *);simp only[bq,i6,e16,e25,e30,e34,sb]<;>rfl)
    ·have g0:=uw e34;refine a2 (fun e41=>?_) (fun e41=>?_)
     ·refine a2 (fun e48=>?_) (fun e48=>?_)
      ·have g1:=yw e48;refine ac (c:=a4k _) ?_;refine ay (z:=toN g0) (c:=(aj (dy g0 g1))) ?_;refine ac (c:=a2q) ?_;refine ac (c:=mu (fk _) (dm ((h.q.rg.los _ (bi g0 g1)).up h.a9)) dx dx) ?_;exact ar (c:=by (try simp only[List.length_map] at *);simp only[bq,i6,e16,e25,e30,e34,e41,e48,sb]<;>rfl)
      ·exact ar (c:=by (try simp only[List.length_map] at *);simp only[bq,i6,e16,e25,e30,e34,e41,e48,sb]<;>rfl)
     ·refine a2 (fun e60=>?_) (fun e60=>?_)
      ·refine a2 (fun e67=>?_) (fun e67=>?_)
       ·have g1:=yw e67;refine ay (z:=toN g0) (c:=(aj (dy g0 g1))) ?_;refine ac (c:=a2q) ?_;refine ac (c:=a4k _) ?_;refine ac (c:=mu (dm ((h.q.rg.his _ (bi g0 g1)).up h.a9)) (fk _) dx dx) ?_;exact ar (c:=by (try simp only[List.length_map] at *);simp only[bq,i6,e16,e25,e30,e34,e41,e60,e67,sb]<;>rfl)
       ·exact ar (c:=by (try simp only[List.length_map] at *);simp only[bq,i6,e16,e25,e30,e34,e41,e60,e67,sb]<;>rfl)
      ·refine a2 (fun e79=>?_) (fun e79=>?_)
       ·refine a2 (fun e86=>?_) (fun e86=>?_)
        ·have g1:=yw e86;refine ay (z:=toN g0) (c:=(aj (dy g0 g1))) ?_;exact ar (c:=by (try simp only[List.length_map] at *);simp only[bq,i6,e16,e25,e30,e34,e41,e60,e79,e86,sb]<;>rfl)
        ·exact ar (c:=by (try simp only[List.length_map] at *);simp only[bq,i6,e16,e25,e30,e34,e41,e60,e79,e86,sb]<;>rfl)
       ·refine a2 (fun e93=>?_) (fun e93=>?_)
        ·refine a2 (fun e101=>?_) (fun e101=>?_)
         ·exact ar (c:=by (try simp only[List.length_map] at *);simp only[bq,i6,e16,e25,e30,e34,e41,e60,e79,e93,e101,sb]<;>rfl)
         ·have g1:=yu e101;refine ay (z:=toN g0) (c:=(aj (dy g0 g1))) ?_;refine ac (c:=a9w (h.path _ (bi g0 g1)) (by have:=h.a9;omega)) ?_;refine a2 (fun e112=>?_) (fun e112=>?_)
          ·exact ar (c:=by (try simp only[List.length_map] at *);simp only[bq,i6,e16,e25,e30,e34,e41,e60,e79,e93,e101,e112,sb]<;>rfl)
          ·refine ay (z:=toN g0) (c:=(aj (dy g0 g1))) ?_;refine ac (c:=a4k _) ?_;refine ac (c:=a2q) ?_;refine ac (c:=mu (fk _) (dm ((h.path _ (bi g0 g1)).up h.a9)) dx dx) ?_;refine a2 (fun e129=>?_) (fun e129=>?_)
           ·exact ar (c:=by (try simp only[List.length_map] at *);simp only[bq,i6,e16,e25,e30,e34,e41,e60,e79,e93,e101,e112,e129,sb]<;>rfl)
           ·refine a2 (fun e133=>?_) (fun e133=>?_)
            ·refine ac (c:=r_of (-1) dx dx) ?_;refine ac (c:=ig (q:=Q.mone) ((fk _).subR (dm ((h.path _ (bi g0 g1)).up h.a9))) ez dx dx dx) ?_;exact ar (c:=by (try simp only[List.length_map] at *);simp only[bq,i6,e16,e25,e30,e34,e41,e60,e79,e93,e101,e112,e129,e133,sb]<;>rfl)
            ·exact ar (c:=by (try simp only[List.length_map] at *);simp only[bq,i6,e16,e25,e30,e34,e41,e60,e79,e93,e101,e112,e129,e133,sb]<;>rfl)
        ·exact ar (c:=by (try simp only[List.length_map] at *);simp only[bq,i6,e16,e25,e30,e34,e41,e60,e79,e93,sb]<;>rfl)
theorem agj {a b:Rw}:PCalls Tryz.prog [] 214 [rwP a,rwP b] (bP (io a b)):=by
 refine pcA [96] Tryz.func214 (fun D=>?_);refine a2 (fun e5=>?_) (fun e5=>?_)
 ·exact ar (c:=by (try simp only[List.length_map] at *);simp only[io,e5,sb]<;>rfl)
 ·refine a2 (fun e16=>?_) (fun e16=>?_)
  ·exact ar (c:=by (try simp only[List.length_map] at *);simp only[io,e5,e16,sb]<;>rfl)
  ·refine a2 (fun e27=>?_) (fun e27=>?_)
   ·exact ar (c:=by (try simp only[List.length_map] at *);simp only[io,e5,e16,e27,sb]<;>rfl)
   ·exact ar (c:=by (try simp only[List.length_map] at *);simp only[io,e5,e16,e27,sb]<;>rfl)
theorem j7 {n:Nat} (h:decide (0 < (n:Int))=true) (h9:n≤1000000000):ariO .sub .i64 (n:Int) 1=some (((n - 1:Nat)):Int):=by
 have:=of_decide_eq_true h;show some (IntKind.wrap .i64 ((n:Int) - 1))=_;rw[fx om om]
 congr 1;omega
def badM (l:List Mm) (i:Nat):Bool:=decide (sgQ (atZ l (i:Int)).2≤0)||(decide (0 < (i:Int))&&!io (atZ l ((i - 1:Nat):Int)).1 (atZ l (i:Int)).1)
def fh (l:List Mm):Bool:=(List.range l.length).all fun i=>!badM l i
theorem sz {l:List Mm} {i:Nat} (hi:i < l.length) (h:badM l i=true):fh l=false:=by
 unfold fh;rw[List.all_eq_false];exact⟨i,List.mem_range.2 hi,by rw[h];decide⟩
theorem ta {l:List Mm} {i:Nat} (h:∀j,j < i→badM l j=false) (hi:l.length≤i):fh l=true:=by
 unfold fh;rw[List.all_eq_true];intro j hj;rw[h j (by have:=List.mem_range.1 hj;omega)];rfl
theorem kv {p:Nat→Prop} {i:Nat} (h:∀j,j < i→p j) (hi:p i):∀j,j < i+1→p j:=fun j hj=>by
 rcases Nat.lt_or_ge j i with g | g
 ·exact h j g
 ·have:j=i:=by omega
  subst this;exact hi
def posR (r:Rw):List Mm→Nat
 | []=>0
 | m::l=>bif io m.1 r then posR r l+1 else 0
theorem lj {r:Rw}:∀{l:List Mm} {k:Nat},k≤l.length→(∀j,j < k→io (atZ l (j:Int)).1 r=true)→(l.length≤k∨io (atZ l (k:Int)).1 r=false)→posR r l=k
 | [],k,hk,_,_=>by simp at hk;rw[hk];rfl
 | m::l,0,hk,_,h=>by
  rcases h with h | h
  ·simp at h
  ·rw[bm (l:=m::l) (i:=0) (a:=m) rfl] at h;rw[posR,h];rfl
 | m::l,k+1,hk,ha,h=>by
  have sh:∀j,j < l.length→atZ (m::l) ((j+1:Nat):Int)=atZ l (j:Int):=fun j hj=>by
   rw[bm (l:=m::l) (i:=j+1) (a:=l[j]) (by simp[hj]),bm (ge hj)]
  have h0:=ha 0 om;rw[bm (l:=m::l) (i:=0) (a:=m) rfl] at h0;rw[posR,h0];have hk':k≤l.length:=by simpa using hk
  rw[lj (l:=l) (k:=k) hk' (fun j hj=>by rw[← sh j om];exact ha (j+1) om) ?_];rfl;rcases h with h | h
  ·left;simpa using h
  ·rcases Nat.lt_or_ge k l.length with g | g
   ·right;rw[← sh k g];exact h
   ·left;exact g
def lm (l:List Mm) (r:Rw) (c:Q):List Mm:=
 bif sgQ c == 0 then l
 else bif decide ((posR r l:Int) < (l.length:Int))&&jl (atZ l (posR r l:Int)).1 r then l.take (posR r l)++[(r,Q.add (atZ l (posR r l:Int)).2 c)]++l.drop (posR r l+1)
 else l.take (posR r l)++[(r,ck c)]++l.drop (posR r l)
def fi (s:Sc):List Mm→Fm→Option Fm
 | [],acc=>some acc
 | m::l,acc=>bif (bq s m.1).2 then fi s l (Fm.addR acc (Fm.scaleR (bq s m.1).1 m.2)) else none
def sumR (s:Sc) (l:List Mm):Fm×Int:=bif fh l then (match fi s l Fm.zero with
 | some f=>(f,0)
 | none=>(Fm.zero,12)) else (Fm.zero,1)
def fy (c:Q):List Mm→List Mm→List Mm
 | a,[]=>a
 | a,m::b=>fy c (lm a m.1 (Q.mul m.2 c)) b
theorem Sc.Va.unitS {s:Sc} {a b:Nat} {r:Rw} (h:s.Va a b):(cg s r).1.S 40 9:=by
 have hz:Fm.zero.S 40 9:=fm_zero_S.up dx dx;unfold cg;cases h1:decide (r.index < 0) with
 | true=>exact hz
 | false=>
  cases h2:decide ((s.q.g.units.length:Int)≤r.index) with
  | true=>exact hz
  | false=>
   have g0:0≤r.index:=uw h1;have g1:r.index < s.q.g.units.length:=by have:=of_decide_eq_false h2;omega
   have hv:(varR (s.q.g.inputs+r.index)).S 1 1:=fk _;have hp:(atZ s.q.g.units r.index).S 2 8:=(h.q.us _ (bi g0 g1)).up h.a9 h.n9;have hl:(b8 s.lems r.lo r.index false).1.S 8:=(ox h.lems h.b1).up h.b9;have hu:(b8 s.lems r.hi r.index true).1.S 8:=(ox h.lems h.b1).up h.b9;simp only[Bool.false_or,cond_false];generalize varR (s.q.g.inputs+r.index)=v at hv;generalize atZ s.q.g.units r.index=p at hp;generalize onQ s r (b8 s.lems r.lo r.index false)=on;generalize offQ s r (b8 s.lems r.hi r.index true)=off;generalize b8 s.lems r.lo r.index false=l at hl;generalize b8 s.lems r.hi r.index true=u at hu;have key:(cd v p l u on off r).1.S 40 9:=by
    unfold cd
    repeat' (cases h3:(r.kind == _)<;>simp only[cond_true,cond_false])
    all_goals first
     | exact hz
     | exact hv.up dx dx
     | exact hp.up dx dx
     | exact (hv.subR hp).up dx dx
     | exact (hp.subR hv).up dx dx
     | exact (hp.scaleR ez).up dx dx
     | exact (hv.scaleR ez).up dx dx
     | exact (hp.subR (dm hl)).up dx dx
     | exact ((dm hu).subR hp).up dx dx
     | exact (((hp.subR (dm hl)).scaleR hu).subR (hv.scaleR (hu.add hl.neg))).up dx dx
   cases (cd v p l u on off r).2
   ·exact hz
   ·exact key
theorem Sc.Va.formS {s:Sc} {a b:Nat} {r:Rw} (h:s.Va a b):(bq s r).1.S 40 9:=by
 have hz:Fm.zero.S 40 9:=fm_zero_S.up dx dx;have ha:=h.a9;unfold bq;cases h5:decide (5≤r.kind) with
 | true=>exact h.unitS
 | false=>
  simp only[cond_false];cases r.lo != 0 with
  | true=>exact hz
  | false=>
   cases r.hi != 0 with
   | true=>exact hz
   | false=>
    cases h1:decide (r.index < 0) with
    | true=>exact hz
    | false=>
     have g0:0≤r.index:=uw h1;simp only[Bool.false_or,cond_false];cases r.kind == 1 with
     | true=>
      cases h2:decide (r.index < (s.q.rg.lo.length:Int)) with
      | false=>exact hz
      | true=>exact ((fk _).subR (dm ((h.q.rg.los _ (bi g0 (of_decide_eq_true h2))).up ha))).up dx dx
     | false=>
      cases r.kind == 2 with
      | true=>
       cases h2:decide (r.index < (s.q.rg.hi.length:Int)) with
       | false=>exact hz
       | true=>exact ((dm ((h.q.rg.his _ (bi g0 (of_decide_eq_true h2))).up ha)).subR (fk _)).up dx dx
      | false=>
       cases r.kind == 3 with
       | true=>
        cases h2:decide (r.index < (s.q.rg.rows.length:Int)) with
        | false=>exact hz
        | true=>exact (h.q.rg.rows _ (bi g0 (of_decide_eq_true h2))).2.up om (by have:=h.n9;omega)
       | false=>
        cases r.kind == 4 with
        | false=>exact hz
        | true=>
         cases h2:decide ((s.path.length:Int)≤r.index) with
         | true=>exact hz
         | false=>
          cases h3:dj s.q (atZ s.path r.index) with
          | false=>exact hz
          | true=>
           have hd:=(h.path _ (bi g0 (by have:=of_decide_eq_false h2;omega))).up ha;simp only[Bool.false_or,Bool.not_true,cond_true,cond_false];unfold i6;cases (atZ s.path r.index).kind == 3 with
           | true=>exact ((fk _).subR (dm hd)).up dx dx
           | false=>
            cases (atZ s.path r.index).kind == 4 with
            | true=>exact (((fk _).subR (dm hd)).scaleR ez).up dx dx
            | false=>exact hz
theorem aa6 {l:List Mm} {r:Rw} {c:Q} (h:(sgQ c == 0)=true):lm l r c=l:=by unfold lm;rw[h];rfl
theorem oh {l:List Mm} {r:Rw} {c:Q} {i:Nat} (h:(sgQ c == 0)=false) (hp:posR r l=i) (hi:i < l.length) (he:jl (atZ l (i:Int)).1 r=true):lm l r c=l.take i++[(r,Q.add (atZ l (i:Int)).2 c)]++l.drop (i+1):=by
 unfold lm;rw[h,hp,he,dt (by omega:(i:Int) < (l.length:Int))];rfl
theorem ll {l:List Mm} {r:Rw} {c:Q} {i:Nat} (h:(sgQ c == 0)=false) (hp:posR r l=i) (he:l.length≤i∨jl (atZ l (i:Int)).1 r=false):lm l r c=l.take i++[(r,ck c)]++l.drop i:=by
 unfold lm;rw[h,hp];have:(decide ((i:Int) < (l.length:Int))&&jl (atZ l (i:Int)).1 r)=false:=by
  rcases he with he | he
  ·rw[df om];rfl
  ·rw[he,Bool.and_false]
 rw[this];rfl
theorem gm {l:List Mm} {i k:Nat} {m:Mm} {row:List PV} (e:row=mmC m):PV.rows 98 7 [200] (([]++List.drop 0 (List.take i (l.map mmC))++[row])++List.drop k (List.take (l.map mmC).length (l.map mmC)))=mmsP (l.take i++[m]++l.drop k):=by
 subst e;rw[List.take_length];show _=PV.rows _ _ _ ((l.take i++[m]++l.drop k).map mmC);simp only[List.nil_append,List.drop_zero,List.map_append,List.map_take,List.map_drop,List.map_cons,List.map_nil]
theorem a4p {l:List Mm} {n:Nat} (h:∀m∈l,m.2.S n) (hn:n≤10000) (hl:l.length≤1000):PCalls Tryz.prog [] 173 [mmsP l] (bP (fh l)):=by
 refine pcA [] Tryz.func173 (fun D=>?_);refine au ?_;refine pl (ι:={i:Nat // i≤l.length∧∀j,j < i→badM l j=false}) (fun i=>[(0,.pv (mmsP l)),(2,.pv (bP false)),(3,.pv (iP i.1))]) (fun _=>[]) [] (fun i=>l.length - i.1) ⟨0,nq _,fun j hj=>by omega⟩ (c3 Y Y Y trivial) trivial (fun _=>rfl) ?_;intro ⟨i,hi0,hnb⟩;refine a2 (fun e7=>?_) (fun e7=>?_)
 ·have hi:i < l.length:=db e7;have hm:=h _ (mg (ah hi));refine ax (c:=(aj (ah hi))) ?_;refine ac (c:=nf (hm.sm hn) hm.ok) ?_;refine ax (c:=(aj (ah hi))) ?_;refine ac (c:=iz (hm.sm hn)) ?_;refine a2 (fun e26=>?_) (fun e26=>?_)
  ·exact ar (c:=by rw[sz hi (by simp only[badM,e7,e26,sb])])
  ·refine a2 (fun e29=>?_) (fun e29=>?_)
   ·refine aa (c:=j7 e29 (by show i≤_;omega)) ?_;refine ax (c:=(aj (ah (show i - 1 < l.length by omega)))) ?_;refine ax (c:=(aj (ah hi))) ?_;refine ac (c:=agj) ?_;refine a2 (fun e44=>?_) (fun e44=>?_)
    ·exact ar (c:=by rw[sz hi (by simp only[badM,e7,e26,e29,e44,sb])])
    ·refine aa (c:=ae (by show i≤_;omega)) ?_;refine au ?_;exact pe ⟨i+1,hi,kv hnb (by simp only[badM,e7,e26,e29,e44,sb])⟩ (c3 Y Y Y trivial) trivial Y (by show l.length - (i+1) < l.length - i;omega)
   ·refine aa (c:=ae (by show i≤_;omega)) ?_;refine au ?_;exact pe ⟨i+1,hi,kv hnb (by simp only[badM,e7,e26,e29,sb])⟩ (c3 Y Y Y trivial) trivial Y (by show l.length - (i+1) < l.length - i;omega)
 ·have hj:l.length≤i:=dw e7;exact ar (c:=by rw[ta hnb hj])
theorem akv {l:List Mm} {r:Rw} {c:Q} {n m:Nat} (h:∀m∈l,m.2.S n) (hc:c.S m) (hn:n+m+1≤10000) (hl:l.length≤1000):PCalls Tryz.prog TU 172 [mmsP l,rwP r,ratP c] (mmsP (lm l r c)):=by
 refine pcA [96,35,98] Tryz.func172 (fun D=>?_);refine ac (c:=iz (hc.sm om)) ?_;refine a2 (fun e11=>?_) (fun e11=>?_)
 ·exact ar (c:=by rw[aa6 e11])
 ·refine au ?_;refine pl (ι:={i:Nat // i≤l.length∧∀j,j < i→io (atZ l (j:Int)).1 r=true}) (fun i=>[(0,.pv (mmsP l)),(4,.box 4 0),(5,.box 5 0),(7,.pv (iP i.1))]) (fun _=>[(4,.box 96 [.pv (iP r.kind),.pv (iP r.index),.pv (iP r.lo),.pv (iP r.hi)]),(5,.box 35 [.pv (bP c.neg),.pv (.nat c.num),.pv (.nat c.den)])]) [96,35,98] (fun i=>l.length - i.1) ⟨0,nq _,fun j hj=>by omega⟩ (c4 Y Y Y Y trivial) (c2 Y Y trivial) (fun _=>rfl) ?_;intro ⟨i,hi0,hnb⟩;refine a2 (fun e17=>?_) (fun e17=>?_)
  ·have hi:i < l.length:=db e17;refine ax (c:=(aj (ah hi))) ?_;refine ac (c:=agj) ?_;refine a2 (fun e25=>?_) (fun e25=>?_)
   ·refine aa (c:=ae (by show i≤_;omega)) ?_;refine au ?_;exact pe ⟨i+1,hi,kv hnb e25⟩ (c4 Y Y Y Y trivial) (c2 Y Y trivial) Y (by show l.length - (i+1) < l.length - i;omega)
   ·refine au ?_;refine ro0 Y Y Y (fun hd=>f5 al Y Y Y (.inl ⟨rfl,rfl⟩) (.inr ⟨_,rfl,rfl⟩) (nq _) (by rw[List.length_map];exact hi0) Y dx hd) ?_;refine rp0 gc (by simp;omega) Y Y Y Y Y Y Y Y ?_;refine a2 (fun e37=>?_) (fun e37=>?_)
    ·have hi:i < l.length:=db e37;have hm:=h _ (mg (ah hi));refine ax (c:=(aj (ah hi))) ?_;refine au ?_;refine rr0 (jl (atZ l (i:Int)).1 r) Y Y Y Y Y Y Y Y Y (.inl ⟨rfl,rfl⟩) ?_;refine a2 (fun e45=>?_) (fun e45=>?_)
     ·refine ax (c:=(aj (ah hi))) ?_;refine ac (c:=a7y (hm.sm om) (hc.sm om) hm.ok hc.ok) ?_;refine au ?_;refine rp0 gc (by simp;omega) Y Y Y Y Y Y Y Y ?_;refine aa (c:=ae (by show i≤_;omega)) ?_;refine au ?_;refine ro0 Y Y Y (fun hd=>f5 al Y Y Y (.inr ⟨_,rfl,rfl⟩) (.inl ⟨rfl,rfl⟩) (by rw[List.length_map];first | exact hi | exact hi0) (nr _) Y dx hd) ?_;refine rp0 gc (by simp;omega) Y Y Y Y Y Y Y Y ?_;exact ar (c:=by first | (exfalso;omega) | (rw[oh e11 (lj hi0 hnb (by first | exact .inl hj | exact .inr e25)) hi e45];exact gm rfl) | (rw[ll e11 (lj hi0 hnb (by first | exact .inl hj | exact .inr e25)) (by first | exact .inr e45 | exact .inl (dw e37))];exact gm rfl))
     ·refine ac (c:=kz (hc.sm om)) ?_;refine au ?_;refine rp0 gc (by simp;omega) Y Y Y Y Y Y Y Y ?_;refine au ?_;refine ro0 Y Y Y (fun hd=>f5 al Y Y Y (.inr ⟨_,rfl,rfl⟩) (.inl ⟨rfl,rfl⟩) (by rw[List.length_map];first | exact hi | exact hi0) (nr _) Y dx hd) ?_;refine rp0 gc (by simp;omega) Y Y Y Y Y Y Y Y ?_;exact ar (c:=by first | (exfalso;omega) | (rw[oh e11 (lj hi0 hnb (by first | exact .inl hj | exact .inr e25)) hi e45];exact gm rfl) | (rw[ll e11 (lj hi0 hnb (by first | exact .inl hj | exact .inr e25)) (by first | exact .inr e45 | exact .inl (dw e37))];exact gm rfl))
    ·refine ac (c:=kz (hc.sm om)) ?_;refine au ?_;refine rp0 gc (by simp;omega) Y Y Y Y Y Y Y Y ?_;refine au ?_;refine ro0 Y Y Y (fun hd=>f5 al Y Y Y (.inr ⟨_,rfl,rfl⟩) (.inl ⟨rfl,rfl⟩) (by rw[List.length_map];first | exact hi | exact hi0) (nr _) Y dx hd) ?_;refine rp0 gc (by simp;omega) Y Y Y Y Y Y Y Y ?_;exact ar (c:=by first | (exfalso;omega) | (rw[oh e11 (lj hi0 hnb (by first | exact .inl hj | exact .inr e25)) hi e45];exact gm rfl) | (rw[ll e11 (lj hi0 hnb (by first | exact .inl hj | exact .inr e25)) (by first | exact .inr e45 | exact .inl (dw e37))];exact gm rfl))
  ·have hj:l.length≤i:=dw e17;refine au ?_;refine ro0 Y Y Y (fun hd=>f5 al Y Y Y (.inl ⟨rfl,rfl⟩) (.inr ⟨_,rfl,rfl⟩) (nq _) (by rw[List.length_map];exact hi0) Y dx hd) ?_;refine rp0 gc (by simp;omega) Y Y Y Y Y Y Y Y ?_;refine a2 (fun e37=>?_) (fun e37=>?_)
   ·have hi:i < l.length:=db e37;have hm:=h _ (mg (ah hi));refine ax (c:=(aj (ah hi))) ?_;refine au ?_;refine rr0 (jl (atZ l (i:Int)).1 r) Y Y Y Y Y Y Y Y Y (.inl ⟨rfl,rfl⟩) ?_;refine a2 (fun e45=>?_) (fun e45=>?_)
    ·refine ax (c:=(aj (ah hi))) ?_;refine ac (c:=a7y (hm.sm om) (hc.sm om) hm.ok hc.ok) ?_;refine au ?_;refine rp0 gc (by simp;omega) Y Y Y Y Y Y Y Y ?_;refine aa (c:=ae (by show i≤_;omega)) ?_;refine au ?_;refine ro0 Y Y Y (fun hd=>f5 al Y Y Y (.inr ⟨_,rfl,rfl⟩) (.inl ⟨rfl,rfl⟩) (by rw[List.length_map];first | exact hi | exact hi0) (nr _) Y dx hd) ?_;refine rp0 gc (by simp;omega) Y Y Y Y Y Y Y Y ?_;exact ar (c:=by first | (exfalso;omega) | (rw[oh e11 (lj hi0 hnb (by first | exact .inl hj | exact .inr e25)) hi e45];exact gm rfl) | (rw[ll e11 (lj hi0 hnb (by first | exact .inl hj | exact .inr e25)) (by first | exact .inr e45 | exact .inl (dw e37))];exact gm rfl))
    ·refine ac (c:=kz (hc.sm om)) ?_;refine au ?_;refine rp0 gc (by simp;omega) Y Y Y Y Y Y Y Y ?_;refine au ?_;refine ro0 Y Y Y (fun hd=>f5 al Y Y Y (.inr ⟨_,rfl,rfl⟩) (.inl ⟨rfl,rfl⟩) (by rw[List.length_map];first | exact hi | exact hi0) (nr _) Y dx hd) ?_;refine rp0 gc (by simp;omega) Y Y Y Y Y Y Y Y ?_;exact ar (c:=by first | (exfalso;omega) | (rw[oh e11 (lj hi0 hnb (by first | exact .inl hj | exact .inr e25)) hi e45];exact gm rfl) | (rw[ll e11 (lj hi0 hnb (by first | exact .inl hj | exact .inr e25)) (by first | exact .inr e45 | exact .inl (dw e37))];exact gm rfl))
   ·refine ac (c:=kz (hc.sm om)) ?_;refine au ?_;refine rp0 gc (by simp;omega) Y Y Y Y Y Y Y Y ?_;refine au ?_;refine ro0 Y Y Y (fun hd=>f5 al Y Y Y (.inr ⟨_,rfl,rfl⟩) (.inl ⟨rfl,rfl⟩) (by rw[List.length_map];first | exact hi | exact hi0) (nr _) Y dx hd) ?_;refine rp0 gc (by simp;omega) Y Y Y Y Y Y Y Y ?_;exact ar (c:=by first | (exfalso;omega) | (rw[oh e11 (lj hi0 hnb (by first | exact .inl hj | exact .inr e25)) hi e45];exact gm rfl) | (rw[ll e11 (lj hi0 hnb (by first | exact .inl hj | exact .inr e25)) (by first | exact .inr e45 | exact .inl (dw e37))];exact gm rfl))
theorem a5j {s:Sc} {l:List Mm} {i:Nat} {acc:Fm} (hc:fh l=true) (hi:i < l.length) (h:fi s (l.drop i) acc=fi s l Fm.zero) (hf:(bq s (atZ l (i:Int)).1).2=false):sumR s l=(Fm.zero,12):=by
 have e:l.drop i=atZ l (i:Int)::l.drop (i+1):=by rw[bm (ge hi),List.drop_eq_getElem_cons hi]
 rw[e,fi,hf] at h;unfold sumR;rw[hc,← h];rfl
theorem a5i {s:Sc} {l:List Mm} {i:Nat} {acc:Fm} (hi:i < l.length) (h:fi s (l.drop i) acc=fi s l Fm.zero) (hf:(bq s (atZ l (i:Int)).1).2=true):fi s (l.drop (i+1)) (Fm.addR acc (Fm.scaleR (bq s (atZ l (i:Int)).1).1 (atZ l (i:Int)).2))=fi s l Fm.zero:=by
 have e:l.drop i=atZ l (i:Int)::l.drop (i+1):=by rw[bm (ge hi),List.drop_eq_getElem_cons hi]
 rw[e,fi,hf] at h;exact h
theorem a8v {s:Sc} {l:List Mm} {i:Nat} {acc:Fm} (hc:fh l=true) (hi:l.length≤i) (h:fi s (l.drop i) acc=fi s l Fm.zero):sumR s l=(acc,0):=by
 rw[List.drop_of_length_le hi,fi] at h;unfold sumR;rw[hc,← h];rfl
theorem xj {s:Sc} {l:List Mm} (hc:fh l=false):sumR s l=(Fm.zero,1):=by unfold sumR;rw[hc];rfl
theorem a8x {s:Sc} {a b n:Nat} (hs:s.Va a b):∀{l:List Mm} {acc:Fm} {k m:Nat},(∀x∈l,x.2.S n)→acc.S k m→∀f,fi s l acc=some f→f.S (k+l.length*(41+n)) (m+l.length*9)
 | [],acc,k,m,_,h,f,e=>by rw[fi] at e;injection e with e;subst e;exact h.up om om
 | x::l,acc,k,m,hl,h,f,e=>by
  rw[fi] at e;cases hf:(bq s x.1).2 with
  | false=>rw[hf] at e;cases e
  | true=>
   rw[hf] at e;have:=a8x hs (fun y hy=>hl y (List.mem_cons_of_mem _ hy)) (h.addR ((hs.formS (r:=x.1)).scaleR (hl x (mf ..)))) f e;refine this.up ?_ ?_
   ·rw[List.length_cons,Nat.add_mul,Nat.one_mul];omega
   ·rw[List.length_cons,Nat.add_mul];omega
theorem a8w {s:Sc} {a b n:Nat} (hs:s.Va a b) {l:List Mm} (hl:∀x∈l,x.2.S n):(sumR s l).1.S (1+l.length*(41+n)) (l.length*9):=by
 unfold sumR;have hz:Fm.zero.S (1+l.length*(41+n)) (l.length*9):=fm_zero_S.up om om;cases fh l with
 | false=>exact hz
 | true=>
  cases e:fi s l Fm.zero with
  | none=>exact hz
  | some f=>have:=a8x hs hl fm_zero_S f e;exact this.up om om
theorem a8c {c:Q} {a:List Mm}:∀{b:List Mm} {i:Nat},i < b.length→fy c a (b.drop i)=fy c (lm a (atZ b (i:Int)).1 (Q.mul (atZ b (i:Int)).2 c)) (b.drop (i+1)):=fun {b i} hi=>by
 have e:b.drop i=atZ b (i:Int)::b.drop (i+1):=by rw[bm (ge hi),List.drop_eq_getElem_cons hi]
 rw[e,fy]
theorem ago {l:List Mm} {r:Rw} {c:Q} {n m:Nat} (h:∀x∈l,x.2.S n) (hc:c.S m):(∀x∈lm l r c,x.2.S (n+m+1))∧(lm l r c).length≤l.length+1:=by
 have hu:∀x∈l,x.2.S (n+m+1):=fun x hx=>(h x hx).up om
 have tk:∀(k:Nat) x,x∈l.take k→x.2.S (n+m+1):=fun k x hx=>hu x (List.mem_of_mem_take hx)
 have dr:∀(k:Nat) x,x∈l.drop k→x.2.S (n+m+1):=fun k x hx=>hu x (List.mem_of_mem_drop hx)
 unfold lm;cases sgQ c == 0 with
 | true=>exact⟨hu,by simp⟩
 | false=>
  simp only[cond_false];cases h1:decide ((posR r l:Int) < (l.length:Int))&&jl (atZ l (posR r l:Int)).1 r with
  | true=>
   rw[be] at h1;have hp:=of_decide_eq_true h1.1;have hm:=h _ (bi (l:=l) (z:=(posR r l:Int)) om hp);refine⟨fun x hx=>?_,by simp only[cond_true,List.length_append,List.length_take,List.length_drop,List.length_singleton];omega⟩;simp only[cond_true,List.mem_append,List.mem_singleton] at hx;rcases hx with (hx | hx) | hx
   ·exact tk _ x hx
   ·rw[hx];exact hm.add hc
   ·exact dr _ x hx
  | false=>
   refine⟨fun x hx=>?_,by simp only[cond_false,List.length_append,List.length_take,List.length_drop,List.length_singleton];omega⟩;simp only[cond_false,List.mem_append,List.mem_singleton] at hx;rcases hx with (hx | hx) | hx
   ·exact tk _ x hx
   ·rw[hx];show (ck c).S _;rw[hc.canon];exact hc.up om
   ·exact dr _ x hx
theorem a1a {c:Q} {n m k:Nat} (hc:c.S k):∀{b a:List Mm},(∀x∈a,x.2.S n)→(∀x∈b,x.2.S m)→(∀x∈fy c a b,x.2.S (n+b.length*(m+k+1)))∧(fy c a b).length≤a.length+b.length
 | [],a,ha,_=>⟨by simpa [fy] using ha,by simp[fy]⟩
 | x::b,a,ha,hb=>by
  obtain⟨h1,h2⟩:=ago (r:=x.1) ha ((hb x (mf ..)).mul hc);obtain⟨h3,h4⟩:=a1a hc (a:=lm a x.1 (Q.mul x.2 c)) h1 fun y hy=>hb y (List.mem_cons_of_mem _ hy)
  rw[fy];refine⟨fun y hy=>(h3 y hy).up ?_,by rw[List.length_cons];omega⟩;rw[List.length_cons,Nat.add_mul,Nat.one_mul];omega
theorem Q.S.abs {s:Nat} {q:Q} (h:q.S s):q.abs.S s:=⟨h.num,h.den,⟨h.ok.one,h.ok.cop,fun h0=>⟨rfl,(h.ok.pos h0).2⟩⟩⟩
theorem jq {n:Nat} (h:n≤1000000000):ariO .sub .i64 ((n+1:Nat):Int) 1=some (n:Int):=by
 show some (IntKind.wrap .i64 (((n+1:Nat):Int) - 1))=_;rw[fx om om]
 congr 1;omega
theorem yi {n:Nat} (h:((n:Int) == 0)=false):decide (0 < (n:Int))=true:=by
 refine dt ?_;have:n≠0:=fun e=>by subst e;simp at h
 omega
theorem aok {α β:Type} {f:α→β} {l:List α} {i:Nat} (h:decide (((i+1:Nat):Int)≤((l.map f).length:Int))=true):i < l.length:=by
 have:=of_decide_eq_true h;rw[List.length_map] at this;omega
theorem aol {α β:Type} {f:α→β} {l:List α} {i:Nat} (h:decide (((i+1:Nat):Int)≤((l.map f).length:Int))=false):l.length≤i:=by
 have:=of_decide_eq_false h;rw[List.length_map] at this;omega
abbrev cmpR (x y:Q):Int:=sgQ (Q.add x y.neg')
def fd (ls:List Lm) (unit:Int) (p:Nat×Nat) (n:Nat):Nat×Nat:=
 bif (atZ ls (n:Int)).unit != unit then p
 else (bif !(atZ ls (n:Int)).upper&&(((p.1:Int) == 0)||decide (0 < cmpR (atZ ls (n:Int)).value (atZ ls ((p.1 - 1:Nat):Int)).value)) then n+1 else p.1,
  bif (atZ ls (n:Int)).upper&&(((p.2:Int) == 0)||decide (cmpR (atZ ls (n:Int)).value (atZ ls ((p.2 - 1:Nat):Int)).value < 0)) then n+1 else p.2)
def gx (ls:List Lm) (unit:Int):Nat×Nat:=(List.range ls.length).foldl (fd ls unit) (0,0)
theorem dg {ls:List Lm} {unit:Int} {i lo hi lo' hi':Nat} (h:(List.range i).foldl (fd ls unit) (0,0)=(lo,hi)) (hs:fd ls unit (lo,hi) i=(lo',hi')):(List.range (i+1)).foldl (fd ls unit) (0,0)=(lo',hi'):=by
 rw[List.range_succ,List.foldl_append,h];exact hs
theorem afo {ls:List Lm} {unit:Int} {i lo hi:Nat} (h:(List.range i).foldl (fd ls unit) (0,0)=(lo,hi)) (h1:i≤ls.length) (h2:ls.length≤i):gx ls unit=(lo,hi):=by
 have:i=ls.length:=by omega
 subst this;exact h
theorem afr {ls:List Lm} {unit:Int} {p:Nat×Nat} {n:Nat} (hn:n < ls.length) (h1:p.1≤ls.length) (h2:p.2≤ls.length):(fd ls unit p n).1≤ls.length∧(fd ls unit p n).2≤ls.length:=by
 unfold fd;cases (atZ ls (n:Int)).unit != unit with
 | true=>exact⟨h1,h2⟩
 | false=>
  simp only[cond_false]
  constructor
  ·cases !(atZ ls (n:Int)).upper&&(((p.1:Int) == 0)||decide (0 < cmpR (atZ ls (n:Int)).value (atZ ls ((p.1 - 1:Nat):Int)).value)) with
   | true=>exact hn
   | false=>exact h1
  ·cases (atZ ls (n:Int)).upper&&(((p.2:Int) == 0)||decide (cmpR (atZ ls (n:Int)).value (atZ ls ((p.2 - 1:Nat):Int)).value < 0)) with
   | true=>exact hn
   | false=>exact h2
theorem a22 (ls:List Lm) (unit:Int):(gx ls unit).1≤ls.length∧(gx ls unit).2≤ls.length:=by
 have:∀i,i≤ls.length→((List.range i).foldl (fd ls unit) (0,0)).1≤ls.length∧((List.range i).foldl (fd ls unit) (0,0)).2≤ls.length:=fun i=>by
  induction i with
  | zero=>intro _;exact⟨nq _,nq _⟩
  | succ i ih=>
   intro h;rw[List.range_succ,List.foldl_append];obtain⟨h1,h2⟩:=ih om;exact afr om h1 h2
 exact this _ (nr _)
def iu (s:Sc) (v:Int):List Mm:=bif decide (v < (s.q.g.inputs:Int)) then [(⟨1,v,0,0⟩,Q.one)] else [(⟨5,v - s.q.g.inputs,0,0⟩,Q.one)]
def f7 (s:Sc) (v:Int):List Mm×Bool:=
 bif decide (v < (s.q.g.inputs:Int)) then ([(⟨2,v,0,0⟩,Q.one)],true)
 else bif (((gx s.lems (v - s.q.g.inputs)).1:Int) == 0)||(((gx s.lems (v - s.q.g.inputs)).2:Int) == 0) then ([],false)
 else bif decide (sgQ (atZ s.lems (((gx s.lems (v - s.q.g.inputs)).2 - 1:Nat):Int)).value≤0) then ([(⟨10,v - s.q.g.inputs,0,((gx s.lems (v - s.q.g.inputs)).2:Int)⟩,Q.one)],true)
 else bif decide (0≤sgQ (atZ s.lems (((gx s.lems (v - s.q.g.inputs)).1 - 1:Nat):Int)).value) then ([(⟨8,v - s.q.g.inputs,((gx s.lems (v - s.q.g.inputs)).1:Int),0⟩,Q.one),(⟨12,v - s.q.g.inputs,0,((gx s.lems (v - s.q.g.inputs)).2:Int)⟩,Q.one)],true)
 else ([(⟨12,v - s.q.g.inputs,0,((gx s.lems (v - s.q.g.inputs)).2:Int)⟩,Q.mul (Q.div Q.one (Q.add (atZ s.lems (((gx s.lems (v - s.q.g.inputs)).2 - 1:Nat):Int)).value (atZ s.lems (((gx s.lems (v - s.q.g.inputs)).1 - 1:Nat):Int)).value.neg')) (atZ s.lems (((gx s.lems (v - s.q.g.inputs)).2 - 1:Nat):Int)).value),
   (⟨13,v - s.q.g.inputs,((gx s.lems (v - s.q.g.inputs)).1:Int),((gx s.lems (v - s.q.g.inputs)).2:Int)⟩,Q.div Q.one (Q.add (atZ s.lems (((gx s.lems (v - s.q.g.inputs)).2 - 1:Nat):Int)).value (atZ s.lems (((gx s.lems (v - s.q.g.inputs)).1 - 1:Nat):Int)).value.neg'))],true)
def j4 (s:Sc) (t:Tm):List Mm×Bool:=bif decide (0 < sgQ t.2) then (iu s t.1,true) else f7 s t.1
def bt (s:Sc):List Tm→List Mm→Option (List Mm)
 | [],l=>some l
 | t::r,l=>bif (j4 s t).2 then bt s r (fy t.2.abs l (j4 s t).1) else none
def bj (s:Sc) (f:Fm):Q×List Mm×Bool:=match bt s f.terms [] with
 | some l=>((Fm.subR f (sumR s l).1).const,l,true)
 | none=>(Q.zero,[],false)
theorem a1j {q:Q} (h:¬sgQ q≤0):q.neg=false∧0 < q.num:=by
 unfold sgQ isg at h;split at h
 ·omega
 ·rename_i h0
  cases hn:q.neg with
  | false=>exact⟨rfl,by omega⟩
  | true=>rw[hn] at h;simp at h
theorem aj9 {q:Q} (h:¬0≤sgQ q):q.neg=true∧0 < q.num:=by
 unfold sgQ isg at h;split at h
 ·omega
 ·rename_i h0
  cases hn:q.neg with
  | true=>exact⟨rfl,by omega⟩
  | false=>rw[hn] at h;simp at h
theorem a64 {b:Bool} {n d:Nat} (hn:0 < n):0 < (quot b n d).num:=by
 unfold quot;rw[if_neg om];exact Nat.div_pos (Nat.le_of_dvd hn (Nat.gcd_dvd_left ..)) (Nat.gcd_pos_of_pos_left _ hn)
theorem a0i {u l:Q} (hl0:l.Ok) (h:¬sgQ u≤0) (k:¬0≤sgQ l):(Q.add u l.neg').num≠0:=by
 obtain⟨h1,h2⟩:=a1j h;obtain⟨k1,k2⟩:=aj9 k;have e:l.neg'.neg=false∧0 < l.neg'.num:=by
  unfold Q.neg' ck;refine⟨?_,a64 k2⟩;unfold quot;split
  ·rfl
  ·show (!l.neg)=false;rw[k1];rfl
 have:0 < (Q.add u l.neg').num:=by
  unfold Q.add;simp only;refine a64 ?_;unfold sadd Q.sg;rw[h1,e.1];simp only[Bool.false_and,if_true];have:=Nat.mul_pos h2 l.neg'.un_pos;omega
 omega
theorem acg (s:Sc) (v:Int):(∀x∈iu s v,x.2.S 26)∧(iu s v).length≤2:=by
 unfold iu;cases decide (v < (s.q.g.inputs:Int)) with
 | true=>exact⟨fun x hx=>by rw[mj hx];exact sz_one.up dx,by simp⟩
 | false=>exact⟨fun x hx=>by rw[mj hx];exact sz_one.up dx,by simp⟩
theorem nn {s:Sc} {a b k:Nat} (hs:s.Va a b) (h:((k:Int) == 0)=false) (hk:k≤s.lems.length):k - 1 < s.lems.length∧(atZ s.lems ((k - 1:Nat):Int)).value.S 8:=by
 have h0:k≠0:=fun e=>by subst e;simp at h
 have h1:k - 1 < s.lems.length:=by omega
 exact⟨h1,(hs.lems _ (mg (ah h1))).up hs.b9⟩
theorem aft {s:Sc} {a b:Nat} (hs:s.Va a b) (v:Int):(∀x∈(f7 s v).1,x.2.S 26)∧(f7 s v).1.length≤2:=by
 unfold f7;have one:∀(r:Rw),∀x∈[(r,Q.one)],(x:Mm).2.S 26:=fun r x hx=>by rw[mj hx];exact sz_one.up dx
 cases decide (v < (s.q.g.inputs:Int)) with
 | true=>exact⟨one _,by simp⟩
 | false=>
  obtain⟨b1,b2⟩:=a22 s.lems (v - s.q.g.inputs);simp only[cond_false];generalize gx s.lems (v - s.q.g.inputs)=p at b1 b2;cases h1:((p.1:Int) == 0) with
  | true=>exact⟨fun x hx=>(by cases hx),nq _⟩
  | false=>
   cases h2:((p.2:Int) == 0) with
   | true=>exact⟨fun x hx=>(by cases hx),nq _⟩
   | false=>
    obtain⟨g1,l8⟩:=nn hs h1 b1;obtain⟨g2,u8⟩:=nn hs h2 b2;simp only[Bool.or_self,cond_false];cases h3:decide (sgQ (atZ s.lems ((p.2 - 1:Nat):Int)).value≤0) with
    | true=>exact⟨one _,by simp⟩
    | false=>
     cases h4:decide (0≤sgQ (atZ s.lems ((p.1 - 1:Nat):Int)).value) with
     | true=>
      refine⟨fun x hx=>?_,by simp⟩;simp only[cond_true,cond_false,List.mem_cons,List.not_mem_nil,or_false] at hx;rcases hx with rfl | rfl<;>exact sz_one.up dx
     | false=>
      have hd:=(sz_one.div (u8.add l8.neg) (a0i l8.ok (of_decide_eq_false h3) (of_decide_eq_false h4)));refine⟨fun x hx=>?_,by simp⟩;simp only[cond_false,List.mem_cons,List.not_mem_nil,or_false] at hx;rcases hx with rfl | rfl
      ·exact (hd.mul u8).up dx
      ·exact hd.up dx
theorem agz {s:Sc} {a b:Nat} (hs:s.Va a b) (t:Tm):(∀x∈(j4 s t).1,x.2.S 26)∧(j4 s t).1.length≤2:=by
 unfold j4;cases decide (0 < sgQ t.2) with
 | true=>exact acg s t.1
 | false=>exact aft hs t.1
theorem a0c {s:Sc} {ts:List Tm} {i:Nat} {acc M:List Mm} (hi:i < ts.length) (h:bt s (ts.drop i) acc=bt s ts []) (hm:j4 s (atZ ts (i:Int))=(M,true)):bt s (ts.drop (i+1)) (fy (atZ ts (i:Int)).2.abs acc M)=bt s ts []:=by
 have e:ts.drop i=atZ ts (i:Int)::ts.drop (i+1):=by rw[bm (ge hi),List.drop_eq_getElem_cons hi]
 rw[e,bt,hm] at h;exact h
theorem a49 {s:Sc} {ts:List Tm} {i:Nat} {acc:List Mm} (h:bt s (ts.drop i) acc=bt s ts []) (hi:ts.length≤i):bt s ts []=some acc:=by rw[← h,List.drop_of_length_le hi];rfl
theorem a8i {s:Sc} {f:Fm} {i:Nat} {acc:List Mm} (hi:i < f.terms.length) (h:bt s (f.terms.drop i) acc=bt s f.terms []) (hm:(j4 s (atZ f.terms (i:Int))).2=false):bj s f=(Q.zero,[],false):=by
 have e:f.terms.drop i=atZ f.terms (i:Int)::f.terms.drop (i+1):=by rw[bm (ge hi),List.drop_eq_getElem_cons hi]
 rw[e,bt,hm] at h;unfold bj;rw[← h];rfl
theorem a0d {s:Sc} {a b:Nat} (hs:s.Va a b):∀{ts:List Tm} {acc L:List Mm} {n k:Nat},(∀t∈ts,t.2.S 3)→(∀x∈acc,x.2.S n)→acc.length≤k→bt s ts acc=some L→(∀x∈L,x.2.S (n+ts.length*60))∧L.length≤k+ts.length*2
 | [],acc,L,n,k,_,h,hk,e=>by rw[bt] at e;injection e with e;subst e;exact⟨by simpa using h,by simpa using hk⟩
 | t::ts,acc,L,n,k,ht,h,hk,e=>by
  rw[bt] at e;cases hm:(j4 s t).2 with
  | false=>rw[hm] at e;cases e
  | true=>
   rw[hm] at e;obtain⟨m1,m2⟩:=agz hs t;obtain⟨g1,g2⟩:=a1a (ht t (mf ..)).abs h m1;have:=Nat.mul_le_mul_right 30 m2;obtain⟨r1,r2⟩:=a0d hs (n:=n+60) (k:=k+2) (fun x hx=>ht x (List.mem_cons_of_mem _ hx)) (fun x hx=>(g1 x hx).up om) om e;rw[List.length_cons];exact⟨fun x hx=>(r1 x hx).up om,by omega⟩
theorem a4b {s:Sc} {a b:Nat} (hs:s.Va a b) {f:Fm} (hf:f.S 3 8) {L:List Mm} (e:bt s f.terms []=some L):(∀x∈L,x.2.S 481)∧L.length≤16:=by
 have hl:=hf.len;obtain⟨h1,h2⟩:=a0d hs (n:=1) (k:=0) hf.each (fun x hx=>by cases hx) (nr _) e;exact⟨fun x hx=>(h1 x hx).up om,by omega⟩
def kl (ls:List Lm) (j:Int) (A B:Q×List Mm×Bool):List Lm:=ls++((bif A.2.2 then [⟨j,false,A.1,A.2.1⟩] else [])++(bif B.2.2 then [⟨j,true,B.1.neg',B.2.1⟩] else []))
def zg (s:Sc) (j:Nat):Sc:=⟨s.q,s.path,kl s.lems j (bj s (atZ s.q.g.units (j:Int))) (bj s (Fm.scaleR (atZ s.q.g.units (j:Int)) Q.mone))⟩
def ak (s:Sc):Nat→Sc
 | 0=>s
 | j+1=>zg (ak s j) j
def dq (s:Sc):Sc:=ak s s.q.g.units.length
theorem js {f:Fm} {q:Q} (h:f.Cn) {P:Int→Prop} (hv:∀t∈f.terms,P t.1):∀t∈(Fm.scaleR f q).terms,P t.1:=fun t ht=>by
 obtain⟨r,h1,_,_,h4,_⟩:=qy (c:=q) f.terms [] h.srt;rw[List.nil_append] at h1;have ht':t∈r:=by rw[← h1];exact ht
 obtain⟨u,hu,e⟩:=h4 t ht';rw[← e];exact hv u hu
theorem wv {s:Sc} {a b:Nat} (hs:s.Va a b) {f:Fm} (hf:f.S 3 8):(bj s f).1.S 9100∧(∀x∈(bj s f).2.1,x.2.S 481)∧(bj s f).2.1.length≤16:=by
 unfold bj;cases e:bt s f.terms [] with
 | none=>exact⟨sz_zero.up dx,(fun x hx=>by cases hx),nq _⟩
 | some L=>
  obtain⟨h1,h2⟩:=a4b hs hf e;have:=Nat.mul_le_mul_right (41+481) h2;exact⟨(hf.subR (a8w hs h1)).const.up om,h1,h2⟩
def sgnR (s:Bool) (a:Nat):Rat:=bif s then -(a:Rat) else (a:Rat)
def Q.r (q:Q):Rat:=sgnR q.neg q.num / (q.un:Rat)
theorem a37 {n:Nat} (h:0 < n):(n:Rat)≠0:=by
 have:n≠0:=by omega
 exact_mod_cast this
theorem Q.un_ne (q:Q):(q.un:Rat)≠0:=a37 q.un_pos
theorem j9 (s:Bool):sgnR s 0=0:=by cases s<;>simp[sgnR]
theorem adc (s t:Bool) (a b:Nat):sgnR (s != t) (a*b)=sgnR s a*sgnR t b:=by
 cases s<;>cases t<;>simp only[sgnR,bne_self_eq_false,cond_true,cond_false,Rat.natCast_mul,Bool.true_bne,Bool.false_bne,Bool.not_false,Bool.not_true,bne]<;>first | grind | (simp;grind)
theorem a2t (s:Bool) (a:Nat) {b:Nat} (hb:0 < b):(quot s a b).r=sgnR s a / (b:Rat):=by
 unfold quot;split
 ·rename_i h0
  subst h0;rw[j9];show sgnR false 0 / _=_;rw[j9];grind
 ·rename_i h0
  have hg:=Nat.gcd_pos_of_pos_left b (Nat.pos_of_ne_zero h0);obtain⟨x,hx⟩:=Nat.gcd_dvd_left a b;obtain⟨y,hy⟩:=Nat.gcd_dvd_right a b;generalize Nat.gcd a b=g at*;subst hx hy;have hd2:0 < (g*y) / g:=by
   rw[Nat.mul_div_cancel_left _ hg];rcases Nat.eq_zero_or_pos y with h1 | h1
   ·rw[h1,Nat.mul_zero] at hb;omega
   ·exact h1
  unfold Q.r;rw[ac9 _ _ _ hd2];simp only;rw[Nat.mul_div_cancel_left _ hg,Nat.mul_div_cancel_left _ hg] at*;have hyr:=a37 hd2;have hgr:=a37 hg;cases s<;>simp only[sgnR,cond_true,cond_false,Rat.natCast_mul]<;>grind
theorem akf (na:Bool) (a:Nat) (nb:Bool) (b:Nat):sgnR (sadd na a nb b).1 (sadd na a nb b).2=sgnR na a+sgnR nb b:=by
 unfold sadd;split
 ·rename_i h
  subst h;rcases Nat.eq_zero_or_pos (a+b) with h0 | h0
  ·have ha:a=0:=by omega
   have hb:b=0:=by omega
   subst ha hb;rw[j9,j9];grind
  ·rw[dt h0,Bool.and_true];cases na<;>simp only[sgnR,cond_true,cond_false,Rat.natCast_add]<;>grind
 ·rename_i h
  split
  ·rename_i hl
   obtain⟨c,rfl⟩:=Nat.exists_eq_add_of_le (Nat.le_of_lt hl);rw[Nat.add_sub_cancel_left];cases na<;>cases nb<;>simp only[sgnR,cond_true,cond_false,Rat.natCast_add]<;>first | grind | exact absurd rfl h
  ·rename_i hl
   obtain⟨c,rfl⟩:=Nat.exists_eq_add_of_le (Nat.le_of_not_lt hl);rw[Nat.add_sub_cancel_left];rcases Nat.eq_zero_or_pos c with h0 | h0
   ·subst h0;cases na<;>cases nb<;>simp[sgnR]<;>first | grind | exact absurd rfl h
   ·rw[dt h0,Bool.and_true];cases na<;>cases nb<;>simp only[sgnR,cond_true,cond_false,Rat.natCast_add]<;>first | grind | exact absurd rfl h
theorem sg_r (x:Q) {a:Nat} {k:Nat} (ha:a=x.num*k):sgnR (x.sg&&decide (0 < a)) a=sgnR x.neg a:=by
 rcases Nat.eq_zero_or_pos a with h0 | h0
 ·rw[h0,j9,j9]
 ·have:0 < x.num:=by
   rcases Nat.eq_zero_or_pos x.num with h1 | h1
   ·rw[ha,h1,Nat.zero_mul] at h0;omega
   ·exact h1
  unfold Q.sg;rw[dt h0,dt this,Bool.and_true,Bool.and_true]
theorem a96 (s:Bool) (a k:Nat):sgnR s (a*k)=sgnR s a*(k:Rat):=by cases s<;>simp only[sgnR,cond_true,cond_false,Rat.natCast_mul]<;>grind
theorem Q.add_r (x y:Q):(Q.add x y).r=x.r+y.r:=by
 unfold Q.add;simp only;rw[a2t _ _ (Nat.mul_pos x.un_pos y.un_pos),akf,sg_r x rfl,sg_r y rfl,a96,a96];have h1:=x.un_ne;have h2:=y.un_ne;unfold Q.r;rw[Rat.natCast_mul]
 grind
theorem Q.mul_r (x y:Q):(Q.mul x y).r=x.r*y.r:=by
 unfold Q.mul;rw[a2t _ _ (Nat.mul_pos x.un_pos y.un_pos),adc];have h1:=x.un_ne;have h2:=y.un_ne;unfold Q.r;rw[Rat.natCast_mul]
 grind
theorem Q.neg_r (x:Q):x.neg'.r=-x.r:=by
 show (quot (!x.neg) x.num x.un).r=_;rw[a2t _ _ x.un_pos];have h1:=x.un_ne;unfold Q.r;cases x.neg<;>simp only[sgnR,cond_true,cond_false,Bool.not_true,Bool.not_false]<;>grind
theorem a5b:Q.zero.r=0:=by
 show sgnR false 0 / _=_;rw[j9];grind
theorem a33:Q.one.r=1:=by
 show sgnR false 1 / ((1:Nat):Rat)=_;simp only[sgnR,cond_false];grind
theorem a07:Q.mone.r=-1:=by
 show sgnR true 1 / ((1:Nat):Rat)=_;simp only[sgnR,cond_true];grind
theorem Q.div_r (x y:Q) (h:y.num≠0):(Q.div x y).r=x.r / y.r:=by
 unfold Q.div;rw[a2t _ _ (Nat.mul_pos x.un_pos (Nat.pos_of_ne_zero h)),a96];have h1:=x.un_ne;have h2:=y.un_ne;have h3:=a37 (Nat.pos_of_ne_zero h);unfold Q.r;rw[Rat.natCast_mul];cases x.neg<;>cases y.neg<;>simp only[sgnR,cond_true,cond_false,bne_self_eq_false,Bool.true_bne,Bool.false_bne,Bool.not_false,Bool.not_true,bne,beq_self_eq_true]<;>first | grind | (simp;grind)
theorem an8 {q:Q} {D:Nat} {z:Int} (h:q.Ok) (hD:0 < D) (he:q.r*(D:Rat)=(z:Rat)):q.num≤z.natAbs∧q.un≤D:=by
 have hu:=q.un_ne;have e1:sgnR q.neg q.num*(D:Rat)=(z:Rat)*(q.un:Rat):=by
  unfold Q.r at he
  grind
 have e2:sgnR q.neg q.num=(((bif q.neg then -(q.num:Int) else (q.num:Int)):Int):Rat):=by
  have ec:((q.num:Int):Rat)=(q.num:Rat):=Rat.intCast_natCast _;cases q.neg<;>simp only[sgnR,cond_true,cond_false]
  ·exact ec.symm
  ·rw[Rat.intCast_neg,ec]
 rw[e2] at e1;have e3:(bif q.neg then -(q.num:Int) else (q.num:Int))*(D:Int)=z*(q.un:Int):=by exact_mod_cast e1
 have e4:q.num*D=z.natAbs*q.un:=by
  have:=congrArg Int.natAbs e3;rw[Int.natAbs_mul,Int.natAbs_mul] at this;cases hn:q.neg<;>rw[hn] at this<;>simpa using this
 have hc:Nat.Coprime q.un q.num:=by rw[Nat.coprime_comm];exact h.cop
 have hdvd:q.un ∣ D:=hc.dvd_of_dvd_mul_left (show q.un ∣ q.num*D from ⟨z.natAbs,by rw[e4,Nat.mul_comm]⟩);refine⟨?_,Nat.le_of_dvd hD hdvd⟩;obtain⟨e,rfl⟩:=hdvd;have he0:0 < e:=by
  rcases Nat.eq_zero_or_pos e with g | g
  ·rw[g] at hD;simp at hD
  ·exact g
 have e5:q.num*e=z.natAbs:=by
  apply Nat.eq_of_mul_eq_mul_right q.un_pos
  rw[← e4,Nat.mul_assoc,Nat.mul_comm e]
 rw[← e5];exact Nat.le_mul_of_pos_right _ he0
structure Q.Dz (q:Q) (D M:Nat):Prop where
 ok:q.Ok
 ex:∃z:Int,q.r*(D:Rat)=(z:Rat)∧z.natAbs≤M
theorem Q.Dz.S {q:Q} {D M:Nat} (h:q.Dz D M) (hD:0 < D) (hD9:D < 18446744073709551616) (hM:M < 18446744073709551616):q.S 2:=by
 obtain⟨z,hz,hm⟩:=h.ex;obtain⟨h1,h2⟩:=an8 h.ok hD hz;have hb:∀n,n < 18446744073709551616→(ab n).length≤2:=fun n hn=>bb (k:=2) (by rw[show B32 ^ 2=18446744073709551616 from rfl];exact hn)
 exact⟨hb _ om,hb _ om,h.ok⟩
theorem rq {q:Q} (h:q.num=0):q.r=0:=by unfold Q.r;rw[h,j9];grind
theorem r_ne {q:Q} (h:q.num≠0):q.r≠0:=by
 have h1:=q.un_ne;have h2:=a37 (Nat.pos_of_ne_zero h);unfold Q.r;cases q.neg<;>simp only[sgnR,cond_true,cond_false]<;>grind
theorem a0v {q:Q} (h:q.neg=false) (h0:0 < q.num):0 < q.r:=by
 unfold Q.r;rw[h];simp only[sgnR,cond_false];have h1:(0:Rat) < (q.num:Rat):=by exact_mod_cast h0
 have h2:(0:Rat) < (q.un:Rat):=by exact_mod_cast q.un_pos
 rw[Rat.div_def];exact Rat.mul_pos h1 (Rat.inv_pos.2 h2)
theorem ah2 {q:Q} (h:0 < sgQ q):0 < q.r:=by
 obtain⟨h1,h2⟩:=a1j (q:=q) om;exact a0v h1 h2
theorem abn {q:Q} (h:sgQ q < 0):q.r < 0:=by
 have h2:q.neg=true∧0 < q.num:=by
  unfold sgQ isg at h;split at h
  ·omega
  ·cases hn:q.neg<;>rw[hn] at h<;>simp at h
   exact⟨rfl,by omega⟩
 have:=a0v (q:=⟨false,q.num,q.den⟩) rfl h2.2;unfold Q.r at this ⊢;rw[show (Q.mk false q.num q.den).un=q.un from rfl] at this;rw[h2.1];simp only[sgnR,cond_true,cond_false] at*
 grind
def evT (k:Int→Rat):List Tm→Rat
 | []=>0
 | t::l=>t.2.r*k t.1+evT k l
def Fm.ev (k:Int→Rat) (c:Rat) (f:Fm):Rat:=evT k f.terms+c*f.const.r
theorem a1w (k:Int→Rat):∀(a b:List Tm),evT k (a++b)=evT k a+evT k b
 | [],b=>by rw[List.nil_append,evT];grind
 | t::a,b=>by rw[List.cons_append,evT,evT,a1w k a b];grind
theorem a6g (k:Int→Rat) (v:Int) (q:Q):evT k (one' v q)=q.r*k v:=by
 unfold one';split
 ·rename_i h;rw[evT,rq h];grind
 ·rw[evT,evT];grind
theorem abq (k:Int→Rat) (v:Int) (q:Q):∀(l:List Tm),evT k (insT v q l)=evT k l+q.r*k v
 | []=>by rw[insT,a6g,evT];grind
 | t::r=>by
  rw[insT];split
  ·rename_i h
   rw[a1w,a6g,evT,Q.add_r,h];grind
  ·split
   ·rw[a1w,a6g];grind
   ·rw[evT,abq k v q r,evT];grind
theorem acm (k:Int→Rat):∀(y acc:List Tm),Srt' y→Nz y→Srt' acc→Nz acc→evT k (addT acc y)=evT k acc+evT k y
 | [],acc,_,_,_,_=>by rw[addT,evT];grind
 | t::r,acc,hy,ny,ha,na=>by
  have ht:=ny t (mf ..);have e:l5 acc t.1 t.2=insT t.1 t.2 acc:=by
   have:=tu (v:=t.1) ht.1 acc [] ha na;rwa [List.nil_append] at this
  rw[addT,e,acm k r _ (List.pairwise_cons.1 hy).2 (fun x hx=>ny x (List.mem_cons_of_mem _ hx)) (a1n ha) (a4x ht.1 na),abq,evT]
  grind
theorem a2g (k:Int→Rat) (q:Q):∀(y acc:List Tm),evT k (eo q acc y)=evT k acc+evT k y*q.r
 | [],acc=>by rw[eo,evT];grind
 | t::r,acc=>by
  rw[eo,a2g k q r,jj,a1w,a6g,Q.mul_r,evT];grind
section
variable {k:Int→Rat} {c:Rat} {f g:Fm}
theorem Fm.Cn.ev_add (h:f.Cn) (h':g.Cn):(Fm.addR f g).ev k c=f.ev k c+g.ev k c:=by
 show evT k (addT f.terms g.terms)+c*(Q.add f.const g.const).r=_;rw[acm k _ _ h'.srt h'.nz h.srt h.nz,Q.add_r];unfold Fm.ev;grind
theorem sq (q:Q):(Fm.scaleR f q).ev k c=f.ev k c*q.r:=by
 show evT k (eo q [] f.terms)+c*(Q.mul f.const q).r=_;rw[a2g,Q.mul_r,evT];unfold Fm.ev;grind
theorem Fm.Cn.subR (h:f.Cn) (h':g.Cn):(Fm.subR f g).Cn:=h.addR h'.scaleR
theorem Fm.Cn.ev_sub (h:f.Cn) (h':g.Cn):(Fm.subR f g).ev k c=f.ev k c - g.ev k c:=by
 unfold Fm.subR;rw[h.ev_add h'.scaleR,sq,a07];grind
theorem a09 (v:Int):(varR v).ev k c=k v:=by
 show evT k [(v,Q.one)]+c*Q.zero.r=_;rw[evT,evT,a33,a5b];grind
theorem a75 (q:Q):(numR q).ev k c=c*q.r:=by
 show evT k []+c*q.r=_;rw[evT];grind
theorem a1v:Fm.zero.ev k c=0:=by
 show evT k []+c*Q.zero.r=_;rw[evT,a5b];grind
end
theorem an1:∀(l:List Tm),evT (fun _=>0) l=0
 | []=>rfl
 | t::l=>by rw[evT,an1 l];grind
theorem afe (f:Fm):f.ev (fun _=>0) 1=f.const.r:=by unfold Fm.ev;rw[an1];grind
theorem ajm:∀{l:List Tm},Srt' l→Nz l→(∀k,evT k l=0)→l=[]
 | [],_,_,_=>rfl
 | t::l,hs,hn,h=>by
  exfalso
  have e:∀(r:List Tm),(∀u∈r,t.1 < u.1)→evT (fun v=>if v=t.1 then 1 else 0) r=0:=fun r=>by
   induction r with
   | nil=>intro _;rfl
   | cons u r ih=>
    intro hu;have:=hu u (mf ..);rw[evT,ih (fun x hx=>hu x (List.mem_cons_of_mem _ hx)),if_neg om];grind
  have h1:=h (fun v=>if v=t.1 then 1 else 0);rw[evT,e l (List.pairwise_cons.1 hs).1,if_pos rfl] at h1;exact r_ne (hn t (mf ..)).2 (by grind)
theorem ze (q:Q):(ck q).r=q.r:=a2t _ _ q.un_pos
def valM (k:Rw→Rat):List Mm→Rat
 | []=>0
 | m::l=>m.2.r*k m.1+valM k l
theorem km (k:Rw→Rat):∀(a b:List Mm),valM k (a++b)=valM k a+valM k b
 | [],b=>by rw[List.nil_append,valM];grind
 | m::a,b=>by rw[List.cons_append,valM,valM,km k a b];grind
theorem ae3 (k:Rw→Rat) (l:List Mm) (r:Rw) (c:Q):valM k (lm l r c)=valM k l+c.r*k r:=by
 unfold lm;cases hz:sgQ c == 0 with
 | true=>
  have h0:c.num=0:=by
   have:=eq_of_beq hz;unfold sgQ isg at this;split at this
   ·assumption
   ·cases hn:c.neg<;>rw[hn] at this<;>simp at this
  rw[cond_true,rq h0];grind
 | false=>
  rw[cond_false];have e1:∀(x:Mm),valM k [x]=x.2.r*k x.1:=fun x=>by rw[valM,valM];grind
  cases hh:decide ((posR r l:Int) < (l.length:Int))&&jl (atZ l (posR r l:Int)).1 r with
  | true=>
   rw[be] at hh;have hi:posR r l < l.length:=by have:=of_decide_eq_true hh.1;omega
   have he:(atZ l (posR r l:Int)).1=r:=by have:=hh.2;rw[r4] at this;exact of_decide_eq_true this
   generalize posR r l=i at*;have hl:l=l.take i++[atZ l (i:Int)]++l.drop (i+1):=by
    rw[bm (ge hi),List.append_assoc,List.singleton_append,← List.drop_eq_getElem_cons hi,List.take_append_drop]
   rw[cond_true,km,km,e1]
   conv=>rhs;rw[hl]
   rw[km,km,e1,he];simp only;rw[Q.add_r];grind
  | false=>
   rw[cond_false,km,km,e1]
   conv=>rhs;rw[← List.take_append_drop (posR r l) l]
   rw[km];simp only;rw[ze];grind
theorem yq (k:Rw→Rat) (c:Q):∀(b a:List Mm),valM k (fy c a b)=valM k a+c.r*valM k b
 | [],a=>by rw[fy,valM];grind
 | m::b,a=>by rw[fy,yq k c b,ae3,valM,Q.mul_r];grind
def kR (k:Int→Rat) (c:Rat) (s:Sc) (r:Rw):Rat:=(bq s r).1.ev k c
abbrev kC (s:Sc) (r:Rw):Rat:=kR (fun _=>0) 1 s r
theorem qw (k:Int→Rat) (c:Rat) {s:Sc} {a b:Nat} (hs:s.Va a b):∀{l:List Mm} {acc f:Fm},acc.Cn→fi s l acc=some f→f.Cn∧f.ev k c=acc.ev k c+valM (kR k c s) l
 | [],acc,f,hc,h=>by rw[fi] at h;injection h with h;subst h;rw[valM];exact⟨hc,by grind⟩
 | m::l,acc,f,hc,h=>by
  rw[fi] at h;cases hf:(bq s m.1).2 with
  | false=>rw[hf] at h;cases h
  | true=>
   rw[hf] at h;have hr:=(hs.formS (r:=m.1)).cn;obtain⟨h1,h2⟩:=qw k c hs (l:=l) (hc.addR hr.scaleR) h;refine⟨h1,?_⟩;rw[h2,valM,hc.ev_add hr.scaleR,sq];unfold kR
   grind
theorem acv (k:Int→Rat) (c:Rat) {s:Sc} {a b:Nat} (hs:s.Va a b) (l:List Mm):(sumR s l).1.Cn∧((sumR s l).1.ev k c=0∨(sumR s l).1.ev k c=valM (kR k c s) l):=by
 unfold sumR;cases fh l with
 | false=>exact⟨cn_zero,.inl a1v⟩
 | true=>
  cases e:fi s l Fm.zero with
  | none=>exact⟨cn_zero,.inl a1v⟩
  | some f=>
   obtain⟨h1,h2⟩:=qw k c hs cn_zero e;exact⟨h1,.inr (by show f.ev k c=_;rw[h2,a1v];grind)⟩
theorem a5k {s:Sc} {a b:Nat} (hs:s.Va a b) (l:List Mm):(sumR s l).1.const.r=0∨(sumR s l).1.const.r=valM (kC s) l:=by
 rw[← afe];exact (acv _ _ hs l).2
theorem zj (K:Rw→Rat) {s:Sc}:∀{ts:List Tm} {acc L:List Mm},bt s ts acc=some L→∃ws:List Rat,ws.length=ts.length∧valM K L=valM K acc+ws.sum∧∀(i:Nat) (t:Tm) (w:Rat),ts[i]?=some t→ws[i]?=some w→w=t.2.abs.r*valM K (j4 s t).1∧(j4 s t).2=true
 | [],acc,L,h=>by
  rw[bt] at h;injection h with h;subst h;exact⟨[],rfl,by simp;grind,fun i t w hi=>by simp at hi⟩
 | t::ts,acc,L,h=>by
  rw[bt] at h;cases hm:(j4 s t).2 with
  | false=>rw[hm] at h;cases h
  | true=>
   rw[hm] at h;obtain⟨ws,h1,h2,h3⟩:=zj K h;refine⟨(t.2.abs.r*valM K (j4 s t).1)::ws,by simp[h1],?_,fun i u w hi hw=>?_⟩
   ·rw[h2,yq,List.sum_cons];grind
   ·cases i with
    | zero=>simp at hi hw;subst hi hw;exact⟨rfl,hm⟩
    | succ i=>simp at hi hw;exact h3 i u w hi hw
def a7d (ls:List Lm) (unit:Int) (p:Nat×Nat):Prop:=(p.1≠0→(atZ ls ((p.1 - 1:Nat):Int)).unit=unit∧(atZ ls ((p.1 - 1:Nat):Int)).upper=false)∧(p.2≠0→(atZ ls ((p.2 - 1:Nat):Int)).unit=unit∧(atZ ls ((p.2 - 1:Nat):Int)).upper=true)
theorem afq {ls:List Lm} {unit:Int} {p:Nat×Nat} {n:Nat} (h:a7d ls unit p):a7d ls unit (fd ls unit p n):=by
 unfold fd;cases hu:(atZ ls (n:Int)).unit != unit with
 | true=>exact h
 | false=>
  have hu':(atZ ls (n:Int)).unit=unit:=by simpa using hu
  simp only[cond_false];refine⟨?_,?_⟩
  ·simp only;cases hc:!(atZ ls (n:Int)).upper&&(((p.1:Int) == 0)||decide (0 < cmpR (atZ ls (n:Int)).value (atZ ls ((p.1 - 1:Nat):Int)).value)) with
   | true=>
    rw[be] at hc;intro _;simp only[cond_true,Nat.add_sub_cancel];exact⟨hu',gq hc.1⟩
   | false=>exact h.1
  ·simp only;cases hc:(atZ ls (n:Int)).upper&&(((p.2:Int) == 0)||decide (cmpR (atZ ls (n:Int)).value (atZ ls ((p.2 - 1:Nat):Int)).value < 0)) with
   | true=>
    rw[be] at hc;intro _;simp only[cond_true,Nat.add_sub_cancel];exact⟨hu',hc.1⟩
   | false=>exact h.2
theorem afp (ls:List Lm) (unit:Int):a7d ls unit (gx ls unit):=by
 have:∀i,a7d ls unit ((List.range i).foldl (fd ls unit) (0,0)):=fun i=>by
  induction i with
  | zero=>exact⟨fun h=>absurd rfl h,fun h=>absurd rfl h⟩
  | succ i ih=>rw[List.range_succ,List.foldl_append];exact afq ih
 exact this _
theorem a08 {ls:List Lm} {unit:Int} {k:Nat} {up:Bool} (h0:k≠0) (h1:k≤ls.length) (hu:(atZ ls ((k - 1:Nat):Int)).unit=unit) (hp:(atZ ls ((k - 1:Nat):Int)).upper=up):b8 ls (k:Int) unit up=(ck (atZ ls ((k - 1:Nat):Int)).value,true):=by
 have e:((k:Int) - 1)=((k - 1:Nat):Int):=by omega
 unfold b8;rw[e,df (by omega:¬((k:Int) < 1)),df (by omega:¬((ls.length:Int) < (k:Int))),hu,hp];simp
theorem fm (f g:Fm):(Fm.subR f g).const.r=f.const.r - g.const.r:=by
 show (Q.add f.const (Q.mul g.const Q.mone)).r=_;rw[Q.add_r,Q.mul_r,a07];grind
theorem a79 (v:Int):(varR v).Cn:=(fk v).cn
theorem a3y {q:Q} {n:Nat} (h:q.S n):(numR q).Cn:=(dm h).cn
section
variable {k:Int→Rat} {c:Rat} {s:Sc} {a b:Nat} (hs:s.Va a b) {j hi:Int} {u:Q}
include hs
theorem k_lo {v:Int} (h0:0≤v) (h1:v < s.q.rg.lo.length):kR k c s ⟨1,v,0,0⟩=k v - c*(atZ s.q.rg.lo v).r∧(bq s ⟨1,v,0,0⟩).2=true:=by
 unfold kR bq;rw[dt h1];have:decide (v < 0)=false:=df om;simp only[this];refine⟨?_,rfl⟩;show (Fm.subR (varR v) (numR (atZ s.q.rg.lo v))).ev k c=_;rw[(a79 v).ev_sub (a3y (hs.q.rg.los _ (bi h0 h1))),a09,a75]
theorem k_hi {v:Int} (h0:0≤v) (h1:v < s.q.rg.hi.length):kR k c s ⟨2,v,0,0⟩=c*(atZ s.q.rg.hi v).r - k v∧(bq s ⟨2,v,0,0⟩).2=true:=by
 unfold kR bq;rw[dt h1];have:decide (v < 0)=false:=df om;simp only[this];refine⟨?_,rfl⟩;show (Fm.subR (numR (atZ s.q.rg.hi v)) (varR v)).ev k c=_;rw[(a3y (hs.q.rg.his _ (bi h0 h1))).ev_sub (a79 v),a09,a75]
omit hs in
theorem a3n {r:Rw} (h5:5≤r.kind) (h0:0≤r.index) (h1:r.index < s.q.g.units.length) (ho:(cd (varR (s.q.g.inputs+r.index)) (atZ s.q.g.units r.index) (b8 s.lems r.lo r.index false) (b8 s.lems r.hi r.index true) (onQ s r (b8 s.lems r.lo r.index false)) (offQ s r (b8 s.lems r.hi r.index true)) r).2=true):kR k c s r=(cd (varR (s.q.g.inputs+r.index)) (atZ s.q.g.units r.index) (b8 s.lems r.lo r.index false) (b8 s.lems r.hi r.index true) (onQ s r (b8 s.lems r.lo r.index false)) (offQ s r (b8 s.lems r.hi r.index true)) r).1.ev k c∧(bq s r).2=true:=by
 unfold kR bq;rw[dt h5,cond_true];unfold cg;rw[df (by omega:¬r.index < 0),df (by omega:¬((s.q.g.units.length:Int)≤r.index)),Bool.or_self,cond_false,ho];exact⟨rfl,rfl⟩
theorem amo (h0:0≤j) (h1:j < s.q.g.units.length):kR k c s ⟨5,j,0,0⟩=k (s.q.g.inputs+j)∧(bq s ⟨5,j,0,0⟩).2=true:=by
 obtain⟨e1,e2⟩:=a3n (k:=k) (c:=c) (r:=⟨5,j,0,0⟩) (by show (5:Int)≤_;simp) h0 h1 rfl;refine⟨e1.trans ?_,e2⟩;show (varR (s.q.g.inputs+j)).ev k c=_;exact a09 _
theorem aj8 (h0:0≤j) (h1:j < s.q.g.units.length) (hu:b8 s.lems hi j true=(u,true)) (hz:decide (sgQ u≤0)=true):kR k c s ⟨10,j,0,hi⟩=-k (s.q.g.inputs+j)∧(bq s ⟨10,j,0,hi⟩).2=true:=by
 have ho:offQ s ⟨10,j,0,hi⟩ (u,true)=true:=by
  unfold offQ;simp only[hz];simp
 obtain⟨e1,e2⟩:=a3n (k:=k) (c:=c) (r:=⟨10,j,0,hi⟩) (by show (5:Int)≤_;simp) h0 h1 (by simp only[hu];exact ho);refine⟨e1.trans ?_,e2⟩;show (Fm.scaleR (varR (s.q.g.inputs+j)) Q.mone).ev k c=_;rw[sq,a09,a07];grind
theorem aj7 {n:Nat} (h0:0≤j) (h1:j < s.q.g.units.length) (hu:b8 s.lems hi j true=(u,true)) (us:u.S n):kR k c s ⟨12,j,0,hi⟩=c*u.r - (atZ s.q.g.units j).ev k c∧(bq s ⟨12,j,0,hi⟩).2=true:=by
 obtain⟨e1,e2⟩:=a3n (k:=k) (c:=c) (r:=⟨12,j,0,hi⟩) (by show (5:Int)≤_;simp) h0 h1 (by simp only[hu];rfl);refine⟨e1.trans ?_,e2⟩;simp only[hu];show (Fm.subR (numR u) (atZ s.q.g.units j)).ev k c=_;rw[(a3y us).ev_sub (hs.q.us _ (bi h0 h1)).cn,a75]
theorem amp {lo:Int} {l:Q} (h0:0≤j) (h1:j < s.q.g.units.length) (hl:b8 s.lems lo j false=(l,true)) (hz:decide (0≤sgQ l)=true):kR k c s ⟨8,j,lo,0⟩=(atZ s.q.g.units j).ev k c - k (s.q.g.inputs+j)∧(bq s ⟨8,j,lo,0⟩).2=true:=by
 have ho:onQ s ⟨8,j,lo,0⟩ (l,true)=true:=by
  unfold onQ;simp only[hz];simp
 obtain⟨e1,e2⟩:=a3n (k:=k) (c:=c) (r:=⟨8,j,lo,0⟩) (by show (5:Int)≤_;simp) h0 h1 (by simp only[hl];exact ho);refine⟨e1.trans ?_,e2⟩;show (Fm.subR (atZ s.q.g.units j) (varR (s.q.g.inputs+j))).ev k c=_;rw[(hs.q.us _ (bi h0 h1)).cn.ev_sub (a79 _),a09]
theorem aom {lo:Int} {l:Q} {n:Nat} (h0:0≤j) (h1:j < s.q.g.units.length) (hl:b8 s.lems lo j false=(l,true)) (hu:b8 s.lems hi j true=(u,true)) (h2:decide (sgQ l < 0)=true) (h3:decide (0 < sgQ u)=true) (ls:l.S n):kR k c s ⟨13,j,lo,hi⟩=((atZ s.q.g.units j).ev k c - c*l.r)*u.r - k (s.q.g.inputs+j)*(u.r - l.r)∧(bq s ⟨13,j,lo,hi⟩).2=true:=by
 obtain⟨e1,e2⟩:=a3n (k:=k) (c:=c) (r:=⟨13,j,lo,hi⟩) (by show (5:Int)≤_;simp) h0 h1 (by simp only[hl,hu];show (true&&(true&&(decide (sgQ l < 0)&&decide (0 < sgQ u))))=true;rw[h2,h3];rfl);refine⟨e1.trans ?_,e2⟩;simp only[hl,hu];show (Fm.subR (Fm.scaleR (Fm.subR (atZ s.q.g.units j) (numR l)) u) (Fm.scaleR (varR (s.q.g.inputs+j)) (Q.add u l.neg'))).ev k c=_;have hp:=(hs.q.us _ (bi h0 h1)).cn;rw[(hp.subR (a3y ls)).scaleR.ev_sub (a79 _).scaleR,sq,sq,hp.ev_sub (a3y ls),a75,a09,Q.add_r,Q.neg_r];grind
end
def hiV (s:Sc) (v:Int):Rat:=
 if v < s.q.g.inputs then (atZ s.q.rg.hi v).r
 else if decide (sgQ (atZ s.lems (((gx s.lems (v - s.q.g.inputs)).2 - 1:Nat):Int)).value≤0) then 0 else (atZ s.lems (((gx s.lems (v - s.q.g.inputs)).2 - 1:Nat):Int)).value.r
def loV (s:Sc) (v:Int):Rat:=if v < s.q.g.inputs then (atZ s.q.rg.lo v).r else 0
structure RwG (s:Sc) (r:Rw):Prop where
 ok:(bq s r).2=true
 kind:r.kind≠4
 lo:0≤r.lo∧r.lo≤s.lems.length
 hi:0≤r.hi∧r.hi≤s.lems.length
section
variable {k:Int→Rat} {c:Rat} {s:Sc} {a b:Nat}
theorem a3m (hs:s.Va a b) {v:Int} (h0:0≤v) (hv:v < ((s.q.g.inputs+s.q.g.units.length:Nat):Int)):valM (kR k c s) (iu s v)=k v - c*loV s v∧∀m∈iu s v,RwG s m.1∧m.2=Q.one:=by
 unfold iu loV;by_cases hi:v < s.q.g.inputs
 ·obtain⟨e1,e2⟩:=k_lo (k:=k) (c:=c) hs h0 (by rw[hs.q.rg.lo];exact hi);rw[dt hi,if_pos hi,cond_true,valM,valM];simp only;rw[e1,a33];refine⟨by grind,fun m hm=>?_⟩;rw[mj hm];exact⟨⟨e2,by show (1:Int)≠4;decide,⟨Int.le_refl _,Int.natCast_nonneg _⟩,⟨Int.le_refl _,Int.natCast_nonneg _⟩⟩,rfl⟩
 ·obtain⟨e1,e2⟩:=amo (k:=k) (c:=c) hs (j:=v - s.q.g.inputs) om om;rw[df hi,if_neg hi,cond_false,valM,valM];simp only;rw[e1,a33,show ((s.q.g.inputs:Int)+(v - s.q.g.inputs))=v from by omega];refine⟨by grind,fun m hm=>?_⟩;rw[mj hm];exact⟨⟨e2,by show (5:Int)≠4;decide,⟨Int.le_refl _,Int.natCast_nonneg _⟩,⟨Int.le_refl _,Int.natCast_nonneg _⟩⟩,rfl⟩
theorem a6m (hs:s.Va a b) {v:Int} (h0:0≤v) (hv:v < ((s.q.g.inputs+s.q.g.units.length:Nat):Int)) (hm:(f7 s v).2=true):valM (kR k c s) (f7 s v).1=c*hiV s v - k v∧(¬v < s.q.g.inputs→(gx s.lems (v - s.q.g.inputs)).2≠0∧(gx s.lems (v - s.q.g.inputs)).2≤s.lems.length)∧∀m∈(f7 s v).1,RwG s m.1∧0 < m.2.r:=by
 have one:∀(r:Rw),valM (kR k c s) [(r,Q.one)]=kR k c s r:=fun r=>by rw[valM,valM];simp only;rw[a33];grind
 have p1:(0:Rat) < Q.one.r:=by rw[a33];decide
 unfold f7 at hm ⊢;unfold hiV;by_cases hi:v < s.q.g.inputs
 ·obtain⟨e1,e2⟩:=k_hi (k:=k) (c:=c) hs h0 (by rw[hs.q.rg.hi];exact hi);rw[dt hi,if_pos hi,cond_true,one,e1];refine⟨rfl,fun h=>absurd hi h,fun m hm=>?_⟩;rw[mj hm];exact⟨⟨e2,by show (2:Int)≠4;decide,⟨Int.le_refl _,Int.natCast_nonneg _⟩,⟨Int.le_refl _,Int.natCast_nonneg _⟩⟩,p1⟩
 ·rw[df hi,if_neg hi] at*;obtain⟨b1,b2⟩:=a22 s.lems (v - s.q.g.inputs);obtain⟨o1,o2⟩:=afp s.lems (v - s.q.g.inputs);simp only[cond_false] at hm ⊢;generalize gx s.lems (v - s.q.g.inputs)=p at*;cases h1:((p.1:Int) == 0) with
  | true=>rw[h1] at hm;simp at hm
  | false=>
   cases h2:((p.2:Int) == 0) with
   | true=>rw[h1,h2] at hm;simp at hm
   | false=>
    obtain⟨g1,l8⟩:=nn hs h1 b1;obtain⟨g2,u8⟩:=nn hs h2 b2;have n1:p.1≠0:=fun e=>by rw[e] at h1;simp at h1
    have n2:p.2≠0:=fun e=>by rw[e] at h2;simp at h2
    obtain⟨lu,lp⟩:=o1 n1;obtain⟨uu,up⟩:=o2 n2;have hl:=a08 n1 b1 lu lp;have hu:=a08 n2 b2 uu up;rw[l8.canon] at hl;rw[u8.canon] at hu;generalize (atZ s.lems ((p.1 - 1:Nat):Int)).value=l at*;generalize (atZ s.lems ((p.2 - 1:Nat):Int)).value=u at*;have hj0:0≤v - s.q.g.inputs:=by omega
    have hj1:v - s.q.g.inputs < s.q.g.units.length:=by omega
    have ev:(s.q.g.inputs:Int)+(v - s.q.g.inputs)=v:=by omega
    have c0:(0:Int)≤0∧(0:Int)≤s.lems.length:=⟨Int.le_refl _,Int.natCast_nonneg _⟩;have cl:(0:Int)≤p.1∧(p.1:Int)≤s.lems.length:=⟨Int.natCast_nonneg _,by omega⟩;have ch:(0:Int)≤p.2∧(p.2:Int)≤s.lems.length:=⟨Int.natCast_nonneg _,by omega⟩;simp only[Bool.or_self,cond_false];cases h3:decide (sgQ u≤0) with
    | true=>
     obtain⟨e1,e2⟩:=aj8 (k:=k) (c:=c) hs hj0 hj1 hu h3;rw[cond_true,one,e1,ev];refine⟨by simp;grind,fun _=>⟨n2,b2⟩,fun m hm=>?_⟩;rw[mj hm];exact⟨⟨e2,by show (10:Int)≠4;decide,c0,ch⟩,p1⟩
    | false=>
     obtain⟨e3,e4⟩:=aj7 (k:=k) (c:=c) hs hj0 hj1 hu u8;rw[cond_false];cases h4:decide (0≤sgQ l) with
     | true=>
      obtain⟨e1,e2⟩:=amp (k:=k) (c:=c) hs hj0 hj1 hl h4;rw[cond_true,valM,one];simp only;rw[e1,e3,a33,ev];refine⟨by simp;grind,fun _=>⟨n2,b2⟩,fun m hm=>?_⟩;rcases List.mem_cons.1 hm with rfl | hm
      ·exact⟨⟨e2,by show (8:Int)≠4;decide,cl,c0⟩,p1⟩
      ·rw[mj hm];exact⟨⟨e4,by show (12:Int)≠4;decide,c0,ch⟩,p1⟩
     | false=>
      have h5:decide (sgQ l < 0)=true:=dt (by have:=of_decide_eq_false h4;omega);have h6:decide (0 < sgQ u)=true:=dt (by have:=of_decide_eq_false h3;omega);have hn:=a0i l8.ok (of_decide_eq_false h3) (of_decide_eq_false h4);obtain⟨e1,e2⟩:=aom (k:=k) (c:=c) hs hj0 hj1 hl hu h5 h6 l8;have hu0:=ah2 (of_decide_eq_true h6);have hl0:=abn (of_decide_eq_true h5);have hdd:(Q.div Q.one (Q.add u l.neg')).r=(u.r - l.r)⁻¹:=by rw[Q.div_r _ _ hn,a33,Q.add_r,Q.neg_r];grind
      have hd:u.r - l.r≠0:=by grind
      have hp:0 < (u.r - l.r)⁻¹:=Rat.inv_pos.2 (by grind);rw[cond_false,valM,valM,valM];simp only;rw[e1,e3,Q.mul_r,hdd,ev];refine⟨by simp;grind,fun _=>⟨n2,b2⟩,fun m hm=>?_⟩;rcases List.mem_cons.1 hm with rfl | hm
      ·refine⟨⟨e4,by show (12:Int)≠4;decide,c0,ch⟩,?_⟩;show 0 < (Q.mul _ u).r;rw[Q.mul_r,hdd];exact Rat.mul_pos hp hu0
      ·rw[mj hm];exact⟨⟨e2,by show (13:Int)≠4;decide,cl,ch⟩,by show 0 < (Q.div _ _).r;rw[hdd];exact hp⟩
end
def Rz (x:Rat) (D M:Nat):Prop:=∃z:Int,x*(D:Rat)=(z:Rat)∧z.natAbs≤M
theorem Rz.neg {x:Rat} {D M:Nat} (h:Rz x D M):Rz (-x) D M:=by
 obtain⟨z,h1,h2⟩:=h;exact⟨-z,by rw[Rat.intCast_neg,← h1];grind,by rw[Int.natAbs_neg];exact h2⟩
theorem Rz.add {x y:Rat} {D M N:Nat} (h:Rz x D M) (k:Rz y D N):Rz (x+y) D (M+N):=by
 obtain⟨z,h1,h2⟩:=h;obtain⟨w,k1,k2⟩:=k;exact⟨z+w,by rw[Rat.intCast_add,← h1,← k1];grind,nt (Int.natAbs_add_le ..) (Nat.add_le_add h2 k2)⟩
theorem Rz.mul {x y:Rat} {D E M N:Nat} (h:Rz x D M) (k:Rz y E N):Rz (x*y) (D*E) (M*N):=by
 obtain⟨z,h1,h2⟩:=h;obtain⟨w,k1,k2⟩:=k;exact⟨z*w,by rw[Rat.intCast_mul,Rat.natCast_mul,← h1,← k1];grind,by rw[Int.natAbs_mul];exact Nat.mul_le_mul h2 k2⟩
theorem Rz.zero (D M:Nat):Rz 0 D M:=⟨0,by simp,nq _⟩
theorem Rz.up {x:Rat} {D M N:Nat} (h:Rz x D M) (k:M≤N):Rz x D N:=by
 obtain⟨z,h1,h2⟩:=h;exact⟨z,h1,nt h2 k⟩
theorem Rz.scale {x:Rat} {D M:Nat} (h:Rz x D M) (k:Nat):Rz x (D*k) (M*k):=by
 obtain⟨z,h1,h2⟩:=h;have ec:((k:Int):Rat)=(k:Rat):=Rat.intCast_natCast _;exact⟨z*k,by rw[Rat.natCast_mul,Rat.intCast_mul,ec,← h1];grind,by rw[Int.natAbs_mul,Int.natAbs_natCast];exact Nat.mul_le_mul_right _ h2⟩
theorem Rz.sum {D M:Nat}:∀{l:List Rat},(∀x∈l,Rz x D M)→Rz l.sum D (l.length*M)
 | [],_=>by rw[List.sum_nil];exact Rz.zero _ _
 | x::l,h=>by
  rw[List.sum_cons,List.length_cons,Nat.add_mul,Nat.one_mul,Nat.add_comm (l.length*M)];exact (h x (mf ..)).add (Rz.sum fun y hy=>h y (List.mem_cons_of_mem _ hy))
theorem aos (q:Q):q.abs.r=q.r∨q.abs.r=-q.r:=by
 unfold Q.abs Q.r;have:(Q.mk false q.num q.den).un=q.un:=rfl;rw[this];cases q.neg with
 | false=>left;rfl
 | true=>right;simp only[sgnR,cond_true,cond_false];grind
theorem Rz.abs {q:Q} {D M:Nat} (h:Rz q.r D M):Rz q.abs.r D M:=by
 rcases aos q with e | e
 ·rw[e];exact h
 ·rw[e];exact h.neg
structure Sc.Dz (s:Sc) (D M:Nat):Prop where
 lo:∀q∈s.q.rg.lo,Rz q.r D M
 hi:∀q∈s.q.rg.hi,Rz q.r D M
 lems:∀m∈s.lems,Rz m.value.r D M
structure Fm.Dz (f:Fm) (n C:Nat):Prop where
 each:∀t∈f.terms,Rz t.2.r 4 C∧0≤t.1∧t.1 < (n:Int)
 const:Rz f.const.r 4 C
theorem ab8 {s:Sc} {a b D M:Nat} (hs:s.Va a b) (h:s.Dz D M) {t:Tm} (h0:0≤t.1) (hv:t.1 < ((s.q.g.inputs+s.q.g.units.length:Nat):Int)) (hm:(j4 s t).2=true):Rz (valM (kC s) (j4 s t).1) D M:=by
 unfold j4 at hm ⊢;cases hd:decide (0 < sgQ t.2) with
 | true=>
  rw[cond_true];simp only;rw[(a3m hs h0 hv).1];unfold loV;split
  ·rename_i hi
   rw[show ∀x:Rat,0 - 1*x=-x from fun x=>by grind];exact (h.lo _ (bi h0 (by rw[hs.q.rg.lo];exact hi))).neg
  ·rw[show (0:Rat) - 1*0=0 from by grind];exact Rz.zero _ _
 | false=>
  rw[hd,cond_false] at hm;rw[cond_false];obtain⟨h1,h2,_⟩:=a6m (k:=fun _=>0) (c:=1) hs h0 hv hm;rw[h1,show ∀x:Rat,1*x - 0=x from fun x=>by grind];unfold hiV;split
  ·rename_i hi
   exact h.hi _ (bi h0 (by rw[hs.q.rg.hi];exact hi))
  ·rename_i hi
   obtain⟨n2,b2⟩:=h2 hi;split
   ·exact Rz.zero _ _
   ·exact h.lems _ (mg (ah (show _ - 1 < s.lems.length by omega)))
theorem ag1 {s:Sc} {a b D M C:Nat} (hs:s.Va a b) (h:s.Dz D M) {f:Fm} (hf:f.Dz (s.q.g.inputs+s.q.g.units.length) C):Rz (bj s f).1.r (4*D) (C*D+f.terms.length*(C*M)):=by
 unfold bj;cases e:bt s f.terms [] with
 | none=>rw[show ((Q.zero,([]:List Mm),false):Q×List Mm×Bool).1=Q.zero from rfl,a5b];exact Rz.zero _ _
 | some L=>
  simp only;rw[fm];have hc:Rz f.const.r (4*D) (C*D):=hf.const.scale D;rcases a5k hs L with h1 | h1
  ·rw[h1];have:f.const.r - 0=f.const.r:=by grind
   rw[this];exact hc.up (Nat.le_add_right ..)
  ·rw[h1];obtain⟨ws,g1,g2,g3⟩:=zj (kC s) e;have hw:∀w∈ws,Rz w (4*D) (C*M):=fun w hw=>by
    obtain⟨i,hi,rfl⟩:=List.mem_iff_getElem.1 hw;have hi':i < f.terms.length:=by omega
    obtain⟨e1,e2⟩:=g3 i _ _ (ge hi') (ge hi);obtain⟨t1,t2,t3⟩:=hf.each _ (List.getElem_mem hi');rw[e1];exact (Rz.abs t1).mul (ab8 hs h t2 t3 e2)
   have hsum:=Rz.sum hw;rw[g1] at hsum;have:f.const.r - valM (kC s) L=f.const.r+-(ws.sum):=by rw[g2,valM];grind
   rw[this];exact hc.add hsum.neg
theorem ahs {s:Sc} {l:List Mm} {a b n:Nat} (h:s.Va a b) (hl:∀m∈l,m.2.S n) (h9:l.length≤40) (hn9:n≤9000) (hK:1+l.length*(41+n)≤9000):PCalls Tryz.prog TF 121 [scP s,mmsP l] (.tup [fmP (sumR s l).1,iP (sumR s l).2]):=by
 refine pcA [85,37] Tryz.func121 (fun D=>?_);refine ac (c:=a4p (n:=n) hl om om) ?_;refine a2 (fun e12=>?_) (fun e12=>?_)
 ·replace e12:=gq e12;exact ar (c:=by rw[xj e12];rfl)
 ·replace e12:=i7 e12
  skip
  refine au ?_;refine pwk ?_;refine pl (ι:={p:Nat×Fm // p.1≤l.length∧fi s (l.drop p.1) p.2=fi s l Fm.zero∧p.2.S (1+p.1*(41+n)) (p.1*9)}) (fun p=>[(1,.pv (mmsP l)),(2,.box 2 0),(4,.box 4 0),(6,.box 6 0),(7,.pv (iP p.1.1))]) (fun p=>[(2,.box 85 [.pv (iP s.q.g.inputs),.pv (b7 s.q.g.units),.pv (b7 s.q.g.outputs),.pv (cz s.q.rg.lo),.pv (cz s.q.rg.hi),.pv (b7 s.q.rg.rows),.pv (bu s.q.goal.terms),.pv (bP s.q.goal.const.neg),.pv (.nat s.q.goal.const.num),.pv (.nat s.q.goal.const.den),.pv (dcsP s.path),.pv (lmsP s.lems)]),(4,.box 37 [.pv (bu []),.pv (.raw (.bool false)),.pv (.nat 0),.pv (.nat 0)]),(6,.box 37 [.pv (bu p.1.2.terms),.pv (bP p.1.2.const.neg),.pv (.nat p.1.2.const.num),.pv (.nat p.1.2.const.den)])]) [85,37] (fun p=>l.length - p.1.1) ⟨(0,Fm.zero),nq _,rfl,fm_zero_S.up om om⟩ (c5 Y Y Y Y Y trivial) (c3 Y Y Y trivial) (fun _=>rfl) ?_;intro ⟨(i,acc),hi0,hg,ha⟩;simp only at hi0 hg ha;refine a2 (fun e17=>?_) (fun e17=>?_)
  ·have hi:i < l.length:=db e17;have hm:=hl _ (mg (ah hi));have hf:=h.formS (r:=(atZ l (i:Int)).1);have hii:=Nat.mul_le_mul_right (41+n) (show i+1≤l.length from hi);rw[Nat.add_mul,Nat.one_mul] at hii;refine ax (c:=(aj (ah hi))) ?_;refine ac (c:=al0 h) ?_;refine a2 (fun e31=>?_) (fun e31=>?_)
   ·replace e31:=gq e31;exact ar (c:=by rw[a5j e12 hi hg e31];rfl)
   ·replace e31:=i7 e31;refine ax (c:=(aj (ah hi))) ?_;refine ac (c:=ig hf hm dx om dx) ?_;refine ac (c:=a2r ha (hf.scaleR hm) om om) ?_;refine aa (c:=ae (by show i≤_;omega)) ?_;refine au ?_;exact pe ⟨(i+1,Fm.addR acc (Fm.scaleR (bq s (atZ l (i:Int)).1).1 (atZ l (i:Int)).2)),hi,a5i hi hg e31,(ha.addR (hf.scaleR hm)).up (by show _≤1+(i+1)*(41+n);rw[Nat.add_mul,Nat.one_mul];omega) (by show i*9+9≤(i+1)*9;omega)⟩ (c5 Y Y Y Y Y trivial) (c3 Y Y Y trivial) Y (by show l.length - (i+1) < l.length - i;omega)
  ·have hj:l.length≤i:=dw e17;exact ar (c:=by rw[a8v e12 hj hg];rfl)
theorem a9t {a b:List Mm} {c:Q} {n m k:Nat} (ha:∀x∈a,x.2.S n) (hb:∀x∈b,x.2.S m) (hc:c.S k) (h9:a.length+b.length≤900) (hm9:m≤9000) (hk9:k≤9000) (hK:n+b.length*(m+k+1)≤9000):PCalls Tryz.prog TU 120 [mmsP a,mmsP b,ratP c] (mmsP (fy c a b)):=by
 refine pcA [35] Tryz.func120 (fun D=>?_);refine au ?_;refine pl (ι:={p:Nat×List Mm // p.1≤b.length∧fy c p.2 (b.drop p.1)=fy c a b∧(∀x∈p.2,x.2.S (n+p.1*(m+k+1)))∧p.2.length≤a.length+p.1}) (fun p=>[(0,.pv (mmsP p.1.2)),(1,.pv (mmsP b)),(5,.box 5 0),(7,.pv (iP p.1.1))]) (fun p=>[(5,.box 35 [.pv (bP c.neg),.pv (.nat c.num),.pv (.nat c.den)])]) [35] (fun p=>b.length - p.1.1) ⟨(0,a),nq _,rfl,by simpa using ha,nr _⟩ (c4 Y Y Y Y trivial) (ai Y trivial) (fun _=>rfl) ?_;intro ⟨(i,acc),hi0,hg,hacc,hlen⟩;simp only at hi0 hg hacc hlen;refine a2 (fun e11=>?_) (fun e11=>?_)
 ·have hi:i < b.length:=db e11;have hm:=hb _ (mg (ah hi));have hii:=Nat.mul_le_mul_right (m+k+1) (show i+1≤b.length from hi);rw[Nat.add_mul,Nat.one_mul] at hii;obtain⟨q1,q2⟩:=ago (r:=(atZ b (i:Int)).1) hacc (hm.mul hc);refine ax (c:=(aj (ah hi))) ?_;refine ax (c:=(aj (ah hi))) ?_;refine ac (c:=adq (hm.sm om) (hc.sm om)) ?_;refine ac (c:=akv hacc (hm.mul hc) om om) ?_;refine aa (c:=ae (by show i≤_;omega)) ?_;refine au ?_;exact pe ⟨(i+1,lm acc (atZ b (i:Int)).1 (Q.mul (atZ b (i:Int)).2 c)),hi,by rw[← hg,a8c hi],fun x hx=>(q1 x hx).up (by show _≤n+(i+1)*(m+k+1);rw[Nat.add_mul,Nat.one_mul];omega),by show (lm acc (atZ b (i:Int)).1 (Q.mul (atZ b (i:Int)).2 c)).length≤a.length+(i+1);omega⟩ (c4 Y Y Y Y trivial) (ai Y trivial) Y (by show b.length - (i+1) < b.length - i;omega)
 ·have hj:b.length≤i:=dw e11;exact ar (c:=congrArg mmsP (by show acc=_;rw[← hg,List.drop_of_length_le hj];rfl))
theorem al5 {s:Sc} {a b:Nat} {unit:Int} (h:s.Va a b):PCalls Tryz.prog TU 170 [scP s,iP unit] (.tup [iP (gx s.lems unit).1,iP (gx s.lems unit).2]):=by
 refine pcA [85,100] Tryz.func170 (fun D=>?_);refine au ?_;refine pl (ι:={p:Nat×Nat×Nat // p.1≤s.lems.length∧(List.range p.1).foldl (fd s.lems unit) (0,0)=(p.2.1,p.2.2)∧p.2.1≤s.lems.length∧p.2.2≤s.lems.length}) (fun p=>[(1,.pv (iP unit)),(2,.box 2 0),(6,.pv (iP p.1.2.1)),(7,.pv (iP p.1.2.2)),(8,.pv (iP ((p.1.1+1:Nat):Int)))]) (fun p=>[(2,.box 85 [.pv (iP s.q.g.inputs),.pv (b7 s.q.g.units),.pv (b7 s.q.g.outputs),.pv (cz s.q.rg.lo),.pv (cz s.q.rg.hi),.pv (b7 s.q.rg.rows),.pv (bu s.q.goal.terms),.pv (bP s.q.goal.const.neg),.pv (.nat s.q.goal.const.num),.pv (.nat s.q.goal.const.den),.pv (dcsP s.path),.pv (lmsP s.lems)])]) [85,100] (fun p=>s.lems.length - p.1.1) ⟨(0,0,0),nq _,rfl,nq _,nq _⟩ (c5 Y Y Y Y Y trivial) (ai Y trivial) (fun _=>rfl) ?_;intro ⟨(i,lo,hi),hi0,hf,hlo,hhi⟩;simp only at hi0 hf hlo hhi;refine a2 (fun e14=>?_) (fun e14=>?_)
 ·have hi1:i < s.lems.length:=aok e14;have h9:=h.l9;have vm:=(h.lems _ (mg (ah hi1))).up h.b9;refine aa (c:=jq (by show i≤_;omega)) ?_;refine ax (c:=(aj (ah hi1))) ?_;refine a2 (fun e26=>?_) (fun e26=>?_)
  ·refine aa (c:=ae (by show i+1≤_;omega)) ?_;refine au ?_;exact pe ⟨(i+1,lo,hi),hi1,dg hf (by simp only[fd,e14,e26,sb]),by first | exact hi1 | exact hlo,by first | exact hi1 | exact hhi⟩ (c5 Y Y Y Y Y trivial) (ai Y trivial) Y (by show s.lems.length - (i+1) < s.lems.length - i;omega)
  ·refine a2 (fun e29=>?_) (fun e29=>?_)
   ·refine a2 (fun e32=>?_) (fun e32=>?_)
    ·refine a2 (fun e50=>?_) (fun e50=>?_)
     ·replace e50:=gq e50;refine a2 (fun e53=>?_) (fun e53=>?_)
      ·refine aa (c:=ae (by show i+1≤_;omega)) ?_;refine au ?_;exact pe ⟨(i+1,(i+1),(i+1)),hi1,dg hf (by (first | (exact absurd (e29.symm.trans e50) dx) | simp only[fd,e14,e26,e29,e32,e50,e53,sb])),by first | exact hi1 | exact hlo,by first | exact hi1 | exact hhi⟩ (c5 Y Y Y Y Y trivial) (ai Y trivial) Y (by show s.lems.length - (i+1) < s.lems.length - i;omega)
      ·obtain⟨gb,vb⟩:=nn h e53 hlo;refine aa (c:=j7 (yi e53) (by show lo≤_;omega)) ?_;refine ax (c:=(aj (ah gb))) ?_;refine ac (c:=a4o (vm.sm dx) (vb.sm dx) vm.ok vb.neg.ok ((vm.add vb.neg).sm dx)) ?_;refine a2 (fun e66=>?_) (fun e66=>?_)
       ·refine aa (c:=ae (by show i+1≤_;omega)) ?_;refine au ?_;exact pe ⟨(i+1,(i+1),(i+1)),hi1,dg hf (by (first | (exact absurd (e29.symm.trans e50) dx) | simp only[fd,e14,e26,e29,e32,e50,e53,e66,sb])),by first | exact hi1 | exact hlo,by first | exact hi1 | exact hhi⟩ (c5 Y Y Y Y Y trivial) (ai Y trivial) Y (by show s.lems.length - (i+1) < s.lems.length - i;omega)
       ·refine aa (c:=ae (by show i+1≤_;omega)) ?_;refine au ?_;exact pe ⟨(i+1,lo,(i+1)),hi1,dg hf (by (first | (exact absurd (e29.symm.trans e50) dx) | simp only[fd,e14,e26,e29,e32,e50,e53,e66,sb])),by first | exact hi1 | exact hlo,by first | exact hi1 | exact hhi⟩ (c5 Y Y Y Y Y trivial) (ai Y trivial) Y (by show s.lems.length - (i+1) < s.lems.length - i;omega)
     ·replace e50:=i7 e50;refine aa (c:=ae (by show i+1≤_;omega)) ?_;refine au ?_;exact pe ⟨(i+1,lo,(i+1)),hi1,dg hf (by (first | (exact absurd (e29.symm.trans e50) dx) | simp only[fd,e14,e26,e29,e32,e50,sb])),by first | exact hi1 | exact hlo,by first | exact hi1 | exact hhi⟩ (c5 Y Y Y Y Y trivial) (ai Y trivial) Y (by show s.lems.length - (i+1) < s.lems.length - i;omega)
    ·obtain⟨gb,vb⟩:=nn h e32 hhi;refine aa (c:=j7 (yi e32) (by show hi≤_;omega)) ?_;refine ax (c:=(aj (ah gb))) ?_;refine ac (c:=a4o (vm.sm dx) (vb.sm dx) vm.ok vb.neg.ok ((vm.add vb.neg).sm dx)) ?_;refine a2 (fun e45=>?_) (fun e45=>?_)
     ·refine a2 (fun e50=>?_) (fun e50=>?_)
      ·replace e50:=gq e50;refine a2 (fun e53=>?_) (fun e53=>?_)
       ·refine aa (c:=ae (by show i+1≤_;omega)) ?_;refine au ?_;exact pe ⟨(i+1,(i+1),(i+1)),hi1,dg hf (by (first | (exact absurd (e29.symm.trans e50) dx) | simp only[fd,e14,e26,e29,e32,e45,e50,e53,sb])),by first | exact hi1 | exact hlo,by first | exact hi1 | exact hhi⟩ (c5 Y Y Y Y Y trivial) (ai Y trivial) Y (by show s.lems.length - (i+1) < s.lems.length - i;omega)
       ·obtain⟨gb,vb⟩:=nn h e53 hlo;refine aa (c:=j7 (yi e53) (by show lo≤_;omega)) ?_;refine ax (c:=(aj (ah gb))) ?_;refine ac (c:=a4o (vm.sm dx) (vb.sm dx) vm.ok vb.neg.ok ((vm.add vb.neg).sm dx)) ?_;refine a2 (fun e66=>?_) (fun e66=>?_)
        ·refine aa (c:=ae (by show i+1≤_;omega)) ?_;refine au ?_;exact pe ⟨(i+1,(i+1),(i+1)),hi1,dg hf (by (first | (exact absurd (e29.symm.trans e50) dx) | simp only[fd,e14,e26,e29,e32,e45,e50,e53,e66,sb])),by first | exact hi1 | exact hlo,by first | exact hi1 | exact hhi⟩ (c5 Y Y Y Y Y trivial) (ai Y trivial) Y (by show s.lems.length - (i+1) < s.lems.length - i;omega)
        ·refine aa (c:=ae (by show i+1≤_;omega)) ?_;refine au ?_;exact pe ⟨(i+1,lo,(i+1)),hi1,dg hf (by (first | (exact absurd (e29.symm.trans e50) dx) | simp only[fd,e14,e26,e29,e32,e45,e50,e53,e66,sb])),by first | exact hi1 | exact hlo,by first | exact hi1 | exact hhi⟩ (c5 Y Y Y Y Y trivial) (ai Y trivial) Y (by show s.lems.length - (i+1) < s.lems.length - i;omega)
      ·replace e50:=i7 e50;refine aa (c:=ae (by show i+1≤_;omega)) ?_;refine au ?_;exact pe ⟨(i+1,lo,(i+1)),hi1,dg hf (by (first | (exact absurd (e29.symm.trans e50) dx) | simp only[fd,e14,e26,e29,e32,e45,e50,sb])),by first | exact hi1 | exact hlo,by first | exact hi1 | exact hhi⟩ (c5 Y Y Y Y Y trivial) (ai Y trivial) Y (by show s.lems.length - (i+1) < s.lems.length - i;omega)
     ·refine a2 (fun e50=>?_) (fun e50=>?_)
      ·replace e50:=gq e50;refine a2 (fun e53=>?_) (fun e53=>?_)
       ·refine aa (c:=ae (by show i+1≤_;omega)) ?_;refine au ?_;exact pe ⟨(i+1,(i+1),hi),hi1,dg hf (by (first | (exact absurd (e29.symm.trans e50) dx) | simp only[fd,e14,e26,e29,e32,e45,e50,e53,sb])),by first | exact hi1 | exact hlo,by first | exact hi1 | exact hhi⟩ (c5 Y Y Y Y Y trivial) (ai Y trivial) Y (by show s.lems.length - (i+1) < s.lems.length - i;omega)
       ·obtain⟨gb,vb⟩:=nn h e53 hlo;refine aa (c:=j7 (yi e53) (by show lo≤_;omega)) ?_;refine ax (c:=(aj (ah gb))) ?_;refine ac (c:=a4o (vm.sm dx) (vb.sm dx) vm.ok vb.neg.ok ((vm.add vb.neg).sm dx)) ?_;refine a2 (fun e66=>?_) (fun e66=>?_)
        ·refine aa (c:=ae (by show i+1≤_;omega)) ?_;refine au ?_;exact pe ⟨(i+1,(i+1),hi),hi1,dg hf (by (first | (exact absurd (e29.symm.trans e50) dx) | simp only[fd,e14,e26,e29,e32,e45,e50,e53,e66,sb])),by first | exact hi1 | exact hlo,by first | exact hi1 | exact hhi⟩ (c5 Y Y Y Y Y trivial) (ai Y trivial) Y (by show s.lems.length - (i+1) < s.lems.length - i;omega)
        ·refine aa (c:=ae (by show i+1≤_;omega)) ?_;refine au ?_;exact pe ⟨(i+1,lo,hi),hi1,dg hf (by (first | (exact absurd (e29.symm.trans e50) dx) | simp only[fd,e14,e26,e29,e32,e45,e50,e53,e66,sb])),by first | exact hi1 | exact hlo,by first | exact hi1 | exact hhi⟩ (c5 Y Y Y Y Y trivial) (ai Y trivial) Y (by show s.lems.length - (i+1) < s.lems.length - i;omega)
      ·replace e50:=i7 e50;refine aa (c:=ae (by show i+1≤_;omega)) ?_;refine au ?_;exact pe ⟨(i+1,lo,hi),hi1,dg hf (by (first | (exact absurd (e29.symm.trans e50) dx) | simp only[fd,e14,e26,e29,e32,e45,e50,sb])),by first | exact hi1 | exact hlo,by first | exact hi1 | exact hhi⟩ (c5 Y Y Y Y Y trivial) (ai Y trivial) Y (by show s.lems.length - (i+1) < s.lems.length - i;omega)
   ·refine a2 (fun e50=>?_) (fun e50=>?_)
    ·replace e50:=gq e50;refine a2 (fun e53=>?_) (fun e53=>?_)
     ·refine aa (c:=ae (by show i+1≤_;omega)) ?_;refine au ?_;exact pe ⟨(i+1,(i+1),hi),hi1,dg hf (by (first | (exact absurd (e29.symm.trans e50) dx) | simp only[fd,e14,e26,e29,e50,e53,sb])),by first | exact hi1 | exact hlo,by first | exact hi1 | exact hhi⟩ (c5 Y Y Y Y Y trivial) (ai Y trivial) Y (by show s.lems.length - (i+1) < s.lems.length - i;omega)
     ·obtain⟨gb,vb⟩:=nn h e53 hlo;refine aa (c:=j7 (yi e53) (by show lo≤_;omega)) ?_;refine ax (c:=(aj (ah gb))) ?_;refine ac (c:=a4o (vm.sm dx) (vb.sm dx) vm.ok vb.neg.ok ((vm.add vb.neg).sm dx)) ?_;refine a2 (fun e66=>?_) (fun e66=>?_)
      ·refine aa (c:=ae (by show i+1≤_;omega)) ?_;refine au ?_;exact pe ⟨(i+1,(i+1),hi),hi1,dg hf (by (first | (exact absurd (e29.symm.trans e50) dx) | simp only[fd,e14,e26,e29,e50,e53,e66,sb])),by first | exact hi1 | exact hlo,by first | exact hi1 | exact hhi⟩ (c5 Y Y Y Y Y trivial) (ai Y trivial) Y (by show s.lems.length - (i+1) < s.lems.length - i;omega)
      ·refine aa (c:=ae (by show i+1≤_;omega)) ?_;refine au ?_;exact pe ⟨(i+1,lo,hi),hi1,dg hf (by (first | (exact absurd (e29.symm.trans e50) dx) | simp only[fd,e14,e26,e29,e50,e53,e66,sb])),by first | exact hi1 | exact hlo,by first | exact hi1 | exact hhi⟩ (c5 Y Y Y Y Y trivial) (ai Y trivial) Y (by show s.lems.length - (i+1) < s.lems.length - i;omega)
    ·replace e50:=i7 e50;refine aa (c:=ae (by show i+1≤_;omega)) ?_;refine au ?_;exact pe ⟨(i+1,lo,hi),hi1,dg hf (by (first | (exact absurd (e29.symm.trans e50) dx) | simp only[fd,e14,e26,e29,e50,sb])),by first | exact hi1 | exact hlo,by first | exact hi1 | exact hhi⟩ (c5 Y Y Y Y Y trivial) (ai Y trivial) Y (by show s.lems.length - (i+1) < s.lems.length - i;omega)
 ·have hj:s.lems.length≤i:=aol e14;exact ar (c:=by rw[afo hf hi0 hj])
end Go.Proofs.YtbhbainhmfjpdaaGreatDoor
