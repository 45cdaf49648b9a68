/- Walks of the search and of what it calls, part 13. -/
import Derived.Test.YtbhbainhmfjpdaaGreatDoorMl
import Derived.Lib.AppendZeros
import Derived.Laws.LoneSync
import Derived.Carry
import Derived.MapKept
set_option linter.unusedSectionVars false
set_option linter.unusedVariables false
set_option linter.unusedSimpArgs false
set_option maxRecDepth 100000
set_option maxHeartbeats 8000000
namespace Go.Proofs.YtbhbainhmfjpdaaGreatDoor
open Go.RowKit
theorem zp {l:List Mm} (h9:l.length≤1000000):NCalls Tryz.prog [] 78 [mmsP l] 98 7 [200] (l.map mmC):=by
 refine pcn [98] (by kernel_rfl) Tryz.func78 Y Y (fun D=>?_);refine au ?_;refine rz0 Y Y Y Y Y ⟨98,by kernel_rfl⟩ Y Y (fun hx=>?_) ?_
 ·refine au ?_;exact ahs Y Y Y Y hx
 ·refine au ?_;refine rp0 gg (by simp;omega) Y Y Y Y Y Y Y Y ?_;refine au ?_;exact retn Y Y Y Y (Y)
theorem a5g {l:List Dc} (h9:l.length≤1000000):NCalls Tryz.prog [] 77 [dcsP l] 42 5 [200] (l.map dcC):=by
 refine pcn [42] (by kernel_rfl) Tryz.func77 Y Y (fun D=>?_);refine au ?_;refine rz0 Y Y Y Y Y ⟨42,by kernel_rfl⟩ Y Y (fun hx=>?_) ?_
 ·refine au ?_;exact ahs Y Y Y Y hx
 ·refine au ?_;refine rp0 el_Decision (by simp;omega) Y Y Y Y Y Y Y Y ?_;refine au ?_;exact retn Y Y Y Y (Y)
def reN (to:List Int) (x:Int):Int:=bif decide (1≤x)&&decide (x≤(to.length:Int)) then atZ to (x - 1) else x
def renM (to:List Int) (m:Mm):Mm:=(⟨m.1.kind,m.1.index,reN to m.1.lo,reN to m.1.hi⟩,m.2)
theorem ob {l:List Mm} {i:Nat} (m:Mm) {r:List PV} (h:r=mmC m):(l.map mmC).set i r=(l.set i m).map mmC:=by rw[h];exact (List.map_set ..).symm
theorem wl {l:List Mm} {i:Nat} {m:Mm} (h:l[i]?=some m) (m':Mm) (e:m'=m):l.map mmC=(l.set i m').map mmC:=by rw[e,List.set_getElem?_self' h]
theorem fw {to:List Int} {l:List Mm} {i:Nat} (hi:i < l.length):((l.take i).map (renM to)++l.drop i)[i]?=some (atZ l (i:Int)):=by
 rw[List.getElem?_append_right (by simp;omega)];simp only[zB,List.length_take,Nat.min_eq_left (Nat.le_of_lt hi),Nat.sub_self];rw[List.getElem?_drop,Nat.add_zero,ab hi]
theorem jb {to:List Int} {l:List Mm} {i:Nat} (hi:i < l.length):((l.take i).map (renM to)++l.drop i).set i (renM to (atZ l (i:Int)))=(l.take (i+1)).map (renM to)++l.drop (i+1):=by
 have h1:((l.take i).map (renM to)).length=i:=by simp;omega
 rw[List.set_append_right _ _ om,h1,Nat.sub_self,zQ hi,List.set_cons_zero,List.take_add_one,ab hi];simp
theorem ve {xs:List (List PV)} {i:Nat} {r r':List PV} (h:xs[i]?=some r):(xs.set i r')[i]?=some r':=by
 rw[List.getElem?_set_self (gs h).1]
theorem y8 {l:List Mm} {to:List Int} (h9:l.length≤1000000) (h8:to.length≤1000000):PCalls Tryz.prog [] 82 [mmsP l,af6 to] (mmsP (l.map (renM to))):=by
 refine pcA [98] Tryz.func82 (fun D=>?_);refine pa Y Y (pr0 (qg 1 ?_));refine rcn0 9 (zp h9) Y Y Y Y Y Y Y Y ?_;refine au ?_;refine pl (ι:={i:Nat // i≤l.length}) (fun i=>[(1,.pv (af6 to)),(4,.nil 98 7 [200]),(5,.tok 9),(11,.pv (iP (l.length:Int))),(12,.pv (iP i.1))]) (fun i=>[(9,.tok 98 7 [200] (((l.take i.1).map (renM to)++l.drop i.1).map mmC))]) [98] (fun i=>l.length - i.1) ⟨0,nq _⟩ (c3 Y Y Y (ai (congrArg (fun n:Nat=>some (SV.pv (iP (n:Int)))) (zB ..)) (ai Y trivial))) (ai Y trivial) (fun _=>rfl) ?_;intro ⟨i,hi0⟩;refine a2 (fun e13=>?_) (fun e13=>?_)
 ·have hi:i < l.length:=by have h:(i:Int) < (l.length:Int):=zK e13;omega
  refine pk (ps (pb ?_));refine pa Y Y (pr0 (qg 2 ?_));refine ro0 Y Y Y (fun hd=>iq (i:=i) ah Y Y Y Y Y Y dx Y (ae (fw hi)) hd) ?_;refine qg 2 ?_;refine rn Y (ps (pr0 (qg 3 ?_)));refine ro0 Y Y Y (fun hd=>cb (i:=i) (j:=2) ah Y Y Y Y Y Y (ae (fw hi)) Y hd) ?_;refine a2 (fun e24=>?_) (fun e24=>?_)
  ·have g1:1≤(atZ l (i:Int)).1.lo:=zK e24;refine qg 3 ?_;refine ro0 Y Y Y (fun hd=>cb (i:=i) (j:=2) ah Y Y Y Y Y Y (ae (fw hi)) Y hd) ?_;refine a2 (fun e32=>?_) (fun e32=>?_)
   ·have g2:(atZ l (i:Int)).1.lo≤(to.length:Int):=by have:=zK e32;rw[zB] at this;exact this
    have g5:ariO .sub .i64 (atZ l (i:Int)).1.lo 1=some ((atZ l (i:Int)).1.lo - 1):=da om om om om;refine pr0' (qg 5 ?_);refine ro0 Y Y Y (fun hd=>cb (i:=i) (j:=2) ah Y Y Y Y Y Y (ae (fw hi)) Y hd) ?_;refine aa (c:=g5) ?_;refine ay (z:=show (atZ l (i:Int)).1.lo - 1=(((atZ l (i:Int)).1.lo - 1).toNat:Int) by omega) (c:=(ae (f:=fun x=>[iP x]) (kb g1 g2 rfl))) ?_;refine qg 3 ?_;refine ro0 Y Y Y (fun hd=>ed (i:=i) (j:=2) ah Y Y Y Y Y Y Y (ae (fw hi)) Y Y Y Y Y) ?_;refine rn Y (pr0 (qg 3 ?_));refine ro0 Y Y Y (fun hd=>cb (i:=i) (j:=3) ah Y Y Y Y Y Y (show (List.set (((l.take i).map (renM to)++l.drop i).map mmC) i (List.set (mmC (atZ l (i:Int))) 2 (iP (atZ to ((atZ l (i:Int)).1.lo - 1)))))[i]?=some (mmC ((⟨(atZ l (i:Int)).1.kind,(atZ l (i:Int)).1.index,atZ to ((atZ l (i:Int)).1.lo - 1),(atZ l (i:Int)).1.hi⟩,(atZ l (i:Int)).2):Mm)) from ve (r:=mmC (atZ l (i:Int))) (ae (fw hi))) Y hd) ?_;refine a2 (fun e49=>?_) (fun e49=>?_)
    ·have g3:1≤(atZ l (i:Int)).1.hi:=zK e49;refine qg 3 ?_;refine ro0 Y Y Y (fun hd=>cb (i:=i) (j:=3) ah Y Y Y Y Y Y (show (List.set (((l.take i).map (renM to)++l.drop i).map mmC) i (List.set (mmC (atZ l (i:Int))) 2 (iP (atZ to ((atZ l (i:Int)).1.lo - 1)))))[i]?=some (mmC ((⟨(atZ l (i:Int)).1.kind,(atZ l (i:Int)).1.index,atZ to ((atZ l (i:Int)).1.lo - 1),(atZ l (i:Int)).1.hi⟩,(atZ l (i:Int)).2):Mm)) from ve (r:=mmC (atZ l (i:Int))) (ae (fw hi))) Y hd) ?_;refine a2 (fun e57=>?_) (fun e57=>?_)
     ·have g4:(atZ l (i:Int)).1.hi≤(to.length:Int):=by have:=zK e57;rw[zB] at this;exact this
      have g6:ariO .sub .i64 (atZ l (i:Int)).1.hi 1=some ((atZ l (i:Int)).1.hi - 1):=da om om om om;refine pr0' (qg 5 ?_);refine ro0 Y Y Y (fun hd=>cb (i:=i) (j:=3) ah Y Y Y Y Y Y (show (List.set (((l.take i).map (renM to)++l.drop i).map mmC) i (List.set (mmC (atZ l (i:Int))) 2 (iP (atZ to ((atZ l (i:Int)).1.lo - 1)))))[i]?=some (mmC ((⟨(atZ l (i:Int)).1.kind,(atZ l (i:Int)).1.index,atZ to ((atZ l (i:Int)).1.lo - 1),(atZ l (i:Int)).1.hi⟩,(atZ l (i:Int)).2):Mm)) from ve (r:=mmC (atZ l (i:Int))) (ae (fw hi))) Y hd) ?_;refine aa (c:=g6) ?_;refine ay (z:=show (atZ l (i:Int)).1.hi - 1=(((atZ l (i:Int)).1.hi - 1).toNat:Int) by omega) (c:=(ae (f:=fun x=>[iP x]) (kb g3 g4 rfl))) ?_;refine qg 3 ?_;refine ro0 Y Y Y (fun hd=>ed (i:=i) (j:=3) ah Y Y Y Y Y Y Y (show (List.set (((l.take i).map (renM to)++l.drop i).map mmC) i (List.set (mmC (atZ l (i:Int))) 2 (iP (atZ to ((atZ l (i:Int)).1.lo - 1)))))[i]?=some (mmC ((⟨(atZ l (i:Int)).1.kind,(atZ l (i:Int)).1.index,atZ to ((atZ l (i:Int)).1.lo - 1),(atZ l (i:Int)).1.hi⟩,(atZ l (i:Int)).2):Mm)) from ve (r:=mmC (atZ l (i:Int))) (ae (fw hi))) Y Y Y Y Y) ?_;refine aa (c:=a8 (by show i≤_;omega)) ?_;refine au ?_;exact pe ⟨i+1,hi⟩ (c5 Y Y Y Y Y trivial) (ai (congrArg (fun x=>some (Res.tok _ _ _ x)) (((congrArg (fun x=>List.set x i _) (ob ((⟨(atZ l (i:Int)).1.kind,(atZ l (i:Int)).1.index,atZ to ((atZ l (i:Int)).1.lo - 1),(atZ l (i:Int)).1.hi⟩,(atZ l (i:Int)).2):Mm) Y)).trans ((ob (renM to (atZ l (i:Int))) (by rw[show renM to (atZ l (i:Int))=(⟨(atZ l (i:Int)).1.kind,(atZ l (i:Int)).1.index,atZ to ((atZ l (i:Int)).1.lo - 1),atZ to ((atZ l (i:Int)).1.hi - 1)⟩,(atZ l (i:Int)).2) from (by unfold renM reN;(try simp only[zB] at *);simp only[e24,e32,e49,e57,sb])];rfl)).trans (by rw[List.set_set]))).trans (congrArg (List.map mmC) (jb hi)))) trivial) Y (by show l.length - (i+1) < l.length - i;omega)
     ·refine aa (c:=a8 (by show i≤_;omega)) ?_;refine au ?_;exact pe ⟨i+1,hi⟩ (c5 Y Y Y Y Y trivial) (ai (congrArg (fun x=>some (Res.tok _ _ _ x)) ((ob (renM to (atZ l (i:Int))) (by rw[show renM to (atZ l (i:Int))=((⟨(atZ l (i:Int)).1.kind,(atZ l (i:Int)).1.index,atZ to ((atZ l (i:Int)).1.lo - 1),(atZ l (i:Int)).1.hi⟩,(atZ l (i:Int)).2):Mm) from (by unfold renM reN;(try simp only[zB] at *);simp only[e24,e32,e49,e57,sb])];rfl)).trans (congrArg (List.map mmC) (jb hi)))) trivial) Y (by show l.length - (i+1) < l.length - i;omega)
    ·refine aa (c:=a8 (by show i≤_;omega)) ?_;refine au ?_;exact pe ⟨i+1,hi⟩ (c5 Y Y Y Y Y trivial) (ai (congrArg (fun x=>some (Res.tok _ _ _ x)) ((ob (renM to (atZ l (i:Int))) (by rw[show renM to (atZ l (i:Int))=((⟨(atZ l (i:Int)).1.kind,(atZ l (i:Int)).1.index,atZ to ((atZ l (i:Int)).1.lo - 1),(atZ l (i:Int)).1.hi⟩,(atZ l (i:Int)).2):Mm) from (by unfold renM reN;(try simp only[zB] at *);simp only[e24,e32,e49,sb])];rfl)).trans (congrArg (List.map mmC) (jb hi)))) trivial) Y (by show l.length - (i+1) < l.length - i;omega)
   ·refine pk (pr0 (qg 3 ?_));refine ro0 Y Y Y (fun hd=>cb (i:=i) (j:=3) ah Y Y Y Y Y Y (ae (fw hi)) Y hd) ?_;refine a2 (fun e49=>?_) (fun e49=>?_)
    ·have g3:1≤(atZ l (i:Int)).1.hi:=zK e49;refine qg 3 ?_;refine ro0 Y Y Y (fun hd=>cb (i:=i) (j:=3) ah Y Y Y Y Y Y (ae (fw hi)) Y hd) ?_;refine a2 (fun e57=>?_) (fun e57=>?_)
     ·have g4:(atZ l (i:Int)).1.hi≤(to.length:Int):=by have:=zK e57;rw[zB] at this;exact this
      have g6:ariO .sub .i64 (atZ l (i:Int)).1.hi 1=some ((atZ l (i:Int)).1.hi - 1):=da om om om om;refine pr0' (qg 5 ?_);refine ro0 Y Y Y (fun hd=>cb (i:=i) (j:=3) ah Y Y Y Y Y Y (ae (fw hi)) Y hd) ?_;refine aa (c:=g6) ?_;refine ay (z:=show (atZ l (i:Int)).1.hi - 1=(((atZ l (i:Int)).1.hi - 1).toNat:Int) by omega) (c:=(ae (f:=fun x=>[iP x]) (kb g3 g4 rfl))) ?_;refine qg 3 ?_;refine ro0 Y Y Y (fun hd=>ed (i:=i) (j:=3) ah Y Y Y Y Y Y Y (ae (fw hi)) Y Y Y Y Y) ?_;refine aa (c:=a8 (by show i≤_;omega)) ?_;refine au ?_;exact pe ⟨i+1,hi⟩ (c5 Y Y Y Y Y trivial) (ai (congrArg (fun x=>some (Res.tok _ _ _ x)) ((ob (renM to (atZ l (i:Int))) (by rw[show renM to (atZ l (i:Int))=(⟨(atZ l (i:Int)).1.kind,(atZ l (i:Int)).1.index,(atZ l (i:Int)).1.lo,atZ to ((atZ l (i:Int)).1.hi - 1)⟩,(atZ l (i:Int)).2) from (by unfold renM reN;(try simp only[zB] at *);simp only[e24,e32,e49,e57,sb])];rfl)).trans (congrArg (List.map mmC) (jb hi)))) trivial) Y (by show l.length - (i+1) < l.length - i;omega)
     ·refine aa (c:=a8 (by show i≤_;omega)) ?_;refine au ?_;exact pe ⟨i+1,hi⟩ (c5 Y Y Y Y Y trivial) (ai (congrArg (fun x=>some (Res.tok _ _ _ x)) ((wl (fw hi) (renM to (atZ l (i:Int))) (by unfold renM reN;(try simp only[zB] at *);simp only[e24,e32,e49,e57,sb])).trans (congrArg (List.map mmC) (jb hi)))) trivial) Y (by show l.length - (i+1) < l.length - i;omega)
    ·refine aa (c:=a8 (by show i≤_;omega)) ?_;refine au ?_;exact pe ⟨i+1,hi⟩ (c5 Y Y Y Y Y trivial) (ai (congrArg (fun x=>some (Res.tok _ _ _ x)) ((wl (fw hi) (renM to (atZ l (i:Int))) (by unfold renM reN;(try simp only[zB] at *);simp only[e24,e32,e49,sb])).trans (congrArg (List.map mmC) (jb hi)))) trivial) Y (by show l.length - (i+1) < l.length - i;omega)
  ·refine qg 8 ?_;refine rn Y (pj Y ?_);refine pk (pr0 (qg 3 ?_));refine ro0 Y Y Y (fun hd=>cb (i:=i) (j:=3) ah Y Y Y Y Y Y (ae (fw hi)) Y hd) ?_;refine a2 (fun e49=>?_) (fun e49=>?_)
   ·have g3:1≤(atZ l (i:Int)).1.hi:=zK e49;refine qg 3 ?_;refine ro0 Y Y Y (fun hd=>cb (i:=i) (j:=3) ah Y Y Y Y Y Y (ae (fw hi)) Y hd) ?_;refine a2 (fun e57=>?_) (fun e57=>?_)
    ·have g4:(atZ l (i:Int)).1.hi≤(to.length:Int):=by have:=zK e57;rw[zB] at this;exact this
     have g6:ariO .sub .i64 (atZ l (i:Int)).1.hi 1=some ((atZ l (i:Int)).1.hi - 1):=da om om om om;refine pr0' (qg 5 ?_);refine ro0 Y Y Y (fun hd=>cb (i:=i) (j:=3) ah Y Y Y Y Y Y (ae (fw hi)) Y hd) ?_;refine aa (c:=g6) ?_;refine ay (z:=show (atZ l (i:Int)).1.hi - 1=(((atZ l (i:Int)).1.hi - 1).toNat:Int) by omega) (c:=(ae (f:=fun x=>[iP x]) (kb g3 g4 rfl))) ?_;refine qg 3 ?_;refine ro0 Y Y Y (fun hd=>ed (i:=i) (j:=3) ah Y Y Y Y Y Y Y (ae (fw hi)) Y Y Y Y Y) ?_;refine aa (c:=a8 (by show i≤_;omega)) ?_;refine au ?_;exact pe ⟨i+1,hi⟩ (c5 Y Y Y Y Y trivial) (ai (congrArg (fun x=>some (Res.tok _ _ _ x)) ((ob (renM to (atZ l (i:Int))) (by rw[show renM to (atZ l (i:Int))=(⟨(atZ l (i:Int)).1.kind,(atZ l (i:Int)).1.index,(atZ l (i:Int)).1.lo,atZ to ((atZ l (i:Int)).1.hi - 1)⟩,(atZ l (i:Int)).2) from (by unfold renM reN;(try simp only[zB] at *);simp only[e24,e49,e57,sb])];rfl)).trans (congrArg (List.map mmC) (jb hi)))) trivial) Y (by show l.length - (i+1) < l.length - i;omega)
    ·refine aa (c:=a8 (by show i≤_;omega)) ?_;refine au ?_;exact pe ⟨i+1,hi⟩ (c5 Y Y Y Y Y trivial) (ai (congrArg (fun x=>some (Res.tok _ _ _ x)) ((wl (fw hi) (renM to (atZ l (i:Int))) (by unfold renM reN;(try simp only[zB] at *);simp only[e24,e49,e57,sb])).trans (congrArg (List.map mmC) (jb hi)))) trivial) Y (by show l.length - (i+1) < l.length - i;omega)
   ·refine aa (c:=a8 (by show i≤_;omega)) ?_;refine au ?_;exact pe ⟨i+1,hi⟩ (c5 Y Y Y Y Y trivial) (ai (congrArg (fun x=>some (Res.tok _ _ _ x)) ((wl (fw hi) (renM to (atZ l (i:Int))) (by unfold renM reN;(try simp only[zB] at *);simp only[e24,e49,sb])).trans (congrArg (List.map mmC) (jb hi)))) trivial) Y (by show l.length - (i+1) < l.length - i;omega)
 ·have hj:l.length≤i:=by have h:¬(i:Int) < (l.length:Int):=zM e13;omega
  exact ar (c:=congrArg mmsP (by rw[List.take_of_length_le hj,List.drop_of_length_le hj,List.append_nil]))
theorem a3r {e size:Nat} (h:((Tryz.prog).info? e).map (fun i=>(i.zero.isSome,i.size,decide (i.bytes≤1000)))=some (true,size,true)):∃i z,(Tryz.prog).info? e=some i∧i.zero=some z∧i.size=size∧i.bytes≤1000:=by
 obtain⟨i,hi,h2⟩:=Option.map_eq_some_iff.1 h;simp only[Prod.mk.injEq,de] at h2;obtain⟨z,hz⟩:=Option.isSome_iff_exists.1 h2.1;exact⟨i,z,hi,hz,h2.2.1,h2.2.2⟩
def kw (ls:List Lm) (p:List Mm):List Bool:=addM (oneM ls ls.length) p (List.replicate ls.length false)
def ov:Nat→List Bool→List Int
 | _,[]=>[]
 | n,b::is=>bif b then ((n+1:Nat):Int)::ov (n+1) is else 0::ov n is
def d8 (is:List Bool):List Int:=ov 0 is
def renL (to:List Int) (m:Lm):Lm:=⟨m.unit,m.upper,m.value,m.proof.map (renM to)⟩
def eh (to:List Int):List Bool→List Lm→List Lm
 | b::is,m::ls=>bif b then renL to m::eh to is ls else eh to is ls
 | _,_=>[]
def d7 (x:En):En:=⟨x.path,eh (d8 (kw x.lems x.proof)) (kw x.lems x.proof) x.lems,x.empty,x.proof.map (renM (d8 (kw x.lems x.proof)))⟩
theorem a0m (n:Nat):cntF (List.replicate n false)=n:=by simp[cntF,List.countP_replicate]
theorem yd (ls:List Lm) (p:List Mm):(kw ls p).length=ls.length:=(xj (qp ls.length) p _ (by simp) (by rw[a0m];exact nr _)).1
theorem aiv {ls:List Lm} {p:List Mm} (h9:ls.length≤100000) (hp:∀m∈ls,m.proof.length≤100000) (hp9:p.length≤100000):MCalls Tryz.prog [] 81 [.box 1000 0,.pv (mmsP p)] (mkR ls (List.replicate ls.length false)) (mkR ls (kw ls p)) (.tup []):=
 agx hp9 (by simp) (by rw[a0m];exact nr _) (agu h9 hp ls.length)
abbrev isC (to:List Int):List (List PV):=to.map fun z=>[iP z]
theorem al5 (n:Nat):List.replicate n [bP false]=bsC (List.replicate n false):=by rw[bsC,List.map_replicate]
theorem al4 (n:Nat):List.replicate n [iP 0]=isC ([]++List.replicate (n - 0) 0):=by rw[zX,isC,List.map_replicate];rfl
theorem aar {done:List Int} {m i:Nat} (h:done.length=i) (hi:i < m):(isC (done++List.replicate (m - i) 0))[i]?=some [iP 0]:=by
 refine ae (f:=fun z=>[iP z]) ?_;rw[List.getElem?_append_right om,h,Nat.sub_self,show m - i=(m - (i+1))+1 from by omega,List.replicate_succ];rfl
theorem aes {done:List Int} {m i:Nat} {z:Int} (h:done.length=i) (hi:i < m):(isC (done++List.replicate (m - i) 0)).set i [iP z]=isC ((done++[z])++List.replicate (m - (i+1)) 0):=by
 rw[show [iP z]=(fun z=>[iP z]) z from rfl,← List.map_set,List.set_append_right _ _ om,h,Nat.sub_self,show m - i=(m - (i+1))+1 from by omega,List.replicate_succ,List.set_cons_zero,List.append_assoc];rfl
theorem aaq {done:List Int} {m i:Nat} (hi:i < m):isC (done++List.replicate (m - i) 0)=isC ((done++[0])++List.replicate (m - (i+1)) 0):=by
 rw[show m - i=(m - (i+1))+1 from by omega,List.replicate_succ,List.append_assoc];rfl
theorem a1u {n i:Nat} {is:List Bool} {done:List Int} {b:Bool} (hi:i < is.length) (hb:atZ is (i:Int)=b) (h:done++ov n (is.drop i)=d8 is):(bif b then (done++[((n+1:Nat):Int)])++ov (n+1) (is.drop (i+1)) else (done++[0])++ov n (is.drop (i+1)))=d8 is:=by
 have e:is.drop i=atZ is (i:Int)::is.drop (i+1):=by rw[bm (ge hi),zQ hi]
 rw[e,ov,hb] at h;cases b with
 | true=>rw[← h];simp
 | false=>rw[← h];simp
theorem aet {n i:Nat} {is:List Bool} {done:List Int} (hi:is.length≤i) (h:done++ov n (is.drop i)=d8 is):done++List.replicate (is.length - i) 0=d8 is:=by
 rw[List.drop_of_length_le hi,ov,List.append_nil] at h;rw[Nat.sub_eq_zero_of_le hi,List.replicate_zero,List.append_nil,h]
theorem a29 {to:List Int} {is:List Bool} {ls:List Lm} {acc:List Lm} {i:Nat} {b:Bool} (hl:is.length=ls.length) (hi:i < ls.length) (hb:atZ is (i:Int)=b) (h:acc++eh to (is.drop i) (ls.drop i)=eh to is ls):(bif b then acc++[renL to (atZ ls (i:Int))] else acc)++eh to (is.drop (i+1)) (ls.drop (i+1))=eh to is ls:=by
 have hi':i < is.length:=by omega
 have e:is.drop i=atZ is (i:Int)::is.drop (i+1):=by rw[bm (ge hi'),zQ hi']
 have e2:ls.drop i=atZ ls (i:Int)::ls.drop (i+1):=by rw[bm (ge hi),zQ hi]
 rw[e,e2,eh,hb] at h;cases b with
 | true=>rw[← h];simp
 | false=>rw[← h];simp
theorem af3 {to:List Int} {is:List Bool} {ls:List Lm} {acc:List Lm} {i:Nat} (hl:is.length=ls.length) (hi:ls.length≤i) (h:acc++eh to (is.drop i) (ls.drop i)=eh to is ls):acc=eh to is ls:=by
 rw[List.drop_of_length_le om,eh,List.append_nil] at h
 ·exact h
 ·intro b is2 m ls2 e;cases e
theorem ae0 {x:En} (h9:x.lems.length≤1000) (hx:EnOk x):f6 Tryz.prog [] 38 [enP x] (enP (d7 x)):=by
 have hl:(kw x.lems x.proof).length=x.lems.length:=yd _ _;have hm:=aiv (p:=x.proof) (show x.lems.length≤100000 by omega) (fun m hm=>nt (hx.lems m hm).proof.len dx) (nt hx.proof.len dx);unfold d7;generalize kw x.lems x.proof=is at*;refine pcF [77,154,4,3,100] (by kernel_rfl) Tryz.func38 rfl rfl (fun D hF hG=>?_);refine pa Y Y (pr0 (qg 7 ?_));refine rmk0 (n:=(x.lems.map lmC).length) 1001 (by rw[zB];show x.lems.length*1≤_;omega) (a3r (by kernel_rfl)) Y Y Y Y Y Y Y Y Y Y Y ?_;refine qg 1 ?_;refine rbx0 1000 hF Y Y Y Y Y Y Y ?_;refine au ?_;refine rm0 [(1,.box 1 0),(2,.box 2 0),(3,.box 1000 0)] [(1,.box 77 [.pv (dcsP x.path),.pv (lmsP x.lems),.pv (iP 0),.pv (iP 0),.pv (bP false),.pv (.nat 0),.pv (.nat 0),.pv (.rows 46 9 ndT []),.pv (bP x.empty),.pv (mmsP x.proof)]),(2,.box 77 [.nil 42 5 [200],.nil 100 6 [200,98],.pv (iP 0),.pv (iP 0),.pv (bP false),.pv (.nat 0),.pv (.nat 0),.nil 46 9 ndT,.pv (bP false),.nil 98 7 [200]])] hG (hm) Y Y Y Y Y Y (ai (Y) (ai (congrArg (fun x=>some (Res.tok _ _ _ x)) (by rw[zB];exact al5 _)) trivial)) (c3 Y Y Y trivial) (c2 Y Y trivial) Y Y Y ?_;refine pr0 (qg 5 ?_);refine rmk0 (n:=(bsC is).length) 31 (by rw[zB];show is.length*1≤_;omega) (a3r (by kernel_rfl)) Y Y Y Y Y Y Y Y Y Y Y ?_;refine au ?_;refine pwk ?_;refine pl (ι:={p:Nat×Nat×List Int // p.1≤is.length∧p.2.1≤p.1∧p.2.2.length=p.1∧p.2.2++ov p.2.1 (is.drop p.1)=d8 is}) (fun p=>[(1,.box 1 0),(2,.box 2 0),(3,.box 1000 0),(4,.tok 31),(5,.pv (iP (p.1.2.1:Int))),(35,.tok 1001),(36,.pv (iP ((bsC is).length:Int))),(37,.pv (iP (p.1.1:Int)))]) (fun p=>[(1,.box 77 [.pv (dcsP x.path),.pv (lmsP x.lems),.pv (iP 0),.pv (iP 0),.pv (bP false),.pv (.nat 0),.pv (.nat 0),.pv (.rows 46 9 ndT []),.pv (bP x.empty),.pv (mmsP x.proof)]),(2,.box 77 [.pv (dcsP []),.pv (lmsP []),.pv (iP 0),.pv (iP 0),.pv (bP false),.pv (.nat 0),.pv (.nat 0),.pv (.rows 46 9 ndT []),.pv (bP false),.pv (mmsP [])]),(1000,.box 154 [.pv (lmsP x.lems),.tok 1001]),(1001,.tok 4 1 [] (bsC is)),(31,.tok 3 1 [] (isC (p.1.2.2++List.replicate (is.length - p.1.1) 0)))]) [77,154,4,3,100] (fun p=>is.length - p.1.1) ⟨(0,0,[]),nq _,nr _,rfl,rfl⟩ (c8 Y Y Y Y Y Y Y Y trivial) (c4 Y Y Y Y (ai (congrArg (fun x=>some (Res.tok _ _ _ x)) (by rw[zB];exact al4 _)) trivial)) (fun _=>rfl) ?_;intro ⟨(i,n,done),hi0,hn,hd0,hg⟩;simp only at hi0 hn hd0 hg;refine a2 (fun e38=>?_) (fun e38=>?_)
 ·have hi:i < is.length:=by have h:(i:Int) < ((bsC is).length:Int):=zK e38;rw[zB] at h;omega
  refine pk (ps (pb ?_));refine pr0 (qg 1 ?_);refine ro0 Y Y Y (fun hd=>iq (i:=i) ah Y Y Y Y Y Y dx Y (ae (f:=fun b=>[bP b]) (ab (show i < is.length by omega))) hd) ?_;refine ro0 Y Y Y (fun hd=>cb (i:=i) (j:=0) ah Y Y Y Y Y Y (ae (f:=fun b=>[bP b]) (ab (show i < is.length by omega))) Y hd) ?_;refine a2 (fun e42=>?_) (fun e42=>?_)
  ·refine aa (c:=a8 (by show n≤_;omega)) ?_;refine qg 1 ?_;refine rn Y (pr0' (qg 3 ?_));refine ro0 Y Y Y (fun hd=>iq (i:=i) ah Y Y Y Y Y Y dx Y (aar hd0 hi) hd) ?_;refine ro0 Y Y Y (fun hd=>ed (i:=i) (j:=0) ah Y Y Y Y Y Y Y (aar hd0 hi) Y Y Y Y Y) ?_;refine aa (c:=a8 (by show i≤_;omega)) ?_;refine au ?_;exact pe ⟨(i+1,n+1,done++[((n+1:Nat):Int)]),hi,by show n+1≤i+1;omega,by show (done++_).length=i+1;rw[zI,hd0];rfl,a1u hi e42 hg⟩ (c8 Y Y Y Y Y Y Y Y trivial) (c4 Y Y Y Y (ai (congrArg (fun x=>some (Res.tok _ _ _ x)) (aes hd0 hi)) trivial)) Y (by show is.length - (i+1) < is.length - i;omega)
  ·refine aa (c:=a8 (by show i≤_;omega)) ?_;refine au ?_;exact pe ⟨(i+1,n,done++[0]),hi,by show n≤i+1;omega,by show (done++_).length=i+1;rw[zI,hd0];rfl,a1u hi e42 hg⟩ (c8 Y Y Y Y Y Y Y Y trivial) (c4 Y Y Y Y (ai (congrArg (fun x=>some (Res.tok _ _ _ x)) (aaq hi)) trivial)) Y (by show is.length - (i+1) < is.length - i;omega)
 ·have hj:is.length≤i:=by have h:¬(i:Int) < ((bsC is).length:Int):=zM e38;rw[zB] at h;omega
  have ht:=aet hj hg;refine ac (c:=y8 (to:=done++List.replicate (is.length - i) 0) (nt hx.proof.len dx) (by simp;omega)) ?_;refine au ?_;refine tkb (b:=8) (off:=1) (id:=88) (e:=100) (k:=6) (ts:=[200,98]) Y ?_;refine pl (ι:={p:Nat×List Lm // p.1≤x.lems.length∧p.2.length≤p.1∧p.2++eh (d8 is) (is.drop p.1) (x.lems.drop p.1)=eh (d8 is) is x.lems}) (fun p=>[(1,.box 1 0),(2,.box 2 0),(3,.box 1000 0),(4,.tok 31),(8,.box 8 0),(64,.pv (lmsP x.lems)),(65,.pv (iP ((x.lems.map lmC).length:Int))),(66,.pv (iP (p.1.1:Int)))]) (fun p=>[(1,.box 77 [.pv (dcsP x.path),.pv (lmsP x.lems),.pv (iP 0),.pv (iP 0),.pv (bP false),.pv (.nat 0),.pv (.nat 0),.pv (.rows 46 9 ndT []),.pv (bP x.empty),.pv (mmsP x.proof)]),(2,.box 77 [.pv (dcsP []),.pv (lmsP []),.pv (iP 0),.pv (iP 0),.pv (bP false),.pv (.nat 0),.pv (.nat 0),.pv (.rows 46 9 ndT []),.pv (bP false),.pv (mmsP [])]),(1000,.box 154 [.pv (lmsP x.lems),.tok 1001]),(1001,.tok 4 1 [] (bsC is)),(31,.tok 3 1 [] (isC (d8 is))),(8,.box 77 [.pv (dcsP x.path),.tok 88,.pv (iP 0),.pv (iP 0),.pv (bP false),.pv (.nat 0),.pv (.nat 0),.nil 46 9 ndT,.pv (bP x.empty),.pv (mmsP (x.proof.map (renM (d8 is))))]),(88,.tok 100 6 [200,98] (p.1.2.map lmC))]) [77,154,4,3,100] (fun p=>x.lems.length - p.1.1) ⟨(0,[]),nq _,nr _,rfl⟩ (c8 Y Y Y Y Y Y Y Y trivial) (c4 Y Y Y Y (ai (congrArg (fun t=>some (Res.tok _ _ _ (isC t))) ht) (ai (congrArg (fun t=>some (Res.box _ [.pv (dcsP x.path),.tok 88,.pv (iP 0),.pv (iP 0),.pv (bP false),.pv (.nat 0),.pv (.nat 0),.nil 46 9 ndT,.pv (bP x.empty),.pv (mmsP (x.proof.map (renM t)))])) ht) (ai Y trivial)))) (fun _=>rfl) ?_;intro ⟨(i,acc),hi0,ha9,hg⟩;simp only at hi0 ha9 hg;refine a2 (fun e67=>?_) (fun e67=>?_)
  ·have hi:i < x.lems.length:=dw e67;refine ax (c:=(ae (ab hi))) ?_;refine qg 4 ?_;refine rn Y (pr0 (qg 5 ?_));refine ro0 Y Y Y (fun hd=>iq (i:=i) ah Y Y Y Y Y Y dx Y (ae (f:=fun b=>[bP b]) (ab (show i < is.length by omega))) hd) ?_;refine ro0 Y Y Y (fun hd=>cb (i:=i) (j:=0) ah Y Y Y Y Y Y (ae (f:=fun b=>[bP b]) (ab (show i < is.length by omega))) Y hd) ?_;refine a2 (fun e77=>?_) (fun e77=>?_)
   ·refine ac (c:=y8 (to:=(d8 is)) (nt (hx.lems _ (bg (l:=x.lems) (z:=(i:Int)) om om)).proof.len dx) (by rw[← ht];simp;omega)) ?_;refine au ?_;refine rp0 el_Lemma (by simp;omega) Y Y Y Y Y Y Y Y ?_;refine aa (c:=a8 (by show i≤_;omega)) ?_;refine au ?_;exact pe ⟨(i+1,acc++[renL (d8 is) (atZ x.lems (i:Int))]),hi,by show (acc++_).length≤i+1;rw[zI];exact Nat.succ_le_succ ha9,a29 hl hi e77 hg⟩ (c8 Y Y Y Y Y Y Y Y trivial) (c6 Y Y Y Y Y Y (ai (congrArg (fun x=>some (Res.tok _ _ _ x)) (show acc.map lmC++[lmC (renL (d8 is) (atZ x.lems (i:Int)))]=(acc++[renL (d8 is) (atZ x.lems (i:Int))]).map lmC from by rw[zN];rfl)) trivial)) Y (by show x.lems.length - (i+1) < x.lems.length - i;omega)
   ·refine aa (c:=a8 (by show i≤_;omega)) ?_;refine au ?_;exact pe ⟨(i+1,acc),hi,Nat.le_succ_of_le ha9,a29 hl hi e77 hg⟩ (c8 Y Y Y Y Y Y Y Y trivial) (c7 Y Y Y Y Y Y Y trivial) Y (by show x.lems.length - (i+1) < x.lems.length - i;omega)
  ·have hj:x.lems.length≤i:=fx e67;exact ar (c:=congrArg (fun l=>enP ⟨x.path,l,x.empty,x.proof.map (renM (d8 is))⟩) (af3 hl hj hg))
open Lib (hid)
set_option maxRecDepth 100000 in
theorem abi (w:World) (n:Nat) (hn:n≤1000000):
  Calls Tryz.prog 132 #[.slice none 0 0,.int .i64 (n:Int)] w fun e w'=>∃x:Sv,e=.returned x.v∧x.n=0∧w'.ownsRow 0 100 6 x.v 0 []∧(∀b,x.v.ownBlock=some b→w.heap.size≤b)∧Gr w w':=by
 rcases Nat.eq_zero_or_pos n with rfl | h0
 ·go_enter Tryz.func132,Tryz.ntmps132;go_wp2;go_ret;exact⟨Sv.none,rfl,rfl,World.ownsRow_nil w _ _ _,(fun b e=>by cases e),Gr.refl w⟩
 ·obtain⟨i,z,h1,h2,h3,h4,h5⟩:=el_Lemma.hi;have run:=Lib.run_append_nil_zeros (P:=Tryz.prog) w 40 3 40 100 i z .i64 .i64 el_Lemma.ht (by kernel_rfl) h1 h2 n h0 (by rw[h3];decide) om (by rw[h4];omega);have HR:=hid run;have HB:=hid (grownCap_ge w n 0 100);have HM:=hid (grownCap_le_maxLen w n 0 100 (by unfold maxLen;omega));have HZ:Hid ((Builtin.zeroCells z.cells n++Builtin.zeroCells z.cells (grownCap w n 0 100 - n)).size=grownCap w n 0 100*6):=by
   show _=_;rw[Array.size_append,size_zeroCells,size_zeroCells,h5,← Nat.add_mul,Nat.add_sub_cancel' (grownCap_ge w n 0 100)]
  clear run h1 h2 h3 h4 h5;generalize grownCap w n 0 100=c at*;generalize Builtin.zeroCells z.cells n++Builtin.zeroCells z.cells (c - n)=cs at*;have HN:((0:Int) < (n:Int))=true:=by simp;omega
  have HN1:((n:Int) < 0)=false:=by simp
  have HN2:(0 < n)=True:=by simp;omega
  go_enter Tryz.func132,Tryz.ntmps132;go_wp2_with (at_builtin;refine Lib.wpList_append_run _ rfl _ _ _ _ rfl _ _ rfl rfl _ _ HR.out ?_);go_wp2;go_ret;refine⟨⟨some ⟨w.heap.size,0,none⟩,0,c⟩,rfl,rfl,⟨rfl,.inr ⟨w.heap.size,c,cs,rfl,nq _,?_,nq _,HM.out,HZ.out,rfl⟩⟩,(fun b e=>by injection e with e;exact Nat.le_of_eq e),((Gr.refl w).drew).alloc _⟩;exact Bk.made w.drew _ _
set_option maxRecDepth 100000 in
theorem abj (w:World) (n:Nat) (hn:n≤1000000):
  Calls Tryz.prog 133 #[.slice none 0 0,.int .i64 (n:Int)] w fun e w'=>∃x:Sv,e=.returned x.v∧x.n=0∧w'.ownsRow 0 42 5 x.v 0 []∧(∀b,x.v.ownBlock=some b→w.heap.size≤b)∧Gr w w':=by
 rcases Nat.eq_zero_or_pos n with rfl | h0
 ·go_enter Tryz.func133,Tryz.ntmps133;go_wp2;go_ret;exact⟨Sv.none,rfl,rfl,World.ownsRow_nil w _ _ _,(fun b e=>by cases e),Gr.refl w⟩
 ·obtain⟨i,z,h1,h2,h3,h4,h5⟩:=el_Decision.hi;have run:=Lib.run_append_nil_zeros (P:=Tryz.prog) w 75 3 75 42 i z .i64 .i64 el_Decision.ht (by kernel_rfl) h1 h2 n h0 (by rw[h3];decide) om (by rw[h4];omega);have HR:=hid run;have HB:=hid (grownCap_ge w n 0 42);have HM:=hid (grownCap_le_maxLen w n 0 42 (by unfold maxLen;omega));have HZ:Hid ((Builtin.zeroCells z.cells n++Builtin.zeroCells z.cells (grownCap w n 0 42 - n)).size=grownCap w n 0 42*5):=by
   show _=_;rw[Array.size_append,size_zeroCells,size_zeroCells,h5,← Nat.add_mul,Nat.add_sub_cancel' (grownCap_ge w n 0 42)]
  clear run h1 h2 h3 h4 h5;generalize grownCap w n 0 42=c at*;generalize Builtin.zeroCells z.cells n++Builtin.zeroCells z.cells (c - n)=cs at*;have HN:((0:Int) < (n:Int))=true:=by simp;omega
  have HN1:((n:Int) < 0)=false:=by simp
  have HN2:(0 < n)=True:=by simp;omega
  go_enter Tryz.func133,Tryz.ntmps133;go_wp2_with (at_builtin;refine Lib.wpList_append_run _ rfl _ _ _ _ rfl _ _ rfl rfl _ _ HR.out ?_);go_wp2;go_ret;refine⟨⟨some ⟨w.heap.size,0,none⟩,0,c⟩,rfl,rfl,⟨rfl,.inr ⟨w.heap.size,c,cs,rfl,nq _,?_,nq _,HM.out,HZ.out,rfl⟩⟩,(fun b e=>by injection e with e;exact Nat.le_of_eq e),((Gr.refl w).drew).alloc _⟩;exact Bk.made w.drew _ _
theorem od {α:Type} {L:List (List α)} (i:Nat):((L.take i).map List.length).sum≤(L.map List.length).sum:=by
 conv=>rhs;rw[← List.take_append_drop i L]
 rw[zN,List.sum_append];exact Nat.le_add_right ..
theorem l7 {α:Type} [Inhabited α] {L:List (List α)} {i:Nat} (hi:i < L.length):((L.take i).map List.length).sum+(atZ L (i:Int)).length=((L.take (i+1)).map List.length).sum:=by
 rw[List.take_add_one,ab hi];simp
theorem pp {α:Type} [Inhabited α] {L:List (List α)} {i:Nat} (hi:i < L.length):((L.take i).map List.length).sum+(atZ L (i:Int)).length≤(L.map List.length).sum:=by
 rw[l7 hi];exact od _
theorem t6 {α:Type} {L:List (List α)} (i:Nat):(L.take i).flatten.length=((L.take i).map List.length).sum:=List.length_flatten
theorem oc {α:Type} [Inhabited α] {L:List (List α)} {i:Nat} (hi:i < L.length):(L.take i).flatten++atZ L (i:Int)=(L.take (i+1)).flatten:=by
 rw[List.take_add_one,ab hi];simp
theorem aiy (n:Nat) (hn:n≤1000000):NCalls Tryz.prog [] 132 [.raw (.slice none 0 0),iP (n:Int)] 100 6 [200,98] []:=⟨by kernel_rfl,fun w X us h1 h2 h3=>by
 obtain⟨u,v,rfl,g1,g2⟩:=a2o h3;obtain rfl:=jy g1;obtain rfl:=jy g2;exact (abi w n hn).mono fun e w' ⟨x,he,hx,ho,hb,G⟩=>⟨x,[],he,by rw[hx];exact ho,hb,PV.RepLL.nil,(fun r hr=>by cases hr),hx,by decide,G⟩⟩
theorem aa5 {L:List (List Lm)} (h9:L.length≤1000) (hs:(L.map List.length).sum≤1000000):NCalls Tryz.prog [] 76 [.rows 40 1 [100,200,98] (L.map fun l=>[lmsP l])] 100 6 [200,98] (L.flatten.map lmC):=by
 refine pcn [100] (by kernel_rfl) Tryz.func76 Y Y (fun D=>?_);refine au ?_;refine pl (ι:={i:Nat // i≤L.length}) (fun i=>[(0,.pv (.rows 40 1 [100,200,98] (L.map fun l=>[lmsP l]))),(2,.nil 100 6 [200,98]),(3,.pv (iP (((L.take i.1).map List.length).sum:Int))),(9,.pv (.rows 40 1 [100,200,98] (L.map fun l=>[lmsP l]))),(10,.pv (iP ((L.map fun l=>[lmsP l]).length:Int))),(11,.pv (iP (i.1:Int)))]) (fun _=>[]) [100] (fun i=>L.length - i.1) ⟨0,nq _⟩ (c6 Y Y Y Y Y Y trivial) trivial (fun _=>rfl) ?_;intro ⟨i,hi0⟩;refine a2 (fun e12=>?_) (fun e12=>?_)
 ·have hi:i < L.length:=dw e12;refine ax (c:=(ae (f:=fun l=>[lmsP l]) (ab hi))) ?_;refine aa (c:=a0q (show _≤1000000 from nt (od i) hs) (show ((atZ L (i:Int)).map lmC).length≤1000000 by rw[zB];have:=pp hi;omega)) ?_;refine akF (c:=by exact (show _=false from df om)) ?_;refine aa (c:=a8 (by show i≤_;omega)) ?_;refine au ?_;exact pe ⟨i+1,hi⟩ (c2 Y Y (ai (congrArg (fun n:Nat=>some (SV.pv (iP (n:Int)))) (by rw[zB];exact l7 hi)) (c3 Y Y Y trivial))) trivial Y (by show L.length - (i+1) < L.length - i;omega)
 ·have hj:L.length≤i:=fx e12;have hsz:((L.take i).map List.length).sum=(L.map List.length).sum:=by rw[List.take_of_length_le hj]
  refine px ?_;refine pr0 (qg 1 ?_);refine rcn0 24 (aiy ((L.take i).map List.length).sum (by rw[hsz];exact hs)) Y Y Y Y Y Y Y Y ?_;refine au ?_;refine pl (ι:={i:Nat // i≤L.length}) (fun i=>[(6,.tok 24),(25,.pv (.rows 40 1 [100,200,98] (L.map fun l=>[lmsP l]))),(26,.pv (iP ((L.map fun l=>[lmsP l]).length:Int))),(27,.pv (iP (i.1:Int)))]) (fun i=>[(24,.tok 100 6 [200,98] ((L.take i.1).flatten.map lmC))]) [100] (fun i=>L.length - i.1) ⟨0,nq _⟩ (c4 Y Y Y Y trivial) (ai Y trivial) (fun _=>rfl) ?_;intro ⟨i,hi0⟩;refine a2 (fun e28=>?_) (fun e28=>?_)
  ·have hi:i < L.length:=dw e28;have h33:((L.take i).flatten.map lmC).length+((atZ L (i:Int)).map lmC).length≤100000000:=by rw[zB,zB];have:=pp hi;have:=t6 (L:=L) i;omega
   refine ax (c:=(ae (f:=fun l=>[lmsP l]) (ab hi))) ?_;refine au ?_;refine rp0 el_Lemma (h33) Y Y Y Y Y Y Y Y ?_;refine aa (c:=a8 (by show i≤_;omega)) ?_;refine au ?_;exact pe ⟨i+1,hi⟩ (c4 Y Y Y Y trivial) (ai (congrArg (fun x=>some (Res.tok _ _ _ x)) (by show List.map lmC _++List.map lmC _=List.map lmC _;rw[← zN,oc hi])) trivial) Y (by show L.length - (i+1) < L.length - i;omega)
  ·have hj2:L.length≤i:=fx e28;refine au ?_;exact retn Y Y Y Y (congrArg (List.map lmC) (by show (L.take i).flatten=L.flatten;rw[List.take_of_length_le hj2]))
theorem aiz (n:Nat) (hn:n≤1000000):NCalls Tryz.prog [] 133 [.raw (.slice none 0 0),iP (n:Int)] 42 5 [200] []:=⟨by kernel_rfl,fun w X us h1 h2 h3=>by
 obtain⟨u,v,rfl,g1,g2⟩:=a2o h3;obtain rfl:=jy g1;obtain rfl:=jy g2;exact (abj w n hn).mono fun e w' ⟨x,he,hx,ho,hb,G⟩=>⟨x,[],he,by rw[hx];exact ho,hb,PV.RepLL.nil,(fun r hr=>by cases hr),hx,by decide,G⟩⟩
theorem aa6 {L:List (List Dc)} (h9:L.length≤1000) (hs:(L.map List.length).sum≤1000000):NCalls Tryz.prog [] 80 [.rows 75 1 [42,200] (L.map fun l=>[dcsP l])] 42 5 [200] (L.flatten.map dcC):=by
 refine pcn [42] (by kernel_rfl) Tryz.func80 Y Y (fun D=>?_);refine au ?_;refine pl (ι:={i:Nat // i≤L.length}) (fun i=>[(0,.pv (.rows 75 1 [42,200] (L.map fun l=>[dcsP l]))),(2,.nil 42 5 [200]),(3,.pv (iP (((L.take i.1).map List.length).sum:Int))),(9,.pv (.rows 75 1 [42,200] (L.map fun l=>[dcsP l]))),(10,.pv (iP ((L.map fun l=>[dcsP l]).length:Int))),(11,.pv (iP (i.1:Int)))]) (fun _=>[]) [42] (fun i=>L.length - i.1) ⟨0,nq _⟩ (c6 Y Y Y Y Y Y trivial) trivial (fun _=>rfl) ?_;intro ⟨i,hi0⟩;refine a2 (fun e12=>?_) (fun e12=>?_)
 ·have hi:i < L.length:=dw e12;refine ax (c:=(ae (f:=fun l=>[dcsP l]) (ab hi))) ?_;refine aa (c:=a0q (show _≤1000000 from nt (od i) hs) (show ((atZ L (i:Int)).map dcC).length≤1000000 by rw[zB];have:=pp hi;omega)) ?_;refine akF (c:=by exact (show _=false from df om)) ?_;refine aa (c:=a8 (by show i≤_;omega)) ?_;refine au ?_;exact pe ⟨i+1,hi⟩ (c2 Y Y (ai (congrArg (fun n:Nat=>some (SV.pv (iP (n:Int)))) (by rw[zB];exact l7 hi)) (c3 Y Y Y trivial))) trivial Y (by show L.length - (i+1) < L.length - i;omega)
 ·have hj:L.length≤i:=fx e12;have hsz:((L.take i).map List.length).sum=(L.map List.length).sum:=by rw[List.take_of_length_le hj]
  refine px ?_;refine pr0 (qg 1 ?_);refine rcn0 24 (aiz ((L.take i).map List.length).sum (by rw[hsz];exact hs)) Y Y Y Y Y Y Y Y ?_;refine au ?_;refine pl (ι:={i:Nat // i≤L.length}) (fun i=>[(6,.tok 24),(25,.pv (.rows 75 1 [42,200] (L.map fun l=>[dcsP l]))),(26,.pv (iP ((L.map fun l=>[dcsP l]).length:Int))),(27,.pv (iP (i.1:Int)))]) (fun i=>[(24,.tok 42 5 [200] ((L.take i.1).flatten.map dcC))]) [42] (fun i=>L.length - i.1) ⟨0,nq _⟩ (c4 Y Y Y Y trivial) (ai Y trivial) (fun _=>rfl) ?_;intro ⟨i,hi0⟩;refine a2 (fun e28=>?_) (fun e28=>?_)
  ·have hi:i < L.length:=dw e28;have h33:((L.take i).flatten.map dcC).length+((atZ L (i:Int)).map dcC).length≤100000000:=by rw[zB,zB];have:=pp hi;have:=t6 (L:=L) i;omega
   refine ax (c:=(ae (f:=fun l=>[dcsP l]) (ab hi))) ?_;refine au ?_;refine rp0 el_Decision (h33) Y Y Y Y Y Y Y Y ?_;refine aa (c:=a8 (by show i≤_;omega)) ?_;refine au ?_;exact pe ⟨i+1,hi⟩ (c4 Y Y Y Y trivial) (ai (congrArg (fun x=>some (Res.tok _ _ _ x)) (by show List.map dcC _++List.map dcC _=List.map dcC _;rw[← zN,oc hi])) trivial) Y (by show L.length - (i+1) < L.length - i;omega)
  ·have hj2:L.length≤i:=fx e28;refine au ?_;exact retn Y Y Y Y (congrArg (List.map dcC) (by show (L.take i).flatten=L.flatten;rw[List.take_of_length_le hj2]))
def oppD (d:Dc):Dc:=bif decide (0 < d.kind)&&decide (d.kind < 5) then ⟨oppK d.kind,d.index,d.at_⟩ else d
theorem am1 (d:Dc):f6 Tryz.prog [224] 79 [dcP d] (dcP (oppD d)):=by
 refine pcF [42] (by kernel_rfl) Tryz.func79 rfl rfl (fun D hF hG=>?_);refine a2 (fun e6=>?_) (fun e6=>?_)
 ·have g1:=zK e6;refine a2 (fun e10=>?_) (fun e10=>?_)
  ·have g2:=zK e10;refine pr0' (qg 2 ?_);refine ro0 Y Y Y (fun hd=>aeo Y hG Y Y om om Y hd) ?_;exact ar (c:=by unfold oppD;simp only[e6,e10];rfl)
  ·exact ar (c:=by unfold oppD;simp only[e6,e10];rfl)
 ·exact ar (c:=by unfold oppD;simp only[e6];rfl)
theorem y9 {a b:List Lm} (h:a.length+b.length≤1000000):PCalls Tryz.prog [] 76 [.rows 40 1 [100,200,98] [[lmsP a],[lmsP b]]] (lmsP (a++b)):=by
 have:=(aa5 (L:=[a,b]) (by simp) (by simpa using h)).p;rwa [show [a,b].flatten=a++b from by simp] at this
theorem ya {a b:List Dc} (h:a.length+b.length≤1000000):PCalls Tryz.prog [] 80 [.rows 75 1 [42,200] [[dcsP a],[dcsP b]]] (dcsP (a++b)):=by
 have:=(aa6 (L:=[a,b]) (by simp) (by simpa using h)).p;rwa [show [a,b].flatten=a++b from by simp] at this
def entR:Nat→Nd→List Dc→List Lm→List En
 | 0,.mk ls _ _ e p,path,lems=>[⟨path,lems++ls,e,p⟩]
 | k+1,.mk ls d ks _ _,path,lems=>match ks with
  | [a,b]=>entR k a (path++[d]) (lems++ls)++entR k b (path++[oppD d]) (lems++ls)
  | _=>[]
abbrev ewR (acc:List En):List (Nat×Res):=[(1000,.box 51 [.tok 1002]),(1001,.box 145 [.fn 75 [.box 1000 0,.box 1001 0]]),(1002,.tok 77 10 enT (acc.map enC))]
abbrev ndX (x:Nd):List PV:=[lmsP x.lems,iP x.split.kind,iP x.split.index,bP x.split.at_.neg,.nat x.split.at_.num,.nat x.split.at_.den,ndsP x.kids,bP x.empty,mmsP x.proof]
theorem kv (x:Nd):ndC x=ndX x:=by obtain⟨ls,d,ks,e,p⟩:=x;rfl
theorem anh {acc:List En} {x:En}:acc.map enC++[enC x]=(acc++[x]).map enC:=by rw[zN];rfl
theorem amd {ls lems:List Lm} {d:Dc} {e:Bool} {p:List Mm} {path:List Dc} {acc:List En} (h1:lems.length+ls.length≤100000) (h2:path.length≤100000) (h3:p.length≤100000) (h4:acc.length≤100000):MCalls Tryz.prog [224] 75 [.pv (.agg (ndC (.mk ls d [] e p))),.pv (dcsP path),.pv (lmsP lems),.box 1000 0,.box 1001 0] (ewR acc) (ewR (acc++[⟨path,lems++ls,e,p⟩])) (.tup []):=by
 refine pcm [46,42,77,51,145] (by kernel_rfl) Tryz.func75 Y Y (fun D hG=>?_);refine au ?_;refine rc0 (y9 om) Y Y Y Y Y Y Y ?_;refine akT (c:=by exact (show _=true from rfl)) ?_;refine au ?_;refine rc0 ((a5g om).p) Y Y Y Y Y Y Y ?_;refine au ?_;refine rc0 ((zp om).p) Y Y Y Y Y Y Y ?_;refine au ?_;refine rp0 jc (by rw[zB];simp;omega) Y Y Y Y Y Y Y Y ?_;refine au ?_;exact retm Y Y ((c2 Y Y (ai (congrArg (fun x=>some (Res.tok _ _ _ x)) (anh (x:=⟨path,lems++ls,e,p⟩))) trivial)))
def dirR (d:Dc) (i:Nat):Dc:=bif decide (0 < (i:Int)) then oppD d else d
def accR (E:Nat→List En) (acc:List En) (i:Nat):List En:=acc++((List.range i).map E).flatten
instance ndInh:Inhabited Nd:=⟨.mk [] dc0 [] false []⟩
theorem an3 {a b:Nd} {i:Nat} (h:i < 2):(ndCs [a,b])[i]?=some (ndX (atZ [a,b] (i:Int))):=by
 have:i=0∨i=1:=by omega
 rcases this with rfl | rfl
 ·rw[← kv];rfl
 ·rw[← kv];rfl
theorem a2t {E:Nat→List En} {acc:List En} {i:Nat}:accR E acc i++E i=accR E acc (i+1):=by
 unfold accR;rw[List.range_succ,zN,List.flatten_append,List.append_assoc];simp
theorem amc {ls lems:List Lm} {d:Dc} {a b:Nd} {e:Bool} {p:List Mm} {path:List Dc} {acc:List En} {E:Nat→List En} (h1:lems.length+ls.length≤100000) (h2:path.length≤100000) (ih:∀(i:Nat),i < 2→MCalls Tryz.prog [224] 75 [.pv (.agg (ndX (atZ [a,b] (i:Int)))),.pv (dcsP (path++[dirR d i])),.pv (lmsP (lems++ls)),.box 1000 0,.box 1001 0] (ewR (accR E acc i)) (ewR (accR E acc i++E i)) (.tup [])):MCalls Tryz.prog [224] 75 [.pv (.agg (ndC (.mk ls d [a,b] e p))),.pv (dcsP path),.pv (lmsP lems),.box 1000 0,.box 1001 0] (ewR acc) (ewR (accR E acc 2)) (.tup []):=by
 refine pcm [46,42,77,51,145] (by kernel_rfl) Tryz.func75 Y Y (fun D hG=>?_);refine au ?_;refine rc0 (y9 om) Y Y Y Y Y Y Y ?_;refine akF (c:=by exact (show _=false from rfl)) ?_;refine au ?_;refine pl (ι:={i:Nat // i≤2}) (fun i=>[(1,.pv (dcsP path)),(2,.pv (lmsP (lems++ls))),(3,.box 1000 0),(4,.box 1001 0),(5,.box 5 0),(34,.pv (ndsP [a,b])),(35,.pv (iP ((ndCs [a,b]).length:Int))),(36,.pv (iP (i.1:Int)))]) (fun i=>[(5,.box 46 [.pv (lmsP ls),.pv (iP d.kind),.pv (iP d.index),.pv (bP d.at_.neg),.pv (.nat d.at_.num),.pv (.nat d.at_.den),.pv (ndsP [a,b]),.pv (bP e),.pv (mmsP p)]),(1000,.box 51 [.tok 1002]),(1001,.box 145 [.fn 75 [.box 1000 0,.box 1001 0]]),(1002,.tok 77 10 enT ((accR E acc i.1).map enC))]) [46,42,77,51,145] (fun i=>2 - i.1) ⟨0,nq _⟩ (c8 Y Y Y Y Y Y Y Y trivial) (c3 Y Y Y (ai (congrArg (fun x=>some (Res.tok _ _ _ x)) (by show _=List.map enC (accR E acc 0);unfold accR;simp)) trivial)) (fun _=>rfl) ?_;intro ⟨i,hi0⟩;refine a2 (fun e37=>?_) (fun e37=>?_)
 ·have hi:i < 2:=by have h:(i:Int) < 2:=zK e37;omega
  refine ax (c:=(an3 hi)) ?_;refine a2 (fun e44=>?_) (fun e44=>?_)
  ·refine au ?_;refine rcg0 hG (am1 d) Y Y Y Y Y Y Y ?_;refine ac (c:=ya (a:=path) (b:=[oppD d]) (by show path.length+1≤_;omega)) ?_;refine au ?_;refine rmv0 (args:=[.pv (.agg (ndX (atZ [a,b] (i:Int)))),.pv (dcsP (path++[oppD d])),.pv (lmsP (lems++ls))]) (caps:=[.box 1000 0,.box 1001 0]) [(1,.pv (dcsP path)),(2,.pv (lmsP (lems++ls))),(3,.box 1000 0),(4,.box 1001 0),(5,.box 5 0),(34,.pv (ndsP [a,b])),(35,.pv (iP ((ndCs [a,b]).length:Int))),(36,.pv (iP (i:Int)))] [(5,.box 46 [.pv (lmsP ls),.pv (iP d.kind),.pv (iP d.index),.pv (bP d.at_.neg),.pv (.nat d.at_.num),.pv (.nat d.at_.den),.pv (ndsP [a,b]),.pv (bP e),.pv (mmsP p)])] hG (show MCalls Tryz.prog [224] 75 [.pv (.agg (ndX (atZ [a,b] (i:Int)))),.pv (dcsP (path++[oppD d])),.pv (lmsP (lems++ls)),.box 1000 0,.box 1001 0] (ewR (accR E acc i)) (ewR (accR E acc i++E i)) (.tup []) from by have:=ih i hi;rw[show dirR d i=oppD d from by unfold dirR;rw[e44];rfl] at this;exact this) Y Y Y Y Y Y Y (c3 Y Y Y trivial) (c8 Y Y Y Y Y Y Y Y trivial) (ai Y trivial) Y (by kernel_rfl) (by kernel_rfl) ?_;refine aa (c:=a8 (by show i≤_;omega)) ?_;refine au ?_;exact pe ⟨i+1,hi⟩ (c8 Y Y Y Y Y Y Y Y trivial) (c3 Y Y Y (ai (congrArg (fun l:List En=>some (Res.tok 77 10 enT (l.map enC))) (a2t (E:=E) (acc:=acc) (i:=i))) trivial)) Y (by show 2 - (i+1) < 2 - i;omega)
  ·refine ac (c:=ya (a:=path) (b:=[d]) (by show path.length+1≤_;omega)) ?_;refine au ?_;refine rmv0 (args:=[.pv (.agg (ndX (atZ [a,b] (i:Int)))),.pv (dcsP (path++[d])),.pv (lmsP (lems++ls))]) (caps:=[.box 1000 0,.box 1001 0]) [(1,.pv (dcsP path)),(2,.pv (lmsP (lems++ls))),(3,.box 1000 0),(4,.box 1001 0),(5,.box 5 0),(34,.pv (ndsP [a,b])),(35,.pv (iP ((ndCs [a,b]).length:Int))),(36,.pv (iP (i:Int)))] [(5,.box 46 [.pv (lmsP ls),.pv (iP d.kind),.pv (iP d.index),.pv (bP d.at_.neg),.pv (.nat d.at_.num),.pv (.nat d.at_.den),.pv (ndsP [a,b]),.pv (bP e),.pv (mmsP p)])] hG (show MCalls Tryz.prog [224] 75 [.pv (.agg (ndX (atZ [a,b] (i:Int)))),.pv (dcsP (path++[d])),.pv (lmsP (lems++ls)),.box 1000 0,.box 1001 0] (ewR (accR E acc i)) (ewR (accR E acc i++E i)) (.tup []) from by have:=ih i hi;rw[show dirR d i=d from by unfold dirR;rw[e44];rfl] at this;exact this) Y Y Y Y Y Y Y (c3 Y Y Y trivial) (c8 Y Y Y Y Y Y Y Y trivial) (ai Y trivial) Y (by kernel_rfl) (by kernel_rfl) ?_;refine aa (c:=a8 (by show i≤_;omega)) ?_;refine au ?_;exact pe ⟨i+1,hi⟩ (c8 Y Y Y Y Y Y Y Y trivial) (c3 Y Y Y (ai (congrArg (fun l:List En=>some (Res.tok 77 10 enT (l.map enC))) (a2t (E:=E) (acc:=acc) (i:=i))) trivial)) Y (by show 2 - (i+1) < 2 - i;omega)
 ·have hj:i=2:=by have h:¬(i:Int) < 2:=zM e37;omega
  refine au ?_;exact a6z Y Y ((c2 Y Y (ai (congrArg (fun i=>some (Res.tok 77 10 enT ((accR E acc i).map enC))) hj) trivial)))
def Nd.Lim:Nat→Nd→Prop
 | 0,.mk ls _ _ _ p=>ls.length≤100∧p.length≤100
 | k+1,.mk ls _ ks _ _=>ls.length≤100∧∀a∈ks,Nd.Lim k a
theorem uo:∀(k:Nat) (n:Nd) (path:List Dc) (lems:List Lm),(entR k n path lems).length≤2 ^ k
 | 0,.mk _ _ _ _ _,_,_=>nr _
 | k+1,.mk ls d ks e p,path,lems=>by
  have h0:0 < 2 ^ k:=Nat.pow_pos dx
  match ks with
  | []=>exact nq _
  | [_]=>exact nq _
  | [a,b]=>
   show (entR k a _ _++entR k b _ _).length≤_;have h1:=uo k a (path++[d]) (lems++ls);have h2:=uo k b (path++[oppD d]) (lems++ls);rw[zI,Nat.pow_succ];omega
  | _::_::_::_=>exact nq _
theorem ame:∀(k:Nat) (n:Nd) (path:List Dc) (lems:List Lm) (acc:List En),n.Wf k→n.Lim k→k≤8→lems.length≤1000 - 100*k→path.length≤100 - k→acc.length≤1000 - 2 ^ k→MCalls Tryz.prog [224] 75 [.pv (.agg (ndC n)),.pv (dcsP path),.pv (lmsP lems),.box 1000 0,.box 1001 0] (ewR acc) (ewR (acc++entR k n path lems)) (.tup [])
 | 0,.mk ls d ks e p,path,lems,acc,hw,hl,hk,h1,h2,h3=>by
  obtain⟨_,rfl⟩:=hw;obtain⟨l1,l2⟩:=hl;exact amd om om om om
 | k+1,.mk ls d ks e p,path,lems,acc,hw,hl,hk,h1,h2,h3=>by
  obtain⟨_,_,_,_,a,b,rfl,ha,hb⟩:=hw;obtain⟨l1,l2⟩:=hl;have h0:0 < 2 ^ k:=Nat.pow_pos dx;have h8:2 ^ k≤2 ^ 7:=zS dx om;rw[Nat.pow_succ] at h3;have e0:∀x:Int,x=0→atZ [a,b] x=a:=fun x e=>by rw[e];rfl
  have e1:∀x:Int,x=1→atZ [a,b] x=b:=fun x e=>by rw[e];rfl
  have:=amc (ls:=ls) (lems:=lems) (d:=d) (a:=a) (b:=b) (e:=e) (p:=p) (path:=path) (acc:=acc) (E:=fun i=>entR k (atZ [a,b] (i:Int)) (path++[dirR d i]) (lems++ls)) om om fun i hi=>by
   rw[← kv];have hi':i=0∨i=1:=by omega
   have hacc:(accR (fun i=>entR k (atZ [a,b] (i:Int)) (path++[dirR d i]) (lems++ls)) acc i).length≤1000 - 2 ^ k:=by
    unfold accR;rcases hi' with rfl | rfl
    ·simp;omega
    ·have:=uo k (atZ [a,b] ((0:Nat):Int)) (path++[dirR d 0]) (lems++ls);show (acc++(entR k (atZ [a,b] ((0:Nat):Int)) (path++[dirR d 0]) (lems++ls)++[])).length≤_;rw[zI,List.append_nil];omega
   refine ame k _ _ _ _ ?_ ?_ om (by rw[zI];omega) (by rw[zI];show _+1≤_;omega) hacc
   ·rcases hi' with rfl | rfl
    ·exact ha
    ·exact hb
   ·rcases hi' with rfl | rfl
    ·exact l2 a (mf ..)
    ·exact l2 b (zC _ (mf ..))
  have e2:accR (fun i=>entR k (atZ [a,b] (i:Int)) (path++[dirR d i]) (lems++ls)) acc 2=acc++entR (k+1) (.mk ls d [a,b] e p) path lems:=by
   unfold accR;show acc++((List.map _ [0,1]).flatten)=_;simp[entR,dirR,List.flatten,atZ]
  rw[e2] at this;exact this
theorem a77 {n:Nd} {k:Nat} (hw:n.Wf k) (hl:n.Lim k) (hk:k≤8):f6 Tryz.prog [224] 37 [.agg (ndX n)] (ensP (entR k n [] [])):=by
 have h8:2 ^ k≤2 ^ 8:=zS dx hk;have hm:=ame k n [] [] [] hw hl hk (nq _) (nq _) (nq _);rw[kv] at hm;refine pcF [46,77,51,145] (by kernel_rfl) Tryz.func37 rfl rfl (fun D hF hG=>?_);refine pa Y Y (pr0 (ral0 1000 hF Y Y Y Y Y Y ?_));refine rn Y (pr0 (ral0 1001 hF Y Y Y Y Y Y ?_));refine au ?_;refine rmk Y Y Y Y ?_;refine qg 1 ?_;refine rn Y (tkb (b:=1000) (off:=0) (id:=1002) (e:=77) (k:=10) (ts:=enT) Y ?_);refine au ?_;refine rmv0 (args:=[.pv (.agg (ndX n)),.pv (.raw (.slice none 0 0)),.pv (.raw (.slice none 0 0))]) (caps:=[.box 1000 0,.box 1001 0]) [(3,.box 1000 0)] [] hG (MCalls.nil (pre:=[.pv (.agg (ndX n))]) (e:=42) (k:=5) (ts:=[200]) (MCalls.nil (pre:=[.pv (.agg (ndX n)),.pv (dcsP [])]) (e:=100) (k:=6) (ts:=[200,98]) hm)) Y Y Y Y Y Y Y (c3 Y Y Y trivial) (ai Y trivial) trivial Y Y Y ?_;exact ar (c:=rfl)
abbrev TE:List Nat:=[138,200,224]
def lr (q:Qr) (l:List En):List En:=(l.map d7).filter (d6 q)
theorem a28 {q:Qr} {l:List En} {i:Nat} {y:En} {b:Bool} (hi:i < l.length) (hy:d7 (atZ l (i:Int))=y) (hb:d6 q y=b):lr q (l.take (i+1))=(bif b then lr q (l.take i)++[y] else lr q (l.take i)):=by
 unfold lr;rw[List.take_add_one,ab hi,zN,List.filter_append];show _++List.filter (d6 q) [d7 (atZ l (i:Int))]=_;rw[hy,List.filter_cons,hb];cases b<;>simp
theorem af2 (q:Qr) (l:List En):(lr q l).length≤l.length:=by
 unfold lr;exact nt (List.length_filter_le ..) (by simp)
theorem a1k {q:Qr} {n:Nd} {k a b:Nat} (hw:n.Wf k) (hl:n.Lim k) (hk:k≤8) (hq:q.Va a) (h4:q.g.inputs+q.g.units.length≤8) (hg:q.goal.S 100 8) (hE:∀x∈entR k n [] [],EnOk x∧x.lems.length≤1000∧EnOk (d7 x)∧((d7 x).sc q).Va a b):f6 Tryz.prog TE 12 [qyP q,.agg (ndX n)] (.tup [ensP (lr q (entR k n [] [])),iP 0]):=by
 have hv:=adw hw om;rw[show ndP n=.agg (ndX n) from by rw[← kv]] at hv;have h8:2 ^ k≤2 ^ 8:=zS dx hk;have hlen:=uo k n [] [];have hs:=a77 hw hl hk;generalize entR k n [] []=L at*;refine pcF [39,46,77] (by kernel_rfl) Tryz.func12 rfl rfl (fun D hF hG=>?_);refine ac (c:=ld hq om) ?_;refine ac (c:=hv) ?_;refine au ?_;refine rcg0 hG (hs) Y Y Y Y Y Y Y ?_;refine au ?_;refine tks (t:=6) (id:=32) (e:=77) (k:=10) (ts:=enT) Y ?_;refine pl (ι:={i:Nat // i≤L.length}) (fun i=>[(2,.box 2 0),(5,.pv (iP 0)),(6,.tok 32),(18,.pv (ensP L)),(19,.pv (iP ((L.map enC).length:Int))),(20,.pv (iP (i.1:Int)))]) (fun i=>[(2,.box 39 [.pv (iP q.g.inputs),.pv (bc q.g.units),.pv (bc q.g.outputs),.pv (dg q.rg.lo),.pv (dg q.rg.hi),.pv (bc q.rg.rows),.pv (cf q.goal.terms),.pv (bP q.goal.const.neg),.pv (.nat q.goal.const.num),.pv (.nat q.goal.const.den)]),(32,.tok 77 10 enT ((lr q (L.take i.1)).map enC))]) [39,46,77] (fun i=>L.length - i.1) ⟨0,nq _⟩ (c6 Y Y Y Y Y Y trivial) (c2 Y Y trivial) (fun _=>rfl) ?_;intro ⟨i,hi0⟩;refine a2 (fun e21=>?_) (fun e21=>?_)
 ·have hi:i < L.length:=dw e21;obtain⟨h0,h1,h2,h3⟩:=hE _ (mg (ab hi));have hr:=ae0 h1 h0;generalize hy:d7 (atZ L (i:Int))=y at*;obtain⟨yp,yl,ye,yr⟩:=y;refine ax (c:=(ae (ab hi))) ?_;refine au ?_;refine rcg0 hG (hr) Y Y Y Y Y Y Y ?_;refine ac (c:=aa9 h3 h2 hg) ?_;refine a2 (fun e28=>?_) (fun e28=>?_)
  ·refine au ?_;refine rp0 jc (by rw[zB];exact nt (Nat.add_le_add_right (nt (af2 q (L.take i)) (by rw[List.length_take];exact Nat.min_le_right ..)) _) (by simp;omega)) Y Y Y Y Y Y Y Y ?_;refine aa (c:=a8 (by show i≤_;omega)) ?_;refine au ?_;exact pe ⟨i+1,hi⟩ (c6 Y Y Y Y Y Y trivial) (ai Y (ai (congrArg (fun x=>some (Res.tok 77 10 enT x)) (by show (lr q (L.take i)).map enC++[enC ⟨yp,yl,ye,yr⟩]=(lr q (L.take (i+1))).map enC;rw[a28 hi hy e28];rw[cond_true,zN];rfl)) trivial)) Y (by show L.length - (i+1) < L.length - i;omega)
  ·refine aa (c:=a8 (by show i≤_;omega)) ?_;refine au ?_;exact pe ⟨i+1,hi⟩ (c6 Y Y Y Y Y Y trivial) (ai Y (ai (congrArg (fun x=>some (Res.tok 77 10 enT x)) (by show (lr q (L.take i)).map enC=(lr q (L.take (i+1))).map enC;rw[a28 hi hy e28];rfl)) trivial)) Y (by show L.length - (i+1) < L.length - i;omega)
 ·have hj:L.length≤i:=fx e21;exact ar (c:=congrArg (fun l=>PV.tup [ensP l,iP 0]) (by rw[List.take_of_length_le hj]))
section
attribute [local go_sem] Oper.semAt_some
def NoX:Nat→Prop:=fun _=>False
theorem aht {w:World} {X:Nat→Prop} {cs:List PV} {us:List Value} (h:PV.RepL w X cs us):(PV.agg cs).Rep w X (.agg us.toArray):=by rw[PV.Rep];exact⟨us,rfl,h⟩
theorem PV.RepL.gr {w w':World} {X:Nat→Prop} {cs:List PV} {us:List Value} (h:PV.RepL w X cs us) (G:Gr w w'):PV.RepL w' X cs us:=h.still (Still.gr G X _)
theorem PV.Rep.gr {w w':World} {X:Nat→Prop} {c:PV} {u:Value} (h:c.Rep w X u) (G:Gr w w'):c.Rep w' X u:=h.still (Still.gr G X _)
theorem rz {w:World} {X:Nat→Prop} {u v:Value} (h:(PV.raw u).Rep w X v):v=u:=by rw[PV.Rep] at h;exact h
theorem PV.RepL.inv' {w:World} {X:Nat→Prop} {c:PV} {cs:List PV} {us:List Value} (h:PV.RepL w X (c::cs) us):∃u us',us=u::us'∧c.Rep w X u∧PV.RepL w X cs us':=by rwa [PV.RepL] at h
theorem PV.RepL.inv0 {w:World} {X:Nat→Prop} {us:List Value} (h:PV.RepL w X [] us):us=[]:=by rwa [PV.RepL] at h
theorem a4r {w:World} {X:Nat→Prop} {e k:Nat} {ts:List Nat} {xs:List (List PV)} {v:Value} (h:(PV.rows e k ts xs).Rep w X v):∃x:Sv,v=x.v∧x.n=xs.length:=by
 rw[PV.Rep] at h;obtain⟨x,us,rfl,hn,_⟩:=h;exact⟨x,rfl,hn⟩
theorem aau {w:World} {X:Nat→Prop} {n:Nat} {v:Value} (h:(PV.nat n).Rep w X v):∃x:Sv,v=x.v:=by
 rw[PV.Rep] at h;obtain⟨x,rfl,_⟩:=h;exact⟨x,rfl⟩
theorem acb (w:World) (a:Addr) (x:Int) (h:w.cell? a=some (.int .i64 x)):(callFunc 211 #[.pointer (some a)]).run Tryz.prog w=.ok (.value (.int .i64 x)) w:=
 run_call_load (fn:=Tryz.f211) (by kernel_rfl) (by kernel_rfl) (by kernel_rfl) (by kernel_rfl) .i64 (by kernel_rfl) h
theorem acl {w:World} {X:Nat→Prop} {a b:PV} {v:Value} (h:(PV.tup [a,b]).Rep w X v):∃u1 u2,v=.tuple #[u1,u2]∧a.Rep w X u1∧b.Rep w X u2:=by
 rw[PV.Rep] at h;obtain⟨us,rfl,h⟩:=h;obtain⟨u0,us,rfl,g0,h⟩:=PV.RepL.inv' h;obtain⟨u1,us,rfl,g1,h⟩:=PV.RepL.inv' h;obtain rfl:=PV.RepL.inv0 h;exact⟨u0,u1,rfl,g0,g1⟩
end
theorem fp {α:Type}:∀{l:List (Nat×α)} {i:Nat} {r:α},am l i=some r→∃p∈l,p.1=i∧p.2=r
 | [],i,r,e=>by cases e
 | (j,x)::l,i,r,e=>by
  rw[am] at e;cases hbq:Nat.beq i j with
  | true=>rw[hbq] at e;injection e with e;exact⟨_,mf ..,(zF hbq).symm,e⟩
  | false=>
   rw[hbq] at e;obtain⟨p,h1,h2⟩:=fp e;exact⟨p,zC _ h1,h2⟩
mutual
theorem yw:∀{s:SV} {i:Nat},i∈s.tids→i∈s.ids
 | .tok j,i,h=>h
 | .elt j _,i,h=>h
 | .agg cs,i,h=>by rw[SV.tids] at h;rw[SV.ids];exact mb h
 | .tup cs,i,h=>by rw[SV.tids] at h;rw[SV.ids];exact mb h
 | .fn _ cs,i,h=>by rw[SV.tids] at h;rw[SV.ids];exact mb h
 | .pv _,i,h=>by cases h
 | .any,i,h=>by cases h
 | .emp,i,h=>by cases h
 | .nil ..,i,h=>by cases h
 | .box ..,i,h=>by cases h
 | .ref ..,i,h=>by cases h
theorem mb:∀{cs:List SV} {i:Nat},i∈SV.tidsL cs→i∈SV.idsL cs
 | [],i,h=>by cases h
 | c::cs,i,h=>by
  rw[SV.tidsL] at h;rw[SV.idsL];exact (zJ.1 h).elim (fun h=>zL _ (yw h)) fun h=>zV _ (mb h)
end
def XCalls (P:Program) (Tg:List Nat) (f:FuncId) (args:List SV) (rs rs':List (Nat×Res)) (res:SV):Prop:=fv P f=true∧(∀i∈res.ids,(am rs' i).isSome=true)∧
 ∀(w:World) (X:Nat→Prop) (B:Nat→Nat) (T:Nat→Sv) (us:List Value),(∀b,X b→b < w.heap.size)→(∀b cs t fr,X b→w.heap[b]?=some (.cells cs t fr)→t ∉ Tg)→(∀b,X b→¬d5 rs B T b)→LaidG w→¬d5 rs B T 0→MPre w X B T rs→SV.RepL w (OwnZ X rs B T) B T args us→(∀i∈SV.idsL args,(am rs i).isSome=true)→
  Calls P f us.toArray w fun e w'=>∃v B' T',e=.returned v∧(∀i,(am rs i).isSome=true→B' i=B i)∧res.Rep w' (OwnZ X rs' B' T') B' T' v∧MPre w' X B' T' rs'∧Fr (d5 rs B T) w w'∧∀b,d5 rs' B' T' b→d5 rs B T b∨w.heap.size≤b
def xp (st:St) (dst:Option Nat) (sl:List (Nat×SV)) (keep rs rs':List (Nat×Res)) (res:SV) (tys:List Nat):Bool:=
 (sl.all fun p=>(match dst with
 | some d=>!Nat.beq p.1 d
 | none=>true)&&p.2.tids.all fun i=>(am rs i).isNone)&&(keep.all fun p=>(am rs p.1).isNone&&(am rs' p.1).isNone&&p.2.tids.all fun i=>(am rs i).isNone)&&(rs'.all fun p=>tys.contains p.2.typ&&((am rs p.1).isSome||(st.res p.1).isNone))&&ofB sl (keep++rs') tys
def slX (dst:Option Nat) (res:SV) (sl:List (Nat×SV)):List (Nat×SV):=match dst with
 | some d=>(d,res)::sl
 | none=>sl
section
variable {C:Cx} {o:Oper} {st:St}
theorem aba {a:Act} {w w':World} {B B':Nat→Nat} {T T':Nat→Sv} {rs rs' keep:List (Nat×Res)} {sl:List (Nat×SV)} {tys:List Nat} {dst:Option Nat} {v:Value} {res:SV} (hi:InvB C st a w B T) (hrs:AllL st.res rs) (hsl:AllL st.slot sl) (hkeep:AllL st.res keep) (hb:xp st dst sl keep rs rs' res tys=true) (hfx:∀i,C.F i→(am rs' i).isSome=true→(am rs i).isSome=true)
  (hB:∀i,(am rs i).isSome=true→B' i=B i) (hres:∀i∈res.ids,(am rs' i).isSome=true) (hv:res.Rep w' (OwnZ (fun b=>Own0 C st B T b∧¬d5 rs B T b) rs' B' T') B' T' v)
  (hm:MPre w' (fun b=>Own0 C st B T b∧¬d5 rs B T b) B' T' rs') (F:Fr (d5 rs B T) w w') (hnew:∀b,d5 rs' B' T' b→d5 rs B T b∨w.heap.size≤b) (hd:∀d,dst=some d→C.dk d):Inv C (St.of (slX dst res sl) (keep++rs') tys) (a.put dst v) w':=by
 simp only[xp,be,zG,Option.isNone_iff_eq_none,Bool.or_eq_true] at hb;obtain⟨⟨⟨hb1,hb3⟩,hb4⟩,hb5⟩:=hb;simp only[ofB,be,zG,lw] at hb5
 -- the numbers that are alive ahead and not lent keep what they name
 let nw:Nat→Bool:=fun i=>(am rs i).isSome||(am rs' i).isSome
 let T2:Nat→Sv:=fun i=>bif nw i then T' i else T i
 let B2:Nat→Nat:=fun i=>bif nw i then B' i else B i
 have old:∀i r,am rs i=some r→st.res i=some r:=fun i r h=>hrs.at h
 have rsAt:∀i,(am rs' i).isSome=true→(st.res i).isSome=true→(am rs i).isSome=true:=fun i h k=>by
  obtain⟨r,hr⟩:=Option.isSome_iff_exists.1 h;obtain⟨p,h1,h2,h3⟩:=fp hr;have h4:=(hb4 p h1).2;rw[h2] at h4;rcases h4 with h4 | h4
  ·exact h4
  ·rw[h4] at k;cases k
 have hT1:∀i,(st.res i).isSome=true→am rs i=none→T2 i=T i∧B2 i=B i:=fun i h1 h2=>by
  have h3:am rs' i=none:=by
   cases h:am rs' i with
   | none=>rfl
   | some r=>
    have:=rsAt i (by rw[h];rfl) h1;rw[h2] at this;cases this
  have:nw i=false:=by simp only[nw,h2,h3];rfl
  exact⟨by simp only[T2,this];rfl,by simp only[B2,this];rfl⟩
 have hB1:∀i,(st.res i).isSome=true→B2 i=B i:=fun i h1=>by
  cases h2:am rs i with
  | none=>exact (hT1 i h1 h2).2
  | some r=>
   have:nw i=true:=by simp only[nw,h2];rfl
   simp only[B2,this,cond_true];exact hB i (by rw[h2];rfl)
 have hT2:∀i,(am rs' i).isSome=true→T2 i=T' i∧B2 i=B' i:=fun i h=>by
  have:nw i=true:=by simp only[nw,h,Bool.or_true]
  exact⟨by simp only[T2,this];rfl,by simp only[B2,this];rfl⟩
 have keepat:∀i r,am keep i=some r→am rs i=none∧(∀j∈r.tids,am rs j=none)∧st.res i=some r:=fun i r h=>by
  obtain⟨p,h1,h2,h3⟩:=fp h;have h4:=hb3 p h1;rw[h2,h3] at h4;exact⟨h4.1.1,h4.2,hkeep.at h⟩
 have split:∀i r,am (keep++rs') i=some r→am keep i=some r∨(am keep i=none∧am rs' i=some r):=fun i r h=>by
  rw[qw] at h;cases hk:am keep i with
  | some q=>rw[hk] at h;exact .inl h
  | none=>rw[hk] at h;exact .inr ⟨rfl,h⟩
 have lentOwn:∀b,d5 rs B T b→Own0 C st B T b:=fun b ⟨i,r,h1,h2⟩=>.inr ⟨i,r,old i r h1,h2⟩
 have blkOld:∀i r b,st.res i=some r→r.blk (B i) (T i)=some b→b < w.heap.size:=fun i r b h1 h2=>((hi.inn i r h1).lo h2).2
 have notLent:∀i r b,st.res i=some r→am rs i=none→r.blk (B i) (T i)=some b→¬d5 rs B T b:=fun i r b h1 h2 h3 ⟨j,q,h4,h5⟩=>by
  have:=hi.apart i r j q b h1 (old j q h4) h3 h5;rw[← this,h2] at h4;cases h4
 have hX:∀b,Own0 C (St.of (slX dst res sl) (keep++rs') tys) B2 T2 b→(Own0 C st B T b∧¬d5 rs B T b)∨d5 rs' B' T' b:=fun b hb=>by
  rcases hb with hb | ⟨i,r,h1,h2⟩
  ·exact .inl ⟨.inl hb,fun ⟨i,r,h1,h2⟩=>by
    rcases ((hi.inn i r (old i r h1)).lo h2).1 with h3 | h3
    ·have:=C.old b hb;omega
    ·exact C.hM b hb h3⟩
  ·rcases split i r h1 with h3 | ⟨_,h3⟩
   ·obtain⟨g1,g2,g3⟩:=keepat i r h3;obtain⟨k1,k2⟩:=hT1 i (by rw[g3];rfl) g1;rw[k1,k2] at h2;exact .inl ⟨.inr ⟨i,r,g3,h2⟩,notLent i r b g3 g1 h2⟩
   ·obtain⟨k1,k2⟩:=hT2 i (by rw[h3];rfl);rw[k1,k2] at h2;exact .inr ⟨i,r,h3,h2⟩
 have S:∀ts,Still w w' (Own0 C st B T) (Own0 C (St.of (slX dst res sl) (keep++rs') tys) B2 T2) ts:=fun ts=>⟨F.size,fun b cs t fr hx hh ht=>by
  have hlt:b < w.heap.size:=by
   rcases zU b w.heap.size with h | h
   ·exact h
   ·rw[zR h] at hh;cases hh
  refine⟨F.keep b hlt fun e=>hx (lentOwn b e),fun hb=>?_⟩;rcases hX b hb with h1 | h1
  ·exact hx h1.1
  ·rcases hnew b h1 with h2 | h2
   ·exact hx (lentOwn b h2)
   ·omega⟩
 have S':∀ts,Still w' w' (OwnZ (fun b=>Own0 C st B T b∧¬d5 rs B T b) rs' B' T') (Own0 C (St.of (slX dst res sl) (keep++rs') tys) B2 T2) ts:=fun ts=>⟨nr _,fun b cs t fr hx hh ht=>⟨rfl,fun hb=>hx (hX b hb)⟩⟩
 have reS:∀{s:SV} {u:Value},SV.Rep w (Own0 C st B T) B T s u→(∀i∈s.ids,(st.res i).isSome=true)→(∀i∈s.tids,am rs i=none)→SV.Rep w' (Own0 C (St.of (slX dst res sl) (keep++rs') tys) B2 T2) B2 T2 s u:=fun {s u} h1 h2 h3=>by
  have h4:=h1.still (S _) (B':=B2) (T':=T) fun i hi2=>⟨hB1 i (h2 i hi2),rfl⟩
  exact h4.reT fun i hi2=>(hT1 i (h2 i (yw hi2)) (h3 i hi2)).1
 have reL:∀{s:List SV} {u:List Value},SV.RepL w (Own0 C st B T) B T s u→(∀i∈SV.idsL s,(st.res i).isSome=true)→(∀i∈SV.tidsL s,am rs i=none)→SV.RepL w' (Own0 C (St.of (slX dst res sl) (keep++rs') tys) B2 T2) B2 T2 s u:=fun {s u} h1 h2 h3=>by
  have h4:=h1.still (S _) (B':=B2) (T':=T) fun i hi2=>⟨hB1 i (h2 i hi2),rfl⟩
  exact h4.reT fun i hi2=>(hT1 i (h2 i (mb hi2)) (h3 i hi2)).1
 have slAt:∀t s,am (slX dst res sl) t=some s→(dst=some t∧s=res)∨((∀d,dst=some d→t≠d)∧am sl t=some s):=fun t s e=>by
  cases dst with
  | none=>exact .inr ⟨fun d h=>(by cases h),e⟩
  | some d=>
   simp only[slX,am] at e;cases hbq:Nat.beq t d with
   | true=>
    rw[hbq] at e;injection e with e;exact .inl ⟨by rw[zF hbq],e.symm⟩
   | false=>
    rw[hbq] at e;exact .inr ⟨fun d' h=>by injection h with h;rw[← h];exact Nat.ne_of_beq_eq_false hbq,e⟩
 have hB3:∀i,C.F i→B2 i=B i:=fun i hF=>by
  cases h:nw i with
  | false=>simp only[B2,h];rfl
  | true=>
   simp only[B2,h,cond_true];rcases Bool.or_eq_true _ _▸h with h1 | h1
   ·exact hB i h1
   ·exact hB i (hfx i hF h1)
 refine⟨B2,T2,y6 hi.size hd,put_dfr.trans hi.dfr,⟨(hi.gr.step F fun b _ ⟨i,r,h1,h2⟩=>((hi.inn i r (old i r h1)).lo h2).1).fr,fun i hF=>(hB3 i hF).trans (hi.gr.fix i hF)⟩,fun t s e=>?_,fun t s e i hi2=>?_,fun i r e=>?_,fun i r e j hj=>?_,fun i r j q b h1 h2 h3 h4=>?_⟩
 ·rcases slAt t s e with ⟨e1,rfl⟩ | ⟨e1,e2⟩
  ·subst e1;rw[i7 (by rw[hi.size.1];exact (hd _ rfl).1)];have h4:=hv.still (S' _) (B':=B2) (T':=T') fun i hi2=>⟨(hT2 i (hres i hi2)).2,rfl⟩
   exact h4.reT fun i hi2=>(hT2 i (hres i (yw hi2))).1
  ·have h1:=hi.slot t s (hsl.at e2);have h2:(a.put dst v).tmps.getD t undef=a.tmps.getD t undef:=by
    cases dst with
    | none=>rfl
    | some d=>exact gc (e1 d rfl)
   rw[h2];obtain⟨p,hp,rfl⟩:=eg e2;exact reS h1 (fun i hi2=>hi.live t _ (hsl.at e2) i hi2) (hb1 p hp).2
 ·rcases slAt t s e with ⟨_,rfl⟩ | ⟨_,e2⟩
  ·have h1:=hres i hi2;show (am (keep++rs') i).isSome=true;rw[qw];cases am keep i with
   | some q=>rfl
   | none=>exact h1
  ·obtain⟨p,hp,rfl⟩:=eg e2;exact hb5.1 p hp i hi2
 ·rcases split i r e with h3 | ⟨_,h3⟩
  ·obtain⟨g1,g2,g3⟩:=keepat i r h3;obtain⟨j1,j2⟩:=hT1 i (by rw[g3];rfl) g1;have hin:=hi.inn i r g3;have oth:∀b,r.blk (B i) (T i)=some b→w'.heap[b]?=w.heap[b]?:=fun b hb=>F.keep b (blkOld i r b g3 hb) (notLent i r b g3 g1 hb)
   cases r with
   | box ty cells=>
    obtain⟨k1,us,k2,k3⟩:=hin;exact⟨by rw[j2];exact k1,us,by rw[j2];exact k2.keep (oth _ rfl),reL k3 (hi.alive i _ g3) g2⟩
   | tok e k ts xs=>
    obtain⟨us,k1,k2,k3,k4,k5,k6⟩:=hin;refine⟨us,?_,PV.RepLL.still (ts:=ts) k2 (S _) fun r hr c hc=>((k3 r hr).2 c hc).2,k3,?_,k5,?_⟩
    ·rw[j1];exact md k1 oth
    ·rw[j1];exact k4
    ·rw[j1];exact k6
  ·have hin:=hm.inn i r h3;have hin2:r.In C.lo w' (Own0 C (St.of (slX dst res sl) (keep++rs') tys) B2 T2) B' T' i:=hin.wide (fun b hb _=>by
    rcases hnew b ⟨i,r,h3,hb⟩ with ⟨j,q,g1,g2⟩ | g1
    ·exact ((hi.inn j q (old j q g1)).lo g2).1
    ·exact .inl (nt hi.gr.size g1)) fun b hb=>hX b hb
   obtain⟨j1,j2⟩:=hT2 i (by rw[h3];rfl);exact hin2.reB j2 j1 fun j hj=>by
    obtain⟨l1,l2⟩:=hT2 j (hm.alive i r h3 j hj);exact⟨l2,l1⟩
 ·obtain⟨p,hp,rfl⟩:=eg e;exact (hb5.2 p hp).1 j hj
 ·have bl:∀i r,am (keep++rs') i=some r→r.blk (B2 i) (T2 i)=some b→(st.res i=some r∧am rs i=none∧r.blk (B i) (T i)=some b)∨(am rs' i=some r∧r.blk (B' i) (T' i)=some b):=fun i r h1 h2=>by
   rcases split i r h1 with h3 | ⟨_,h3⟩
   ·obtain⟨g1,g2,g3⟩:=keepat i r h3;obtain⟨j1,j2⟩:=hT1 i (by rw[g3];rfl) g1;rw[j1,j2] at h2;exact .inl ⟨g3,g1,h2⟩
   ·obtain⟨j1,j2⟩:=hT2 i (by rw[h3];rfl);rw[j1,j2] at h2;exact .inr ⟨h3,h2⟩
  have cross:∀i r j q,st.res i=some r→am rs i=none→r.blk (B i) (T i)=some b→am rs' j=some q→q.blk (B' j) (T' j)=some b→False:=fun i r j q g1 g2 g3 g4 g5=>by
   rcases hnew b ⟨j,q,g4,g5⟩ with g6 | g6
   ·exact notLent i r b g1 g2 g3 g6
   ·have:=blkOld i r b g1 g3;omega
  rcases bl i r h1 h3 with ⟨g1,g2,g3⟩ | ⟨g1,g2⟩
  ·rcases bl j q h2 h4 with ⟨g4,g5,g6⟩ | ⟨g4,g5⟩
   ·exact hi.apart i r j q b g1 g4 g3 g6
   ·exact (cross i r j q g1 g2 g3 g4 g5).elim
  ·rcases bl j q h2 h4 with ⟨g4,g5,g6⟩ | ⟨g4,g5⟩
   ·exact (cross j q i r g4 g5 g6 g1 g2).elim
   ·exact hm.apart i r j q b g1 g4 g2 g5
theorem anl {c:Call} {f:FuncId} {args:List SV} {res:SV} {rs rs' keep:List (Nat×Res)} {sl:List (Nat×SV)} {Tg:List Nat} {a:Act} {w:World} (hG:LaidG C.w0) (hM:¬C.M 0) (hp:XCalls C.P Tg f args rs rs' res) (ho:o.op=.call c) (run:∀us:List Value,c.args.toList.map a.eval=us→∃us2:List Value,(execOp a.eval o).run C.P w=.ok (.enter f (us++us2).toArray) w∧∀B T,InvB C st a w B T→SV.RepL w (Own0 C st B T) B T args (us++us2)∧∀i∈SV.idsL args,(am rs i).isSome=true)
  (hrs:AllL st.res rs) (hsl:AllL st.slot sl) (hkeep:AllL st.res keep) (hal:(rs.all fun p=>lw rs p.2.ids)=true) (hb:xp st o.dst sl keep rs rs' res st.tys=true) (hfx:∀i,C.F i→(am rs' i).isSome=true→(am rs i).isSome=true) (hT:Tg.all (fun t=>C.T.contains t)=true) (hty:Tg.all (fun t=>!st.tys.contains t)=true) (hd:∀d,o.dst=some d→C.dk d) (ht:em st st.tys) (hi:Inv C st a w):dj C.P o a w fun v w'=>em (St.of (slX o.dst res sl) (keep++rs') st.tys) st.tys∧Inv C (St.of (slX o.dst res sl) (keep++rs') st.tys) (a.put o.dst v) w':=by
 obtain⟨B,T,hi⟩:=hi;obtain⟨us2,hrun,hargs⟩:=run _ rfl;obtain⟨ha,hids⟩:=hargs B T hi;obtain⟨hpre,sub⟩:=zj hi hrs hal;have old:∀b,Own0 C st B T b→b < w.heap.size:=fun b hb=>by
  rcases hb with hb | ⟨i,r,hr,hb⟩
  ·exact nk (C.old b hb) hi.gr.size
  ·exact ((hi.inn i r hr).lo hb).2
 have hcall:=hp.2.2 w (fun b=>Own0 C st B T b∧¬d5 rs B T b) B T _ (fun b hb=>old b hb.1) (fun b cs t fr hb hh htg=>by
  have htc:=zG.1 hT t htg;have hty':=zG.1 hty t htg;rcases hb.1 with hb1 | ⟨i,r,hr,hb1⟩
  ·have hh':C.w0.heap[b]?=some (.cells cs t fr):=by rw[← hi.gr.old hb1];exact hh
   exact C.hT b cs t fr hb1 hh' (zE.1 htc)
  ·have h1:=(hi.inn i r hr).typ hb1 hh;have h2:=ht i r hr;rw[← h1] at h2;rw[zE.2 h2] at hty';cases hty') (fun b hb=>hb.2) (hG.cx hM hi.gr) (fun ⟨i,r,h1,h2⟩=>hG.lo hM ((hi.inn i r (hrs.at h1)).lo h2).1) hpre (ha.still (B':=B) (T':=T) ⟨nr _,fun b cs t fr hx hh ht=>⟨rfl,fun hb=>hx (sub b hb)⟩⟩ fun _ _=>⟨rfl,rfl⟩) hids
 refine eo hrun (hcall.mono fun e w' ⟨v,B',T',he,hB,hv,hm,F,hnew⟩=>⟨v,he,fun i r hr=>?_,aba hi hrs hsl hkeep hb hfx hB hp.2.1 hv hm F hnew hd⟩);simp only[xp,be] at hb;have hb5:=hb.2;simp only[ofB,be,zG] at hb5;obtain⟨p,hp,rfl⟩:=eg hr;exact zE.1 (hb5.2 p hp).2
end
open Go.MapKept (IsKey)
def mget:List SV→Value→Option SV→Prop
 | [],_,r=>r=none
 | c::v::l,k,r=>∃u,c=.pv (.raw u)∧((u=k∧r=some v)∨(u≠k∧mget l k r))
 | [_],_,_=>False
def mset:List SV→Value→SV→List SV→Prop
 | [],k,s,r=>r=[.pv (.raw k),s]
 | c::v::l,k,s,r=>∃u,c=.pv (.raw u)∧((u=k∧r=c::s::l)∨(u≠k∧∃r',r=c::v::r'∧mset l k s r'))
 | [_],_,_,_=>False
def j4 (d:TypeDesc):List SV→Prop
 | []=>True
 | c::_::l=>(∃u,c=.pv (.raw u)∧IsKey d u)∧j4 d l
 | [_]=>False
def mcL (l:List MapEntry):List Value:=l.flatMap fun e=>[e.key,e.val]
section
variable {w:World} {X:Nat→Prop} {B:Nat→Nat} {T:Nat→Sv} {d:TypeDesc} {k:Value} {c:SV}
theorem a6j {v:SV} {l:List SV} {e:MapEntry} {es:List MapEntry} (h:SV.RepL w X B T (c::v::l) (mcL (e::es))):c.Rep w X B T e.key∧v.Rep w X B T e.val∧SV.RepL w X B T l (mcL es):=by
 rw[show mcL (e::es)=e.key::e.val::mcL es from by simp[mcL],SV.RepL] at h;obtain⟨u,us,e1,h1,h2⟩:=h;injection e1 with e1 e2;subst e1 e2;rw[SV.RepL] at h2;obtain⟨u,us,e1,h2,h3⟩:=h2;injection e1 with e1 e2;subst e1 e2;exact⟨h1,h2,h3⟩
theorem SV.RepL.inv1 {cs:List SV} {u:Value} {us:List Value} (h:SV.RepL w X B T (c::cs) (u::us)):c.Rep w X B T u:=by
 rw[SV.RepL] at h;obtain⟨_,_,e,h,_⟩:=h;injection e with e _;rw[e];exact h
theorem ze {u v:Value} (h:(SV.pv (.raw u)).Rep w X B T v):v=u:=by rw[SV.Rep,PV.Rep] at h;exact h
theorem a6k {es:List MapEntry} (h:SV.RepL w X B T [] (mcL es)):es=[]:=by
 rw[SV.RepL] at h;cases es with
 | nil=>rfl
 | cons e es=>simp[mcL] at h
theorem a2y {l:List SV} {es:List MapEntry} (h:SV.RepL w X B T (c::l) (mcL es)):∃e es',es=e::es':=by
 cases es with
 | nil=>rw[SV.RepL] at h;obtain⟨u,us,e,_⟩:=h;simp[mcL] at e
 | cons e es=>exact⟨e,es,rfl⟩
theorem abp (hk:IsKey d k):∀{cs:List SV} {es:List MapEntry} {r:Option SV} (i:Nat),SV.RepL w X B T cs (mcL es)→j4 d cs→mget cs k r→
  (r=none∧Instr.findNow d k es i=some none)∨∃s v j,r=some s∧Instr.findNow d k es i=some (some (j,v))∧s.Rep w X B T v∧∀i∈s.ids,i∈SV.idsL cs
 | [],es,r,i,h,_,hg=>by
  rw[mget] at hg;rw[a6k h];exact .inl ⟨hg,rfl⟩
 | [c],es,r,i,h,hm,hg=>by rw[j4] at hm;exact hm.elim
 | c::v::l,es,r,i,h,hm,hg=>by
  obtain⟨e,es,rfl⟩:=a2y h;obtain⟨h1,h2,h3⟩:=a6j h;rw[mget] at hg;rw[j4] at hm;obtain⟨⟨u,rfl,hu⟩,hm⟩:=hm;obtain⟨u',e1,hg⟩:=hg;injection e1 with e1;injection e1 with e1;subst e1;have hkey:=ze h1;obtain⟨b,hb,hiff⟩:=Go.MapKept.sameNow_of_keys hk hu;rw[← hkey] at hb;rcases hg with ⟨e2,hr⟩ | ⟨e2,hg⟩
  ·have:b=true:=hiff.2 e2.symm;subst this;exact .inr ⟨v,e.val,i,hr,by simp[Instr.findNow,hb],h2,fun i hi=>by rw[SV.idsL,SV.idsL];exact zV _ (zL _ hi)⟩
  ·have:b=false:=by
    cases b with
    | false=>rfl
    | true=>exact absurd (hiff.1 rfl).symm e2
   subst this;rcases abp hk (i+1) h3 hm hg with ⟨g1,g2⟩ | ⟨s,v',j,g1,g2,g3,g4⟩
   ·exact .inl ⟨g1,by simp[Instr.findNow,hb,g2]⟩
   ·exact .inr ⟨s,v',j,g1,by simp[Instr.findNow,hb,g2],g3,fun i hi=>by rw[SV.idsL,SV.idsL];exact zV _ (zV _ (g4 i hi))⟩
theorem agq (hk:IsKey d k) {s:SV} {v:Value} (hs:s.Rep w X B T v) (n:Nat):∀{cs cs':List SV} {es:List MapEntry} (i:Nat),SV.RepL w X B T cs (mcL es)→j4 d cs→mset cs k s cs'→
  j4 d cs'∧(∀j∈SV.idsL cs',j∈SV.idsL cs∨j∈s.ids)∧((Instr.findNow d k es i=some none∧SV.RepL w X B T cs' (mcL (es++[{ key:=k,val:=v,born:=n }])))∨∃j e,Instr.findNow d k es i=some (some (i+j,e.val))∧es[j]?=some e∧e.key=k∧SV.RepL w X B T cs' (mcL (es.modify j fun e=>{ e with key:=k,val:=v })))
 | [],cs',es,i,h,_,hg=>by
  rw[mset] at hg;rw[a6k h];subst hg;refine⟨⟨⟨k,rfl,hk⟩,trivial⟩,fun j hj=>?_,.inl ⟨rfl,SV.RepL.cons (by rw[SV.Rep,PV.Rep]) (SV.RepL.cons hs (by rw[SV.RepL];rfl))⟩⟩;rw[SV.idsL,SV.idsL,SV.idsL] at hj;simp[SV.ids] at hj;exact .inr hj
 | [c],cs',es,i,h,hm,hg=>by rw[j4] at hm;exact hm.elim
 | c::v0::l,cs',es,i,h,hm,hg=>by
  obtain⟨e,es,rfl⟩:=a2y h;obtain⟨h1,h2,h3⟩:=a6j h;rw[mset] at hg;rw[j4] at hm;obtain⟨⟨u,rfl,hu⟩,hm⟩:=hm;obtain⟨u',e1,hg⟩:=hg;injection e1 with e1;injection e1 with e1;subst e1;have hkey:=ze h1;obtain⟨b,hb,hiff⟩:=Go.MapKept.sameNow_of_keys hk hu;rw[← hkey] at hb;rcases hg with ⟨e2,rfl⟩ | ⟨e2,r',rfl,hg⟩
  ·have:b=true:=hiff.2 e2.symm;subst this;refine⟨⟨⟨u,rfl,hu⟩,hm⟩,fun j hj=>?_,.inr ⟨0,e,by simp[Instr.findNow,hb],rfl,hkey.trans e2,?_⟩⟩
   ·simp only[SV.idsL,SV.ids,zX,zJ] at hj ⊢;rcases hj with hj | hj
    ·exact .inr hj
    ·exact .inl (.inr hj)
   ·show SV.RepL w X B T _ (k::v::mcL es);exact SV.RepL.cons (by rw[SV.Rep,PV.Rep];exact e2.symm) (SV.RepL.cons hs h3)
  ·have:b=false:=by
    cases b with
    | false=>rfl
    | true=>exact absurd (hiff.1 rfl).symm e2
   subst this;obtain⟨g1,g2,g3⟩:=agq hk hs n (i+1) h3 hm hg;refine⟨⟨⟨u,rfl,hu⟩,g1⟩,fun j hj=>?_,?_⟩
   ·simp only[SV.idsL,zJ] at hj ⊢;rcases hj with hj | hj | hj
    ·exact .inl (.inl hj)
    ·exact .inl (.inr (.inl hj))
    ·exact (g2 j hj).imp (fun h=>.inr (.inr h)) id
   ·rcases g3 with ⟨g4,g5⟩ | ⟨j,e',g4,g5,g6,g7⟩
    ·exact .inl ⟨by simp[Instr.findNow,hb,g4],SV.RepL.cons h1 (SV.RepL.cons h2 g5)⟩
    ·exact .inr ⟨j+1,e',by simp[Instr.findNow,hb,g4];omega,by simpa using g5,g6,SV.RepL.cons h1 (SV.RepL.cons h2 g7)⟩
end
theorem Bl.map {w:World} {b ty:Nat} {us:List Value} (h:Bl w b ty us) (ht:Nat.blt ty 1000000=false):∃es c,w.heap[b]?=some (.map es c)∧mcL es.toList=us:=by unfold Bl at h;rw[ht] at h;exact h
theorem ak2 (b:Nat):hnd b 1000000=.map (some b):=rfl
section
variable {C:Cx} {o:Oper} {st:St} {t id:Nat}
theorem ael {kt et ty:Nat} {x y:Operand} {d:TypeDesc} {k:Value} {cs:List SV} {r:Option SV} {z:Zk} (ho:o.op=.lookup t x y false) (hx:ev st x=some (.box id 1000000)) (hy:ev st y=some (.pv (.raw k))) (hr:st.res id=some (.box ty cs)) (hty:Nat.blt ty 1000000=false) (hu:C.P.underlying t=some (.map kt et)) (hkd:C.P.underlying kt=some d) (hk:IsKey d k) (hz:(C.P.info? et).map (fun i=>i.zero)=some (some z.val)) (hm:j4 d cs) (hg:mget cs k r) (hd:∀d,o.dst=some d→C.dk d):OpE C st.tys o st (valE (r.getD z.sv) [id]):=by
 refine bj hd fun st1 ag a w B T hi=>?_
 rw[← ag.ev (by rw[ho];simp[Op.operands])] at hx hy;rw[← ag.2 id (zL _ (zH.2 rfl))] at hr;have h1:=(az hi hx).1;have h2:=(az hi hy).1;rw[SV.Rep,ak2] at h1;have h2:=ze h2;obtain⟨g1,us,g2,g3⟩:=hi.inn id _ hr;obtain⟨es,c,g4,g5⟩:=g2.map hty;subst g5;obtain⟨i,hinf,hz'⟩:=Option.map_eq_some_iff.1 hz;have hc:∀e,(Instr.checkKey e 10000 kt k).run C.P w=.ok () w:=fun e=>Go.MapKept.run_checkKey hkd hk e 9999
 rcases abp hk 0 g3 hm hg with ⟨rfl,hf⟩ | ⟨s,v,j,rfl,hf,hs,hids⟩
 ·refine⟨z.val,?_,?_,fun i hi2=>by cases z<;>cases (show i∈([]:List Nat) from hi2)⟩
  ·simp[execOp,ho,h1,h2,Instr.lookup,run_underlying hu,Go.MapKept.run_getObj_map g4,hc,Go.MapKept.run_findKey hkd hf,Result.andThen,zeroValue,typeInfo,hinf,hz']
  ·exact (a0v (zs:=[z])).inv1
 ·refine⟨v,?_,hs,fun i hi2=>hi.alive id _ hr i (hids i hi2)⟩;simp[execOp,ho,h1,h2,Instr.lookup,run_underlying hu,Go.MapKept.run_getObj_map g4,hc,Go.MapKept.run_findKey hkd hf,Result.andThen]
theorem aej {kt et ty:Nat} {x y z:Operand} {d:TypeDesc} {k:Value} {cs cs':List SV} {s:SV} (ho:o.op=.mapUpdate t x y z) (hx:ev st x=some (.box id 1000000)) (hy:ev st y=some (.pv (.raw k))) (hs:ev st z=some s) (hr:st.res id=some (.box ty cs)) (hty:Nat.blt ty 1000000=false) (hu:C.P.underlying t=some (.map kt et)) (hkd:C.P.underlying kt=some d) (hk:IsKey d k) (hm:j4 d cs) (hg:mset cs k s cs') (ht:st.tys.contains ty=true) (hdst:o.dst=none):OpE C st.tys o st ⟨.any,some (id,.box ty cs'),id::s.ids,false⟩:=by
 refine⟨fun i r e=>by injection e with e;injection e with e1 e2;subst e1 e2;exact⟨mf ..,zE.1 ht⟩,fun st1 h1 h2 _ a w ⟨B,T,hi⟩=>?_⟩;have ag:Agree o (id::s.ids) st st1:=⟨h1,h2⟩;rw[← h2 id (mf ..)] at hr;rw[← ag.ev (by rw[ho];simp[Op.operands])] at hx hy hs;have x1:=(az hi hx).1;have y1:=ze (az hi hy).1;obtain⟨z1,z2⟩:=az hi hs;rw[SV.Rep,ak2] at x1;obtain⟨g1,us,g2,g3⟩:=hi.inn id _ hr;obtain⟨es,c,g4,g5⟩:=g2.map hty;subst g5;have hc:∀e,(Instr.checkKey e 10000 kt k).run C.P w=.ok () w:=fun e=>Go.MapKept.run_checkKey hkd hk e 9999
 obtain⟨p1,p2,p3⟩:=agq hk z1 c 0 g3 hm hg;have hlive:∀i∈SV.idsL cs',(st1.res i).isSome=true:=fun i hi2=>(p2 i hi2).elim (hi.alive id _ hr i) (z2 i)
 have fin:∀(es':Array MapEntry) (c':Nat),SV.RepL w (Own0 C st1 B T) B T cs' (mcL es'.toList)→(execOp a.eval o).run C.P w=.ok .skip { w with heap:=w.heap.setIfInBounds (B id) (.map es' c') }→dj C.P o a w fun v w'=>Inv C (Eff.app ⟨.any,some (id,.box ty cs'),id::s.ids,false⟩ o.dst st1) (a.put o.dst v) w':=fun es' c' hrep hrun=>by
  unfold dj;rw[hrun,hdst];have hlt:=g2.lt;refine a2b hi hr (us':=mcL es'.toList) ?_ ⟨⟨rfl,rfl,rfl,by simp,fun b hb=>absurd hb (Nat.not_lt_zero b)⟩,fun b hb hx=>?_⟩ hrep hlive
  ·unfold Bl;rw[hty];exact⟨es',c',by simp[hlt],rfl⟩
  ·simp only;rw[Array.getElem?_setIfInBounds_ne (fun e=>hx e.symm)]
 rcases p3 with ⟨hf,hrep⟩ | ⟨j,e,hf,hj,hke,hrep⟩
 ·refine fin (es.push { key:=k,val:=a.eval z,born:=c }) (c+1) (by rw[Array.toList_push];exact hrep) ?_;simp[execOp,ho,x1,y1,Instr.mapUpdate,run_underlying hu,Go.MapKept.run_getObj_map g4,hc,Go.MapKept.run_findKey hkd hf,Go.MapKept.run_setObj_map _ g4,Result.andThen]
 ·have hj':es[j]?=some e:=by simpa using hj
  refine fin (es.modify j fun e=>{ e with key:=k,val:=a.eval z }) c (by rw[Array.toList_modify];exact hrep) ?_;rw[Nat.zero_add] at hf;simp[execOp,ho,x1,y1,Instr.mapUpdate,run_underlying hu,Go.MapKept.run_getObj_map g4,hc,Go.MapKept.run_findKey hkd hf,hj',hke,Go.MapKept.run_keyThatStays hk,Go.MapKept.run_setObj_map _ g4,Result.andThen]
theorem aab (hF:¬C.F id) (ho:o.op=.makeMap t none) (hres:st.res id=none) (ht:st.tys.contains (t+1000000)=true) (hd:∀d,o.dst=some d→C.dk d):OpE C st.tys o st ⟨.box id 1000000,some (id,.box (t+1000000) []),[id],false⟩:=by
 refine⟨fun i r e=>by injection e with e;injection e with e1 e2;subst e1 e2;exact⟨mf ..,zE.1 ht⟩,fun st1 h1 h2 _ a w ⟨B,T,hi⟩=>?_⟩;rw[← h2 id (mf ..)] at hres;have run:(execOp a.eval o).run C.P w=.ok (.value (hnd w.heap.size 1000000)) (w.alloc (.map #[] 0)):=by
  have:=run_makeMap (P:=C.P) t w;simp[execOp,ho,this,Result.andThen,ak2]
 refine cd run (a06 (us:=[]) hi hres hF (by rw[SV.RepL]) (fun i hi=>by cases (show i∈([]:List Nat) from hi)) hd ?_);unfold Bl;rw[show Nat.blt (t+1000000) 1000000=false from by
  cases h:Nat.blt (t+1000000) 1000000 with
  | false=>rfl
  | true=>have:=zD h;omega]
 exact⟨#[],0,heap_alloc_new w _,rfl⟩
end
def coX (rs':List (Nat×Res)) (st:St) (s:SV):Option SV:=match s.ids with
 | []=>(match coSV st s with
  | some p=>some (.pv p)
  | none=>none)
 | i::is=>bif (i::is).all (fun i=>(am rs' i).isSome) then some s else bif (i::is).all (fun i=>(am rs' i).isNone) then (match coSV st s with
  | some p=>some (.pv p)
  | none=>none) else none
def retX (tab:Tab) (rs':List (Nat×Res)) (st:St) (r:ResultVar):Option SV:=match retS tab st r with
 | some s=>coX rs' st s
 | none=>none
def a8o (tab:Tab) (rs':List (Nat×Res)) (st:St):List ResultVar→Option (List SV)
 | []=>some []
 | r::l=>match retX tab rs' st r,a8o tab rs' st l with
  | some a,some b=>some (a::b)
  | _,_=>none
def ansX (tab:Tab) (rs':List (Nat×Res)) (st:St):List ResultVar→Option SV
 | [r]=>retX tab rs' st r
 | l=>match a8o tab rs' st l with
  | some ss=>some (.tup ss)
  | none=>none
def RetX (tab:Tab) (fn:Func) (rs':List (Nat×Res)) (res:SV):Exit→St→Prop
 | .ret,st | .normal,st=>ansX tab rs' st fn.results.toList=some res∧AllL st.res rs'
 | _,_=>False
section
variable {P:Program} {tab:Tab} {C:Cx} {st:St} {a:Act} {w:World} {B:Nat→Nat} {T:Nat→Sv} {rs':List (Nat×Res)}
theorem acz (hT:ie C.P tab) (hi:InvB C st a w B T) {r:ResultVar} {s:SV} (h:retS tab st r=some s):∃v,(match r with
     | .tmp t=>(pure (a.tmps.getD t undef):Sem Value)
     | .cell x t=>do loadVar t (← asAddr (a.tmps.getD x undef))).run C.P w=.ok v w∧SV.Rep w (Own0 C st B T) B T s v:=by
 cases r with
 | tmp t=>exact⟨_,rfl,hi.slot t s h⟩
 | cell t ty=>
  unfold retS at h;simp only at h;split at h
  ·rename_i id l h1 h2
   split at h
   ·rename_i tz cs h3
    have lk:=Tab.get_ok hT h2;obtain⟨d,hu,hd⟩:=lk.agg;have hsl:=hi.slot t _ h1;rw[SV.Rep,mw rfl] at hsl;replace h3:=yi h3;obtain⟨h3,_,htz⟩:=h3;obtain⟨g1,us,g2,g3⟩:=hi.inn id _ h3;have g2:=g2.bk htz;have hc:∀j v,us[j]?=some v→w.cell? ((⟨B id,0,none⟩:Addr).add j)=some v:=fun j v hv=>by
     rw[ij,g2.cell];simpa using hv
    split at h
    ·rename_i hag
     cases hb:Nat.beq cs.length l.zero.length with
     | false=>rw[hb] at h;cases h
     | true=>
      rw[hb] at h;injection h with h;subst h;refine⟨.agg us.toArray,?_,by rw[SV.Rep];exact⟨us,rfl,g3⟩⟩;simp only[hsl,asAddr];exact mi (n:=l.zero.length) hu (hd.trans hag) (by rw[lk.size,g3.len,zF hb]) hc
    ·rename_i hag
     split at h
     ·rename_i c
      injection h with h;subst h;have g4:=g3;rw[SV.RepL] at g4;obtain⟨u,us',rfl,g5,g6⟩:=g4;refine⟨u,?_,g5⟩;simp only[hsl,asAddr];refine iw hu (hd.trans hag) ?_;have:=hc 0 u rfl;rwa [add_zero] at this
     ·cases h
   ·cases h
  ·cases h
theorem ake (hi:InvB C st a w B T) (hrs:AllL st.res rs') {X:Nat→Prop} (hX:∀b,X b→C.X0 b) {s p:SV} {v:Value} (h:coX rs' st s=some p) (hr:SV.Rep w (Own0 C st B T) B T s v):SV.Rep w (OwnZ X rs' B T) B T p v:=by
 have sub:∀b,OwnZ X rs' B T b→Own0 C st B T b:=fun b hb=>by
  rcases hb with hb | ⟨i,r,h1,h2⟩
  ·exact .inl (hX b hb)
  ·exact .inr ⟨i,r,hrs.at h1,h2⟩
 have val:∀q,coSV st s=some q→(∀i∈s.ids,am rs' i=none)→SV.Rep w (OwnZ X rs' B T) B T (.pv q) v:=fun q hq hn=>by
  rw[SV.Rep];refine Co.rep hi (io hq) hr fun b hb=>⟨sub b hb,fun ⟨i,hi1,r,hr1,hb1⟩=>?_⟩
  rcases hb with hb | ⟨j,q',h1,h2⟩
  ·rcases ((hi.inn i r hr1).lo hb1).1 with g | g
   ·exact absurd (C.old b (hX b hb)) (Nat.not_lt.2 g)
   ·exact C.hM b (hX b hb) g
  ·have:=hi.apart i r j q' b hr1 (hrs.at h1) hb1 h2;rw[← this,hn i hi1] at h1;cases h1
 unfold coX at h;split at h
 ·rename_i hids
  split at h
  ·rename_i q hq
   injection h with h;subst h;exact val q hq (by rw[hids];intro i hi;cases hi)
  ·cases h
 ·rename_i i is hids
  cases h1:(i::is).all (fun i=>(am rs' i).isSome) with
  | true=>
   rw[h1] at h;injection h with h;subst h;exact hr.still ⟨nr _,fun b cs t fr hx hh ht=>⟨rfl,fun hb=>hx (sub b hb)⟩⟩ fun _ _=>⟨rfl,rfl⟩
  | false=>
   rw[h1] at h;simp only[cond_false] at h;cases h2:(i::is).all (fun i=>(am rs' i).isNone) with
   | false=>rw[h2] at h;cases h
   | true=>
    rw[h2] at h;simp only[cond_true] at h;split at h
    ·rename_i q hq
     injection h with h;subst h;exact val q hq fun j hj=>Option.isNone_iff_eq_none.1 (zG.1 h2 j (by rw[← hids];exact hj))
    ·cases h
theorem ag1 (hT:ie C.P tab) (hi:InvB C st a w B T) (hrs:AllL st.res rs') {fn:Func} {res:SV} (h:ansX tab rs' st fn.results.toList=some res):∃v,(results fn a.tmps).run C.P w=.ok v w∧SV.Rep w (OwnZ C.X0 rs' B T) B T res v:=by
 have one:∀{r:ResultVar} {s:SV},retX tab rs' st r=some s→∃v,(match r with
     | .tmp t=>(pure (a.tmps.getD t undef):Sem Value)
     | .cell x t=>do loadVar t (← asAddr (a.tmps.getD x undef))).run C.P w=.ok v w∧SV.Rep w (OwnZ C.X0 rs' B T) B T s v:=fun {r s} h=>by
  unfold retX at h;split at h
  ·rename_i s0 hs
   obtain⟨v,h1,h2⟩:=acz hT hi hs;exact⟨v,h1,ake hi hrs (fun b hb=>hb) h h2⟩
  ·cases h
 have all:∀{l:List ResultVar} {ss:List SV},a8o tab rs' st l=some ss→∃vs:List Value,(l.mapM fun (r:ResultVar)=>match r with
     | .tmp t=>(pure (a.tmps.getD t undef):Sem Value)
     | .cell x t=>do loadVar t (← asAddr (a.tmps.getD x undef))).run C.P w=.ok vs w∧SV.RepL w (OwnZ C.X0 rs' B T) B T ss vs∧vs.length=l.length:=fun {l}=>by
  induction l with
  | nil=>intro ss h;rw[a8o] at h;injection h with h;subst h;exact⟨[],rfl,by rw[SV.RepL],rfl⟩
  | cons r l ih=>
   intro ss h;rw[a8o] at h;split at h
   ·rename_i p ps h1 h2
    injection h with h;subst h;obtain⟨v,g1,g2⟩:=one h1;obtain⟨vs,g3,g4,g5⟩:=ih h2;refine⟨v::vs,?_,SV.RepL.cons g2 g4,by rw[zW,zW,g5]⟩;rw[List.mapM_cons,Sem.run_bind,g1,Result.andThen_ok,Sem.run_bind,g3,Result.andThen_ok,Sem.run_pure]
   ·cases h
 have fin:∀{l:List ResultVar} {vs:List Value},fn.results.toList=l→(l.mapM fun (r:ResultVar)=>match r with
     | .tmp t=>(pure (a.tmps.getD t undef):Sem Value)
     | .cell x t=>do loadVar t (← asAddr (a.tmps.getD x undef))).run C.P w=.ok vs w→(results fn a.tmps).run C.P w=.ok (if h:vs.toArray.size=1 then vs.toArray[0] else .tuple vs.toArray) w:=fun {l vs} e h1=>by
  unfold results;rw[Sem.run_bind,Array.mapM_eq_mapM_toList,map_eq_pure_bind,Sem.run_bind,e];exact congrArg (fun r:Result (List Value)=>(r.andThen fun (a:List Value) w'=>Sem.run C.P (pure a.toArray) w').andThen fun (a:Array Value) w'=>Sem.run C.P (pure (if h:a.size=1 then a[0] else .tuple a)) w') h1
 generalize hl:fn.results.toList=l at h
 match l,h with
 | [r],h=>
  obtain⟨v,g1,g2⟩:=one (show retX tab rs' st r=some res from h);refine⟨v,fin (vs:=[v]) hl ?_,g2⟩;rw[List.mapM_cons,Sem.run_bind,g1,Result.andThen_ok,Sem.run_bind,List.mapM_nil,Sem.run_pure,Result.andThen_ok,Sem.run_pure]
 | [],h=>
  have h:some (SV.tup [])=some res:=h;injection h with h;subst h;refine⟨.tuple #[],?_,by rw[SV.Rep];exact⟨[],rfl,by rw[SV.RepL]⟩⟩;exact fin (vs:=[]) hl rfl
 | r1::r2::l,h=>
  simp only[ansX] at h;split at h
  ·rename_i ss hs
   injection h with h;subst h;obtain⟨vs,g1,g2,g3⟩:=all hs;refine⟨.tuple vs.toArray,?_,by rw[SV.Rep];exact⟨vs,rfl,g2⟩⟩;have:=fin hl g1;rwa [dif_neg (by simp[g3])] at this
  ·cases h
def xcB (rs rs':List (Nat×Res)) (res:SV) (tys:List Nat) (N:Nat):Bool:=(rs.all fun p=>Nat.ble N p.1&&tys.contains p.2.typ)&&(rs'.all fun p=>p.2.ids.all fun i=>(am rs' i).isSome)&&res.ids.all fun i=>(am rs' i).isSome
theorem XCalls.of {Tg:List Nat} {f:FuncId} {args:List SV} {rs:List (Nat×Res)} {res:SV} {fn:Func} {c:Code} (tys:List Nat) (hT:ie P tab) (hm:P.follows .mixedOrders=true) (hcall:fv P f=true) (hf:P.funcs[f]?=some fn) (hb:fn.body=some c) (hn:Nat.ble args.length fn.ntmps=true) (hck:xcB rs rs' res tys fn.ntmps=true) (h:∀D:Dom P Tg 0,LaidG D.w0∧¬D.M 0→(∀i,D.F i→(am rs i).isSome=true)→PW (D.cx fn.ntmps) c (St.initM args rs tys) (RetX tab fn rs' res)):XCalls P Tg f args rs rs' res:=by
 simp only[xcB,be,zG] at hck;refine⟨hcall,hck.2,fun w X B Tk us hX hXT hXL hG hM0 hpre hr hids=>?_⟩;have hn:=zD hn
 let D:Dom P Tg 0:=⟨w,X,hX,hm,hXT,d5 rs B Tk,hXL,fun i=>(am rs i).isSome=true,B,fun _=>undef⟩
 refine calls_of_wp hf hb ?_;have hlen:=hr.len;have hinv:Inv (D.cx fn.ntmps) (St.initM args rs tys) { tmps:=us.toArray++Array.replicate (fn.ntmps - us.toArray.size) undef,defers:=[] } w:=by
  refine⟨B,Tk,⟨⟨by simp;omega,fun t h=>absurd h (Nat.not_lt_zero t)⟩,rfl,⟨Fr.refl _ w,fun i h=>rfl⟩,fun t s e=>?_,fun t s e i hi=>?_,fun i r e=>?_,fun i r e=>hpre.alive i r e,fun i r j q b e1 e2=>hpre.apart i r j q b e1 e2⟩⟩
  ·obtain⟨u,hu,hpr⟩:=hr.at (show args[t]?=some s from e);have hut:(us.toArray++Array.replicate (fn.ntmps - us.toArray.size) undef).getD t undef=u:=by
    have hlt:=(gs hu).1;rw[Array.getD_eq_getD_getElem?,Array.getElem?_append_left (by simpa using hlt)];simp[hu]
   rw[hut];exact hpr
  ·exact hids i (gz (mg (show args[t]?=some s from e)) hi)
  ·exact (hpre.inn i r e).wide (fun b hb _=>.inr ⟨i,r,e,hb⟩) fun b hb=>hb
 refine Code.wp_mono (fun e a w' hq=>?_) (h D ⟨hG,hM0⟩ (fun i h=>h) _ w (fun i r e=>by
  obtain⟨p,h1,h2,h3⟩:=fp (show am rs i=some r from e);have:=(hck.1.1 p h1).2;rw[h3] at this;exact zE.1 this) hinv)
 obtain⟨st,h1,_,B',T',hi⟩:=hq;have fin:ansX tab rs' st fn.results.toList=some res∧AllL st.res rs'→∃v,(results fn a.tmps).run P w'=.ok v w'∧a.defers=[]∧∃B' T',(∀i,(am rs i).isSome=true→B' i=B i)∧res.Rep w' (OwnZ X rs' B' T') B' T' v∧MPre w' X B' T' rs'∧Fr (d5 rs B Tk) w w'∧∀b,d5 rs' B' T' b→d5 rs B Tk b∨w.heap.size≤b:=fun ⟨h1,h2⟩=>by
  obtain⟨v,g1,g2⟩:=ag1 (C:=D.cx fn.ntmps) hT hi h2 h1;have sub:∀b,OwnZ X rs' B' T' b→Own0 (D.cx fn.ntmps) st B' T' b:=fun b hb=>by
   rcases hb with hb | ⟨i,r,k1,k2⟩
   ·exact .inl hb
   ·exact .inr ⟨i,r,h2.at k1,k2⟩
  refine⟨v,g1,hi.dfr,B',T',fun i hi2=>?_,g2,⟨fun i r k1=>(hi.inn i r (h2.at k1)).wide (fun _ _ _=>trivial) sub,fun i r k1 j hj=>?_,fun i r j q b k1 k2 k3 k4=>hi.apart i r j q b (h2.at k1) (h2.at k2) k3 k4⟩,hi.gr.fr,fun b ⟨i,r,k1,k2⟩=>((hi.inn i r (h2.at k1)).lo k2).1.symm⟩
  ·obtain⟨r,hr⟩:=Option.isSome_iff_exists.1 hi2;obtain⟨p,k1,k2,k3⟩:=fp hr;exact hi.gr.fix i ⟨hi2,by rw[← k2];exact zD (hck.1.1 p k1).1⟩
  ·obtain⟨p,k2,k3,k4⟩:=fp k1;exact hck.1.2 p k2 j (by rw[k4];exact hj)
 cases e with
 | ret=>
  obtain⟨v,g1,g2,B',T',g3⟩:=fin h1;exact bodyPost_ret g1 g2 ⟨v,B',T',rfl,g3⟩
 | normal=>
  obtain⟨v,g1,g2,B',T',g3⟩:=fin h1;exact bodyPost_end g1 g2 ⟨v,B',T',rfl,g3⟩
 | _=>exact h1.elim
end
end Go.Proofs.YtbhbainhmfjpdaaGreatDoor
