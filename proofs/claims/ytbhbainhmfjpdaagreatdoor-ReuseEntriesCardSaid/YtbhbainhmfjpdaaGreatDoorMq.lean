/- Walks of the search and of what it calls, part 17. -/
import Derived.Test.YtbhbainhmfjpdaaGreatDoorMp
set_option linter.unusedVariables false
set_option linter.unusedSimpArgs false
set_option maxRecDepth 100000
set_option maxHeartbeats 8000000
namespace Go.Proofs.YtbhbainhmfjpdaaGreatDoor
open Go.RowKit
def passR (ls:List Lm):Nat→List Bool→List Bool
 | 0,is=>is
 | i+1,is=>bif atZ (passR ls i is) (i:Int) then markF (atZ ls (i:Int)).proof (passR ls i is) else passR ls i is
def roundsR (ls:List Lm):Nat→List Bool→List Bool
 | 0,is=>is
 | n+1,is=>passR ls ls.length (roundsR ls n is)
def usedR (ls:List Lm) (p:List Mm):List Bool:=roundsR ls (ls.length+1) (markF p (List.replicate ls.length false))
theorem bs_ok (is:List Bool):RowOk 1 [] (bsC is):=fun r hr=>by
 obtain⟨b,_,rfl⟩:=List.mem_map.1 hr;exact rowOkB_ok (show rowOkB 1 [] [[bP b]]=true from by kernel_rfl) _ (List.mem_singleton_self _)
theorem passR_len (ls:List Lm):∀(i:Nat) (is:List Bool),(passR ls i is).length=is.length
 | 0,is=>rfl
 | i+1,is=>by
  rw[passR];cases atZ (passR ls i is) (i:Int) with
  | true=>rw[cond_true,markF_len,passR_len ls i]
  | false=>rw[cond_false,passR_len ls i]
theorem roundsR_len (ls:List Lm):∀(n:Nat) (is:List Bool),(roundsR ls n is).length=is.length
 | 0,is=>rfl
 | n+1,is=>by rw[roundsR,passR_len,roundsR_len ls n]
theorem usedR_len (ls:List Lm) (p:List Mm):(usedR ls p).length=ls.length:=by rw[usedR,roundsR_len,markF_len,List.length_replicate]
theorem pass_t {ls:List Lm} {i:Nat} {is:List Bool} (h:atZ (passR ls i is) (i:Int)=true):markF (atZ ls (i:Int)).proof (passR ls i is)=passR ls (i+1) is:=by rw[passR,h];rfl
theorem pass_f {ls:List Lm} {i:Nat} {is:List Bool} (h:atZ (passR ls i is) (i:Int)=false):passR ls i is=passR ls (i+1) is:=by rw[passR,h];rfl
theorem r_used {ls:List Lm} {e:Bool} {p:List Mm} (l9:ls.length≤100000) (p9:p.length≤100000) (hp:∀m∈ls,m.proof.length≤100000):PCalls Tryz.prog [] 91 [.agg [lmsP ls,iP 0,iP 0,bP false,.nat 0,.nat 0,.rows 46 9 ndT [],bP e,mmsP p]] (.rows 4 1 [] (bsC (usedR ls p))):=by
 have il:(markF p (List.replicate ls.length false)).length=ls.length:=by rw[markF_len,List.length_replicate]
 refine pcA [46,4] Tryz.func91 (fun D=>?_);refine pa Y Y (pr0 (qg 3 ?_));refine rmk0 (n:=(ls.map lmC).length) 1000 (by rw[List.length_map];show ls.length*1≤_;omega) (info_of (by kernel_rfl)) Y Y Y Y Y Y Y Y Y Y Y ?_;refine qg 1 ?_;refine rn Y (pr0 (qg 3 ?_));refine rk0 (r_mark (l:=p) (is:=(List.replicate ls.length false)) om (by rw[List.length_replicate];omega)) (bs_ok _) (by rw[List.length_map,List.length_map,markF_len]) Y Y Y Y Y Y Y (congrArg (fun x=>some (Res.tok _ _ _ x)) (by rw[List.length_map];exact rep_bs _)) Y ?_;refine au ?_;refine pl (ι:={n:Nat // n≤ls.length+1}) (fun n=>[(1,.box 1 0),(3,.tok 1000),(4,.pv (iP (n.1:Int)))]) (fun n=>[(1,.box 46 [.pv (lmsP ls),.pv (iP 0),.pv (iP 0),.pv (bP false),.pv (.nat 0),.pv (.nat 0),.pv (.rows 46 9 ndT []),.pv (bP e),.pv (mmsP p)]),(1000,.tok 4 1 [] (bsC (roundsR ls n.1 (markF p (List.replicate ls.length false)))))]) [46,4] (fun n=>ls.length+1 - n.1) ⟨0,nq _⟩ (c3 Y Y Y trivial) (c2 Y Y trivial) (fun _=>rfl) ?_;intro ⟨n,hn0⟩;refine a2 (fun e18=>?_) (fun e18=>?_)
 ·have hn:n≤ls.length:=by have h:(n:Int)≤((ls.map lmC).length:Int):=of_decide_eq_true e18;rw[List.length_map] at h;omega
  refine au ?_;refine pl (ι:={i:Nat // i≤ls.length}) (fun i=>[(1,.box 1 0),(3,.tok 1000),(4,.pv (iP (n:Int))),(5,.pv (iP (i.1:Int)))]) (fun i=>[(1,.box 46 [.pv (lmsP ls),.pv (iP 0),.pv (iP 0),.pv (bP false),.pv (.nat 0),.pv (.nat 0),.pv (.rows 46 9 ndT []),.pv (bP e),.pv (mmsP p)]),(1000,.tok 4 1 [] (bsC (passR ls i.1 (roundsR ls n (markF p (List.replicate ls.length false))))))]) [46,4] (fun i=>ls.length - i.1) ⟨0,nq _⟩ (c4 Y Y Y Y trivial) (c2 Y Y trivial) (fun _=>rfl) ?_;intro ⟨i,hi0⟩;refine a2 (fun e25=>?_) (fun e25=>?_)
  ·have hi:i < ls.length:=lt_of e25;have hb:i < (passR ls i (roundsR ls n (markF p (List.replicate ls.length false)))).length:=by rw[passR_len,roundsR_len,il];exact hi
   refine pk (ps (pb ?_));refine pr0 (qg 2 ?_);refine ro0 Y Y Y (fun hd=>opE_idxE (i:=i) tab_ok Y Y Y Y Y Y dx Y (getmap (f:=fun b=>[bP b]) (get_of hb)) hd) ?_;refine ro0 Y Y Y (fun hd=>opE_loadE (i:=i) (j:=0) tab_ok Y Y Y Y Y Y (getmap (f:=fun b=>[bP b]) (get_of hb)) Y hd) ?_;refine a2 (fun e31=>?_) (fun e31=>?_)
   ·refine ax (c:=(getmap (get_of hi))) ?_;refine qg 2 ?_;refine rk0 (r_mark (l:=(atZ ls (i:Int)).proof) (is:=(passR ls i (roundsR ls n (markF p (List.replicate ls.length false))))) (nt (hp _ (mg (get_of hi))) dx) (by rw[passR_len,roundsR_len,il];omega)) (bs_ok _) (by rw[List.length_map,List.length_map,markF_len]) Y Y Y Y Y Y Y Y Y ?_;refine aa (c:=ari_succ (by show i≤_;omega)) ?_;refine au ?_;exact pe ⟨i+1,hi⟩ (c4 Y Y Y Y trivial) (ai Y (ai (congrArg (fun x=>some (Res.tok 4 1 [] (bsC x))) (pass_t e31)) trivial)) Y (by show ls.length - (i+1) < ls.length - i;omega)
   ·refine aa (c:=ari_succ (by show i≤_;omega)) ?_;refine au ?_;exact pe ⟨i+1,hi⟩ (c4 Y Y Y Y trivial) (ai Y (ai (congrArg (fun x=>some (Res.tok 4 1 [] (bsC x))) (pass_f e31)) trivial)) Y (by show ls.length - (i+1) < ls.length - i;omega)
  ·have hj:ls.length≤i:=ge_of e25;refine aa (c:=ari_succ (by show n≤_;omega)) ?_;refine au ?_;exact pe ⟨n+1,by omega⟩ (c3 Y Y Y trivial) (ai Y (ai (congrArg (fun x=>some (Res.tok 4 1 [] (bsC x))) (show (passR ls i (roundsR ls n (markF p (List.replicate ls.length false))))=(roundsR ls (n+1) (markF p (List.replicate ls.length false))) from by rw[show i=ls.length from by omega];rfl)) trivial)) Y (by show ls.length+1 - (n+1) < ls.length+1 - n;omega)
 ·have hn:ls.length < n:=by have h:¬(n:Int)≤((ls.map lmC).length:Int):=of_decide_eq_false e18;rw[List.length_map] at h;omega
  exact ar (c:=congrArg (fun x=>PV.rows 4 1 [] (bsC x)) (show (roundsR ls n (markF p (List.replicate ls.length false)))=usedR ls p from by rw[show n=ls.length+1 from by omega];rfl))
theorem ren_t {to:List Int} {x:Int} (h1:decide (0 < x)=true) (h2:decide (x≤((to.map fun z=>[iP z]).length:Int))=true):atZ to (x - 1)=reN to x:=by
 rw[List.length_map] at h2;have h3:decide (1≤x)=true:=dt (by have:=of_decide_eq_true h1;omega);unfold reN;rw[h3,h2];rfl
theorem ren_f {to:List Int} {x:Int} (h1:decide (0 < x)=false):x=reN to x:=by
 have h3:decide (1≤x)=false:=df (by have:=of_decide_eq_false h1;omega);unfold reN;rw[h3];rfl
theorem ren_g {to:List Int} {x:Int} (h2:decide (x≤((to.map fun z=>[iP z]).length:Int))=false):x=reN to x:=by
 rw[List.length_map] at h2;unfold reN;rw[h2,Bool.and_false];rfl
theorem to_at {to:List Int} {x:Int} (h1:decide (0 < x)=true) (h2:decide (x≤((to.map fun z=>[iP z]).length:Int))=true):(to.map fun z=>[iP z])[(x - 1).toNat]?=some [iP (atZ to (x - 1))]:=by
 rw[List.length_map] at h2;have h1:=of_decide_eq_true h1;have h2:=of_decide_eq_true h2;exact getmap (f:=fun z=>[iP z]) (atZ_in om om rfl)
theorem r_renumbered {l:List Mm} {to:List Int} (h9:l.length≤1000000) (h8:to.length≤1000000):PCalls Tryz.prog [] 92 [mmsP l,intsP to] (mmsP (l.map (renM to))):=by
 refine pcA [98] Tryz.func92 (fun D=>?_);refine au ?_;refine tks (t:=5) (id:=88) (e:=98) (k:=7) (ts:=[200]) Y ?_;refine pl (ι:={i:Nat // i≤l.length}) (fun i=>[(0,.pv (mmsP l)),(1,.pv (intsP to)),(5,.tok 88),(6,.pv (iP (i.1:Int)))]) (fun i=>[(88,.tok 98 7 [200] (((l.take i.1).map (renM to)).map mmC))]) [98] (fun i=>l.length - i.1) ⟨0,nq _⟩ (c4 Y Y Y Y trivial) (ai Y trivial) (fun _=>rfl) ?_;intro ⟨i,hi0⟩;refine a2 (fun e11=>?_) (fun e11=>?_)
 ·have hi:i < l.length:=lt_of e11;refine ax (c:=(getmap (get_of hi))) ?_;refine qg 3 ?_;refine rn Y ?_
  apply pcut (sl:=[(7,_),(0,_),(1,_),(5,_),(6,_)]) (rs:=[(7,.box 98 [.pv (iP (atZ l (i:Int)).1.kind),.pv (iP (atZ l (i:Int)).1.index),.pv (iP (reN to (atZ l (i:Int)).1.lo)),.pv (iP (atZ l (i:Int)).1.hi),.pv (bP (atZ l (i:Int)).2.neg),.pv (.nat (atZ l (i:Int)).2.num),.pv (.nat (atZ l (i:Int)).2.den)]),(88,_)])
  case h1=>
   refine a2 (fun e22=>?_) (fun e22=>?_)
   ·refine a2 (fun e29=>?_) (fun e29=>?_)
    ·have k1:=of_decide_eq_true e22;have k2:(atZ l (i:Int)).1.lo≤((to.map fun z=>[iP z]).length:Int):=of_decide_eq_true e29;rw[List.length_map] at k2;refine aa (c:=ari_sub om om om om) ?_;refine ro0 Y Y Y (fun hd=>opE_idx (i:=((atZ l (i:Int)).1.lo - 1).toNat) tab_ok Y Y Y Y Y dx (Int.toNat_of_nonneg (by have:=of_decide_eq_true e22;omega)).symm (to_at e22 e29) hd) ?_;refine au ?_;refine Sub.of ?_ ?_ ?_
     ·exact (c5 Y Y Y Y Y trivial)
     ·exact (ai (congrArg (fun z=>some (Res.box 98 [.pv (iP (atZ l (i:Int)).1.kind),.pv (iP (atZ l (i:Int)).1.index),.pv (iP z),.pv (iP (atZ l (i:Int)).1.hi),.pv (bP (atZ l (i:Int)).2.neg),.pv (.nat (atZ l (i:Int)).2.num),.pv (.nat (atZ l (i:Int)).2.den)])) (ren_t e22 e29)) (ai (rfl) trivial))
     ·rfl
    ·refine au ?_;refine Sub.of ?_ ?_ ?_
     ·exact (c5 Y Y Y Y Y trivial)
     ·exact (ai (congrArg (fun z=>some (Res.box 98 [.pv (iP (atZ l (i:Int)).1.kind),.pv (iP (atZ l (i:Int)).1.index),.pv (iP z),.pv (iP (atZ l (i:Int)).1.hi),.pv (bP (atZ l (i:Int)).2.neg),.pv (.nat (atZ l (i:Int)).2.num),.pv (.nat (atZ l (i:Int)).2.den)])) (ren_g e29)) (ai (rfl) trivial))
     ·rfl
   ·refine au ?_;refine Sub.of ?_ ?_ ?_
    ·exact (c5 Y Y Y Y Y trivial)
    ·exact (ai (congrArg (fun z=>some (Res.box 98 [.pv (iP (atZ l (i:Int)).1.kind),.pv (iP (atZ l (i:Int)).1.index),.pv (iP z),.pv (iP (atZ l (i:Int)).1.hi),.pv (bP (atZ l (i:Int)).2.neg),.pv (.nat (atZ l (i:Int)).2.num),.pv (.nat (atZ l (i:Int)).2.den)])) (ren_f e22)) (ai (rfl) trivial))
    ·rfl
  case h2=>
   apply pcut (sl:=[(7,_),(0,_),(1,_),(5,_),(6,_)]) (rs:=[(7,.box 98 [.pv (iP (atZ l (i:Int)).1.kind),.pv (iP (atZ l (i:Int)).1.index),.pv (iP (reN to (atZ l (i:Int)).1.lo)),.pv (iP (reN to (atZ l (i:Int)).1.hi)),.pv (bP (atZ l (i:Int)).2.neg),.pv (.nat (atZ l (i:Int)).2.num),.pv (.nat (atZ l (i:Int)).2.den)]),(88,_)])
   case h1=>
    refine a2 (fun e43=>?_) (fun e43=>?_)
    ·refine a2 (fun e50=>?_) (fun e50=>?_)
     ·have k3:=of_decide_eq_true e43;have k4:(atZ l (i:Int)).1.hi≤((to.map fun z=>[iP z]).length:Int):=of_decide_eq_true e50;rw[List.length_map] at k4;refine aa (c:=ari_sub om om om om) ?_;refine ro0 Y Y Y (fun hd=>opE_idx (i:=((atZ l (i:Int)).1.hi - 1).toNat) tab_ok Y Y Y Y Y dx (Int.toNat_of_nonneg (by have:=of_decide_eq_true e43;omega)).symm (to_at e43 e50) hd) ?_;refine au ?_;refine Sub.of ?_ ?_ ?_
      ·exact (c5 Y Y Y Y Y trivial)
      ·exact (ai (congrArg (fun z=>some (Res.box 98 [.pv (iP (atZ l (i:Int)).1.kind),.pv (iP (atZ l (i:Int)).1.index),.pv (iP (reN to (atZ l (i:Int)).1.lo)),.pv (iP z),.pv (bP (atZ l (i:Int)).2.neg),.pv (.nat (atZ l (i:Int)).2.num),.pv (.nat (atZ l (i:Int)).2.den)])) (ren_t e43 e50)) (ai (rfl) trivial))
      ·rfl
     ·refine au ?_;refine Sub.of ?_ ?_ ?_
      ·exact (c5 Y Y Y Y Y trivial)
      ·exact (ai (congrArg (fun z=>some (Res.box 98 [.pv (iP (atZ l (i:Int)).1.kind),.pv (iP (atZ l (i:Int)).1.index),.pv (iP (reN to (atZ l (i:Int)).1.lo)),.pv (iP z),.pv (bP (atZ l (i:Int)).2.neg),.pv (.nat (atZ l (i:Int)).2.num),.pv (.nat (atZ l (i:Int)).2.den)])) (ren_g e50)) (ai (rfl) trivial))
      ·rfl
    ·refine au ?_;refine Sub.of ?_ ?_ ?_
     ·exact (c5 Y Y Y Y Y trivial)
     ·exact (ai (congrArg (fun z=>some (Res.box 98 [.pv (iP (atZ l (i:Int)).1.kind),.pv (iP (atZ l (i:Int)).1.index),.pv (iP (reN to (atZ l (i:Int)).1.lo)),.pv (iP z),.pv (bP (atZ l (i:Int)).2.neg),.pv (.nat (atZ l (i:Int)).2.num),.pv (.nat (atZ l (i:Int)).2.den)])) (ren_f e43)) (ai (rfl) trivial))
     ·rfl
   case h2=>
    refine au ?_;refine rp0 el_Mult (by simp;omega) Y Y Y Y Y Y Y Y ?_;refine aa (c:=ari_succ (by show i≤_;omega)) ?_;refine au ?_;exact pe ⟨i+1,hi⟩ (c4 Y Y Y Y trivial) (ai (congrArg (fun x=>some (Res.tok 98 7 [200] x)) (show ((l.take i).map (renM to)).map mmC++[mmC (renM to (atZ l (i:Int)))]=((l.take (i+1)).map (renM to)).map mmC from by rw[List.take_add_one,get_of hi,List.map_append,List.map_append];rfl)) trivial) Y (by show l.length - (i+1) < l.length - i;omega)
 ·have hj:l.length≤i:=ge_of e11;exact ar (c:=congrArg mmsP (by rw[List.take_of_length_le hj]))
def redU (is:List Bool) (x:En):En:=⟨x.path,keepL (numsR is) is x.lems,x.empty,x.proof.map (renM (numsR is))⟩
theorem r_reduced {x:En} (h9:x.lems.length≤1000) (hx:EnOk x):PCalls Tryz.prog [] 43 [enP x] (enP (redU (usedR x.lems x.proof) x)):=by
 have hl:(usedR x.lems x.proof).length=x.lems.length:=usedR_len _ _;have hm:=r_used (e:=x.empty) (p:=x.proof) (show x.lems.length≤100000 by omega) (nt hx.proof.len dx) (fun m hm=>nt (hx.lems m hm).proof.len dx);generalize usedR x.lems x.proof=is at*;refine pcA [77,4,3,46,100] Tryz.func43 (fun D=>?_);refine ac (c:=hm) ?_;refine qg 1 ?_;refine rn Y (pr0 (qg 2 ?_));refine rmk0 (n:=(bsC is).length) 31 (by rw[List.length_map];show is.length*1≤_;omega) (info_of (by kernel_rfl)) Y Y Y Y Y Y Y Y Y Y Y ?_;refine au ?_;refine pwk ?_;refine pl (ι:={p:Nat×Nat×List Int // p.1≤is.length∧p.2.1≤p.1∧p.2.2.length=p.1∧p.2.2++numsG p.2.1 (is.drop p.1)=numsR is}) (fun p=>[(1,.box 1 0),(2,.box 2 0),(3,.pv (.rows 4 1 [] (bsC is))),(4,.tok 31),(5,.pv (iP (p.1.2.1:Int))),(6,.pv (iP (p.1.1:Int)))]) (fun p=>[(1,.box 77 [.pv (dcsP x.path),.pv (lmsP x.lems),.pv (iP 0),.pv (iP 0),.pv (bP false),.pv (.nat 0),.pv (.nat 0),.pv (.rows 46 9 ndT []),.pv (bP x.empty),.pv (mmsP x.proof)]),(2,.box 77 [.pv (dcsP []),.pv (lmsP []),.pv (iP 0),.pv (iP 0),.pv (bP false),.pv (.nat 0),.pv (.nat 0),.pv (.rows 46 9 ndT []),.pv (bP false),.pv (mmsP [])]),(31,.tok 3 1 [] (isC (p.1.2.2++List.replicate (is.length - p.1.1) 0)))]) [77,4,3,46,100] (fun p=>is.length - p.1.1) ⟨(0,0,[]),nq _,nr _,rfl,rfl⟩ (c6 Y Y Y Y Y Y trivial) (c2 Y Y (ai (congrArg (fun x=>some (Res.tok _ _ _ x)) (by rw[List.length_map];exact rep_is _)) trivial)) (fun _=>rfl) ?_;intro ⟨(i,n,done),hi0,hn,hd0,hg⟩;simp only at hi0 hn hd0 hg;refine a2 (fun e19=>?_) (fun e19=>?_)
 ·have hi:i < is.length:=by have h:(i:Int) < ((bsC is).length:Int):=of_decide_eq_true e19;rw[List.length_map] at h;omega
  refine ax (c:=(getmap (get_of hi))) ?_;refine a2 (fun e25=>?_) (fun e25=>?_)
  ·refine aa (c:=ari_succ (by show n≤_;omega)) ?_;refine qg 1 ?_;refine rn Y (pr0' (qg 3 ?_));refine ro0 Y Y Y (fun hd=>opE_idxE (i:=i) tab_ok Y Y Y Y Y Y dx Y (numz_at hd0 hi) hd) ?_;refine ro0 Y Y Y (fun hd=>opE_storeE (i:=i) (j:=0) tab_ok Y Y Y Y Y Y Y (numz_at hd0 hi) Y Y Y Y Y) ?_;refine aa (c:=ari_succ (by show i≤_;omega)) ?_;refine au ?_;exact pe ⟨(i+1,n+1,done++[((n+1:Nat):Int)]),hi,by show n+1≤i+1;omega,by show (done++_).length=i+1;rw[List.length_append,hd0];rfl,nums_step hi e25 hg⟩ (c6 Y Y Y Y Y Y trivial) (c2 Y Y (ai (congrArg (fun x=>some (Res.tok _ _ _ x)) (numz_set hd0 hi)) trivial)) Y (by show is.length - (i+1) < is.length - i;omega)
  ·refine aa (c:=ari_succ (by show i≤_;omega)) ?_;refine au ?_;exact pe ⟨(i+1,n,done++[0]),hi,by show n≤i+1;omega,by show (done++_).length=i+1;rw[List.length_append,hd0];rfl,nums_step hi e25 hg⟩ (c6 Y Y Y Y Y Y trivial) (c2 Y Y (ai (congrArg (fun x=>some (Res.tok _ _ _ x)) (numz_keep hi)) trivial)) Y (by show is.length - (i+1) < is.length - i;omega)
 ·have hj:is.length≤i:=by have h:¬(i:Int) < ((bsC is).length:Int):=of_decide_eq_false e19;rw[List.length_map] at h;omega
  have ht:=nums_end hj hg;refine ac (c:=r_renumbered (to:=done++List.replicate (is.length - i) 0) (nt hx.proof.len dx) (by simp;omega)) ?_;refine au ?_;refine tkb (b:=7) (off:=0) (id:=88) (e:=100) (k:=6) (ts:=[200,98]) Y ?_;refine pl (ι:={p:Nat×List Lm // p.1≤x.lems.length∧p.2.length≤p.1∧p.2++keepL (numsR is) (is.drop p.1) (x.lems.drop p.1)=keepL (numsR is) is x.lems}) (fun p=>[(1,.box 1 0),(2,.box 2 0),(3,.pv (.rows 4 1 [] (bsC is))),(4,.tok 31),(7,.box 7 0),(8,.pv (iP (p.1.1:Int)))]) (fun p=>[(1,.box 77 [.pv (dcsP x.path),.pv (lmsP x.lems),.pv (iP 0),.pv (iP 0),.pv (bP false),.pv (.nat 0),.pv (.nat 0),.pv (.rows 46 9 ndT []),.pv (bP x.empty),.pv (mmsP x.proof)]),(2,.box 77 [.pv (dcsP []),.pv (lmsP []),.pv (iP 0),.pv (iP 0),.pv (bP false),.pv (.nat 0),.pv (.nat 0),.pv (.rows 46 9 ndT []),.pv (bP false),.pv (mmsP [])]),(31,.tok 3 1 [] (isC (numsR is))),(7,.box 46 [.tok 88,.pv (iP 0),.pv (iP 0),.pv (bP false),.pv (.nat 0),.pv (.nat 0),.nil 46 9 ndT,.pv (bP x.empty),.pv (mmsP (x.proof.map (renM (numsR is))))]),(88,.tok 100 6 [200,98] (p.1.2.map lmC))]) [77,4,3,46,100] (fun p=>x.lems.length - p.1.1) ⟨(0,[]),nq _,nr _,rfl⟩ (c6 Y Y Y Y Y Y trivial) (c2 Y Y (ai (congrArg (fun t=>some (Res.tok _ _ _ (isC t))) ht) (ai (congrArg (fun t=>some (Res.box _ [.tok 88,.pv (iP 0),.pv (iP 0),.pv (bP false),.pv (.nat 0),.pv (.nat 0),.nil 46 9 ndT,.pv (bP x.empty),.pv (mmsP (x.proof.map (renM t)))])) ht) (ai Y trivial)))) (fun _=>rfl) ?_;intro ⟨(i,acc),hi0,ha9,hg⟩;simp only at hi0 ha9 hg;refine a2 (fun e44=>?_) (fun e44=>?_)
  ·have hi:i < x.lems.length:=by have h:(i:Int) < ((bsC is).length:Int):=of_decide_eq_true e44;rw[List.length_map] at h;omega
   refine ax (c:=(getmap (get_of (show i < is.length by omega)))) ?_;refine a2 (fun e50=>?_) (fun e50=>?_)
   ·refine ax (c:=(getmap (get_of hi))) ?_;refine ac (c:=r_renumbered (to:=(numsR is)) (nt (hx.lems _ (atZ_mem (l:=x.lems) (z:=(i:Int)) om om)).proof.len dx) (by rw[← ht];simp;omega)) ?_;refine au ?_;refine rp0 el_Lemma (by simp;omega) Y Y Y Y Y Y Y Y ?_;refine aa (c:=ari_succ (by show i≤_;omega)) ?_;refine au ?_;exact pe ⟨(i+1,acc++[renL (numsR is) (atZ x.lems (i:Int))]),hi,by show (acc++_).length≤i+1;rw[List.length_append];exact Nat.succ_le_succ ha9,keep_step hl hi e50 hg⟩ (c6 Y Y Y Y Y Y trivial) (c4 Y Y Y Y (ai (congrArg (fun x=>some (Res.tok _ _ _ x)) (show acc.map lmC++[lmC (renL (numsR is) (atZ x.lems (i:Int)))]=(acc++[renL (numsR is) (atZ x.lems (i:Int))]).map lmC from by rw[List.map_append];rfl)) trivial)) Y (by show x.lems.length - (i+1) < x.lems.length - i;omega)
   ·refine aa (c:=ari_succ (by show i≤_;omega)) ?_;refine au ?_;exact pe ⟨(i+1,acc),hi,Nat.le_succ_of_le ha9,keep_step hl hi e50 hg⟩ (c6 Y Y Y Y Y Y trivial) (c5 Y Y Y Y Y trivial) Y (by show x.lems.length - (i+1) < x.lems.length - i;omega)
  ·have hj:x.lems.length≤i:=by have h:¬(i:Int) < ((bsC is).length:Int):=of_decide_eq_false e44;rw[List.length_map] at h;omega
   exact ar (c:=congrArg (fun l=>enP ⟨x.path,l,x.empty,x.proof.map (renM (numsR is))⟩) (keep_end hl hj hg))
abbrev On (is:List Bool) (i:Nat):Prop:=is[i]?=some true
def Ment (l:List Mm) (j:Nat):Prop:=∃m∈l,m.1.lo=(j:Int)+1∨m.1.hi=(j:Int)+1
theorem on_lt {is:List Bool} {i:Nat} (h:On is i):i < is.length:=(gs h).1
theorem on_set {is:List Bool} {i j:Nat} (h:On is j):On (is.set i true) j:=by
 have hl:=on_lt h;show (is.set i true)[j]?=some true;rw[List.getElem?_set];by_cases hij:i=j
 ·subst hij;rw[if_pos rfl,if_pos hl]
 ·rw[if_neg hij];exact h
theorem on_set_self {is:List Bool} {i:Nat} (h:i < is.length):On (is.set i true) i:=by
 show (is.set i true)[i]?=some true;rw[List.getElem?_set,if_pos rfl,if_pos h]
theorem on_of_set {is:List Bool} {i j:Nat} (h:On (is.set i true) j):j=i∨On is j:=by
 by_cases hij:i=j
 ·exact .inl hij.symm
 ·refine .inr ?_;have h:(is.set i true)[j]?=some true:=h;rw[List.getElem?_set,if_neg hij] at h;exact h
def Ser (ls:List Lm) (one:Int→List Bool→List Bool) (k:Nat):Prop:=∀x is,is.length=ls.length→cntF is≤k→
 (one x is).length=ls.length∧cntF (one x is)≤cntF is∧(∀i,On is i→On (one x is) i)∧(∀j:Nat,j < ls.length→x=(j:Int)+1→On (one x is) j)∧
 (∀i,On (one x is) i→¬On is i→∀j,j < ls.length→Ment (atZ ls (i:Int)).proof j→On (one x is) j)∧
 (∀R:Nat→Prop,(∀i j,R i→j < ls.length→Ment (atZ ls (i:Int)).proof j→R j)→(∀i,On is i→R i)→(∀j:Nat,j < ls.length→x=(j:Int)+1→R j)→∀i,On (one x is) i→R i)
theorem ser_add {ls:List Lm} {one:Int→List Bool→List Bool} {k:Nat} (h:Ser ls one k):∀(l:List Mm) (is:List Bool),is.length=ls.length→cntF is≤k→
 (addM one l is).length=ls.length∧cntF (addM one l is)≤cntF is∧(∀i,On is i→On (addM one l is) i)∧(∀j:Nat,j < ls.length→Ment l j→On (addM one l is) j)∧
 (∀i,On (addM one l is) i→¬On is i→∀j,j < ls.length→Ment (atZ ls (i:Int)).proof j→On (addM one l is) j)∧
 (∀R:Nat→Prop,(∀i j,R i→j < ls.length→Ment (atZ ls (i:Int)).proof j→R j)→(∀i,On is i→R i)→(∀j:Nat,j < ls.length→Ment l j→R j)→∀i,On (addM one l is) i→R i)
 | [],is,h1,h2=>⟨h1,nr _,fun _ h=>h,fun j _ ⟨m,hm,_⟩=>(by cases hm),fun i h1 h2=>(h2 h1).elim,fun R _ h _=>h⟩
 | m::l,is,h1,h2=>by
  obtain⟨a1,a2,a3,a4,a5,a6⟩:=h m.1.lo is h1 h2;obtain⟨b1,b2,b3,b4,b5,b6⟩:=h m.1.hi _ a1 (nt a2 h2);obtain⟨c1,c2,c3,c4,c5,c6⟩:=ser_add h l _ b1 om;rw[addM];refine⟨c1,by omega,fun i hi=>c3 i (b3 i (a3 i hi)),fun j hj ⟨q,hq,he⟩=>?_,fun i hi hn j hj hm=>?_,fun R hR h0 hl=>c6 R hR (b6 R hR (a6 R hR h0 fun j hj e=>hl j hj ⟨m,mf ..,.inl e⟩) fun j hj e=>hl j hj ⟨m,mf ..,.inr e⟩) fun j hj ⟨q,hq,he⟩=>hl j hj ⟨q,List.mem_cons_of_mem _ hq,he⟩⟩
  ·rcases List.mem_cons.1 hq with rfl | hq
   ·rcases he with he | he
    ·exact c3 _ (b3 _ (a4 j hj he))
    ·exact c3 _ (b4 j hj he)
   ·exact c4 j hj ⟨q,hq,he⟩
  ·by_cases g2:On (one m.1.hi (one m.1.lo is)) i
   ·by_cases g1:On (one m.1.lo is) i
    ·exact c3 _ (b3 _ (a5 i g1 hn j hj hm))
    ·exact c3 _ (b5 i g2 g1 j hj hm)
   ·exact c5 i hi g2 j hj hm
theorem ser_one {ls:List Lm}:∀k,Ser ls (oneM ls k) k
 | 0,x,is,h1,h2=>by
  refine⟨h1,nr _,fun _ h=>h,fun j hj hx=>?_,fun i h1 h2=>(h2 h1).elim,fun R _ h _=>h⟩;show is[j]?=some true;have hj':j < is.length:=by omega
  rw[ge hj'];cases hb:is[j] with
  | true=>rfl
  | false=>
   have:=cnt_set (is:=is) (i:=j) (by rw[ge hj',hb]);omega
 | k+1,x,is,h1,h2=>by
  rw[oneM];cases hh:hitM ls x is with
  | false=>
   rw[cond_false];refine⟨h1,nr _,fun _ h=>h,fun j hj hx=>?_,fun i h1 h2=>(h2 h1).elim,fun R _ h _=>h⟩;subst hx;rw[hitM,dt om,dt om,Bool.true_and,Bool.true_and,Bool.not_eq_false',show (j:Int)+1 - 1=(j:Int) from by omega] at hh;show is[j]?=some true;rw[← hh,get_of om]
  | true=>
   rw[cond_true];simp only[hitM,be,de,Bool.not_eq_true'] at hh;obtain⟨g1,g2,g3⟩:=hh;obtain⟨z,rfl⟩:∃z:Nat,x=(z:Int)+1:=⟨(x - 1).toNat,by omega⟩;rw[show (z:Int)+1 - 1=(z:Int) from by omega] at g3 ⊢;rw[show ((z:Int)).toNat=z from rfl];have hz:z < is.length:=by omega
   have h3:is[z]?=some false:=by rw[get_of hz,g3]
   have h4:=cnt_set h3;obtain⟨c1,c2,c3,c4,c5,c6⟩:=ser_add (ser_one k) (atZ ls (z:Int)).proof (is.set z true) (by rw[List.length_set];exact h1) om;refine⟨c1,by omega,fun i hi=>c3 i (on_set hi),fun j hj e=>?_,fun i hi hn j hj hm=>?_,fun R hR h0 hx=>c6 R hR (fun i hi=>?_) fun j hj hm=>hR z j (hx z om rfl) hj hm⟩
   ·obtain rfl:z=j:=by omega
    exact c3 _ (on_set_self hz)
   ·by_cases g:On (is.set z true) i
    ·rcases on_of_set g with rfl | g
     ·exact c4 j hj hm
     ·exact (hn g).elim
    ·exact c5 i hi g j hj hm
   ·rcases on_of_set hi with rfl | g
    ·exact hx i om rfl
    ·exact h0 i g
theorem not_on_rep {n i:Nat}:¬On (List.replicate n false) i:=fun h=>by
 have h:(List.replicate n false)[i]?=some true:=h;rw[List.getElem?_replicate] at h;split at h
 ·cases h
 ·cases h
theorem mk1_on {is:List Bool} {z:Int} {i:Nat} (h:On is i):On (mk1 is z) i:=by
 unfold mk1;cases decide (0 < z)&&decide (z≤(is.length:Int)) with
 | true=>exact on_set h
 | false=>exact h
theorem mk1_self {is:List Bool} {j:Nat} (h:j < is.length):On (mk1 is ((j:Int)+1)) j:=by
 unfold mk1;rw[dt om,dt om,show ((j:Int)+1 - 1).toNat=j from by omega];exact on_set_self h
theorem mk1_of {is:List Bool} {z:Int} {i:Nat} (h:On (mk1 is z) i):On is i∨z=(i:Int)+1∧i < is.length:=by
 unfold mk1 at h;cases hh:decide (0 < z)&&decide (z≤(is.length:Int)) with
 | true=>
  rw[hh,cond_true] at h;simp only[be,de] at hh;rcases on_of_set h with rfl | h
  ·exact .inr ⟨by omega,by omega⟩
  ·exact .inl h
 | false=>rw[hh] at h;exact .inl h
theorem markF_on:∀(l:List Mm) {is:List Bool} {i:Nat},On is i→On (markF l is) i
 | [],_,_,h=>h
 | m::l,_,_,h=>markF_on l (mk1_on (mk1_on h))
theorem markF_self:∀(l:List Mm) {is:List Bool} {j:Nat},j < is.length→Ment l j→On (markF l is) j
 | [],_,_,_,⟨m,hm,_⟩=>by cases hm
 | m::l,is,j,hj,⟨q,hq,he⟩=>by
  rw[markF];rcases List.mem_cons.1 hq with rfl | hq
  ·rcases he with he | he
   ·rw[he];exact markF_on l (mk1_on (mk1_self hj))
   ·rw[he];exact markF_on l (mk1_self (by rw[mk1_len];exact hj))
  ·exact markF_self l (by rw[mk1_len,mk1_len];exact hj) ⟨q,hq,he⟩
theorem markF_of:∀(l:List Mm) {is:List Bool} {i:Nat},On (markF l is) i→On is i∨Ment l i∧i < is.length
 | [],_,_,h=>.inl h
 | m::l,is,i,h=>by
  rw[markF] at h;rcases markF_of l h with h | ⟨⟨q,hq,he⟩,hl⟩
  ·rcases mk1_of h with h | ⟨h,hl⟩
   ·rcases mk1_of h with h | ⟨h,hl⟩
    ·exact .inl h
    ·exact .inr ⟨⟨m,mf ..,.inl h⟩,hl⟩
   ·exact .inr ⟨⟨m,mf ..,.inr h⟩,by rw[mk1_len] at hl;exact hl⟩
  ·exact .inr ⟨⟨q,List.mem_cons_of_mem _ hq,he⟩,by rw[mk1_len,mk1_len] at hl;exact hl⟩
theorem on_at {is:List Bool} {i:Nat} (h:On is i):atZ is (i:Int)=true:=by
 have h1:=get_of (on_lt h);have h:is[i]?=some true:=h;rw[h1] at h;injection h
theorem pass_on (ls:List Lm):∀(n:Nat) {is:List Bool} {i:Nat},On is i→On (passR ls n is) i
 | 0,_,_,h=>h
 | n+1,is,i,h=>by
  rw[passR];cases atZ (passR ls n is) (n:Int) with
  | true=>exact markF_on _ (pass_on ls n h)
  | false=>exact pass_on ls n h
theorem pass_mono {ls:List Lm} {is:List Bool} {i n m:Nat} (hnm:n≤m) (h:On (passR ls n is) i):On (passR ls m is) i:=by
 induction m with
 | zero=>
  obtain rfl:n=0:=by omega
  exact h
 | succ m ih=>
  by_cases e:n=m+1
  ·subst e;exact h
  ·have:=ih om;rw[passR];cases atZ (passR ls m is) (m:Int) with
   | true=>exact markF_on _ this
   | false=>exact this
theorem pass_new {ls:List Lm} {is:List Bool} (hl:is.length=ls.length) {i j:Nat} (hi:On is i) (hj:j < ls.length) (hm:Ment (atZ ls (i:Int)).proof j):On (passR ls ls.length is) j:=by
 have h1:i+1≤ls.length:=by have:=on_lt hi;omega
 refine pass_mono h1 ?_;rw[passR,on_at (pass_on ls i hi)];exact markF_self _ (by rw[passR_len,hl];exact hj) hm
theorem pass_of {ls:List Lm} {R:Nat→Prop} (hR:∀i j,R i→j < ls.length→Ment (atZ ls (i:Int)).proof j→R j):∀(n:Nat) {is:List Bool},is.length=ls.length→n≤ls.length→(∀i,On is i→R i)→∀i,On (passR ls n is) i→R i
 | 0,_,_,_,h,i,hi=>h i hi
 | n+1,is,hl,hn,h,i,hi=>by
  rw[passR] at hi;have ih:=pass_of hR n hl (Nat.le_of_succ_le hn) h;cases hb:atZ (passR ls n is) (n:Int) with
  | true=>
   rw[hb] at hi;rcases markF_of _ hi with h1 | ⟨h1,h2⟩
   ·exact ih i h1
   ·refine hR n i (ih n ?_) (by rw[passR_len] at h2;omega) h1;show (passR ls n is)[n]?=some true;rw[get_of (by rw[passR_len];omega),hb]
  | false=>rw[hb] at hi;exact ih i hi
theorem cnt_lt:∀{is is':List Bool},is'.length=is.length→(∀i,On is i→On is' i)→is'=is∨cntF is' < cntF is
 | [],[],_,_=>.inl rfl
 | [],_::_,h,_=>by cases h
 | _::_,[],h,_=>by cases h
 | b::is,c::is',h,hm=>by
  have h1:=cnt_lt (is:=is) (is':=is') (by simpa using h) fun i hi=>hm (i+1) hi
  have h0:=hm 0;cases b<;>cases c
  ·rcases h1 with rfl | h1
   ·exact .inl rfl
   ·exact .inr (by simpa [cntF] using h1)
  ·refine .inr ?_;rcases h1 with rfl | h1
   ·simp[cntF]
   ·simp only[cntF,List.countP_cons] at h1 ⊢;simp;omega
  ·exact absurd (h0 rfl) (by simp[On])
  ·rcases h1 with rfl | h1
   ·exact .inl rfl
   ·exact .inr (by simpa [cntF] using h1)
theorem cnt_le (is:List Bool):cntF is≤is.length:=List.countP_le_length
theorem rounds_end {ls:List Lm} {is:List Bool} (hl:is.length=ls.length):∀m,passR ls ls.length (roundsR ls m is)=roundsR ls m is∨cntF (roundsR ls m is)+m≤ls.length
 | 0=>.inr (by have:=cnt_le is;rw[roundsR];omega)
 | m+1=>by
  rcases rounds_end hl m with h | h
  ·refine .inl ?_;rw[roundsR,h,h]
  ·have hr:=roundsR_len ls m is;rcases cnt_lt (is:=roundsR ls m is) (is':=roundsR ls (m+1) is) (by rw[roundsR,passR_len]) (fun i hi=>by rw[roundsR];exact pass_on _ _ hi) with e | e
   ·refine .inl ?_;rw[e,← roundsR,e]
   ·exact .inr om
theorem used_marks (ls:List Lm) (p:List Mm):usedR ls p=marksR ls p:=by
 have hl0:(List.replicate ls.length false).length=ls.length:=List.length_replicate;obtain⟨a1,a2,a3,a4,a5,a6⟩:=ser_add (ser_one (ls:=ls) ls.length) p (List.replicate ls.length false) hl0 (by rw[cntF_rep];exact nr _);have hlm:(markF p (List.replicate ls.length false)).length=ls.length:=by rw[markF_len,hl0]
 have hst:passR ls ls.length (usedR ls p)=usedR ls p:=by
  rcases rounds_end hlm (ls.length+1) with h | h
  ·exact h
  ·omega
 have hul:=usedR_len ls p;have hml:=marksR_len ls p;have d1:∀i,On (usedR ls p) i→On (marksR ls p) i:=by
  have hR:∀i j,On (marksR ls p) i→j < ls.length→Ment (atZ ls (i:Int)).proof j→On (marksR ls p) j:=fun i j h=>a5 i h not_on_rep j
  have:∀m i,On (roundsR ls m (markF p (List.replicate ls.length false))) i→On (marksR ls p) i:=fun m=>by
   induction m with
   | zero=>
    intro i hi;rcases markF_of p hi with h | ⟨h1,h2⟩
    ·exact (not_on_rep h).elim
    ·exact a4 i (by rw[hl0] at h2;exact h2) h1
   | succ m ih=>
    intro i hi;exact pass_of hR ls.length (by rw[roundsR_len,hlm]) (nr _) ih i hi
  exact this _
 have d2:∀i,On (marksR ls p) i→On (usedR ls p) i:=by
  refine a6 (On (usedR ls p)) (fun i j hi hj hm=>by rw[← hst];exact pass_new hul hi hj hm) (fun i hi=>(not_on_rep hi).elim) fun j hj hm=>?_
  have:∀m,On (roundsR ls m (markF p (List.replicate ls.length false))) j:=fun m=>by
   induction m with
   | zero=>exact markF_self p (by rw[hl0];exact hj) hm
   | succ m ih=>exact pass_on _ _ ih
  exact this _
 refine List.ext_getElem? fun i=>?_
 by_cases hi:i < ls.length
 ·rw[get_of (l:=usedR ls p) om,get_of (l:=marksR ls p) om];cases h1:atZ (usedR ls p) (i:Int) with
  | true=>rw[on_at (d1 i (by show _=_;rw[get_of om,h1]))]
  | false=>
   cases h2:atZ (marksR ls p) (i:Int) with
   | false=>rfl
   | true=>rw[on_at (d2 i (by show _=_;rw[get_of om,h2]))] at h1;cases h1
 ·rw[List.getElem?_eq_none om,List.getElem?_eq_none om]
theorem r_proves {s:Sc} {f:Fm} {l:List Mm} {a b v:Nat} (h:s.Va a b) (hf:f.S 100 8) (hv:f.Ok v) (hv9:v≤4611686018427387904) (hl:PfOk l):PCalls Tryz.prog TF 149 [scP s,fmP f,mmsP l] (bP (provesR s f l)):=by
 have hs:=hl.sum h;have hr:=hf.subR hs;refine pcA [85,37] Tryz.func149 (fun D=>?_);refine ac (c:=r_sum (n:=500) h hl.each (by have:=hl.len;omega) dx (by have:=hl.len;omega)) ?_;refine a2 (fun e18=>?_) (fun e18=>?_)
 ·exact ar (c:=by (try simp only[List.length_map] at *);simp only[provesR,e18,sb]<;>rfl)
 ·refine ac (c:=r_v7 (v:=4611686018427387904) (hf.fsm dx (hv.mono hv9))) ?_;refine ac (c:=r_fsub hf hs dx dx) ?_;refine a2 (fun e30=>?_) (fun e30=>?_)
  ·refine ac (c:=r_sign (hr.const.sm dx)) ?_;exact ar (c:=by (try simp only[List.length_map] at *);simp only[provesR,e18,e30,sb]<;>rfl)
  ·exact ar (c:=by (try simp only[List.length_map] at *);simp only[provesR,e18,e30,sb]<;>rfl)
theorem r_refutes {s:Sc} {l:List Mm} {a b:Nat} (h:s.Va a b) (hl:PfOk l):PCalls Tryz.prog TF 148 [scP s,mmsP l] (bP (refutesR s l)):=by
 have hs:=hl.sum h;refine pcA [85,37] Tryz.func148 (fun D=>?_);refine ac (c:=r_sum (n:=500) h hl.each (by have:=hl.len;omega) dx (by have:=hl.len;omega)) ?_;refine a2 (fun e15=>?_) (fun e15=>?_)
 ·refine a2 (fun e21=>?_) (fun e21=>?_)
  ·refine ac (c:=r_sign (hs.const.sm dx)) ?_;exact ar (c:=by (try simp only[List.length_map] at *);simp only[refutesR,e15,e21,sb]<;>rfl)
  ·exact ar (c:=by (try simp only[List.length_map] at *);simp only[refutesR,e15,e21,sb]<;>rfl)
 ·exact ar (c:=by (try simp only[List.length_map] at *);simp only[refutesR,e15,sb]<;>rfl)
theorem r_lemmaD {s:Sc} {m:Lm} {a b:Nat} (h:s.Va a b) (hm:LmOk m):PCalls Tryz.prog TF 147 [scP s,lmP m] (bP (lemmaR s m)):=by
 refine pcA [85,100,37] Tryz.func147 (fun D=>?_);refine ac (c:=r_qvalid h.q) ?_;refine a2 (fun e15=>?_) (fun e15=>?_)
 ·exact ar (c:=by (try simp only[List.length_map] at *);simp only[lemmaR,e15,sb]<;>rfl)
 ·have g0:=ge_ofZ e15;refine a2 (fun e25=>?_) (fun e25=>?_)
  ·exact ar (c:=by (try simp only[List.length_map] at *);simp only[lemmaR,e15,e25,sb]<;>rfl)
  ·have g1:=lt_ofZ' e25;obtain⟨k1,k2⟩:=lemF_ok h.q g0 g1 hm.value h.a9 h.n9;have hp:(atZ s.q.g.units m.unit).S 2 8:=(h.q.us _ (atZ_mem g0 g1)).up h.a9 h.n9;have hs:(Fm.subR (atZ s.q.g.units m.unit) (numR m.value)).S 12 8:=hp.subR (sz_num hm.value);refine ac (c:=r_valid (hm.value.sm dx) hm.value.ok) ?_;refine ay (z:=toN g0) (c:=(getmap (atZ_get g0 g1))) ?_;refine ac (c:=r_num) ?_;refine ac (c:=r_fsub hp (sz_num hm.value) dx dx) ?_;refine a2 (fun e44=>?_) (fun e44=>?_)
   ·have ef:Fm.scaleR (Fm.subR (atZ s.q.g.units m.unit) (numR m.value)) Q.mone=lemF s.q m:=by unfold lemF;rw[e44];rfl
    refine ac (c:=r_of (-1) dx dx) ?_;refine ac (c:=r_fscale (q:=Q.mone) hs sz_mone dx dx dx) ?_;refine ac (c:=r_proves (f:=Fm.scaleR (Fm.subR (atZ s.q.g.units m.unit) (numR m.value)) Q.mone) h (ef▸k1.up dx dx) (ef▸k2) (by have:=h.n9;omega) hm.proof) ?_;exact ar (c:=by rw[ef];(try simp only[List.length_map] at *);simp only[lemmaR,e15,e25,e44,sb]<;>rfl)
   ·have ef:Fm.subR (atZ s.q.g.units m.unit) (numR m.value)=lemF s.q m:=by unfold lemF;rw[e44];rfl
    refine ac (c:=r_proves (f:=Fm.subR (atZ s.q.g.units m.unit) (numR m.value)) h (ef▸k1.up dx dx) (ef▸k2) (by have:=h.n9;omega) hm.proof) ?_;exact ar (c:=by rw[ef];(try simp only[List.length_map] at *);simp only[lemmaR,e15,e25,e44,sb]<;>rfl)
theorem r_Fits {q:Qr} {d:Dc} {a n:Nat} (h:q.Va a) (hd:d.at_.S n) (hn:n≤10000):PCalls Tryz.prog TU 93 [qyP q,dcP d] (bP (fitsQ q d)):=by
 refine pcA [39,42] Tryz.func93 (fun D=>?_);refine ac (c:=r_qvalid h) ?_;refine ac (c:=r_fits hd hn) ?_;exact ar (c:=rfl)
def SV.fz (id:Nat) (p:PV):SV→SV
 | .tok i=>bif Nat.beq i id then .pv p else .tok i
 | s=>bif s.ids.contains id then .any else s
def Res.fz (id:Nat) (p:PV):Res→Res
 | .box ty cs=>.box ty (cs.map (SV.fz id p))
 | r=>r
def optFz (id:Nat) (p:PV):Option SV→Option SV
 | some s=>some (s.fz id p)
 | none=>none
def optFzR (id:Nat) (p:PV):Option Res→Option Res
 | some r=>some (r.fz id p)
 | none=>none
def St.fz (st:St) (id:Nat) (p:PV):St:=⟨fun t=>optFz id p (st.slot t),fun i=>bif Nat.beq i id then none else optFzR id p (st.res i),st.tys⟩
theorem SV.fz_or (id:Nat) (p:PV) (s:SV):(s=.tok id∧s.fz id p=.pv p)∨s.fz id p=.any∨(id ∉ s.ids∧s.fz id p=s):=by
 have key:(bif s.ids.contains id then SV.any else s)=.any∨(id ∉ s.ids∧(bif s.ids.contains id then SV.any else s)=s):=by
  cases h:s.ids.contains id with
  | true=>exact .inl rfl
  | false=>exact .inr ⟨fun hm=>(by rw[List.contains_iff_mem.2 hm] at h;cases h),rfl⟩
 cases s with
 | tok i=>
  cases h:Nat.beq i id with
  | true=>exact .inl ⟨(by rw[Nat.eq_of_beq_eq_true h]),by show (bif Nat.beq i id then SV.pv p else SV.tok i)=_;rw[h];rfl⟩
  | false=>exact .inr (.inr ⟨(by rw[SV.ids,List.mem_singleton];intro e;rw[e,Nat.beq_refl] at h;cases h),by show (bif Nat.beq i id then SV.pv p else SV.tok i)=_;rw[h];rfl⟩)
 | _=>exact .inr key
theorem SV.fz_ids {id:Nat} {p:PV} {s:SV} {j:Nat} (h:j∈(s.fz id p).ids):j∈s.ids∧j≠id:=by
 rcases SV.fz_or id p s with ⟨_,e⟩ | e | ⟨hn,e⟩
 ·rw[e] at h;cases h
 ·rw[e] at h;cases h
 ·rw[e] at h;exact⟨h,fun e=>hn (e▸h)⟩
theorem SV.fzL_ids {id:Nat} {p:PV} {j:Nat}:∀{cs:List SV},j∈SV.idsL (cs.map (SV.fz id p))→j∈SV.idsL cs∧j≠id
 | [],h=>by cases h
 | c::cs,h=>by
  rw[List.map_cons,SV.idsL] at h;rw[SV.idsL];rcases List.mem_append.1 h with h | h
  ·have:=SV.fz_ids h;exact⟨List.mem_append_left _ this.1,this.2⟩
  ·have:=SV.fzL_ids h;exact⟨List.mem_append_right _ this.1,this.2⟩
section
variable {C:Cx} {st:St} {a:Act} {w:World} {Q:Exit→St→Prop} {c:Code}
theorem fz_inv {id e k:Nat} {ts:List Nat} {xs:List (List PV)} (hr:st.res id=some (.tok e k ts xs)) (h:Inv C st a w):Inv C (st.fz id (.rows e k ts xs)) a w:=by
 obtain⟨B,T,h⟩:=h;have hs:∀t s,(st.fz id (.rows e k ts xs)).slot t=some s→∃s0,st.slot t=some s0∧s=s0.fz id (.rows e k ts xs):=fun t s e=>by
  simp only[St.fz] at e;cases h0:st.slot t with
  | none=>rw[h0] at e;cases e
  | some s0=>rw[h0] at e;injection e with e;exact⟨s0,rfl,e.symm⟩
 have hre:∀i r,(st.fz id (.rows e k ts xs)).res i=some r→i≠id∧∃r0,st.res i=some r0∧r=r0.fz id (.rows e k ts xs):=fun i r e=>by
  simp only[St.fz] at e;cases hb:Nat.beq i id with
  | true=>rw[hb] at e;cases e
  | false=>
   rw[hb] at e;refine⟨fun e2=>(by rw[e2,Nat.beq_refl] at hb;cases hb),?_⟩;cases h0:st.res i with
   | none=>rw[h0] at e;cases e
   | some s0=>rw[h0] at e;injection e with e;exact⟨s0,rfl,e.symm⟩
 have dom:∀i,i≠id→(st.res i).isSome=true→((st.fz id (.rows e k ts xs)).res i).isSome=true:=fun i hn hi=>by
  simp only[St.fz];have hb:Nat.beq i id=false:=by
   cases hb:Nat.beq i id with
   | true=>exact (hn (Nat.eq_of_beq_eq_true hb)).elim
   | false=>rfl
  rw[hb];cases h0:st.res i with
  | none=>rw[h0] at hi;cases hi
  | some r=>rfl
 have blk:∀(r:Res) b x,(r.fz id (.rows e k ts xs)).blk b x=r.blk b x:=fun r b x=>by cases r<;>rfl
 have X0:∀b,Own0 C (st.fz id (.rows e k ts xs)) B T b→Own0 C st B T b∧(T id).v.ownBlock≠some b:=fun b hb=>by
  rcases hb with hb | ⟨i,r,h1,h2⟩
  ·refine⟨.inl hb,fun e=>?_⟩;have hlo:=((h.inn id _ hr).lo (show (Res.tok _ k ts xs).blk (B id) (T id)=some b from e)).1;rcases hlo with g | g
   ·exact absurd (C.old b hb) (Nat.not_lt.2 g)
   ·exact C.hM b hb g
  ·obtain⟨hn,r0,h3,rfl⟩:=hre i r h1;rw[blk] at h2;exact⟨.inr ⟨i,r0,h3,h2⟩,fun e=>hn (h.apart i r0 id _ b h3 hr h2 e)⟩
 have S:∀ts',Still w w (Own0 C st B T) (Own0 C (st.fz id (.rows e k ts xs)) B T) ts':=fun ts'=>⟨nr _,fun b cs t fr hx hh ht=>⟨rfl,fun hb=>hx (X0 b hb).1⟩⟩
 have rep:∀s v,SV.Rep w (Own0 C st B T) B T s v→SV.Rep w (Own0 C (st.fz id (.rows e k ts xs)) B T) B T (s.fz id (.rows e k ts xs)) v:=fun s v hv=>by
  rcases SV.fz_or id (.rows e k ts xs) s with ⟨rfl,e⟩ | e | ⟨hn,e⟩
  ·rw[e,SV.Rep];rw[SV.Rep] at hv;subst hv;exact tok_rows h hr X0
  ·rw[e,SV.Rep];trivial
  ·rw[e];exact hv.still (S _) fun _ _=>⟨rfl,rfl⟩
 have repL:∀(cs:List SV) (us:List Value),SV.RepL w (Own0 C st B T) B T cs us→SV.RepL w (Own0 C (st.fz id (.rows e k ts xs)) B T) B T (cs.map (SV.fz id (.rows e k ts xs))) us:=fun cs=>by
  induction cs with
  | nil=>intro us h;exact h
  | cons c cs ih=>
   intro us h;rw[SV.RepL] at h;obtain⟨u,us',rfl,h1,h2⟩:=h;exact SV.RepL.cons (rep c u h1) (ih us' h2)
 refine⟨B,T,h.size,h.dfr,h.gr,fun t s e=>?_,fun t s e i hi=>?_,fun i r e=>?_,fun i r e j hj=>?_,fun i r j q b e1 e2 h1 h2=>?_⟩
 ·obtain⟨s0,h1,rfl⟩:=hs t s e;exact rep s0 _ (h.slot t s0 h1)
 ·obtain⟨s0,h1,rfl⟩:=hs t s e;have:=SV.fz_ids hi;exact dom i this.2 (h.live t s0 h1 i this.1)
 ·obtain⟨hn,r0,h1,rfl⟩:=hre i r e;have hin:=h.inn i r0 h1;cases r0 with
  | box ty cells=>
   obtain⟨g1,us,g2,g3⟩:=hin;exact⟨g1,us,g2,repL _ _ g3⟩
  | tok e k ts xs=>
   obtain⟨us,g1,g2,g3,g4⟩:=hin;exact⟨us,g1,PV.RepLL.still (ts:=ts) g2 (S _) fun r hr c hc=>((g3 r hr).2 c hc).2,g3,g4⟩
 ·obtain⟨hn,r0,h1,rfl⟩:=hre i r e;cases r0 with
  | box ty cells=>
   have:=SV.fzL_ids hj;exact dom j this.2 (h.alive i _ h1 j this.1)
  | tok e k ts xs=>cases hj
 ·obtain⟨_,r0,k1,rfl⟩:=hre i r e1;obtain⟨_,q0,k2,rfl⟩:=hre j q e2;rw[blk] at h1 h2;exact h.apart i r0 j q0 b k1 k2 h1 h2
theorem pfz {e k:Nat} {ts:List Nat} {xs:List (List PV)} (id:Nat) (hr:st.res id=some (.tok e k ts xs)) (h:PW C c (st.fz id (.rows e k ts xs)) Q):PW C c st Q:=fun a w ht hi=>h a w (fun i r e=>by
 simp only[St.fz] at e;cases hb:Nat.beq i id with
 | true=>rw[hb] at e;cases e
 | false=>
  rw[hb] at e;cases h0:st.res i with
  | none=>rw[h0] at e;cases e
  | some r0=>
   rw[h0] at e;injection e with e;subst e;have:=ht i r0 h0;cases r0<;>exact this) (fz_inv hr hi)
end
def rightR (q:Qr) (path:List Dc) (ls:List Lm) (e:Bool) (p:List Mm):Bool:=!((List.range ls.length).any (badL ⟨q,path,ls⟩))&&(bif e then refutesR ⟨q,path,ls⟩ p else provesR ⟨q,path,ls⟩ q.goal p)
theorem applies_eq {q:Qr} {x:En}:appliesR q x=(!(x.path.any fun d=>!fitsQ q d)&&rightR q x.path x.lems x.empty x.proof):=by
 unfold appliesR scopeR rightR;rw[Bool.and_assoc];rfl
theorem any_at {l:List Dc} {f:Dc→Bool} {i:Nat} (h:∀j:Nat,j < i→f (atZ l (j:Int))=false) (hi:l.length≤i):l.any f=false:=by
 rw[List.any_eq_false];intro d hd;obtain⟨j,hj,rfl⟩:=List.mem_iff_getElem.1 hd;have:=h j om;rw[atZ_nat (ge hj)] at this;rw[this];exact Bool.false_ne_true
theorem r_samedc0:PCalls Tryz.prog [] 95 [dcP dc0,dcP dc0] (bP true):=by
 have h:=r_samedc dc0 dc0;rw[show dcEq dc0 dc0=true from by simp[dcEq]] at h;exact h
theorem r_right {q:Qr} {path:List Dc} {ls:List Lm} {e:Bool} {p:List Mm} {a b:Nat} (h:(⟨q,path,ls⟩:Sc).Va a b) (hl:∀m∈ls,LmOk m) (hp:PfOk p) (hg:q.goal.S 100 8):PCalls Tryz.prog TF 94 [scP ⟨q,path,[]⟩,.agg [lmsP ls,iP 0,iP 0,bP false,.nat 0,.nat 0,.rows 46 9 ndT [],bP e,mmsP p],iP 1] (.tup [bP (rightR q path ls e p),iP 0]):=by
 refine pcA [85,46,100] Tryz.func94 (fun D=>?_);refine aa (c:=ari_sub dx dx dx dx) ?_;refine akF (c:=by exact (show _=false from rfl)) ?_;refine au ?_;refine pwk ?_;refine pl (ι:={i:Nat // i≤ls.length∧∀j,j < i→badL ⟨q,path,ls⟩ j=false}) (fun i=>[(2,.pv (iP 0)),(3,.box 3 0),(4,.box 4 0),(8,.pv (iP (i.1:Int)))]) (fun i=>[(3,.box 85 [.pv (iP q.g.inputs),.pv (formsP q.g.units),.pv (formsP q.g.outputs),.pv (ratsP q.rg.lo),.pv (ratsP q.rg.hi),.pv (formsP q.rg.rows),.pv (termsP q.goal.terms),.pv (bP q.goal.const.neg),.pv (.nat q.goal.const.num),.pv (.nat q.goal.const.den),.pv (dcsP path),.pv (.rows 100 6 [200,98] ((ls.take i.1).map lmC))]),(4,.box 46 [.pv (lmsP ls),.pv (iP 0),.pv (iP 0),.pv (bP false),.pv (.nat 0),.pv (.nat 0),.pv (.rows 46 9 ndT []),.pv (bP e),.pv (mmsP p)])]) [85,46,100] (fun i=>ls.length - i.1) ⟨0,nq _,fun j hj=>by omega⟩ (ai Y (ai Y (ai Y (ai Y trivial)))) (ai Y (ai Y trivial)) (fun _=>rfl) ?_;intro ⟨i,hi0,hnb⟩;refine a2 (fun e23=>?_) (fun e23=>?_)
 ·have hi:i < ls.length:=lt_of e23;have hm:=hl _ (mg (get_of hi));refine ax (c:=(getmap (get_of hi))) ?_;refine ac (c:=r_lemmaD (s:=⟨q,path,ls.take i⟩) (h.take i) hm) ?_;refine a2 (fun e33=>?_) (fun e33=>?_)
  ·replace e33:=not_t e33;exact ar (c:=by rw[show rightR q path ls e p=false from by unfold rightR;rw[range_bad hi (show badL ⟨q,path,ls⟩ i=true by unfold badL;rw[e33];rfl)];try rfl])
  ·replace e33:=not_f e33;refine au ?_;refine rp0 el_Lemma (by have h9:ls.length≤1000:=h.l9;simp;omega) Y Y Y Y Y Y Y Y ?_;refine ax (c:=(getmap (get_of hi))) ?_;refine au ?_;refine rp0 el_Lemma (by have h9:ls.length≤1000:=h.l9;simp;omega) Y Y Y Y Y Y Y Y ?_;refine qg 2 ?_;refine rn (by kernel_rfl) ?_;refine pfz 35 Y ?_;refine aa (c:=ari_succ (by have h9:ls.length≤1000:=h.l9;show i≤_;omega)) ?_;refine au ?_;exact pe ⟨i+1,hi,all_succ hnb (by unfold badL;rw[e33];rfl)⟩ (ai Y (ai Y (ai Y (ai Y trivial)))) (ai (congrArg (fun x=>some (Res.box 85 [.pv (iP q.g.inputs),.pv (formsP q.g.units),.pv (formsP q.g.outputs),.pv (ratsP q.rg.lo),.pv (ratsP q.rg.hi),.pv (formsP q.rg.rows),.pv (termsP q.goal.terms),.pv (bP q.goal.const.neg),.pv (.nat q.goal.const.num),.pv (.nat q.goal.const.den),.pv (dcsP path),.pv (.rows 100 6 [200,98] x)])) (show _=(ls.take (i+1)).map lmC from by rw[List.take_add_one,get_of hi,List.map_append];rfl)) (ai Y trivial)) Y (by show ls.length - (i+1) < ls.length - i;omega)
 ·have hj:ls.length≤i:=ge_of e23;have ht:ls.take i=ls:=List.take_of_length_le hj;refine akT (c:=by exact (show _=true from rfl)) ?_;refine ac (c:=r_samedc0) ?_;refine a2 (fun e58=>?_) (fun e58=>?_)
  ·refine ac (c:=r_refutes (s:=⟨q,path,ls.take i⟩) (h.take i) hp) ?_;exact ar (c:=by rw[show rightR q path ls e p=refutesR ⟨q,path,ls.take i⟩ p from by unfold rightR;rw[range_all hnb hj,ht,e58];try rfl])
  ·refine ac (c:=r_proves (s:=⟨q,path,ls.take i⟩) (h.take i) hg h.q.ok (by have:=h.n9;show q.g.inputs+q.g.units.length≤_;have:q.g.inputs+q.g.units.length≤8:=h.n9;omega) hp) ?_;exact ar (c:=by rw[show rightR q path ls e p=provesR ⟨q,path,ls.take i⟩ q.goal p from by unfold rightR;rw[range_all hnb hj,ht,e58];try rfl])
theorem r_applies {q:Qr} {x:En} {a b:Nat} (h:(x.sc q).Va a b) (hx:EnOk x) (hg:q.goal.S 100 8):PCalls Tryz.prog TF 44 [qyP q,enP x] (bP (appliesR q x)):=by
 refine pcA [39,77] Tryz.func44 (fun D=>?_);refine au ?_;refine pl (ι:={i:Nat // i≤x.path.length∧∀j:Nat,j < i→(!fitsQ q (atZ x.path (j:Int)))=false}) (fun i=>[(2,.box 2 0),(3,.box 3 0),(5,.pv (iP (i.1:Int)))]) (fun _=>[(2,.box 39 [.pv (iP q.g.inputs),.pv (formsP q.g.units),.pv (formsP q.g.outputs),.pv (ratsP q.rg.lo),.pv (ratsP q.rg.hi),.pv (formsP q.rg.rows),.pv (termsP q.goal.terms),.pv (bP q.goal.const.neg),.pv (.nat q.goal.const.num),.pv (.nat q.goal.const.den)]),(3,.box 77 [.pv (dcsP x.path),.pv (lmsP x.lems),.pv (iP 0),.pv (iP 0),.pv (bP false),.pv (.nat 0),.pv (.nat 0),.pv (.rows 46 9 ndT []),.pv (bP x.empty),.pv (mmsP x.proof)])]) [39,77] (fun i=>x.path.length - i.1) ⟨0,nq _,fun j hj=>by omega⟩ (ai Y (ai Y (ai Y trivial))) (ai Y (ai Y trivial)) (fun _=>rfl) ?_;intro ⟨i,hi0,hnb⟩;refine a2 (fun e12=>?_) (fun e12=>?_)
 ·have hi:i < x.path.length:=lt_of e12;refine ax (c:=(getmap (get_of hi))) ?_;refine ac (c:=r_Fits (q:=q) (d:=atZ x.path (i:Int)) h.q (h.path _ (mg (get_of hi))) (by have:=h.a9;omega)) ?_;refine a2 (fun e22=>?_) (fun e22=>?_)
  ·replace e22:=not_t e22;exact ar (c:=by rw[applies_eq,show (x.path.any fun d=>!fitsQ q d)=true from List.any_eq_true.2 ⟨_,mg (get_of hi),by rw[e22];rfl⟩];rfl)
  ·replace e22:=not_f e22;refine aa (c:=ari_succ (by have:=h.p9;show i≤_;have:x.path.length≤1000:=h.p9;omega)) ?_;refine au ?_;exact pe ⟨i+1,hi,all_succ (p:=fun j:Nat=>(!fitsQ q (atZ x.path (j:Int)))=false) hnb (by show (!fitsQ q (atZ x.path (i:Int)))=false;rw[e22];rfl)⟩ (ai Y (ai Y (ai Y trivial))) (ai Y (ai Y trivial)) Y (by show x.path.length - (i+1) < x.path.length - i;omega)
 ·have hj:x.path.length≤i:=ge_of e12;refine ac (c:=r_right (q:=q) (path:=x.path) (ls:=x.lems) h hx.lems hx.proof hg) ?_;refine ac (c:=r_qvalid h.q) ?_;refine a2 (fun e38=>?_) (fun e38=>?_)
  ·refine akT (c:=by exact (show _=true from rfl)) ?_;exact ar (c:=by rw[applies_eq,any_at (f:=fun d=>!fitsQ q d) hnb hj,e38];rfl)
  ·exact ar (c:=by rw[applies_eq,any_at (f:=fun d=>!fitsQ q d) hnb hj,e38];rfl)
section
variable {C:Cx} {o:Oper} {st:St}
theorem opE_litK {tab:Tab} (hT:TblOk C.P tab) {t n:Nat} {parts:Array (Nat×Operand)} {l:Lay} {ss:List (List SV)} {xs:List (List PV)} {ts:List Nat} (ho:o.op=.buildSlice t n parts) (hl:tab.get t=some l) (hlay:∃le,tab.get l.elem=some le∧le.zero.length=l.esz) (hs:litL st l.esz parts.toList 0=some ss) (hn:n=parts.size) (hn0:0 < n) (hco:CoLL st ss xs) (hno:noTok st (idsLL ss)=true) (hok:RowOk l.esz ts xs) (hk0:0 < l.esz) (hsm:n*l.esz≤16777216) {id:Nat} (hre:st.res id=none) (he:st.tys.contains l.elem=true) (hd:∀d,o.dst=some d→C.dk d):OpE C st.tys o st ⟨.tok id,some (id,.tok l.elem l.esz ts xs),id::idsLL ss,true⟩:=by
 obtain⟨hu,hsz⟩:=(Tab.get_ok hT hl).elem (Nat.ne_of_gt hk0);obtain⟨le,hle,hlz⟩:=hlay;have lke:=Tab.get_ok hT hle;refine⟨fun i r e=>by injection e with e;injection e with e1 e2;subst e1 e2;exact⟨mf ..,List.contains_iff_mem.1 he⟩,fun st1 h1 h2 _ a w ⟨B,T,hi⟩=>?_⟩;rw[← h2 id (mf ..)] at hre;have h2':∀i∈idsLL ss,st1.res i=st.res i:=fun i hi=>h2 i (List.mem_cons_of_mem _ hi)
 have agl:∀(ps:List (Nat×Operand)) (n:Nat),(∀p∈ps,p.2∈o.op.operands)→litL st1 l.esz ps n=litL st l.esz ps n:=fun ps=>by
  induction ps with
  | nil=>intro n _;rfl
  | cons p ps ih=>
   intro n hp;obtain⟨j,x⟩:=p;have ag:Agree o [] st st1:=⟨h1,fun i hi=>by cases hi⟩;rw[litL,litL,ag.ev (hp (j,x) (mf ..)),ih (n+1) fun q hq=>hp q (List.mem_cons_of_mem _ hq)]
 have hs':=hs;rw[← agl parts.toList 0 fun p hp=>by rw[ho];simp only[Op.operands,List.mem_toArray,List.mem_map];exact⟨p,hp,rfl⟩] at hs';obtain⟨us,g1,g2,g3,g4,g5,g6,g7⟩:=litL_rep hi hs';have hlen:us.length=n:=by rw[g1,g2,hn];simp
 have mv:∀(ss:List (List SV)) (xs:List (List PV)),CoLL st ss xs→(∀i∈idsLL ss,st1.res i=st.res i)→CoLL st1 ss xs:=fun ss=>by
  induction ss with
  | nil=>intro xs h _;cases xs<;>exact h
  | cons c ss ih=>
   intro xs h hh;cases xs with
   | nil=>exact h.elim
   | cons p xs=>exact⟨h.1.move fun i hi=>hh i (by simp only[idsLL,List.flatMap_cons,List.mem_append];exact .inl hi),ih xs h.2 fun i hi=>hh i (by simp only[idsLL,List.flatMap_cons,List.mem_append];exact .inr hi)⟩
 have hco1:=mv ss xs hco h2';have hnt:∀i∈idsLL ss,∀r,st1.res i≠some r:=fun i hi r hr=>by
  have:=List.all_eq_true.1 hno i hi;rw[← h2' i hi,hr] at this;cases this
 have hrep:=CoLL.rep hi hco1 g1 g3 hnt
 -- the cells
 have fill:∀(ps:List (Nat×Operand)) (m:List Value) (vs:List (List Value)) (r:List Value) (k0:Nat),(∀(i:Nat) (p:Nat×Operand),ps[i]?=some p→p.1=k0+i∧∃u,vs[i]?=some u∧(a.eval p.2).cells=u.toArray)→vs.length=ps.length→(∀u∈vs,u.length=l.esz)→m.length=k0*l.esz→r.length=vs.length*l.esz→
   Instr.fill (fun i=>some (i*l.esz,l.esz)) (m++r).toArray (ps.map fun p=>(p.1,a.eval p.2))=some (m++vs.flatten).toArray:=fun ps=>by
  induction ps with
  | nil=>
   intro m vs r k0 _ hv _ _ hr;obtain rfl:=List.length_eq_zero_iff.1 hv;simp at hr;subst hr;rfl
  | cons p ps ih=>
   intro m vs r k0 hp hv hvl hm hr;cases vs with
   | nil=>simp at hv
   | cons u vs=>
    obtain⟨q1,u',q2,q3⟩:=hp 0 p rfl;simp at q2;subst q2;have hul:=hvl u (mf ..);rw[List.length_cons,Nat.add_mul,Nat.one_mul] at hr;simp only[List.map_cons,Instr.fill,q1,Nat.add_zero,q3,List.size_toArray,hul];have hsz2:(m++r).length=k0*l.esz+(vs.length*l.esz+l.esz):=by rw[List.length_append,hm,hr]
    rw[if_neg (by simp only[ne_eq,not_true_eq_false,decide_false,Bool.false_or,de];rw[hsz2];omega)];have hfold:∀(zs:List Value) (k:Nat) (us:List Value),((zs.zipIdx k).foldl (fun (cs:Array Value) (p:Value×Nat)=>cs.setIfInBounds (k0*l.esz+p.2) p.1) us.toArray)=(spl us (k0*l.esz+k) zs).toArray:=by
     intro zs
     induction zs with
     | nil=>intro k us;rfl
     | cons v zs ih2=>
      intro k us;rw[spl,Nat.add_assoc,← ih2,List.zipIdx_cons,List.foldl_cons];simp
    have h8:=hfold u 0 (m++r);rw[Nat.add_zero,← hm] at h8;have h9:=spl_mid u m (r.take l.esz) (r.drop l.esz) (by rw[List.length_take,hul];omega);rw[List.take_append_drop] at h9;rw[h9] at h8;rw[← Array.foldl_toList,Array.toList_zipIdx];rw[hm] at h8;rw[h8,← List.append_assoc];have:=ih (m++u) vs (r.drop l.esz) (k0+1) (fun i p hp2=>by
     obtain⟨z1,z,z2,z3⟩:=hp (i+1) p (by simpa using hp2);exact⟨by omega,z,by simpa using z2,z3⟩) (by simpa using hv) (fun z hz=>hvl z (List.mem_cons_of_mem _ hz)) (by rw[List.length_append,hm,hul,Nat.add_mul,Nat.one_mul]) (by rw[List.length_drop,hr];omega)
    rw[this,List.flatten_cons,List.append_assoc]
 have hz:=lke.zero;have run:(execOp a.eval o).run C.P w=.ok (.value (.slice (some ⟨w.heap.size,0,none⟩) n n)) (w.alloc (.cells us.flatten.toArray l.elem)):=by
  have hle24:¬n*l.esz > 2 ^ 24:=by omega
  have hfl:=fun (zs:Array Value)=>fill parts.toList [] us ((Array.range (n*l.esz)).map (fun x=>zs[x % zs.size]!)).toList 0 (fun i p hp=>by
   obtain⟨z1,z,z2,z3⟩:=g7 i p hp;exact⟨z1,z,z2,z3⟩) (by rw[g1,g2]) g5 (by simp) (by simp[hlen])
  simp only[List.nil_append,Array.toArray_toList] at hfl;have hpm:(parts.map fun x=>match x with | (i,x)=>(i,a.eval x)).toList=parts.toList.map fun p=>(p.1,a.eval p.2):=by rw[Array.toList_map]
  simp only[execOp,ho,Instr.buildSlice,Sem.run_bind,run_underlying hu,Result.andThen_ok,rsize hsz,if_neg hle24];have h0:¬n*l.esz=0:=Nat.ne_of_gt (Nat.mul_pos hn0 hk0);have:=hfl (Value.cells (if le.agg then .agg (le.zero.map Zk.val).toArray else (le.zero.map Zk.val).headD undef));simp only[if_neg h0,Sem.run_bind,rzero hz,Result.andThen_ok,Sem.run_pure,hpm,this];rfl
 refine doesAt_value run ?_;have hfl2:=flatten_len g5;have hk1:n≤n*l.esz:=Nat.le_mul_of_pos_right n hk0;refine inv_tok (y:=⟨some ⟨w.heap.size,0,none⟩,n,n⟩) (us:=us) (own:=none) hi (fun r hr=>by rw[hre] at hr;cases hr) (fun _=>rfl) ⟨rfl,rfl,rfl,by simp,fun k hk _=>Below.heap_alloc w _ k hk⟩ ⟨by rw[hfl2,hlen],.inr ⟨w.heap.size,n,us.flatten.toArray,rfl,nq _,heap_alloc_new w _,nr _,by (show n≤maxLen);(unfold maxLen);omega,by rw[List.size_toArray,hfl2,hlen],by (show us.flatten.take _=us.flatten);exact List.take_of_length_le (by rw[hfl2,hlen];exact nr _)⟩⟩ (.inr (.inl rfl)) hrep hok (by rw[← hlen,hrep.len]) hk0 hd
end
section
variable {T:List Nat} {Z:Nat} {D:Dom Tryz.prog T Z} {N:Nat} {st:St} {Q:Exit→St→Prop} {ops:List Oper} {draw:Bool} {acc:List Itm}
theorem rlk0 {k:Nat} {ks:List Nat} {dst:Option Nat} {t n:Nat} {parts:Array (Nat×Operand)} {ty:TypeId} {ps:String} {af:Array Edge} {gd:Option (Nat×Bool)} {l:Lay} {ss:List (List SV)} {xs:List (List PV)} (id:Nat) (hre:st.res id=none) (hk:nthL ops k=some ⟨dst,.buildSlice t n parts,ty,ps,af,gd⟩) (hw:wantS ops.toArray ⟨dst,.buildSlice t n parts,ty,ps,af,gd⟩ st=some true) (hd:dstB ⟨dst,.buildSlice t n parts,ty,ps,af,gd⟩ N Z=true) (hl:tab.get t=some l) (hs:litL st l.esz parts.toList 0=some ss) (hco:coSVLL st ss=some xs) (hc:litB tab st l n parts ss xs=true) (he:st.tys.contains l.elem=true)
  (next:Reg (D.cx N) ops draw Q (acc++[⟨k,true,(⟨.tok id,some (id,.tok l.elem l.esz l.ets xs),id::idsLL ss,true⟩:Eff),lkOf ops k st ((⟨.tok id,some (id,.tok l.elem l.esz l.ets xs),id::idsLL ss,true⟩:Eff))⟩]) ks ((⟨.tok id,some (id,.tok l.elem l.esz l.ets xs),id::idsLL ss,true⟩:Eff).app dst st)):Reg (D.cx N) ops draw Q acc (k::ks) st:=by
 unfold litB at hc;simp only[be] at hc;obtain⟨⟨⟨⟨⟨⟨h1,h2⟩,h3⟩,h4⟩,h5⟩,h6⟩,h7⟩:=hc;refine reg_op hk hw hd (fun hd=>opE_litK (id:=id) (tab:=tab) tab_ok rfl hl ?_ hs (Nat.eq_of_beq_eq_true h1) (Nat.le_of_ble_eq_true h2) (coSVLL_ok hco) h5 (rowOkB_ok h6) (Nat.le_of_ble_eq_true h3) (Nat.le_of_ble_eq_true h4) hre he hd) next;split at h7
 ·rename_i le hle
  exact⟨le,hle,Nat.eq_of_beq_eq_true h7⟩
 ·cases h7
end
theorem PCalls.nil {P:Program} {Tg:List Nat} {f:FuncId} {pre post:List PV} {e k:Nat} {ts:List Nat} {res:PV} (h:PCalls P Tg f (pre++.rows e k ts []::post) res):PCalls P Tg f (pre++.raw (.slice none 0 0)::post) res:=by
 refine⟨h.1,fun w X us h1 h2 h3=>h.2 w X us h1 h2 ?_⟩;have key:∀(pre:List PV) (us:List Value),PV.RepL w X (pre++.raw (.slice none 0 0)::post) us→PV.RepL w X (pre++.rows e k ts []::post) us:=fun pre=>by
  induction pre with
  | nil=>
   intro us h;rw[List.nil_append,PV.RepL] at h;obtain⟨u,us',rfl,g1,g2⟩:=h;rw[PV.Rep] at g1;subst g1;refine PV.RepL.cons ?_ g2;rw[PV.Rep];exact⟨Sv.none,[],rfl,rfl,Sv.Is.none w k,(fun ad h=>by cases h),(fun ad h=>by cases h),by rw[PV.RepLL],fun r hr=>by cases hr⟩
  | cons p pre ih=>
   intro us h;rw[List.cons_append,PV.RepL] at h;obtain⟨u,us',rfl,g1,g2⟩:=h;exact PV.RepL.cons g1 (ih us' g2)
 exact key pre us h3
theorem ropp_at {d:Dc} {k m:Int} (e:(d.kind == k)=true) (h:oppK k=m) (h2:(decide (0 < k)&&decide (k < 5))=true):dcP ⟨m,d.index,d.at_⟩=dcP (oppD d):=by
 have e:=eq_of_beq e;subst e;unfold oppD;rw[h2,h];rfl
theorem ropp_no {d:Dc} (e1:(d.kind == 1)=false) (e2:(d.kind == 2)=false) (e3:(d.kind == 3)=false) (e4:(d.kind == 4)=false):dcP d=dcP (oppD d):=by
 unfold oppD;have e1:=ne_of_beq_false e1;have e2:=ne_of_beq_false e2;have e3:=ne_of_beq_false e3;have e4:=ne_of_beq_false e4;cases h:decide (0 < d.kind)&&decide (d.kind < 5) with
 | false=>rfl
 | true=>
  simp only[be,de] at h;omega
theorem r_opp (d:Dc):PCalls Tryz.prog [] 144 [dcP d] (dcP (oppD d)):=by
 refine pcA [42] Tryz.func144 (fun D=>?_);refine a2 (fun e5=>?_) (fun e5=>?_)
 ·exact ar (c:=ropp_at e5 rfl rfl)
 ·refine a2 (fun e8=>?_) (fun e8=>?_)
  ·exact ar (c:=ropp_at e8 rfl rfl)
  ·refine a2 (fun e11=>?_) (fun e11=>?_)
   ·exact ar (c:=ropp_at e11 rfl rfl)
   ·refine a2 (fun e14=>?_) (fun e14=>?_)
    ·exact ar (c:=ropp_at e14 rfl rfl)
    ·exact ar (c:=ropp_no e5 e8 e11 e14)
theorem r_ent0 {ls lems:List Lm} {d:Dc} {e:Bool} {p:List Mm} {path:List Dc} (h1:lems.length+ls.length≤100000):NCalls Tryz.prog [] 90 [.agg [lmsP ls,iP d.kind,iP d.index,bP d.at_.neg,.nat d.at_.num,.nat d.at_.den,.rows 46 9 ndT [],bP e,mmsP p],dcsP path,lmsP lems] 77 10 enT ([⟨path,lems++ls,e,p⟩].map enC):=by
 refine pcn [46,100,77] (by kernel_rfl) Tryz.func90 Y Y (fun D=>?_);refine au ?_;refine rp0 el_Lemma (by simp;omega) Y Y Y Y Y Y Y Y ?_;refine au ?_;refine rp0 el_Lemma (by simp;omega) Y Y Y Y Y Y Y Y ?_;refine akT (c:=by exact (show _=true from rfl)) ?_;refine rn Y (pif Y (fun _=>?_) (fun e=>by cases e));refine pfz 9 Y ?_;refine pr0 (qg 8 ?_);refine rlk0 27 Y Y Y Y Y Y Y Y Y ?_;refine au ?_;exact retn Y Y Y Y (by simp[enC,List.map_append])
theorem r_entS {ls lems:List Lm} {d:Dc} {a b:Nd} {e:Bool} {p:List Mm} {path:List Dc} {xa xb:List (List PV)} (h1:lems.length+ls.length≤100000) (h2:path.length≤100000) (h9:xa.length+xb.length≤100000000) (iha:NCalls Tryz.prog [] 90 [.agg (ndX a),.rows 42 5 [200] (([]++path.map dcC)++[dcC d]),.rows 100 6 [200,98] (([]++lems.map lmC)++ls.map lmC)] 77 10 enT xa) (ihb:NCalls Tryz.prog [] 90 [.agg (ndX b),.rows 42 5 [200] (([]++path.map dcC)++[dcC (oppD d)]),.rows 100 6 [200,98] (([]++lems.map lmC)++ls.map lmC)] 77 10 enT xb):NCalls Tryz.prog [] 90 [.agg [lmsP ls,iP d.kind,iP d.index,bP d.at_.neg,.nat d.at_.num,.nat d.at_.den,.rows 46 9 ndT [ndX a,ndX b],bP e,mmsP p],dcsP path,lmsP lems] 77 10 enT (xa++xb):=by
 refine pcn [46,100,77,42] (by kernel_rfl) Tryz.func90 Y Y (fun D=>?_);refine au ?_;refine rp0 el_Lemma (by simp;omega) Y Y Y Y Y Y Y Y ?_;refine au ?_;refine rp0 el_Lemma (by simp;omega) Y Y Y Y Y Y Y Y ?_;refine akF (c:=by exact (show _=false from rfl)) ?_;refine rn Y (pif Y (fun e=>by cases e) (fun _=>?_));refine pk (pfz 9 Y ?_);refine pw_weak (Sub.of (sl:=[(1,.pv (dcsP path)),(2,.pv (.rows 100 6 [200,98] (([]++lems.map lmC)++ls.map lmC))),(3,.box 3 0)]) (rs:=[(3,.box 46 [.pv (lmsP ls),.pv (iP d.kind),.pv (iP d.index),.pv (bP d.at_.neg),.pv (.nat d.at_.num),.pv (.nat d.at_.den),.pv (.rows 46 9 ndT [ndX a,ndX b]),.pv (bP e),.pv (mmsP p)])]) (tys:=[46,100,77,42]) (ai Y (ai Y (ai Y trivial))) (ai Y trivial) Y) ?_;refine au ?_;refine rp0 el_Decision (by simp;omega) Y Y Y Y Y Y Y Y ?_;refine au ?_;refine rp0 el_Decision (by simp;omega) Y Y Y Y Y Y Y Y ?_;refine qg 1 ?_;refine rn (by kernel_rfl) ?_;refine pfz 28 Y ?_;refine pw_weak (Sub.of (sl:=[(1,.pv (dcsP path)),(2,.pv (.rows 100 6 [200,98] (([]++lems.map lmC)++ls.map lmC))),(3,.box 3 0),(7,.pv (.rows 42 5 [200] (([]++path.map dcC)++[dcC d])))]) (rs:=[(3,.box 46 [.pv (lmsP ls),.pv (iP d.kind),.pv (iP d.index),.pv (bP d.at_.neg),.pv (.nat d.at_.num),.pv (.nat d.at_.den),.pv (.rows 46 9 ndT [ndX a,ndX b]),.pv (bP e),.pv (mmsP p)])]) (tys:=[46,100,77,42]) (ai Y (ai Y (ai Y (ai Y trivial)))) (ai Y trivial) Y) ?_;refine au ?_;refine rp0 el_Decision (by simp;omega) Y Y Y Y Y Y Y Y ?_;refine ac (c:=r_opp d) ?_;refine au ?_;refine rp0 el_Decision (by simp;omega) Y Y Y Y Y Y Y Y ?_;refine qg 1 ?_;refine rn (by kernel_rfl) ?_;refine pfz 35 Y ?_;refine pw_weak (Sub.of (sl:=[(2,.pv (.rows 100 6 [200,98] (([]++lems.map lmC)++ls.map lmC))),(3,.box 3 0),(7,.pv (.rows 42 5 [200] (([]++path.map dcC)++[dcC d]))),(8,.pv (.rows 42 5 [200] (([]++path.map dcC)++[dcC (oppD d)])))]) (rs:=[(3,.box 46 [.pv (lmsP ls),.pv (iP d.kind),.pv (iP d.index),.pv (bP d.at_.neg),.pv (.nat d.at_.num),.pv (.nat d.at_.den),.pv (.rows 46 9 ndT [ndX a,ndX b]),.pv (bP e),.pv (mmsP p)])]) (tys:=[46,100,77,42]) (ai Y (ai Y (ai Y (ai Y trivial)))) (ai Y trivial) Y) ?_;refine au ?_;refine ro0 Y Y Y (fun hd=>opE_idx (i:=0) tab_ok Y Y Y Y Y dx Y Y hd) ?_;refine qg 3 ?_;refine rcn0 49 iha Y Y Y Y Y Y Y Y ?_;refine au ?_;refine ro0 Y Y Y (fun hd=>opE_idx (i:=1) tab_ok Y Y Y Y Y dx Y Y hd) ?_;refine ac (c:=ihb.p) ?_;refine rp0 el_Entry (h9) Y Y Y Y Y Y Y Y ?_;refine au ?_;exact retn Y Y Y Y (Y)
theorem r_ent:∀(k:Nat) (n:Nd) (path:List Dc) (lems:List Lm),n.Wf k→n.Lim k→k≤8→lems.length≤1000 - 100*k→path.length≤100 - k→NCalls Tryz.prog [] 90 [.agg (ndX n),dcsP path,lmsP lems] 77 10 enT ((entR k n path lems).map enC)
 | 0,.mk ls d ks e p,path,lems,hw,hl,hk,h1,h2=>by
  obtain⟨_,rfl⟩:=hw;obtain⟨l1,l2⟩:=hl;have l1:ls.length≤100:=l1;exact r_ent0 (ls:=ls) (lems:=lems) (d:=d) (e:=e) (p:=p) (path:=path) om
 | k+1,.mk ls d ks e p,path,lems,hw,hl,hk,h1,h2=>by
  obtain⟨_,_,_,_,a,b,rfl,ha,hb⟩:=hw;obtain⟨l1,l2⟩:=hl;have l1:ls.length≤100:=l1;have key:∀(x:Nd) (y:Dc),x.Wf k→x.Lim k→NCalls Tryz.prog [] 90 [.agg (ndX x),.rows 42 5 [200] (([]++path.map dcC)++[dcC y]),.rows 100 6 [200,98] (([]++lems.map lmC)++ls.map lmC)] 77 10 enT ((entR k x (path++[y]) (lems++ls)).map enC):=fun x y hx hy=>by
   have:=r_ent k x (path++[y]) (lems++ls) hx hy om (by rw[List.length_append];omega) (by rw[List.length_append];show _+1≤_;omega);rw[show dcsP (path++[y])=.rows 42 5 [200] (([]++path.map dcC)++[dcC y]) from by simp[dcsP],show lmsP (lems++ls)=.rows 100 6 [200,98] (([]++lems.map lmC)++ls.map lmC) from by simp[lmsP]] at this;exact this
  have l3:=entR_len k a (path++[d]) (lems++ls);have l4:=entR_len k b (path++[oppD d]) (lems++ls);have h8:2 ^ k≤2 ^ 8:=Nat.pow_le_pow_right dx om;have h11:lems.length≤1000:=by omega
  have:=r_entS (ls:=ls) (lems:=lems) (d:=d) (a:=a) (b:=b) (e:=e) (p:=p) (path:=path) om om (by rw[List.length_map,List.length_map];omega) (key a d ha (l2 a (mf ..))) (key b (oppD d) hb (l2 b (List.mem_cons_of_mem _ (mf ..))));rw[← List.map_append,← ndX_eq,← ndX_eq] at this;exact this
theorem r_entries42 {n:Nd} {k:Nat} (hw:n.Wf k) (hl:n.Lim k) (hk:k≤8):PCalls Tryz.prog [] 42 [.agg (ndX n)] (ensP (entR k n [] [])):=by
 refine pcA [46] Tryz.func42 (fun D=>?_);refine ac (c:=PCalls.nil (pre:=[.agg (ndX n)]) (e:=42) (k:=5) (ts:=[200]) (PCalls.nil (pre:=[.agg (ndX n),dcsP []]) (e:=100) (k:=6) (ts:=[200,98]) (r_ent k n [] [] hw hl hk (nq _) (nq _)).p)) ?_;exact ar (c:=rfl)
theorem r_sdec (x y:Dc):PCalls Tryz.prog [] 143 [dcP x,dcP y] (bP (dcEq x y)):=by
 refine pcA [42] Tryz.func143 (fun D=>?_);refine a2 (fun e10=>?_) (fun e10=>?_)
 ·refine a2 (fun e17=>?_) (fun e17=>?_)
  ·refine ac (c:=r_same) ?_;exact ar (c:=by (try simp only[List.length_map] at *);simp only[dcEq,e10,e17,sb]<;>rfl)
  ·exact ar (c:=by (try simp only[List.length_map] at *);simp only[dcEq,e10,e17,sb]<;>rfl)
 ·exact ar (c:=by (try simp only[List.length_map] at *);simp only[dcEq,e10,sb]<;>rfl)
theorem r_form0 {ls:List Lm} {e:Bool} {p:List Mm} {depth:Int} (h:depth≤2048):PCalls Tryz.prog [] 89 [ndP (.mk ls dc0 [] e p),iP depth] (.tup [bP true,iP 1]):=by
 refine pcA [46] Tryz.func89 (fun D=>?_);refine akF (c:=by exact (show _=false from df om)) ?_;refine akT (c:=by exact (show _=true from rfl)) ?_;refine ac (c:=r_sdec dc0 dc0) ?_;exact ar (c:=rfl)
theorem r_formS {ls:List Lm} {d:Dc} {a b:Nd} {depth A:Int} (h:depth≤2048) (h0:0≤depth) (h1:1≤d.kind) (h2:d.kind≤4) (hA:0≤A) (hA9:A≤60000) (ia:PCalls Tryz.prog [] 89 [ndP a,iP (depth+1)] (.tup [bP true,iP A])) (ib:PCalls Tryz.prog [] 89 [ndP b,iP (depth+1)] (.tup [bP true,iP A])):PCalls Tryz.prog [] 89 [ndP (.mk ls d [a,b] false []),iP depth] (.tup [bP true,iP (1+A+A)]):=by
 obtain⟨l1,d1,k1,e1,p1⟩:=a;obtain⟨l2,d2,k2,e2,p2⟩:=b;refine pcA [46] Tryz.func89 (fun D=>?_);refine akF (c:=by exact (show _=false from df om)) ?_;refine akF (c:=by exact (show _=false from rfl)) ?_;refine akF (c:=by exact (show _=false from rfl)) ?_;refine akF (c:=by exact (show _=false from df om)) ?_;refine akF (c:=by exact (show _=false from df om)) ?_;refine akF (c:=by exact (show _=false from rfl)) ?_;refine au ?_;refine ro0 Y Y Y (fun hd=>opE_idx (i:=0) tab_ok Y Y Y Y Y dx Y Y hd) ?_;refine aa (c:=ari_add om om om om) ?_;refine ac (c:=ia) ?_;refine akF (c:=by exact (show _=false from df om)) ?_;refine au ?_;refine ro0 Y Y Y (fun hd=>opE_idx (i:=1) tab_ok Y Y Y Y Y dx Y Y hd) ?_;refine aa (c:=ari_add om om om om) ?_;refine ac (c:=ib) ?_;refine aa (c:=ari_add om om om om) ?_;refine aa (c:=ari_add om om om om) ?_;exact ar (c:=rfl)
theorem r_tform:∀(k:Nat) {n:Nd} {depth:Int},n.Wf k→0≤depth→depth+(k:Int)≤2048→k≤10→PCalls Tryz.prog [] 89 [ndP n,iP depth] (.tup [bP true,iP (szK k)])
 | 0,.mk ls d ks e p,depth,h,h0,hd,_=>by
  obtain⟨rfl,rfl⟩:=h;exact r_form0 om
 | k+1,.mk ls d ks e p,depth,h,h0,hd,hk=>by
  obtain⟨rfl,rfl,h1,h2,a,b,rfl,ha,hb⟩:=h;have hs:=szK_le k om;exact r_formS (A:=(szK k:Int)) om h0 h1 h2 om om (r_tform k ha om om om) (r_tform k hb om om om)
theorem r_tvalid {n:Nd} {k:Nat} (h:n.Wf k) (hk:k≤10):PCalls Tryz.prog [] 41 [ndP n] (bP true):=by
 obtain⟨ls,d,ks,e,p⟩:=n;have hs:=szK_le k hk;refine pcA [46] Tryz.func41 (fun D=>?_);refine au ?_;refine rc0 (r_tform k h dx om hk) Y Y Y Y Y Y Y ?_;refine akT (c:=by exact (show _=true from dt om)) ?_;exact ar (c:=rfl)
theorem r_entries50 {q:Qr} {n:Nd} {k a b:Nat} (hw:n.Wf k) (hl:n.Lim k) (hk:k≤8) (hq:q.Va a) (hg:q.goal.S 100 8) (hE:∀x∈entR k n [] [],EnOk x∧x.lems.length≤1000∧EnOk (reduceR x)∧((reduceR x).sc q).Va a b):PCalls Tryz.prog TF 13 [qyP q,.agg (ndX n)] (.tup [ensP (keptR q (entR k n [] [])),iP 0]):=by
 have hv:=r_tvalid hw om;rw[show ndP n=.agg (ndX n) from by rw[← ndX_eq]] at hv;have h8:2 ^ k≤2 ^ 8:=Nat.pow_le_pow_right dx hk;have hlen:=entR_len k n [] [];have hs:=r_entries42 hw hl hk;generalize entR k n [] []=L at*;refine pcA [39,46,77] Tryz.func13 (fun D=>?_);refine ac (c:=r_qvalid hq) ?_;refine ac (c:=hv) ?_;refine ac (c:=hs) ?_;refine au ?_;refine tks (t:=7) (id:=99) (e:=77) (k:=10) (ts:=enT) Y ?_;refine pl (ι:={i:Nat // i≤L.length}) (fun i=>[(2,.box 2 0),(6,.pv (ensP L)),(7,.tok 99),(8,.pv (iP (i.1:Int)))]) (fun i=>[(2,.box 39 [.pv (iP q.g.inputs),.pv (formsP q.g.units),.pv (formsP q.g.outputs),.pv (ratsP q.rg.lo),.pv (ratsP q.rg.hi),.pv (formsP q.rg.rows),.pv (termsP q.goal.terms),.pv (bP q.goal.const.neg),.pv (.nat q.goal.const.num),.pv (.nat q.goal.const.den)]),(99,.tok 77 10 enT ((keptR q (L.take i.1)).map enC))]) [39,46,77] (fun i=>L.length - i.1) ⟨0,nq _⟩ (c4 Y Y Y Y trivial) (c2 Y Y trivial) (fun _=>rfl) ?_;intro ⟨i,hi0⟩;refine a2 (fun e23=>?_) (fun e23=>?_)
 ·have hi:i < L.length:=lt_of e23;obtain⟨h0,h1,h2,h3⟩:=hE _ (mg (get_of hi));have hr:PCalls Tryz.prog [] 43 [enP (atZ L (i:Int))] (enP (reduceR (atZ L (i:Int)))):=by have:=r_reduced h1 h0;rw[used_marks] at this;exact this
  generalize hy:reduceR (atZ L (i:Int))=y at*;obtain⟨yp,yl,ye,yr⟩:=y;refine ax (c:=(getmap (get_of hi))) ?_;refine ac (c:=hr) ?_;refine ac (c:=r_applies h3 h2 hg) ?_;refine a2 (fun e33=>?_) (fun e33=>?_)
  ·refine au ?_;refine rp0 el_Entry (by rw[List.length_map];exact nt (Nat.add_le_add_right (nt (kept_len q (L.take i)) (by rw[List.length_take];exact Nat.min_le_right ..)) _) (by simp;omega)) Y Y Y Y Y Y Y Y ?_;refine aa (c:=ari_succ (by show i≤_;omega)) ?_;refine au ?_;exact pe ⟨i+1,hi⟩ (c4 Y Y Y Y trivial) (ai Y (ai (congrArg (fun x=>some (Res.tok 77 10 enT x)) (by show (keptR q (L.take i)).map enC++[enC ⟨yp,yl,ye,yr⟩]=(keptR q (L.take (i+1))).map enC;rw[kept_step hi hy e33];rw[cond_true,List.map_append];rfl)) trivial)) Y (by show L.length - (i+1) < L.length - i;omega)
  ·refine aa (c:=ari_succ (by show i≤_;omega)) ?_;refine au ?_;exact pe ⟨i+1,hi⟩ (c4 Y Y Y Y trivial) (ai Y (ai (congrArg (fun x=>some (Res.tok 77 10 enT x)) (by show (keptR q (L.take i)).map enC=(keptR q (L.take (i+1))).map enC;rw[kept_step hi hy e33];rfl)) trivial)) Y (by show L.length - (i+1) < L.length - i;omega)
 ·have hj:L.length≤i:=ge_of e23;exact ar (c:=congrArg (fun l=>PV.tup [ensP l,iP 0]) (by rw[List.take_of_length_le hj]))
theorem lenK {α β:Type} {f:α→β} {l:List α} {k:Nat} (h:((k:Int) == ((l.map f).length:Int))=true):k=l.length:=by
 have:=eq_of_beq h;rw[List.length_map] at this;omega
theorem lenN {α β:Type} {f:α→β} {l:List α} {k:Nat} (h:((k:Int) == ((l.map f).length:Int))=false):k≠l.length:=by
 have:=beq_eq_false_iff_ne.1 h;rw[List.length_map] at this;omega
theorem fm_set {l:List Fm} {k:Nat} {u f:Fm}:([]++l.map fmC).set k (spl (fmC u) 0 (fmC f))=(l.set k f).map fmC:=by
 rw[List.nil_append,show spl (fmC u) 0 (fmC f)=fmC f from rfl,List.map_set]
theorem r_changed {x:Sv} {L:List Nat} {q:Qr} (hl:∀y∈L,y < 256) (hn:L.length≤1000) (hok:q.g.Ok) (hg:q.goal.S 3 8):PCallsW (By x L) Tryz.prog TQ 10 [qyP q,.raw x.v] (qyP (changedQ q L)):=by
 have g1:=hok.i9;have g2:=hok.u9;have hF0:=Fdp.one hl hn;have k9:=nx_lt (n:=q.g.units.length+1) om L;refine pcW [135,39,37] (by kernel_rfl) Tryz.func10 rfl rfl (fun D hF hM hH=>?_);refine au ?_;refine rsc0 (fun _ _ g=>hH.gr (g.gr hM)) (fun _=>hF) (r_new hn) ?_;refine aa (c:=ari_len1 om) ?_;refine rsc0 (fun _ _ _=>trivial) (fun e=>by cases e) (r_next (n:=q.g.units.length+1) hF0 om) ?_;refine a2 (fun e23=>?_) (fun e23=>?_)
 ·refine au ?_;refine rsc0 (fun _ _ _=>trivial) (fun e=>by cases e) (r_form15 (v:=q.g.inputs) (hF0.nx _) om) ?_;refine au ?_;refine rsc0 (fun _ _ _=>trivial) (fun e=>by cases e) (r_number ((hF0.nx _).form _)) ?_;refine ac (c:=r_fscale (f:=(formQ q.g.inputs (nx (q.g.units.length+1) L).2).1) (smallF_S (formQ_small ..)) (tiny_S (numQ_tiny _)) dx dx om) ?_;refine ac (c:=r_fadd hg ((smallF_S (formQ_small ..)).scaleR (tiny_S (numQ_tiny _))) dx om) ?_;exact ar (c:=by rw[changedQ,if_pos (lenK e23)];rfl)
 ·have hk:(nx (q.g.units.length+1) L).1 < q.g.units.length:=by have:=lenN e23;omega
  refine au ?_;refine rp0 el_Affine (by rw[List.length_map];show 0+q.g.units.length≤_;omega) Y Y Y Y Y Y Y Y ?_;refine aa (c:=ari_nat om om) ?_;refine rsc0 (fun _ _ _=>trivial) (fun e=>by cases e) (r_form15 (v:=q.g.inputs+(nx (q.g.units.length+1) L).1) (hF0.nx _) om) ?_;refine ro0 Y Y Y (fun hd=>opE_idxE (i:=(nx (q.g.units.length+1) L).1) tab_ok Y Y Y Y Y Y dx Y (getmap (get_of hk)) hd) ?_;refine ro0 Y Y Y (fun hd=>opE_storeN (i:=(nx (q.g.units.length+1) L).1) (j:=0) tab_ok Y Y Y Y Y Y Y Y (getmap (get_of hk)) Y (nr 4) Y Y Y) ?_;exact ar (c:=by rw[changedQ,if_neg (lenN e23)];exact congrArg (fun l=>PV.agg [iP q.g.inputs,.rows 37 4 [138,200] l,formsP q.g.outputs,ratsP q.rg.lo,ratsP q.rg.hi,formsP q.rg.rows,termsP q.goal.terms,bP q.goal.const.neg,.nat q.goal.const.num,.nat q.goal.const.den]) fm_set)
theorem changed_va {q:Qr} (L:List Nat) (h:q.Va 2) (hg:q.g.Ok) (hs:q.goal.S 3 8) (h8:q.g.inputs+q.g.units.length≤8):(changedQ q L).Va 2∧(changedQ q L).goal.S 100 8∧(changedQ q L).g.inputs+(changedQ q L).g.units.length≤8:=by
 have i9:=hg.i9;have u9:=hg.u9;unfold changedQ;split
 ·have hf:=formQ_small q.g.inputs (nx (q.g.units.length+1) L).2;have hc:=numQ_tiny (formQ q.g.inputs (nx (q.g.units.length+1) L).2).2;generalize (formQ q.g.inputs (nx (q.g.units.length+1) L).2).1=f at*;generalize (numQ (formQ q.g.inputs (nx (q.g.units.length+1) L).2).2).1=c at*;have hfS:=smallF_S hf;have k:(Fm.scaleR f c).S (1+1) q.g.inputs:=hfS.scaleR (tiny_S hc);have a:=hs.addR k;have ov:(Fm.addR q.goal (Fm.scaleR f c)).Ok (q.g.inputs+q.g.units.length):=a.cn.ok (add_vars (P:=fun v=>0≤v∧v < ((q.g.inputs+q.g.units.length:Nat):Int)) hs.cn k.cn (fun t ht=>⟨(h.ok.each t ht).1,(h.ok.each t ht).2.1⟩) (scale_vars (P:=fun v=>0≤v∧v < ((q.g.inputs+q.g.units.length:Nat):Int)) hfS.cn fun t ht=>⟨(hf.ok.each t ht).1,by have:=(hf.ok.each t ht).2.1;omega⟩));have each:∀t∈(Fm.addR q.goal (Fm.scaleR f c)).terms,t.2.S 100:=fun t ht=>(a.each t ht).up dx
  have const:(Fm.addR q.goal (Fm.scaleR f c)).const.S 100:=a.const.up dx;exact⟨⟨h.g,h.us,h.rg,ov,⟨a.cn,each,const,ok_len ov⟩⟩,⟨a.cn,each,const,nt (ok_len ov) h8⟩,h8⟩
 ·have hf:=formQ_small (q.g.inputs+(nx (q.g.units.length+1) L).1) (nx (q.g.units.length+1) L).2;generalize (formQ (q.g.inputs+(nx (q.g.units.length+1) L).1) (nx (q.g.units.length+1) L).2).1=f at*;generalize (nx (q.g.units.length+1) L).1=k at*;have hp:=Gm.put_ok hg hf;have hl:(q.g.put k f).units.length=q.g.units.length:=List.length_set;have hi:(q.g.put k f).inputs=q.g.inputs:=rfl;refine⟨⟨hp.va,fun x hx=>?_,h.rg,?_,?_⟩,hs.up dx (nr _),?_⟩
  ·have hx:x∈(q.g.put k f).units:=hx;obtain⟨j,hj,rfl⟩:=List.mem_iff_getElem.1 hx;have hsm:=hp.us j _ (ge hj);exact (smallF_S hsm).up dx (by show (q.g.put k f).inputs+j≤(q.g.put k f).inputs+(q.g.put k f).units.length;omega)
  ·show q.goal.Ok ((q.g.put k f).inputs+(q.g.put k f).units.length);rw[hl,hi];exact h.ok
  ·show q.goal.S 100 ((q.g.put k f).inputs+(q.g.put k f).units.length);rw[hl,hi];exact h.goal
  ·show (q.g.put k f).inputs+(q.g.put k f).units.length≤8;rw[hl,hi];exact h8
theorem same_self {q:Qr} {l:List En} {a b:Nat} (hE:∀x∈l,EnOk x∧x.lems.length≤1000∧EnOk (reduceR x)∧((reduceR x).sc q).Va a b) (hl:l.length≤1000000):PCalls Tryz.prog [] 14 [ensP (keptR q l),ensP (keptR q l)] (bP true):=by
 have:=r_sameens (keptR q l) (keptR q l) (nt (kept_len ..) hl) fun y hy=>by
  obtain⟨x,hx,rfl⟩:=kept_mem hy;exact EnZ.of (hE x hx).2.2.1 (hE x hx).2.2.2
 rw[eqL_refl enEq_refl] at this;exact this
theorem p_ents1 {A0 A1:Option Addr} {k0 k1:Nat} {L M:List Nat} {u:Nat} (hl:∀y∈L,y < 256) (hn:L.length≤300) (hm:∀y∈M,y < 256) (hn2:M.length≤60) (hu:u < 65536):PCallsW (fun w=>LaidG w∧(By ⟨A0,L.length,k0⟩ L w∧By ⟨A1,M.length,k1⟩ M w)) Tryz.prog TL 3 [.raw (.slice A0 L.length k0),.raw (.slice A1 M.length k1),.raw (.int .u16 (u:Int))] (bP true):=by
 obtain⟨g1,g2,g3,g4,g5⟩:=tree_good L;have t4:=(tree_two L).2.2.2;have hk:treeK L≤8:=nt (treeK_le L) dx;have tt:=tree_tight L;have w5:=spN_wf _ _ u g4;have gd:=spN_good _ _ u g5 tt;have hs:=r_spN _ _ u g4 g5 tt hu;have hok:(treeQ L).g.Ok:=by rw[(treeQ_same L).1];exact graphQ_ok L
 obtain⟨c1,c2,c3⟩:=changed_va M g1 hok t4 g2;have hch:=r_changed (x:=⟨A1,M.length,k1⟩) hm om hok t4;have hE1:=ent_all g5 hk c1 dx dx c3;have he1:=p_entries g4 g5.lim hk c1 c3 c2 hE1;have hf1:=r_entries50 g4 g5.lim hk c1 c2 hE1;have hE2:=ent_all gd hk g1 dx dx g2;have he2:=p_entries w5 gd.lim hk g1 g2 g3 hE2;have hf2:=r_entries50 w5 gd.lim hk g1 g3 hE2;have h9:2 ^ treeK L≤1000000:=nt (Nat.pow_le_pow_right dx hk) dx;have hA:=same_self hE1 (nt (entR_len ..) h9);have hB:=same_self hE2 (nt (entR_len ..) h9);have ht:=r_tree (A:=A0) (k:=k0) hl om;generalize keptR (changedQ (treeQ L) M) (entR (treeK L) (treeN L) [] [])=A at*;generalize keptR (treeQ L) (entR (treeK L) (spN (treeK L) (treeN L) u) [] [])=B at*;generalize changedQ (treeQ L) M=q2 at*;clear g3 g4 g5 t4 tt w5 gd hE1 hE2 hk hok c1 c2 c3 h9;rw[← ndX_eq] at he1 he2 hf1 hf2;generalize spN (treeK L) (treeN L) u=n1 at*;generalize treeQ L=q at*;generalize treeN L=n at*;obtain⟨ls,d,ks,e,p⟩:=n;obtain⟨ls1,d1,ks1,e1,p1⟩:=n1;refine pcW [39,46] (by kernel_rfl) Tryz.func3 rfl rfl (fun D hF hM hH=>?_);refine au ?_;refine rcw hM (fun _ G=>hH.1.gr G) (p_awakeW) Y Y Y Y Y Y Y ?_;refine qg 1 ?_;refine rn Y (pif Y (fun e=>by cases e) (fun _=>?_));refine pk (ps (pr0 (qg 1 ?_)));refine ro0 Y Y Y (fun hd=>opE_lenR Y Y Y hd) ?_;refine akF (c:=by exact (show _=false from df om)) ?_;refine qg 2 ?_;refine ro0 Y Y Y (fun hd=>opE_lenR Y Y Y hd) ?_;refine akF (c:=by exact (show _=false from df om)) ?_;refine au ?_;refine rcw hM (fun _=>hH.2.1.gr) (ht) Y Y Y Y Y Y Y ?_;refine au ?_;refine rcw hM (fun _=>hH.2.2.gr) (hch) Y Y Y Y Y Y Y ?_;refine ac (c:=hs) ?_;refine au ?_;refine rcw hM (fun _ G=>hH.1.gr G) (he1) Y Y Y Y Y Y Y ?_;refine ac (c:=hf1) ?_;refine au ?_;refine rcw hM (fun _ G=>hH.1.gr G) (he2) Y Y Y Y Y Y Y ?_;refine ac (c:=hf2) ?_;refine akT (c:=by exact (show _=true from rfl)) ?_;refine akT (c:=by exact (show _=true from rfl)) ?_;refine ac (c:=hA) ?_;refine ac (c:=hB) ?_;exact ar (c:=rfl)
theorem p_ents2 {A0 A1:Option Addr} {n0 k0 n1 k1 u:Nat} (h:300 < n0):PCallsW LaidG Tryz.prog TL 3 [.raw (.slice A0 n0 k0),.raw (.slice A1 n1 k1),.raw (.int .u16 (u:Int))] (bP true):=by
 refine pcW [39,46] (by kernel_rfl) Tryz.func3 rfl rfl (fun D hF hM hH=>?_);refine au ?_;refine rcw hM (fun _ G=>hH.gr G) (p_awakeW) Y Y Y Y Y Y Y ?_;refine qg 1 ?_;refine rn Y (pif Y (fun e=>by cases e) (fun _=>?_));refine pk (ps (pr0 (qg 1 ?_)));refine ro0 Y Y Y (fun hd=>opE_lenR Y Y Y hd) ?_;refine akT (c:=by exact (show _=true from dt om)) ?_;exact ar (c:=rfl)
theorem p_ents3 {A0 A1:Option Addr} {n0 k0 n1 k1 u:Nat} (h0:n0≤300) (h:60 < n1):PCallsW LaidG Tryz.prog TL 3 [.raw (.slice A0 n0 k0),.raw (.slice A1 n1 k1),.raw (.int .u16 (u:Int))] (bP true):=by
 refine pcW [39,46] (by kernel_rfl) Tryz.func3 rfl rfl (fun D hF hM hH=>?_);refine au ?_;refine rcw hM (fun _ G=>hH.gr G) (p_awakeW) Y Y Y Y Y Y Y ?_;refine qg 1 ?_;refine rn Y (pif Y (fun e=>by cases e) (fun _=>?_));refine pk (ps (pr0 (qg 1 ?_)));refine ro0 Y Y Y (fun hd=>opE_lenR Y Y Y hd) ?_;refine akF (c:=by exact (show _=false from df om)) ?_;refine qg 2 ?_;refine ro0 Y Y Y (fun hd=>opE_lenR Y Y Y hd) ?_;refine akT (c:=by exact (show _=true from dt om)) ?_;exact ar (c:=rfl)
theorem law_ents_in (w:World) (hw:LaidG w) (a0:Option Addr) (len0 cap0:Nat) (zs0:List Int) (a1:Option Addr) (len1 cap1:Nat) (zs1:List Int) (u:Int) (h0:IsRow .u8 w a0 len0 cap0 zs0) (h1:IsRow .u8 w a1 len1 cap1 zs1) (hu:(Lit.int .u16 u).wf=true):
  Calls Tryz.prog 3 #[.slice a0 len0 cap0,.slice a1 len1 cap1,.int .u16 u] w fun e w'=>e=.returned (.bool true)∧Below w.heap.size w w':=by
 obtain⟨u0,u1⟩:=bounds_u16 hu;obtain⟨u,rfl⟩:=Int.eq_ofNat_of_zero_le u0;have hr:PV.RepL w NoX [.raw (.slice a0 len0 cap0),.raw (.slice a1 len1 cap1),.raw (.int .u16 (u:Int))] [.slice a0 len0 cap0,.slice a1 len1 cap1,.int .u16 (u:Int)]:=PV.RepL.cons (raw_to _) (PV.RepL.cons (raw_to _) (PV.RepL.cons (raw_to _) PV.RepL.nil));rcases Nat.lt_or_ge 300 len0 with h | h
 ·exact (p_ents2 h).in1 hw hr
 ·rcases Nat.lt_or_ge 60 len1 with k | k
  ·exact (p_ents3 h k).in1 hw hr
  ·have hl:=bytes_len h0;have hm:=bytes_len h1;have hp:=p_ents1 (A0:=a0) (k0:=cap0) (A1:=a1) (k1:=cap1) (u:=u) h0.lim om h1.lim om om;rw[hl,hm] at hp;exact hp.in1 ⟨hw,h0.is,h1.is⟩ hr
end Go.Proofs.YtbhbainhmfjpdaaGreatDoor
