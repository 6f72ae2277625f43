/- merge.least and merge.Lists by rules. -/
import Derived.Test.YtginkbjclkdglaaGreatIN2Z
import Derived.Test.YtginkbjclkdglaaGreatV18Z
import Derived.Test.YtginkbjclkdglaaGreatB2Z
import Derived.Test.YtginkbjclkdglaaGreatKWZ
import Derived.Test.YtginkbjclkdglaaGreatV49Z
import Derived.Test.YtginkbjclkdglaaGreatKFZ
set_option maxHeartbeats 8000000
namespace Go.Proofs.YtginkbjclkdglaaGreat
open Go Go.RowKit
open Mg
def cA(c:List aC×Int):AV:=.agg [.sl 3 (c.1.map eA),.i .i64 c.2]
def qL:Option Nat→Int
 |none=> -1
 |some j=>j
def mY(cu:List (List aC×Int)):List (List aC):=cu.map Prod.fst
theorem tw(cu:List (List aC×Int))(k:Nat)(h:k<cu.length):(mY cu)[k]?=some cu[k].1:=by unfold mY;rw[List.getElem?_map,List.getElem?_eq_getElem h];rfl
theorem uO{l:List aC}(h:0<l.length):∃xs,l=l[0]::xs:=by
 cases l with
 |nil=>exact absurd h (by simp)
 |cons x xs=>exact⟨xs,rfl⟩
theorem Ib(cu:List (List aC×Int))(k:Nat)(h:k<cu.length)(h0:¬ 0<cu[k].1.length):dB (mY cu) (k+1)=dB (mY cu) k:=by
 have hn:cu[k].1=[]:=List.eq_nil_of_length_eq_zero (by omega)
 conv=>lhs;unfold dB
 rw[tw cu k h,hn]
theorem Ia(cu:List (List aC×Int))(k:Nat)(h:k<cu.length)(h0:0<cu[k].1.length)(hc:dB (mY cu) k=none):dB (mY cu) (k+1)=some k:=by
 obtain⟨xs,hx⟩:=uO h0
 conv=>lhs;unfold dB
 rw[tw cu k h,hx,hc]
theorem H9(cu:List (List aC×Int))(k j:Nat)(h:k<cu.length)(h0:0<cu[k].1.length)(hc:dB (mY cu) k=some j)(hj:j<cu.length)(hj0:0<cu[j].1.length):
 dB (mY cu) (k+1)=if Op.bytesLess cu[k].1[0].k cu[j].1[0].k=true then some k else some j:=by
 obtain⟨xs,hx⟩:=uO h0
 obtain⟨ys,hy⟩:=uO hj0
 have e1:=tw cu k h
 have e2:=tw cu j hj
 generalize cu[k].1[0]=x at hx ⊢
 generalize cu[j].1[0]=y at hy ⊢
 rw[hx] at e1
 rw[hy] at e2
 conv=>lhs;unfold dB
 rw[e1]
 dsimp only
 rw[hc]
 dsimp only
 rw[e2]
 rfl
theorem Bi(cu:List (List aC×Int))(k j:Nat)(hk:k≤cu.length)(h:dB (mY cu) k=some j):∃(hj:j<cu.length),j<k∧0<cu[j].1.length:=by
 obtain⟨h1,y,ys,h2⟩:=oe (mY cu) k j h
 have hj:j<cu.length:=by omega
 rw[tw cu j hj] at h2
 injection h2 with h2
 exact⟨hj,h1,by rw[h2];simp⟩
theorem vZ(cu:List (List aC×Int))(hn:cu.length≤1000000):aQ Tryz.prog 82 [.sl 2 (cu.map cA)] [] (fun r os=>r= .i .i64 (qL (dB (mY cu) cu.length))∧os=[]):=by
 refine aA ab [] Tryz.func82 Z Tryz.ntmps82 aN Z Z (fun C=>?_) Z
 repeat' (first|refine ae ?_|refine aj ?_|refine aa ?_|refine ac (ax ?_)|refine br Z ab Z Z Z (fun _=>?_)|refine aU ab (fun _=>?_))
 refine aO (fun k:Nat=>⟨40,[(3,.i .i64 (qL (dB (mY cu) k))),(8,.i .i64 k),(7,.i .i64 cu.length),(6,.sl 2 (cu.map cA)),(0,.sl 2 (cu.map cA))],[]⟩) (fun k=>k≤cu.length) (fun k=>cu.length - k) [] 0 (Nat.zero_le _) ?_ ?_
 ·exact⟨rfl,⟨ai Z,ai Z,ai Z,ay Z,ay Z,J⟩,.nil⟩
 intro k hk
 by_cases hlt:k<cu.length
 ·have g0:=Ib cu k hlt
  have g1:=Ia cu k hlt
  have g2:=H9 cu k
  have g3:=Bi cu k
  rcases hcur:dB (mY cu) k with _|j
  ·rw[hcur] at g0
   rw[show qL none= -1 from rfl]
   by_cases h0:0<cu[k].1.length
   ·have g1:=g1 h0 hcur
    repeat' (first|refine ae ?_|refine aj ?_|refine aa ?_|refine ac (ax ?_)|refine ac (db ?_)|refine ah (ax ?_)|refine ib Z Z Z cM ?_|(refine bc Z Z Z Z ?_ ?_;omega)|refine br Z ab Z Z Z (fun _=>?_)|refine aU ab (fun _=>?_)|refine aF Z ab Z Z Z (fun bA=>?_)|refine aD ab Z Z Z Z Z Z Z ⟨rfl,rfl⟩ Z Z Z Z Z ?_|(refine aK Z ab Z Z Z Z Z Z ?_ (aE ?_) ?_;omega;omega)|(fail_if_success (refine aM Z cM ?_));(refine aV Z Z (fun hc=>?_) (fun hc=>?_)<;>try omega)|refine aR Z ?_|(refine ao Z (fun hc=>?_) (fun hc=>?_))<;>try omega|refine cg 5 [] [] [] [0,1,2,3,4,5,6,7,8,13,14,15,16,9,10,11,12,17,18,19,20,21,22,23] aN aN aN Z Z Z ?_)
    exact⟨k+1,[],by omega,by omega,rfl,⟨ai (by rw[g1];rfl),ai Z,ai Z,ay Z,ay Z,J⟩,.nil⟩
   ·have g0:=g0 h0
    repeat' (first|refine ae ?_|refine aj ?_|refine aa ?_|refine ac (ax ?_)|refine ac (db ?_)|refine ah (ax ?_)|refine d9 Z Z Z cM ?_|refine vG Z Z Z cM ?_|(refine bc Z Z Z Z ?_ ?_;omega)|refine br Z ab Z Z Z (fun _=>?_)|refine aU ab (fun _=>?_)|refine aF Z ab Z Z Z (fun bA=>?_)|refine aD ab Z Z Z Z Z Z Z ⟨rfl,rfl⟩ Z Z Z Z Z ?_|(refine aK Z ab Z Z Z Z Z Z ?_ (aE ?_) ?_;omega;omega)|(fail_if_success (refine aM Z cM ?_));(refine aV Z Z (fun hc=>?_) (fun hc=>?_)<;>try omega)|refine aB Z ?_|(refine ao Z (fun hc=>?_) (fun hc=>?_))<;>try omega|refine cg 5 [] [] [] [0,1,2,3,4,5,6,7,8,13,14,15,16,9,10,11,12,17,18,19,20,21,22,23] aN aN aN Z Z Z ?_)
    exact⟨k+1,[],by omega,by omega,rfl,⟨ai (by rw[g0];rfl),ai Z,ai Z,ay Z,ay Z,J⟩,.nil⟩
  ·obtain⟨hj,hjk,hj0⟩:=g3 j hk hcur
   rw[hcur] at g0
   rw[show qL (some j)=(j:Int) from rfl]
   by_cases h0:0<cu[k].1.length
   ·have g2:=g2 j hlt h0 hcur hj hj0
    repeat' (first|refine ae ?_|refine aj ?_|refine aa ?_|refine ac (ax ?_)|refine ac (db ?_)|refine ah (ax ?_)|(refine bc Z Z Z Z ?_ ?_;omega)|refine br Z ab Z Z Z (fun _=>?_)|refine aU ab (fun _=>?_)|refine aF Z ab Z Z Z (fun bA=>?_)|refine aD ab Z Z Z Z Z Z Z ⟨rfl,rfl⟩ Z Z Z Z Z ?_|(refine aK Z ab Z Z Z Z Z Z ?_ (aE ?_) ?_;omega;omega)|(fail_if_success (refine aM Z cM ?_));(refine aV Z Z (fun hc=>?_) (fun hc=>?_)<;>try omega)|(refine ao Z (fun hc=>?_) (fun hc=>?_))<;>try omega|(refine ba Z (fun hc=>?_) (fun hc=>?_))|refine cg 5 [] [] [] [0,1,2,3,4,5,6,7,8,13,14,15,16,9,10,11,12,17,18,19,20,21,22,23] aN aN aN Z Z Z ?_)
    ·exact⟨k+1,[],by omega,by omega,rfl,⟨ai (by rw[g2,if_pos hc];rfl),ai Z,ai Z,ay Z,ay Z,J⟩,.nil⟩
    ·exact⟨k+1,[],by omega,by omega,rfl,⟨ai (by rw[g2,if_neg (by rw[hc];decide)];rfl),ai Z,ai Z,ay Z,ay Z,J⟩,.nil⟩
   ·have g0:=g0 h0
    repeat' (first|refine ae ?_|refine aj ?_|refine aa ?_|refine ac (ax ?_)|refine ac (db ?_)|refine ah (ax ?_)|refine d9 Z Z Z cM ?_|refine vG Z Z Z cM ?_|(refine bc Z Z Z Z ?_ ?_;omega)|refine br Z ab Z Z Z (fun _=>?_)|refine aU ab (fun _=>?_)|refine aF Z ab Z Z Z (fun bA=>?_)|refine aD ab Z Z Z Z Z Z Z ⟨rfl,rfl⟩ Z Z Z Z Z ?_|(refine aK Z ab Z Z Z Z Z Z ?_ (aE ?_) ?_;omega;omega)|(fail_if_success (refine aM Z cM ?_));(refine aV Z Z (fun hc=>?_) (fun hc=>?_)<;>try omega)|refine aB Z ?_|(refine ao Z (fun hc=>?_) (fun hc=>?_))<;>try omega|refine cg 5 [] [] [] [0,1,2,3,4,5,6,7,8,13,14,15,16,9,10,11,12,17,18,19,20,21,22,23] aN aN aN Z Z Z ?_)
    exact⟨k+1,[],by omega,by omega,rfl,⟨ai (by rw[g0];rfl),ai Z,ai Z,ay Z,ay Z,J⟩,.nil⟩
 ·have hkl:k=cu.length:=by omega
  subst hkl
  repeat' (first|refine ae ?_|refine aa ?_|refine ac (ax ?_)|refine aw (ax ?_)|refine ap (bC ?_)|refine aU ab (fun _=>?_)|(refine ao Z (fun hc=>?_) (fun hc=>?_))<;>try omega)
  exact jh
set_option maxHeartbeats 16000000
open Mg
def Jl(ls:List (List aC))(k:Nat):List (List aC×Int):=(ls.take k).zipIdx.map (fun p=>(p.1,(p.2:Int)))
theorem IR(ls:List (List aC))(k:Nat)(h:k<ls.length):Jl ls (k+1)=Jl ls k++[(ls[k],(k:Int))]:=by
 unfold Jl
 rw[List.take_succ_eq_append_getElem h,List.zipIdx_append,List.map_append,List.length_take,Nat.min_eq_left (Nat.le_of_lt h)]
 simp
theorem Fe(ls:List (List aC))(k:Nat)(h:k≤ls.length):(Jl ls k).length=k:=by
 unfold Jl;rw[List.length_map,List.length_zipIdx,List.length_take,Nat.min_eq_left h]
theorem J4(ls:List (List aC)):mY (Jl ls ls.length)=ls:=by
 unfold mY Jl
 rw[List.take_length,List.map_map]
 show (ls.zipIdx.map Prod.fst)=ls
 exact List.zipIdx_map_fst 0 ls
def Md(ls:List (List aC)):List AV:=ls.map (fun l=>.sl 3 (l.map eA))
theorem LV(cu:List (List aC×Int))(i:Nat)(c:List aC×Int):mY (cu.set i c)=(mY cu).set i c.1:=by unfold mY;rw[List.map_set]
theorem t8(ls:List (List aC))(drop:Bool)(hn:ls.length≤1000)(ht:cF ls≤100000):
 aQ Tryz.prog 39 [.sl 1 (Md ls),.b drop] [] (fun r os=>r= .sl 3 ((pg ls drop).map eA)∧os=[]):=by
 refine aA ab [] Tryz.func39 Z Tryz.ntmps39 aN Z Z (fun C=>?_) Z
 obtain⟨tgt,hT⟩:∃t,t=pg ls drop:=⟨_,rfl⟩
 have htl:tgt.length≤100000:=by rw[hT];exact Nat.le_trans (qK ls drop) ht
 rw[←hT]
 unfold Md
 repeat' (first|refine ae ?_|refine aa ?_|refine ac (ax ?_)|refine br Z ab Z Z Z (fun _=>?_)|refine aU ab (fun _=>?_))
 refine F3 ab Z Z Z Z Z Z Z Z Z ls.length Z Z (by omega) (by omega) (fun v15=>?_)
 repeat' (first|refine ae ?_|refine aj ?_|refine aa ?_|refine ac (ax ?_)|refine br Z ab Z Z Z (fun _=>?_)|refine aU ab (fun _=>?_))
 refine aO (fun q:Nat×Value=>⟨74,[(18,.i .i64 q.1),(17,.i .i64 ls.length),(16,.sl 1 (ls.map (fun l=>.sl 3 (l.map eA)))),(5,.own 15 q.2),(1,.b drop)],[(15,.row q.2 150 2 ((Jl ls q.1).map cA))]⟩)
  (fun q=>q.1≤ls.length) (fun q=>ls.length - q.1) [] (0,v15) (Nat.zero_le _) ?_ ?_
 ·exact⟨rfl,⟨ai Z,ai Z,ay Z,aJ,gq Z,J⟩,cr.cons 15 Z (aZ Z) .nil⟩
 rintro⟨k,vcs⟩ hk
 dsimp only at hk ⊢
 by_cases hlt:k<ls.length
 ·have hst:=IR ls k hlt
  have hcl:=Fe ls k hk
  generalize Jl ls k=cu at hst hcl ⊢
  repeat' (first|refine ae ?_|refine aj ?_|refine aa ?_|refine ac (ax ?_)|refine ac (db ?_)|refine ah (ax ?_)|(refine bc Z Z Z Z ?_ ?_;omega)|refine aU ab (fun _=>?_)|(refine aK Z ab Z Z Z Z Z Z ?_ (aE ?_) ?_;omega;omega)|refine cd ab Z Z Z Z Z Z eo ?_|refine aI ab Z Z Z Z Z Z Z Z Z Z Z eo (fun _=>?_)|(refine bH ab Z Z Z Z Z Z Z Z Z (by first|exact J|exact rfl) Z Z (fun _=>rfl) ?_ ?_ (fun _=>?_);(exact dt);(exact dt))|(refine ao Z (fun hc=>?_) (fun hc=>?_))<;>try omega)
  exact⟨(k+1,_),[],hlt,by show ls.length - (k+1)<ls.length - k;omega,rfl,⟨ai Z,ai Z,ay Z,aJ,gq Z,J⟩,cr.cons 15 Z (aZ (by rw[hst,List.map_append];rfl)) .nil⟩
 have hkl:k=ls.length:=by omega
 subst hkl
 have hca:=J4 ls
 have hcl:=Fe ls ls.length (Nat.le_refl _)
 generalize Jl ls ls.length=cu at hca hcl ⊢
 have hle:=vZ cu (by omega)
 repeat' (first|refine ae ?_|refine aj ?_|refine aa ?_|refine ac (ax ?_)|refine aw (ax ?_)|refine aU ab (fun _=>?_)|(refine ao Z (fun hc=>?_) (fun hc=>?_))<;>try omega|(refine jz Z (hle) Z ⟨bu (bP (.head _)) Z,J⟩ Z ?_;rintro _ _ ⟨rfl,rfl⟩;refine⟨rfl,rfl,?_⟩))
 refine aO (fun q:List (List aC×Int)×Value×List aC×Value×Option (List UInt8)=>⟨74,[(11,.i .i64 (qL (dB (mY q.1) q.1.length))),(10,.b q.2.2.2.2.isSome),(9,.s (q.2.2.2.2.getD [])),(8,.own 72 q.2.2.2.1),(5,.own 15 q.2.1),(1,.b drop)],[(72,.row q.2.2.2.1 47 3 (q.2.2.1.map eA)),(15,.row q.2.1 150 2 (q.1.map cA))]⟩)
  (fun q=>q.1.length=ls.length∧tgt=q.2.2.1++kZ drop (cF (mY q.1)) (mY q.1) q.2.2.2.2) (fun q=>cF (mY q.1)) [] (cu,vcs,[],.slice none 0 0,none) ⟨hcl,by rw[hca];exact hT⟩ ?_ ?_
 ·exact⟨rfl,⟨ai Z,gq Z,cY Z,dp,aJ,gq Z,J⟩,cr.none (az 15 Z .nil)⟩
 clear hcl hca hle hT
 clear cu vcs
 rintro⟨cu,vcs,out,vout,last⟩ ⟨hcl,ht⟩
 dsimp only at hcl ht ⊢
 have hol:out.length≤100000:=by
  have:=congrArg List.length ht;rw[List.length_append] at this;omega
 rcases hlt:dB (mY cu) cu.length with _|i
 ·rw[Dp (by unfold mY at hlt ⊢;rw[List.length_map];exact hlt),List.append_nil] at ht
  subst ht
  rw[show qL none= -1 from rfl]
  repeat' (first|refine ae ?_|refine aa ?_|refine ac (ax ?_)|refine aw (ax ?_)|refine ap (bC ?_)|refine aU ab (fun _=>?_)|refine aB Z ?_)
  refine bp Z Z Z [72] [] (bP ?_) .nil ⟨rfl,rfl⟩ _ (.inl Z)
  exact .head _
 ·obtain⟨hi,_,h0⟩:=Bi cu cu.length i (Nat.le_refl _) hlt
  obtain⟨xs,hx⟩:=uO h0
  have bU:(mY cu)[i]?=some (cu[i].1[0]::xs):=by rw[tw cu i hi,←hx]
  have hts:=sC (mY cu) i _ xs bU
  have hml:=Dn (drop:=drop) (last:=last) (by unfold mY at hlt ⊢;rw[List.length_map];exact hlt) bU
  have hdr:cu[i].1.drop 1=xs:=by rw[hx];rfl
  have hfs:(mY cu).set i xs=mY (cu.set i (xs,cu[i].2)):=(LV cu i (xs,cu[i].2)).symm
  rw[hfs] at hts hml
  have hcA:(cu.set i (xs,cu[i].2)).map cA=(cu.map cA).set i (.agg [.sl 3 (((cu[i].1.take cu[i].1.length).drop 1).map eA),.i .i64 cu[i].2]):=by
   rw[List.map_set]
   congr 1
   unfold cA
   rw[←hdr,List.take_length]
  have hcl2:(cu.set i (xs,cu[i].2)).length=ls.length:=by rw[List.length_set];exact hcl
  have hle:=vZ (cu.set i (xs,cu[i].2)) (by omega)
  rw[hcA] at hle
  rw[hml] at ht
  generalize cu.set i (xs,cu[i].2)=cu' at hts ht hle hcA hcl2
  rw[show qL (some i)=(i:Int) from rfl]
  clear hml hfs bU hlt
  rcases last with _|s
  ·cases drop
   ·repeat' (first|refine ae ?_|refine aj ?_|refine aa ?_|refine ac (ax ?_)|refine ac (db ?_)|refine ah (ax ?_)|refine d9 Z Z Z cM ?_|refine ib Z Z Z cM ?_|refine aU ab (fun _=>?_)|refine aF (d:=12) Z ab Z Z Z (fun b12=>?_)|refine aD ab Z Z Z Z Z Z Z ⟨rfl,rfl⟩ Z Z Z Z Z ?_|(refine aK Z ab Z Z Z Z Z Z ?_ (aE ?_) ?_;omega;omega)|(refine bD ab Z Z Z Z Z Z Z Z _ Z ?_ (fun bO hbO=>?_);(exact dt))|(refine bR ab Z Z Z Z Z (by assumption) (aY (List.getElem?_eq_getElem ?_)) Z Z (by first|exact Nat.add_zero _|rfl) ⟨rfl,rfl⟩ ?_;omega)|(refine bQ ab Z Z Z Z Z Z (by assumption) (aY (List.getElem?_eq_getElem ?_)) Z Z (by first|exact Nat.add_zero _|rfl) ⟨rfl,rfl⟩ Z Z ?_;omega)|refine aI ab Z Z Z Z Z Z Z Z Z Z Z eo (fun _=>?_)|(refine bH ab Z Z Z Z Z Z Z Z Z (by first|exact J|exact rfl) Z Z (fun _=>rfl) ?_ ?_ (fun _=>?_);(exact dt);(exact dt))|refine aR Z ?_|refine aB Z ?_|(refine d5 ab Z 1 cu[i].1.length Z Z Z Z Z (cn Z Z) da (by omega) (by omega) ?_)|(refine jz Z (hle) Z ⟨bu (bP (.head _)) Z,J⟩ Z ?_;rintro _ _ ⟨rfl,rfl⟩;refine⟨rfl,rfl,?_⟩))
    exact⟨(cu',_,out++[cu[i].1[0]],_,some cu[i].1[0].k),[],⟨hcl2,by rw[ht];simp⟩,by show cF (mY cu')<cF (mY cu);omega,rfl,⟨ai Z,gq Z,cY Z,aJ,aJ,gq Z,J⟩,cr.cons 72 Z (aZ (by rw[List.map_append];rfl)) (cr.cons 15 Z (aZ hcA.symm) .nil)⟩
   ·cases hg:cu[i].1[0].g
    ·repeat' (first|(exfalso;rw[hg] at hc;exact absurd hc (by decide))|refine ae ?_|refine aj ?_|refine aa ?_|refine ac (ax ?_)|refine ac (db ?_)|refine ah (ax ?_)|refine d9 Z Z Z cM ?_|refine aU ab (fun _=>?_)|refine aF (d:=12) Z ab Z Z Z (fun b12=>?_)|refine aD ab Z Z Z Z Z Z Z ⟨rfl,rfl⟩ Z Z Z Z Z ?_|(refine aK Z ab Z Z Z Z Z Z ?_ (aE ?_) ?_;omega;omega)|(refine bD ab Z Z Z Z Z Z Z Z _ Z ?_ (fun bO hbO=>?_);(exact dt))|(refine bR ab Z Z Z Z Z (by assumption) (aY (List.getElem?_eq_getElem ?_)) Z Z (by first|exact Nat.add_zero _|rfl) ⟨rfl,rfl⟩ ?_;omega)|(refine bQ ab Z Z Z Z Z Z (by assumption) (aY (List.getElem?_eq_getElem ?_)) Z Z (by first|exact Nat.add_zero _|rfl) ⟨rfl,rfl⟩ Z Z ?_;omega)|refine aI ab Z Z Z Z Z Z Z Z Z Z Z eo (fun _=>?_)|(refine bH ab Z Z Z Z Z Z Z Z Z (by first|exact J|exact rfl) Z Z (fun _=>rfl) ?_ ?_ (fun _=>?_);(exact dt);(exact dt))|refine aR Z ?_|refine aB Z ?_|(refine ba Z (fun hc=>?_) (fun hc=>?_))|(refine d5 ab Z 1 cu[i].1.length Z Z Z Z Z (cn Z Z) da (by omega) (by omega) ?_)|(refine jz Z (hle) Z ⟨bu (bP (.head _)) Z,J⟩ Z ?_;rintro _ _ ⟨rfl,rfl⟩;refine⟨rfl,rfl,?_⟩))
     exact⟨(cu',_,out++[cu[i].1[0]],_,some cu[i].1[0].k),[],⟨hcl2,by rw[ht,hg];simp⟩,by show cF (mY cu')<cF (mY cu);omega,rfl,⟨ai Z,gq Z,cY Z,aJ,aJ,gq Z,J⟩,cr.cons 72 Z (aZ (by rw[List.map_append];rfl)) (cr.cons 15 Z (aZ hcA.symm) .nil)⟩
    ·repeat' (first|(exfalso;rw[hg] at hc;exact absurd hc (by decide))|refine ae ?_|refine aj ?_|refine aa ?_|refine ac (ax ?_)|refine ac (db ?_)|refine ah (ax ?_)|refine d9 Z Z Z cM ?_|refine aU ab (fun _=>?_)|refine aF (d:=12) Z ab Z Z Z (fun b12=>?_)|refine aD ab Z Z Z Z Z Z Z ⟨rfl,rfl⟩ Z Z Z Z Z ?_|(refine aK Z ab Z Z Z Z Z Z ?_ (aE ?_) ?_;omega;omega)|(refine bD ab Z Z Z Z Z Z Z Z _ Z ?_ (fun bO hbO=>?_);(exact dt))|(refine bR ab Z Z Z Z Z (by assumption) (aY (List.getElem?_eq_getElem ?_)) Z Z (by first|exact Nat.add_zero _|rfl) ⟨rfl,rfl⟩ ?_;omega)|(refine bQ ab Z Z Z Z Z Z (by assumption) (aY (List.getElem?_eq_getElem ?_)) Z Z (by first|exact Nat.add_zero _|rfl) ⟨rfl,rfl⟩ Z Z ?_;omega)|refine aR Z ?_|refine aB Z ?_|(refine ba Z (fun hc=>?_) (fun hc=>?_))|(refine d5 ab Z 1 cu[i].1.length Z Z Z Z Z (cn Z Z) da (by omega) (by omega) ?_)|(refine jz Z (hle) Z ⟨bu (bP (.head _)) Z,J⟩ Z ?_;rintro _ _ ⟨rfl,rfl⟩;refine⟨rfl,rfl,?_⟩))
     exact⟨(cu',_,out,_,some cu[i].1[0].k),[],⟨hcl2,by rw[ht,hg];simp⟩,by show cF (mY cu')<cF (mY cu);omega,rfl,⟨ai Z,gq Z,cY Z,aJ,aJ,gq Z,J⟩,cr.cons 72 Z (aZ Z) (cr.cons 15 Z (aZ hcA.symm) .nil)⟩
  ·cases hd:(cu[i].1[0].k==s)
   ·cases drop
    ·repeat' (first|(exact absurd (hc.symm.trans hd) (by decide))|refine ae ?_|refine aj ?_|refine aa ?_|refine ac (ax ?_)|refine ac (db ?_)|refine ah (ax ?_)|refine ib Z Z Z cM ?_|refine aU ab (fun _=>?_)|refine aF (d:=12) Z ab Z Z Z (fun b12=>?_)|refine aD ab Z Z Z Z Z Z Z ⟨rfl,rfl⟩ Z Z Z Z Z ?_|(refine aK Z ab Z Z Z Z Z Z ?_ (aE ?_) ?_;omega;omega)|(refine bD ab Z Z Z Z Z Z Z Z _ Z ?_ (fun bO hbO=>?_);(exact dt))|(refine bR ab Z Z Z Z Z (by assumption) (aY (List.getElem?_eq_getElem ?_)) Z Z (by first|exact Nat.add_zero _|rfl) ⟨rfl,rfl⟩ ?_;omega)|(refine bQ ab Z Z Z Z Z Z (by assumption) (aY (List.getElem?_eq_getElem ?_)) Z Z (by first|exact Nat.add_zero _|rfl) ⟨rfl,rfl⟩ Z Z ?_;omega)|refine aI ab Z Z Z Z Z Z Z Z Z Z Z eo (fun _=>?_)|(refine bH ab Z Z Z Z Z Z Z Z Z (by first|exact J|exact rfl) Z Z (fun _=>rfl) ?_ ?_ (fun _=>?_);(exact dt);(exact dt))|refine aR Z ?_|(refine ba Z (fun hc=>?_) (fun hc=>?_))|(refine d5 ab Z 1 cu[i].1.length Z Z Z Z Z (cn Z Z) da (by omega) (by omega) ?_)|(refine jz Z (hle) Z ⟨bu (bP (.head _)) Z,J⟩ Z ?_;rintro _ _ ⟨rfl,rfl⟩;refine⟨rfl,rfl,?_⟩))
     exact⟨(cu',_,out++[cu[i].1[0]],_,some cu[i].1[0].k),[],⟨hcl2,by rw[ht,if_neg (show ¬ Option.any (fun s=>zq cu[i].1[0].k s) (some s)=true from fun h=>absurd (h.symm.trans hd) (by decide))];simp⟩,by show cF (mY cu')<cF (mY cu);omega,rfl,⟨ai Z,gq Z,cY Z,aJ,aJ,gq Z,J⟩,cr.cons 72 Z (aZ (by rw[List.map_append];rfl)) (cr.cons 15 Z (aZ hcA.symm) .nil)⟩
    ·cases hg:cu[i].1[0].g
     ·repeat' (first|(exfalso;rw[hg] at hc;exact absurd hc (by decide))|(exact absurd (hc.symm.trans hd) (by decide))|refine ae ?_|refine aj ?_|refine aa ?_|refine ac (ax ?_)|refine ac (db ?_)|refine ah (ax ?_)|refine aU ab (fun _=>?_)|refine aF (d:=12) Z ab Z Z Z (fun b12=>?_)|refine aD ab Z Z Z Z Z Z Z ⟨rfl,rfl⟩ Z Z Z Z Z ?_|(refine aK Z ab Z Z Z Z Z Z ?_ (aE ?_) ?_;omega;omega)|(refine bD ab Z Z Z Z Z Z Z Z _ Z ?_ (fun bO hbO=>?_);(exact dt))|(refine bR ab Z Z Z Z Z (by assumption) (aY (List.getElem?_eq_getElem ?_)) Z Z (by first|exact Nat.add_zero _|rfl) ⟨rfl,rfl⟩ ?_;omega)|(refine bQ ab Z Z Z Z Z Z (by assumption) (aY (List.getElem?_eq_getElem ?_)) Z Z (by first|exact Nat.add_zero _|rfl) ⟨rfl,rfl⟩ Z Z ?_;omega)|refine aI ab Z Z Z Z Z Z Z Z Z Z Z eo (fun _=>?_)|(refine bH ab Z Z Z Z Z Z Z Z Z (by first|exact J|exact rfl) Z Z (fun _=>rfl) ?_ ?_ (fun _=>?_);(exact dt);(exact dt))|refine aR Z ?_|(refine ba Z (fun hc=>?_) (fun hc=>?_))|(refine d5 ab Z 1 cu[i].1.length Z Z Z Z Z (cn Z Z) da (by omega) (by omega) ?_)|(refine jz Z (hle) Z ⟨bu (bP (.head _)) Z,J⟩ Z ?_;rintro _ _ ⟨rfl,rfl⟩;refine⟨rfl,rfl,?_⟩))
      exact⟨(cu',_,out++[cu[i].1[0]],_,some cu[i].1[0].k),[],⟨hcl2,by rw[ht,if_neg (show ¬ Option.any (fun s=>zq cu[i].1[0].k s) (some s)=true from fun h=>absurd (h.symm.trans hd) (by decide)),hg];simp⟩,by show cF (mY cu')<cF (mY cu);omega,rfl,⟨ai Z,gq Z,cY Z,aJ,aJ,gq Z,J⟩,cr.cons 72 Z (aZ (by rw[List.map_append];rfl)) (cr.cons 15 Z (aZ hcA.symm) .nil)⟩
     ·repeat' (first|(exfalso;rw[hg] at hc;exact absurd hc (by decide))|(exact absurd (hc.symm.trans hd) (by decide))|refine ae ?_|refine aj ?_|refine aa ?_|refine ac (ax ?_)|refine ac (db ?_)|refine ah (ax ?_)|refine aU ab (fun _=>?_)|refine aF (d:=12) Z ab Z Z Z (fun b12=>?_)|refine aD ab Z Z Z Z Z Z Z ⟨rfl,rfl⟩ Z Z Z Z Z ?_|(refine aK Z ab Z Z Z Z Z Z ?_ (aE ?_) ?_;omega;omega)|(refine bD ab Z Z Z Z Z Z Z Z _ Z ?_ (fun bO hbO=>?_);(exact dt))|(refine bR ab Z Z Z Z Z (by assumption) (aY (List.getElem?_eq_getElem ?_)) Z Z (by first|exact Nat.add_zero _|rfl) ⟨rfl,rfl⟩ ?_;omega)|(refine bQ ab Z Z Z Z Z Z (by assumption) (aY (List.getElem?_eq_getElem ?_)) Z Z (by first|exact Nat.add_zero _|rfl) ⟨rfl,rfl⟩ Z Z ?_;omega)|refine aR Z ?_|(refine ba Z (fun hc=>?_) (fun hc=>?_))|(refine d5 ab Z 1 cu[i].1.length Z Z Z Z Z (cn Z Z) da (by omega) (by omega) ?_)|(refine jz Z (hle) Z ⟨bu (bP (.head _)) Z,J⟩ Z ?_;rintro _ _ ⟨rfl,rfl⟩;refine⟨rfl,rfl,?_⟩))
      exact⟨(cu',_,out,_,some cu[i].1[0].k),[],⟨hcl2,by rw[ht,if_neg (show ¬ Option.any (fun s=>zq cu[i].1[0].k s) (some s)=true from fun h=>absurd (h.symm.trans hd) (by decide)),hg];simp⟩,by show cF (mY cu')<cF (mY cu);omega,rfl,⟨ai Z,gq Z,cY Z,aJ,aJ,gq Z,J⟩,cr.cons 72 Z (aZ Z) (cr.cons 15 Z (aZ hcA.symm) .nil)⟩
   ·repeat' (first|(exact absurd (hc.symm.trans hd) (by decide))|refine ae ?_|refine aj ?_|refine aa ?_|refine ac (ax ?_)|refine ac (db ?_)|refine ah (ax ?_)|refine aw (ax ?_)|refine aU ab (fun _=>?_)|refine aF (d:=12) Z ab Z Z Z (fun b12=>?_)|refine aD ab Z Z Z Z Z Z Z ⟨rfl,rfl⟩ Z Z Z Z Z ?_|(refine aK Z ab Z Z Z Z Z Z ?_ (aE ?_) ?_;omega;omega)|(refine bD ab Z Z Z Z Z Z Z Z _ Z ?_ (fun bO hbO=>?_);(exact dt))|(refine bR ab Z Z Z Z Z (by assumption) (aY (List.getElem?_eq_getElem ?_)) Z Z (by first|exact Nat.add_zero _|rfl) ⟨rfl,rfl⟩ ?_;omega)|(refine bQ ab Z Z Z Z Z Z (by assumption) (aY (List.getElem?_eq_getElem ?_)) Z Z (by first|exact Nat.add_zero _|rfl) ⟨rfl,rfl⟩ Z Z ?_;omega)|refine aR Z ?_|(refine ba Z (fun hc=>?_) (fun hc=>?_))|(refine d5 ab Z 1 cu[i].1.length Z Z Z Z Z (cn Z Z) da (by omega) (by omega) ?_)|(refine jz Z (hle) Z ⟨bu (bP (.head _)) Z,J⟩ Z ?_;rintro _ _ ⟨rfl,rfl⟩;refine⟨rfl,rfl,?_⟩))
    exact⟨(cu',_,out,_,some s),[],⟨hcl2,by rw[ht,if_pos (show Option.any (fun s=>zq cu[i].1[0].k s) (some s)=true from hd)]⟩,by show cF (mY cu')<cF (mY cu);omega,rfl,⟨ai Z,gq Z,cY Z,aJ,aJ,gq Z,J⟩,cr.cons 72 Z (aZ Z) (cr.cons 15 Z (aZ hcA.symm) .nil)⟩
open Mg
def OD:List aC:=[⟨[98],[49],false⟩,⟨[99],[],true⟩]
def OC:List aC:=[⟨[97],[50],false⟩,⟨[98],[51],false⟩,⟨[99],[52],false⟩]
def t7(l:List aC)(s:Int)(y:aC):Int:=
 if h:eG l y.k<l.length then if l[eG l y.k].k=y.k then IntKind.i64.wrap (s+IntKind.i64.wrap (cw y - cw l[eG l y.k])) else IntKind.i64.wrap (s+cw y) else IntKind.i64.wrap (s+cw y)
theorem Bt(k:Nat)(xs:List AV)(x:AV)(i:Nat)(hi:i≤xs.length)(hl:xs.length≤1000000)(v:Value):
 aQ Tryz.prog 75 [.own 0 v,.i .i64 i,.sl 3 [x]] [.row v 47 3 xs] (fun r os=>∃v',r= .own k v'∧os=[.row v' 47 3 (xs.take i++x::xs.drop i)]):=
 (Bs xs x i v hi hl).le (fun _r _os' ⟨v',h1,h2⟩=>⟨.own k v',h1▸aJ,v',rfl,h2⟩)
set_option maxHeartbeats 8000000
theorem FL(x:aC)(l:List aC)(k:Nat)(h:k<l.length)(d:Bool):gL x (l.drop k) d=
 (if (!d&&!Op.bytesLess l[k].k x.k)=true then [x] else [])++((if l[k].k=x.k then [] else [l[k]])++gL x (l.drop (k+1)) (d||!Op.bytesLess l[k].k x.k)):=by
 rw[List.drop_eq_getElem_cons h];rfl
theorem FM(l:List aC)(x:aC)(hl:l.length≤400000):
 aQ Tryz.prog 30 [.sl 3 (l.map eA),eA x] [] (fun r os=>r= .sl 3 ((gL x l false).map eA)∧os=[]):=by
 refine aA ab [] Tryz.func30 Z Tryz.ntmps30 aN Z Z (fun C=>?_) Z
 have htg:=sM x l false
 obtain⟨tgt,hT⟩:∃t,t=gL x l false:=⟨_,rfl⟩
 rw[←hT] at htg ⊢
 rw[if_neg (by decide)] at htg
 repeat' (first|refine ae ?_|refine aj ?_|refine aa ?_|refine ac (ax ?_)|refine br Z ab Z Z Z (fun _=>?_)|refine aU ab (fun _=>?_)|refine c9 (d:=3) Z Z Z Z (fun b3=>?_)|refine aI ab Z Z Z Z Z Z Z Z Z Z Z eo (fun _=>?_))
 rename_i v9 _ _ _ _ _
 refine aO (fun q:Nat×List aC×Bool×Value=>⟨46,[(12,.i .i64 q.1),(11,.i .i64 l.length),(10,.sl 3 (l.map eA)),(6,.b q.2.2.1),(5,.own 9 q.2.2.2),(3,.ptr 3 b3 [] 0)],[(9,.row q.2.2.2 47 3 (q.2.1.map eA)),(3,.var b3 (eA x))]⟩)
  (fun q=>q.1≤l.length∧tgt=q.2.1++gL x (l.drop q.1) q.2.2.1) (fun q=>l.length - q.1) [] (0,[],false,v9) ⟨Nat.zero_le _,hT⟩ ?_ ?_
 ·exact⟨rfl,⟨ai Z,ai Z,ay Z,gq Z,aJ,af,J⟩,az 9 Z (az 3 Z .nil)⟩
 rintro⟨k,out,d,v⟩ ⟨hk,ht⟩
 dsimp only at hk ht ⊢
 by_cases hlt:k<l.length
 ·rw[FL x l k hlt d] at ht
  have hol:out.length≤l.length+1:=by
   have:=congrArg List.length ht;rw[List.length_append] at this;omega
  unfold eA at*
  cases d
  ·cases hb:Op.bytesLess l[k].k x.k
   ·repeat' (first|(exfalso;rw[hb] at hc;exact absurd hc (by decide))|refine ae ?_|refine aj ?_|refine aa ?_|refine ac (ax ?_)|refine ac (db ?_)|refine ah (ax ?_)|(refine bc Z Z Z Z ?_ ?_;omega)|refine aU ab (fun _=>?_)|refine aF (d:=8) Z ab Z Z Z (fun b8=>?_)|refine aD ab Z Z Z Z Z Z Z ⟨rfl,rfl⟩ Z Z Z Z Z ?_|(refine aK Z ab Z Z Z Z Z Z ?_ (aE ?_) ?_;omega;omega)|refine aI ab Z Z Z Z Z Z Z Z Z Z Z eo (fun _=>?_)|(refine bH ab Z Z Z Z Z Z Z Z Z (by first|exact J|exact rfl) Z Z (fun _=>rfl) ?_ ?_ (fun _=>?_);(exact dt);(exact dt))|(refine ao Z (fun hc=>?_) (fun hc=>?_))<;>try omega|(refine ba Z (fun hc=>?_) (fun hc=>?_)))
    ·refine⟨(k+1,out++[x]++[l[k]],true,_),[],⟨by show k+1≤l.length;omega,?_⟩,by show l.length - (k+1)<l.length - k;omega,rfl,⟨ai Z,ai Z,ay Z,gq Z,aJ,af,J⟩,cr.cons 9 Z (aZ ?_) (az 3 Z .nil)⟩
     ·have hne:¬ l[k].k=x.k:=fun e=>by rw[e,beq_self_eq_true] at hc;cases hc
      rw[ht,hb,if_neg hne];simp
     ·simp
    ·refine⟨(k+1,out++[x],true,_),[],⟨by show k+1≤l.length;omega,?_⟩,by show l.length - (k+1)<l.length - k;omega,rfl,⟨ai Z,ai Z,ay Z,gq Z,aJ,af,J⟩,cr.cons 9 Z (aZ ?_) (az 3 Z .nil)⟩
     ·have hne:l[k].k=x.k:=by simpa using hc
      rw[ht,hb,if_pos hne];simp
     ·simp
   ·repeat' (first|(exfalso;rw[hb] at hc;exact absurd hc (by decide))|refine ae ?_|refine aj ?_|refine aa ?_|refine ac (ax ?_)|refine ac (db ?_)|refine ah (ax ?_)|(refine bc Z Z Z Z ?_ ?_;omega)|refine aU ab (fun _=>?_)|refine aF (d:=8) Z ab Z Z Z (fun b8=>?_)|refine aD ab Z Z Z Z Z Z Z ⟨rfl,rfl⟩ Z Z Z Z Z ?_|(refine aK Z ab Z Z Z Z Z Z ?_ (aE ?_) ?_;omega;omega)|refine aI ab Z Z Z Z Z Z Z Z Z Z Z eo (fun _=>?_)|(refine bH ab Z Z Z Z Z Z Z Z Z (by first|exact J|exact rfl) Z Z (fun _=>rfl) ?_ ?_ (fun _=>?_);(exact dt);(exact dt))|(refine ao Z (fun hc=>?_) (fun hc=>?_))<;>try omega|(refine ba Z (fun hc=>?_) (fun hc=>?_)))
    ·refine⟨(k+1,out++[l[k]],false,_),[],⟨by show k+1≤l.length;omega,?_⟩,by show l.length - (k+1)<l.length - k;omega,rfl,⟨ai Z,ai Z,ay Z,gq Z,aJ,af,J⟩,cr.cons 9 Z (aZ ?_) (az 3 Z .nil)⟩
     ·have hne:¬ l[k].k=x.k:=fun e=>by rw[e,beq_self_eq_true] at hc;cases hc
      rw[ht,hb,if_neg hne];simp
     ·simp
    ·exfalso
     have hne:l[k].k=x.k:=by simpa using hc
     rw[hne,cW] at hb;cases hb
  ·repeat' (first|refine ae ?_|refine aj ?_|refine aa ?_|refine ac (ax ?_)|refine ac (db ?_)|refine ah (ax ?_)|refine d9 Z Z Z cM ?_|(refine bc Z Z Z Z ?_ ?_;omega)|refine aU ab (fun _=>?_)|refine aF (d:=8) Z ab Z Z Z (fun b8=>?_)|refine aD ab Z Z Z Z Z Z Z ⟨rfl,rfl⟩ Z Z Z Z Z ?_|(refine aK Z ab Z Z Z Z Z Z ?_ (aE ?_) ?_;omega;omega)|refine aI ab Z Z Z Z Z Z Z Z Z Z Z eo (fun _=>?_)|(refine bH ab Z Z Z Z Z Z Z Z Z (by first|exact J|exact rfl) Z Z (fun _=>rfl) ?_ ?_ (fun _=>?_);(exact dt);(exact dt))|refine aB Z ?_|(refine ao Z (fun hc=>?_) (fun hc=>?_))<;>try omega|(refine ba Z (fun hc=>?_) (fun hc=>?_)))
   ·refine⟨(k+1,out++[l[k]],true,_),[],⟨by show k+1≤l.length;omega,?_⟩,by show l.length - (k+1)<l.length - k;omega,rfl,⟨ai Z,ai Z,ay Z,gq Z,aJ,af,J⟩,cr.cons 9 Z (aZ ?_) (az 3 Z .nil)⟩
    ·have hne:¬ l[k].k=x.k:=fun e=>by rw[e,beq_self_eq_true] at hc;cases hc
     rw[ht,if_neg hne];simp
    ·simp
   ·refine⟨(k+1,out,true,_),[],⟨by show k+1≤l.length;omega,?_⟩,by show l.length - (k+1)<l.length - k;omega,rfl,⟨ai Z,ai Z,ay Z,gq Z,aJ,af,J⟩,cr.cons 9 Z (aZ ?_) (az 3 Z .nil)⟩
    ·have hne:l[k].k=x.k:=by simpa using hc
     rw[ht,if_pos hne];simp
    ·rfl
 ·have hkl:k=l.length:=by omega
  subst hkl
  rw[List.drop_length] at ht
  have hol:out.length≤l.length+1:=by
   have:=congrArg List.length ht;rw[List.length_append] at this;omega
  unfold eA at*
  cases d
  ·repeat' (first|refine ae ?_|refine aa ?_|refine ac (ax ?_)|refine aw (ax ?_)|refine ap (bC ?_)|refine aU ab (fun _=>?_)|refine aI ab Z Z Z Z Z Z Z Z Z Z Z eo (fun _=>?_)|(refine bH ab Z Z Z Z Z Z Z Z Z (by first|exact J|exact rfl) Z Z (fun _=>rfl) ?_ ?_ (fun _=>?_);(exact dt);(exact dt))|refine aR Z ?_|(refine ao Z (fun hc=>?_) (fun hc=>?_))<;>try omega)
   rw[show tgt=out++[x] from ht,List.map_append]
   refine bp Z Z Z [9] [] (bP ?_) .nil ⟨rfl,rfl⟩ _ (.inl Z)
   exact .head _
  ·repeat' (first|refine ae ?_|refine aa ?_|refine ac (ax ?_)|refine ah (ax ?_)|refine aw (ax ?_)|refine ap (bC ?_)|refine aU ab (fun _=>?_)|refine aB Z ?_|(refine ao Z (fun hc=>?_) (fun hc=>?_))<;>try omega)
   rw[show tgt=out by rw[ht];exact List.append_nil _]
   refine bp Z Z Z [9] [] (bP ?_) .nil ⟨rfl,rfl⟩ _ (.inl Z)
   exact .head _
theorem C2(l:List aC)(k:List UInt8)(hl:l.length≤400000):
 aQ Tryz.prog 32 [.sl 3 (l.map eA),.s k] [] (fun r os=>r= .tup [eA (rp l k).1,.b (rp l k).2]∧os=[]):=by
 refine aA ab [] Tryz.func32 Z Tryz.ntmps32 aN Z Z (fun C=>?_) Z
 repeat' (first|refine ae ?_|refine aj ?_|refine aa ?_|refine ac (ax ?_)|refine br Z ab Z Z Z (fun _=>?_)|refine aU ab (fun _=>?_)|refine aF (d:=4) Z ab Z Z Z (fun b4=>?_))
 refine aO (fun i:Nat=>⟨21,[(10,.i .i64 i),(9,.i .i64 l.length),(8,.sl 3 (l.map eA)),(4,.ptr 4 b4 [] 0),(1,.s k)],[(4,.var b4 (eA iB))]⟩)
  (fun i=>i≤l.length∧rp l k=rp (l.drop i) k) (fun i=>l.length - i) [] 0 ⟨Nat.zero_le _,rfl⟩ ?_ ?_
 ·exact⟨rfl,⟨ai Z,ai Z,ay Z,af,cY Z,J⟩,az 4 Z .nil⟩
 rintro i ⟨hi,ht⟩
 by_cases hlt:i<l.length
 ·have hd:=List.drop_eq_getElem_cons hlt
  have hst:rp (l.drop i) k=if l[i].k==k then (l[i],true) else rp (l.drop (i+1)) k:=by
   rw[hd];unfold rp;rw[List.find?_cons]
   cases l[i].k==k<;>rfl
  rw[hst] at ht
  generalize rp l k=R at ht ⊢
  by_cases hb:(l[i].k==k)=true
  ·rw[if_pos hb] at ht
   subst ht
   repeat' (first|(exfalso;exact Bool.noConfusion (hb.symm.trans hc))|refine ae ?_|refine aj ?_|refine aa ?_|refine ac (ax ?_)|refine ah (ax ?_)|refine ap (bC ?_)|refine aU ab (fun _=>?_)|refine aF (d:=7) Z ab Z Z Z (fun b7=>?_)|refine aD ab Z Z Z Z Z Z Z ⟨rfl,rfl⟩ Z Z Z Z Z ?_|(refine aK Z ab Z Z Z Z Z Z ?_ (aE ?_) ?_;omega;omega)|(refine ao Z (fun hc=>?_) (fun hc=>?_))<;>try omega|(refine ba Z (fun hc=>?_) (fun hc=>?_)))
   refine cS [] [] (.tup [eA l[i],.b true]) Z ?_ ?_ (aW (am Z) (am Z) Z Z) .nil ⟨rfl,rfl⟩ _ (.inl Z)
   all_goals first|exact⟨trivial,trivial⟩|trivial|exact⟨trivial,trivial,trivial⟩|trace_state
  ·rw[if_neg hb] at ht
   rw[Bool.not_eq_true] at hb
   repeat' (first|(exfalso;exact Bool.noConfusion (hb.symm.trans hc))|refine ae ?_|refine aj ?_|refine aa ?_|refine ac (ax ?_)|refine ac (db ?_)|refine ah (ax ?_)|(refine bc Z Z Z Z ?_ ?_;omega)|refine aU ab (fun _=>?_)|refine aF (d:=7) Z ab Z Z Z (fun b7=>?_)|refine aD ab Z Z Z Z Z Z Z ⟨rfl,rfl⟩ Z Z Z Z Z ?_|(refine aK Z ab Z Z Z Z Z Z ?_ (aE ?_) ?_;omega;omega)|(refine ao Z (fun hc=>?_) (fun hc=>?_))<;>try omega|(refine ba Z (fun hc=>?_) (fun hc=>?_)))
   exact⟨i+1,[],⟨by omega,ht⟩,by omega,rfl,⟨ai Z,ai Z,ay Z,af,cY Z,J⟩,az 4 Z .nil⟩
 ·have hil:i=l.length:=by omega
  subst hil
  rw[List.drop_length] at ht
  rw[ht]
  repeat' (first|refine ae ?_|refine aa ?_|refine ac (ax ?_)|refine aw (ax ?_)|refine ap (bC ?_)|refine aU ab (fun _=>?_)|refine aD ab Z Z Z Z Z Z Z ⟨rfl,rfl⟩ Z Z Z Z Z ?_|refine cd ab Z Z Z Z Z Z eo ?_|(refine ao Z (fun hc=>?_) (fun hc=>?_))<;>try omega)
  refine cS [] [] (.tup [eA iB,.b false]) Z ?_ ?_ (aW (am Z) (am Z) Z Z) .nil ⟨rfl,rfl⟩ _ (.inl Z)
  all_goals first|exact⟨trivial,trivial⟩|trivial|exact⟨trivial,trivial,trivial⟩|trace_state
theorem vo(l:List aC):aQ Tryz.prog 33 [.sl 3 (l.map eA),.sl 3 (l.map eA)] [] (fun v os=>v= .b true∧os=[]):=by
 refine aA ab [] Tryz.func33 Z Tryz.ntmps33 aN Z Z (fun C=>?_) Z
 repeat' (first|refine ae ?_|refine aj ?_|refine aa ?_|refine ac (ax ?_)|refine ah (ax ?_)|refine br Z ab Z Z Z (fun _=>?_)|refine aU ab (fun _=>?_)|(refine bF Z (fun hc=>?_) (fun hc=>?_))<;>try omega)
 refine aO (fun k:Nat=>⟨26,[(13,.i .i64 k),(12,.i .i64 l.length),(0,.sl 3 (l.map eA)),(1,.sl 3 (l.map eA))],[]⟩) (fun k=>k≤l.length) (fun k=>l.length - k) [] 0 (Nat.zero_le _) ?_ ?_
 ·exact⟨rfl,⟨ai Z,ai Z,ay Z,ay Z,J⟩,.nil⟩
 intro k hk
 by_cases hlt:k<l.length
 ·have hee:(!wm l[k] l[k])=false:=by rw[yr.2 Z];rfl
  repeat' (first|refine ae ?_|refine aj ?_|refine aa ?_|refine ac (ax ?_)|refine ac (db ?_)|refine ah (ax ?_)|(refine bc Z Z Z Z ?_ ?_;omega)|refine aU ab (fun _=>?_)|(refine aK Z ab Z Z Z Z Z Z ?_ (aE ?_) ?_;omega;omega)|refine aB Z ?_|(refine ao Z (fun hc=>?_) (fun hc=>?_))<;>try omega|refine cg 6 [] [] [] [0,1,2,4,5,6,3,7,8] aN aN aN Z Z Z ?_|(refine AX Z l[k] l[k] Z Z Z ?_;rw[hee]))
  exact⟨k+1,[],by omega,by omega,rfl,⟨ai (by omega),ai Z,ay Z,ay Z,J⟩,.nil⟩
 ·repeat' (first|refine ae ?_|refine aa ?_|refine ac (ax ?_)|refine aw (ax ?_)|refine ap (bC ?_)|refine aU ab (fun _=>?_)|(refine ao Z (fun hc=>?_) (fun hc=>?_))<;>try omega)
  exact jh
set_option maxHeartbeats 32000000
def ND(l:List aC):Prop:=∀x∈l,small x
theorem pN{x:Int}(h: -9223372036854775808≤x∧x≤9223372036854775807):IntKind.i64.wrap x=x:=IntWalk.i64_in _ (by omega)
theorem pC{x:aC}(h:small x):cw x=xj x:=by
 unfold small at h
 unfold cw xj
 rw[pN (x:=(x.k.length:Int)+(x.v.length:Int)) (by omega),pN (by omega)]
 omega
theorem Hm{x:aC}(h:small x):small (d6 x):=by
 unfold d6 small at*
 split
 ·exact⟨h.1,by simp⟩
 ·exact h
theorem A6{l:List aC}{y:aC}(hr:sr l)(hl:l.length≤300)(hs:ND l)(hy:small y):t7 l (gT l:Nat) y=(gT (ec y l):Nat):=by
 rw[←DE hr]
 have h1:=zG hs
 have h2:=zH hy
 unfold t7 zt iv
 by_cases hp:eG l y.k<l.length
 ·rw[dif_pos hp,List.getElem?_eq_getElem hp]
  have h3:=B8 l _ hp y
  have h4:=zG hs
  have h5:=hs _ (List.getElem_mem hp)
  by_cases hk:l[eG l y.k].k=y.k
  ·rw[if_pos hk,if_pos (beq_iff_eq.2 hk),pC hy,pC h5]
   have:=zH h5
   rw[pN (x:=(xj y:Int) - (xj l[eG l y.k]:Int)) (by omega),pN (by omega)]
   omega
  ·rw[if_neg hk,if_neg (by simpa using hk),pC hy,sb,pN (by omega)]
   omega
 ·rw[dif_neg hp,List.getElem?_eq_none (by omega),if_neg (by simp),pC hy,sb,pN (by omega)]
  omega
set_option maxHeartbeats 16000000
set_option maxRecDepth 100000
theorem IY(xs:List AV)(hl:xs.length≤1000000):aQ Tryz.prog 74 [.sl 3 xs] [] (fun r os=>r= .sl 3 xs∧os=[]):=by
 refine aA ab [] Tryz.func74 Z Tryz.ntmps74 aN Z Z (fun C=>?_) Z
 repeat' (first|refine ae ?_|refine aa ?_|refine ac (ax ?_)|refine ah (ax ?_)|refine ap (bC ?_)|refine aU ab (fun _=>?_)|refine aI ab Z Z Z Z Z Z Z Z Z Z Z eo (fun _=>?_)|(refine bH ab Z Z Z Z Z Z Z Z Z (by first|exact J|exact rfl) Z Z (fun _=>rfl) ?_ ?_ (fun _=>?_);(exact dt);(exact dt))|(refine ba Z (fun hc=>?_) (fun hc=>?_))|(refine pR ab Z Z Z Z Z (fun c hc0=>?_)))
 ·have:=hc0 hc
  rw[this]
  exact bp Z Z Z [] [] cQ .nil ⟨rfl,rfl⟩ _ (.inl Z)
 ·refine bp Z Z Z [5] [] (bP ?_) .nil ⟨rfl,rfl⟩ _ (.inl Z)
  exact .head _
def wY(size:Int):List aC→List aC→Nat→List (List aC)
 |[],_,_=>[]
 |x::r,g,n=>if size≤((n+eh x:Nat):Int)∨r=[] then (g++[x])::wY size r [] 0 else wY size r (g++[x]) (n+eh x)
theorem Hi(size:Int)(l g:List aC)(n k:Nat)(h:k<l.length):wY size (l.drop k) g n=
 if size≤((n+eh l[k]:Nat):Int)∨k+1=l.length then (g++[l[k]])::wY size (l.drop (k+1)) [] 0 else wY size (l.drop (k+1)) (g++[l[k]]) (n+eh l[k]):=by
 rw[List.drop_eq_getElem_cons h]
 have e:(l.drop (k+1)=[])↔(k+1=l.length):=by rw[List.drop_eq_nil_iff];omega
 show (if size≤((n+eh l[k]:Nat):Int)∨l.drop (k+1)=[] then _ else _)=_
 simp only[e]
theorem CQ(l:List aC)(size:Int)(hs1:1≤size)(hl:l.length≤300)(hm:∀e∈l,e.k.length≤110∧e.v.length≤4010):aQ Tryz.prog 93 [.sl 3 (l.map eA),.i .i64 size,.i .i64 2048] [] (fun v os=>v= .sl 1 ((wY size l [] 0).map rV)∧os=[]):=by
 refine aA ab [] Tryz.func93 Z Tryz.ntmps93 aN Z Z (fun C=>?_) Z
 obtain⟨G,hG⟩:∃G,wY size l [] 0=G:=⟨_,rfl⟩
 rw[hG]
 repeat' (first|refine ae ?_|refine aj ?_|refine aa ?_|refine ac (ax ?_)|refine ah (ax ?_)|refine br Z ab Z Z Z (fun _=>?_)|refine aU ab (fun _=>?_)|(fail_if_success (refine aM Z cM ?_));(refine aV Z Z (fun hc=>?_) (fun hc=>?_)<;>try omega)|refine aB Z ?_)
 refine aO (fun q:Nat×Nat×Nat×List (List aC)×Value=>⟨60,[(20,.i .i64 q.1),(19,.i .i64 l.length),(18,.sl 3 (l.map eA)),(8,.i .i64 q.2.1),(9,.i .i64 q.2.2.1),(7,.own 7 q.2.2.2.2),(0,.sl 3 (l.map eA)),(1,.i .i64 size),(2,.i .i64 2048)],[(7,.row q.2.2.2.2 35 1 (q.2.2.2.1.map rV))]⟩)
  (fun q=>q.1≤l.length∧q.2.1≤q.1∧q.2.2.1≤4200*q.1∧q.2.2.2.1.length≤q.1∧q.2.2.2.1++wY size (l.drop q.1) ((l.take q.1).drop q.2.1) q.2.2.1=G) (fun q=>l.length - q.1) [] (0,0,0,[],.slice none 0 0) ⟨Nat.zero_le _,Nat.le_refl _,Nat.le_refl _,Nat.le_refl _,hG⟩ ?_ ?_
 ·exact⟨rfl,⟨ai Z,ai (by simp),ay Z,ai Z,ai Z,dp,ay Z,ai Z,ai Z,J⟩,cr.none .nil⟩
 rintro⟨i,f,n,out,v⟩ ⟨hi,hf,hn,hol,hgr⟩
 dsimp only at hi hf hn hol hgr ⊢
 by_cases hlt:i<l.length
 ·have hx:=hm _ (List.getElem_mem hlt)
  rw[Hi size l _ n i hlt,←px l f i hlt hf] at hgr
  have hes:eh l[i]=l[i].k.length+l[i].v.length+8:=rfl
  have hcs:=nJ l[i]
  have hcw:cw l[i]=(eh l[i]:Nat):=pC ⟨by omega,by omega⟩
  rw[hcw] at hcs
  have hcl:=IY (((l.take (i+1)).drop f).map eA) (by rw[List.length_map,List.length_drop,List.length_take];omega)
  have hi1:((i:Int)+1=((i+1:Nat):Int)):=by omega
  have htd:((l.map eA).take (i+1)).drop f=((l.take (i+1)).drop f).map eA:=by rw[List.map_drop,List.map_take]
  generalize eh l[i]=z at hcs hgr hes
  repeat' (first|refine ae ?_|refine aj ?_|refine aa ?_|refine ac (ax ?_)|refine ac (db ?_)|refine ah (ax ?_)|refine nj Z Z Z ?_|(refine bc Z Z Z Z ?_ ?_;omega)|(refine dW Z Z Z Z ?_ ?_;omega)|refine br Z ab Z Z Z (fun _=>?_)|refine aU ab (fun _=>?_)|refine aF (d:=11) Z ab Z Z Z (fun b11=>?_)|refine aD ab Z Z Z Z Z Z Z ⟨rfl,rfl⟩ Z Z Z Z Z ?_|(refine aK Z ab Z Z Z Z Z Z ?_ (aE ?_) ?_;omega;omega)|refine aI ab Z Z Z Z Z Z Z Z Z Z Z eo (fun _=>?_)|(refine bH ab Z Z Z Z Z Z Z Z Z (by first|exact J|exact rfl) Z Z (fun _=>rfl) ?_ ?_ (fun _=>?_);(exact dt);(exact dt))|(fail_if_success (refine aM Z cM ?_));(refine aV Z Z (fun hc=>?_) (fun hc=>?_)<;>try omega)|refine aR Z ?_|(refine ao Z (fun hc=>?_) (fun hc=>?_))<;>try omega|(refine d5 ab Z f (i+1) Z Z Z Z Z (cn Z Z) (cn Z hi1) (by omega) (by omega) ?_)|refine au Z (hcs) ⟨aP,J⟩ Z ?_|refine au Z (hcl) ⟨aP,J⟩ Z ?_)
  iterate 2
   rw[if_pos (by omega)] at hgr
   refine⟨(i+1,i+1,0,out++[(l.take (i+1)).drop f],_),[],⟨hlt,Nat.le_refl _,Nat.zero_le _,by rw[List.length_append];exact Nat.succ_le_succ hol,by rw[py,←hgr,List.append_assoc];rfl⟩,by show l.length - (i+1)<l.length - i;omega,rfl,⟨ai hi1,ai Z,ay Z,ai hi1,ai Z,aJ,ay Z,ai Z,ai Z,J⟩,cr.cons 7 Z (aZ ?_) .nil⟩
   rw[List.map_append];rfl
  rw[if_neg (by omega)] at hgr
  exact⟨(i+1,f,n+z,out,v),[],⟨hlt,Nat.le_succ_of_le hf,by show n+z≤4200*(i+1);omega,Nat.le_succ_of_le hol,hgr⟩,by show l.length - (i+1)<l.length - i;omega,rfl,⟨ai hi1,ai Z,ay Z,ai Z,ai (by show _=((n+z:Nat):Int);omega),aJ,ay Z,ai Z,ai Z,J⟩,az 7 Z .nil⟩
 ·have hil:i=l.length:=by omega
  subst hil
  rw[List.drop_length] at hgr
  have hgr:out++[]=G:=hgr
  rw[List.append_nil] at hgr
  subst hgr
  repeat' (first|refine ae ?_|refine aa ?_|refine ac (ax ?_)|refine aw (ax ?_)|refine ap (bC ?_)|refine aU ab (fun _=>?_)|(refine ao Z (fun hc=>?_) (fun hc=>?_))<;>try omega)
  all_goals
   refine bp Z Z Z [7] [] (bP ?_) .nil ⟨rfl,rfl⟩ _ (.inl Z)
   exact .head _
end Go.Proofs.YtginkbjclkdglaaGreat
