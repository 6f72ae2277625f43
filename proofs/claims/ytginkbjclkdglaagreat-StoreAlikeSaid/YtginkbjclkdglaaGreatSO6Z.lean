/- slices.symMergeCmpFunc at files by rules. -/
import Derived.Test.YtginkbjclkdglaaGreatSO2Z
set_option maxHeartbeats 16000000
set_option maxRecDepth 100000
namespace Go.Proofs.YtginkbjclkdglaaGreat
open Go Go.RowKit
theorem FA{α:Type}{lt:α→α→Bool}(W:WO lt){U V:List α}(sU:ly lt U)(sV:ly lt V){k l:Nat}(_hk:k≤U.length)(_hl:l≤V.length)
 (hA:k=0∨l=V.length∨∃(h1:k - 1<U.length) (h2:l<V.length),lt V[l] U[k - 1]=false)(hB:k=U.length∨l=0∨∃(h1:k<U.length) (h2:l - 1<V.length),lt V[l - 1] U[k]=true):
 (∀x∈U.drop k,∀y∈V.take l,lt y x=true)∧(∀x∈U.take k,∀y∈V.drop l,lt y x=false):=by
 constructor
 ·rcases hB with h|h|⟨h1,h2,h3⟩
  ·rw[h,List.drop_length];intro x hx;cases hx
  ·rw[h];intro x _ y hy;cases hy
  ·intro x hx y hy
   have hl0:l≠0:=fun h=>by rw[h] at hy;cases hy
   have hy2:=EF W sV h2 h3 y (by rw[show l - 1+1=l by omega];exact hy)
   have hx2:lt x U[k]=false:=vf W sU h1 (W.irr _) x hx
   cases hyx:lt y x with
   |true=>rfl
   |false=>rw[W.neg y x _ hyx hx2] at hy2;cases hy2
 ·rcases hA with h|h|⟨h1,h2,h3⟩
  ·rw[h];intro x hx;cases hx
  ·rw[h,List.drop_length];intro x _ y hy;cases hy
  ·intro x hx y hy
   have hk0:k≠0:=fun h=>by rw[h] at hx;cases hx
   have hy2:=vf W sV h2 h3 y hy
   have hx2:lt U[k - 1] x=false:=Ap W sU h1 (W.irr _) x (by rw[show k - 1+1=k by omega];exact hx)
   exact W.neg _ _ _ hy2 hx2
theorem Ar{α:Type}{lt:α→α→Bool}(W:WO lt){l:List α}(h:ly lt l):cE lt l=l:=(oU W h (CE.refl l)).symm
theorem wX(v:Value)(f:Nat)(gc:List AV)(ho:gc.all jN=true)(cmp:Fl→Fl→Int)(hcmp:∀x y,aQ Tryz.prog f ([eF x,eF y]++gc) [] (fun v os=>v= .i .i64 (cmp x y)∧os=[]))(W:WO (eu cmp)):
 ∀(sz:Nat) (A U V D:List Fl),U.length+V.length=sz→0<U.length→0<V.length→ly (eu cmp) U→ly (eu cmp) V→(A++U++V++D).length≤100000→
 aQ Tryz.prog 165 [.own 0 v,.i .i64 (A.length:Nat),.i .i64 ((A++U).length:Nat),.i .i64 ((A++U++V).length:Nat),.fn (.func f) gc] [.row v 76 5 ((A++U++V++D).map eF)]
  (fun r os=>r= .tup []∧os=[.row v 76 5 ((A++cE (eu cmp) (U++V)++D).map eF)]):=by
 intro sz
 induction sz using Nat.strongRecOn with
 |_ sz ih=>
 intro A U V D hsz hU hV sU sV hl
 by_cases h1:U.length=1
 ·obtain⟨u,rfl⟩:=List.length_eq_one_iff.1 h1
  exact Hl v f gc ho cmp hcmp W A u V D hV sV hl
 by_cases h2:V.length=1
 ·obtain⟨w,rfl⟩:=List.length_eq_one_iff.1 h2
  exact Hk v f gc ho cmp hcmp W A U w D (by omega) sU hl
 refine aA ab [(0,.row v 76 5 ((A++U++V++D).map eF))] Tryz.func165 Z Tryz.ntmps165 aN Z Z (fun C=>?_) Z
 have hm:(A++U).length=A.length+U.length:=List.length_append
 have hb:(A++U++V).length=A.length+U.length+V.length:=by simp only[List.length_append]
 have hL:(A++U++V++D).length=A.length+U.length+V.length+D.length:=by simp only[List.length_append]
 have gu:∀k (h:k<U.length),(A++U++V++D)[A.length+k]?=some U[k]:=fun k h=>It A U V D k h
 have gv:∀k (h:k<V.length),(A++U++V++D)[A.length+U.length+k]?=some V[k]:=fun k h=>Ir A U V D k h
 rw[←hm] at gv
 generalize (A++U).length=m at hm gv ⊢
 generalize (A++U++V).length=b at hb ⊢
 obtain⟨L,hLe⟩:∃L,A++U++V++D=L:=⟨_,rfl⟩
 rw[hLe] at hl hL gu gv ⊢
 obtain⟨a,hal⟩:∃a,A.length=a:=⟨_,rfl⟩
 rw[hal] at hm hb hL gu ⊢
 have hmid0:=q5 a b (by omega)
 obtain⟨mid,hmd⟩:∃mid,(a+b) / 2=mid:=⟨_,rfl⟩
 rw[hmd] at hmid0
 obtain⟨lo,hlo⟩:∃lo,(if mid<m then mid+m - b else a)=lo:=⟨_,rfl⟩
 obtain⟨hi,hhi⟩:∃hi,(if mid<m then mid else m)=hi:=⟨_,rfl⟩
 have hmm:2*mid≤a+b∧a+b<2*mid+2:=by omega
 have hg:a≤lo∧lo≤hi∧hi≤m∧hi≤mid∧mid+m - lo≤b∧m≤mid+m - hi∧(lo=a∨mid+m - lo=b)∧(hi=m∨mid+m - hi=m):=by
  rw[←hlo,←hhi]
  by_cases hc:mid<m
  ·rw[if_pos hc,if_pos hc];omega
  ·rw[if_neg hc,if_neg hc];omega
 obtain⟨g1,g2,g3,g4,g5,g6,g7,g8⟩:=hg
 by_cases hc:mid<m
 all_goals (first|rw[if_pos hc] at hlo|rw[if_neg hc] at hlo)
 all_goals (first|rw[if_pos hc] at hhi|rw[if_neg hc] at hhi)
 all_goals (first
  |(repeat' (first|(refine dr Z ab Z Z Z ?_ (fun _=>?_);exact J;rw[hmid0])|refine ae ?_|refine aj ?_|refine aa ?_|refine ac (ax ?_)|refine ah (ax ?_)|(refine bc Z Z Z Z ?_ ?_;omega)|(refine dW Z Z Z Z ?_ ?_;omega)|refine aU ab (fun _=>?_)|(refine ao Z (fun hc=>?_) (fun hc=>?_))<;>try omega)))
 all_goals refine ag.weaken [] (S':=⟨220,[(20,.i .i64 lo),(21,.i .i64 hi),(22,.i .i64 ((mid+m - 1:Nat):Int)),(19,.i .i64 ((mid+m:Nat):Int)),(18,.i .i64 mid),(0,.own 0 v),(1,.i .i64 a),(2,.i .i64 m),(3,.i .i64 b),(4,.fn (.func f) gc)],[(0,.row v 76 5 (L.map eF))]⟩) ⟨rfl,⟨ai (by omega),ai (by omega),ai (by omega),ai (by omega),ai Z,aJ,ai Z,ai Z,ai Z,aP,J⟩,az 0 Z .nil⟩ ?_
 all_goals clear hlo hhi hc
 all_goals (
  refine aO (fun q:Nat×Nat=>⟨220,[(20,.i .i64 q.1),(21,.i .i64 q.2),(22,.i .i64 ((mid+m - 1:Nat):Int)),(19,.i .i64 ((mid+m:Nat):Int)),(18,.i .i64 mid),(0,.own 0 v),(1,.i .i64 a),(2,.i .i64 m),(3,.i .i64 b),(4,.fn (.func f) gc)],[(0,.row v 76 5 (L.map eF))]⟩)
   (fun q=>lo≤q.1∧q.1≤q.2∧q.2≤hi∧(q.1=lo∨∃(h1:q.1 - a - 1<U.length) (h2:mid - q.1<V.length),eu cmp V[mid - q.1] U[q.1 - a - 1]=false)∧(q.2=hi∨∃(h1:q.2 - a<U.length) (h2:mid - q.2 - 1<V.length),eu cmp V[mid - q.2 - 1] U[q.2 - a]=true)) (fun q=>q.2 - q.1) [] (lo,hi) ⟨Nat.le_refl _,g2,Nat.le_refl _,.inl Z,.inl Z⟩ ?_ ?_
  ·exact⟨rfl,⟨ai Z,ai Z,ai Z,ai Z,ai Z,aJ,ai Z,ai Z,ai Z,aP,J⟩,az 0 Z .nil⟩
  rintro⟨i,j⟩ ⟨k1,k2,k3,k4,k5⟩
  dsimp only at k1 k2 k3 k4 k5 ⊢
  by_cases hlt:i<j
  ·have hmid:=q5 i j (by omega)
   have hh1:i≤(i+j) / 2:=by omega
   have hh2:(i+j) / 2<j:=by omega
   generalize (i+j) / 2=h at hmid hh1 hh2
   have hu:h - a<U.length:=by omega
   have hv:mid - h - 1<V.length:=by omega
   have gh:=gu (h - a) hu
   rw[show a+(h - a)=h by omega] at gh
   have gp:=gv (mid - h - 1) hv
   obtain⟨i1,hi1⟩:∃i1,m+(mid - h - 1)=i1:=⟨_,rfl⟩
   rw[hi1] at gp
   have hcx:=hcmp V[mid - h - 1] U[h - a]
   have hltv:eu cmp V[mid - h - 1] U[h - a]=decide (cmp V[mid - h - 1] U[h - a]<0):=rfl
   generalize cmp V[mid - h - 1] U[h - a]=cv at hcx hltv
   repeat' (first|(refine bR ab Z Z Z Z Z (by assumption) (aY gp) Z Z (by first|exact Nat.add_zero _|rfl) ⟨rfl,rfl⟩ ?_)|(refine bR ab Z Z Z Z Z (by assumption) (aY gh) Z Z (by first|exact Nat.add_zero _|rfl) ⟨rfl,rfl⟩ ?_)|(refine bD ab Z Z Z Z Z Z Z Z i1 ?_ ?_ (fun bO hbO=>?_);omega;((repeat' (first|rw[List.length_map]|rw[List.length_set]))<;>omega))|(refine bD ab Z Z Z Z Z Z Z Z h ?_ ?_ (fun bO hbO=>?_);omega;((repeat' (first|rw[List.length_map]|rw[List.length_set]))<;>omega))|(refine dr Z ab Z Z Z ?_ (fun _=>?_);exact J;rw[hmid])|refine ae ?_|refine aj ?_|refine aa ?_|refine ac (ax ?_)|refine ac (db ?_)|refine ah (ax ?_)|(refine bc Z Z Z Z ?_ ?_;omega)|(refine dW Z Z Z Z ?_ ?_;omega)|refine aU ab (fun _=>?_)|(refine ao Z (fun hc=>?_) (fun hc=>?_))<;>try omega|(refine ba Z (fun hc=>?_) (fun hc=>?_))|refine cg 35 [] [] [] [0,1,2,3,4,5,7,8,9,6,10,11,12,13] aN aN aN Z Z Z ?_|(refine lI Z Z ho hcx ⟨aP,aP,kP _⟩ Z Z ?_;rintro _ _ ⟨rfl,rfl⟩;refine⟨rfl,?_⟩))
   ·have hcc:(!decide (cv<0))=true:=by assumption
    rw[←hltv] at hcc
    exact⟨(h+1,j),[],⟨by show lo≤h+1;omega,by show h+1≤j;omega,k3,.inr ⟨by show h+1 - a - 1<U.length;omega,by show mid - (h+1)<V.length;omega,by
     have e:h+1 - a - 1=h - a:=by omega
     have e2:mid - (h+1)=mid - h - 1:=by omega
     have:eu cmp V[mid - h - 1] U[h - a]=false:=by simpa using hcc
     simpa only[e,e2] using this⟩,k5⟩,by show j - (h+1)<j - i;omega,rfl,⟨ai Z,ai Z,ai Z,ai Z,ai Z,aJ,ai Z,ai Z,ai Z,aP,J⟩,az 0 Z .nil⟩
   ·have hcc:(!decide (cv<0))=false:=by assumption
    rw[←hltv] at hcc
    exact⟨(i,h),[],⟨k1,by show i≤h;omega,by show h≤hi;omega,k4,.inr ⟨hu,hv,by simpa using hcc⟩⟩,by show h - i<j - i;omega,rfl,⟨ai Z,ai Z,ai Z,ai Z,ai Z,aJ,ai Z,ai Z,ai Z,aP,J⟩,az 0 Z .nil⟩
  have hij:j=i:=by omega
  subst hij
  clear gu gv
  obtain⟨k,hk⟩:∃k,j - a=k:=⟨_,rfl⟩
  obtain⟨l,hl'⟩:∃l,mid - j=l:=⟨_,rfl⟩
  rw[hk,hl'] at k4 k5
  have hcr:=FA W sU sV (k:=k) (l:=l) (by omega) (by omega)
   (by rcases k4 with h|⟨h1,h2,h3⟩
       ·rcases g7 with h0|h0
        ·exact .inl (by omega)
        ·exact .inr (.inl (by omega))
       ·exact .inr (.inr ⟨h1,h2,h3⟩))
   (by rcases k5 with h|⟨h1,h2,h3⟩
       ·rcases g8 with h0|h0
        ·exact .inl (by omega)
        ·exact .inr (.inl (by omega))
       ·exact .inr (.inr ⟨h1,h2,h3⟩))
  obtain⟨cr1,cr2⟩:=hcr
  have eU:U.take k++U.drop k=U:=List.take_append_drop _ _
  have eV:V.take l++V.drop l=V:=List.take_append_drop _ _
  have lU1:(U.take k).length=k:=by rw[List.length_take];omega
  have lV1:(V.take l).length=l:=by rw[List.length_take];omega
  have lU2:(U.drop k).length=U.length - k:=List.length_drop
  have lV2:(V.drop l).length=V.length - l:=List.length_drop
  have s1:=sU.take k
  have s2:=sU.drop k
  have s3:=sV.take l
  have s4:=sV.drop l
  generalize U.take k=U1 at*
  generalize U.drop k=U2 at*
  generalize V.take l=V1 at*
  generalize V.drop l=V2 at*
  have hmg:=zf W (u1:=U1) (u2:=U2) (v1:=V1) (v2:=V2) (by rw[eU];exact sU) (by rw[eV];exact sV) cr1 cr2 (ip W (U1++V1)) (lQ W (U1++V1)) (ip W (U2++V2)) (lQ W (U2++V2))
  rw[eU,eV] at hmg
  have hfin:=oU W hmg.1 hmg.2
  have lw1:(cE (eu cmp) (U1++V1)).length=U1.length+V1.length:=by rw[lF W,List.length_append]
  have hR:(0<U2.length→0<V1.length→aQ Tryz.prog 177 [.own 0 v,.i .i64 (j:Nat),.i .i64 (m:Nat),.i .i64 ((m+l:Nat):Int),.fn (.func f) gc] [.row v 76 5 (L.map eF)] (fun r os=>r= .tup []∧os=[.row v 76 5 ((A++U1++V1++(U2++V2++D)).map eF)]))∧(U2.length=0∨V1.length=0→L=A++U1++V1++(U2++V2++D)):=by
   have e:(A++U1)++U2++V1++(V2++D)=L:=by rw[←hLe,←eU,←eV];simp only[List.append_assoc]
   refine⟨fun q1 q2=>?_,fun q=>?_⟩
   ·have h:=AC v (.func f) gc (A++U1) U2 V1 (V2++D) q1 q2 (by rw[e];exact hl)
    rw[e] at h
    have e1:(A++U1).length=j:=by rw[List.length_append];omega
    have e2:((A++U1)++U2).length=m:=by rw[List.length_append,e1];omega
    have e3:((A++U1)++U2++V1).length=m+l:=by rw[List.length_append,e2];omega
    have e4:(A++U1)++V1++U2++(V2++D)=A++U1++V1++(U2++V2++D):=by simp only[List.append_assoc]
    rw[e1,e2,e3,e4] at h
    exact h
   ·rw[←e]
    rcases q with q|q
    ·rw[List.length_eq_zero_iff.1 q];simp only[List.append_assoc,List.nil_append]
    ·rw[List.length_eq_zero_iff.1 q];simp only[List.append_assoc,List.nil_append]
  have hl2:(A++U1++V1++(U2++V2++D)).length≤100000:=by simp only[List.length_append];omega
  have hI1:(0<U1.length→0<V1.length→aQ Tryz.prog 165 [.own 0 v,.i .i64 (a:Nat),.i .i64 (j:Nat),.i .i64 (mid:Nat),.fn (.func f) gc] [.row v 76 5 ((A++U1++V1++(U2++V2++D)).map eF)] (fun r os=>r= .tup []∧os=[.row v 76 5 ((A++cE (eu cmp) (U1++V1)++(U2++V2++D)).map eF)]))∧(U1.length=0∨V1.length=0→A++U1++V1++(U2++V2++D)=A++cE (eu cmp) (U1++V1)++(U2++V2++D)):=by
   refine⟨fun q1 q2=>?_,fun q=>?_⟩
   ·have h:=ih (U1.length+V1.length) (by omega) A U1 V1 (U2++V2++D) Z q1 q2 s1 s3 hl2
    have e1:(A++U1).length=j:=by rw[List.length_append];omega
    have e2:(A++U1++V1).length=mid:=by rw[List.length_append,e1];omega
    rw[e1,e2,hal] at h
    exact h
   ·have:ly (eu cmp) (U1++V1):=by
     rcases q with q|q
     ·rw[List.length_eq_zero_iff.1 q];exact s3
     ·rw[List.length_eq_zero_iff.1 q,List.append_nil];exact s1
    rw[Ar W this];simp only[List.append_assoc]
  have hI2:(0<U2.length→0<V2.length→aQ Tryz.prog 165 [.own 0 v,.i .i64 (mid:Nat),.i .i64 ((m+l:Nat):Int),.i .i64 (b:Nat),.fn (.func f) gc] [.row v 76 5 ((A++cE (eu cmp) (U1++V1)++(U2++V2++D)).map eF)] (fun r os=>r= .tup []∧os=[.row v 76 5 ((A++cE (eu cmp) (U++V)++D).map eF)]))∧(U2.length=0∨V2.length=0→A++cE (eu cmp) (U1++V1)++(U2++V2++D)=A++cE (eu cmp) (U++V)++D):=by
   have eF':(A++cE (eu cmp) (U1++V1))++cE (eu cmp) (U2++V2)++D=A++cE (eu cmp) (U++V)++D:=by rw[←hfin];simp only[List.append_assoc]
   have e0:(A++cE (eu cmp) (U1++V1))++U2++V2++D=A++cE (eu cmp) (U1++V1)++(U2++V2++D):=by simp only[List.append_assoc]
   refine⟨fun q1 q2=>?_,fun q=>?_⟩
   ·have h:=ih (U2.length+V2.length) (by omega) (A++cE (eu cmp) (U1++V1)) U2 V2 D Z q1 q2 s2 s4 (by rw[e0];simp only[List.length_append] at hl2 ⊢;omega)
    have e1:(A++cE (eu cmp) (U1++V1)).length=mid:=by rw[List.length_append,lw1];omega
    have e2:((A++cE (eu cmp) (U1++V1))++U2).length=m+l:=by rw[List.length_append,e1];omega
    have e3:((A++cE (eu cmp) (U1++V1))++U2++V2).length=b:=by rw[List.length_append,e2];omega
    rw[e3,e2,e1,eF',e0] at h
    exact h
   ·have:ly (eu cmp) (U2++V2):=by
     rcases q with q|q
     ·rw[List.length_eq_zero_iff.1 q];exact s4
     ·rw[List.length_eq_zero_iff.1 q,List.append_nil];exact s2
    rw[←eF',Ar W this];simp only[List.append_assoc]
  clear hmg hfin cr1 cr2 k4 k5
  generalize A++cE (eu cmp) (U++V)++D=L4 at hI2 ⊢
  generalize A++cE (eu cmp) (U1++V1)++(U2++V2++D)=L3 at hI1 hI2
  generalize A++U1++V1++(U2++V2++D)=L2 at hR hI1
  by_cases cR:0<U2.length∧0<V1.length
  all_goals by_cases c1:0<U1.length∧0<V1.length
  all_goals by_cases c2:0<U2.length∧0<V2.length
  all_goals (first|have hrot:=hR.1 cR.1 cR.2|(obtain rfl:=hR.2 (by omega)))
  all_goals (first|have hs1:=hI1.1 c1.1 c1.2|(obtain rfl:=hI1.2 (by omega)))
  all_goals (first|have hs2:=hI2.1 c2.1 c2.2|(obtain rfl:=hI2.2 (by omega)))
  all_goals clear hR hI1 hI2 hcmp ih
  all_goals (first
   |(repeat' (first|refine ae ?_|refine aa ?_|refine ac (ax ?_)|refine ac (bC ?_)|refine ah (ax ?_)|refine ah (bC ?_)|refine aw (ax ?_)|refine d9 Z Z Z cM ?_|(refine dW Z Z Z Z ?_ ?_;omega)|refine aU ab (fun _=>?_)|(fail_if_success (refine aM Z cM ?_));(refine aV Z Z (fun hc=>?_) (fun hc=>?_)<;>try omega)|refine aB Z ?_|(refine ao Z (fun hc=>?_) (fun hc=>?_))<;>try omega|refine bk [] [0] [0] Z hrot ⟨aJ,ai (by omega),ai (by omega),ai (by omega),aP,J⟩ Z dD Z Z ?_|refine bk [] [0] [0] Z hs1 ⟨aJ,ai (by omega),ai (by omega),ai (by omega),aP,J⟩ Z dD Z Z ?_|refine bk [] [0] [0] Z hs2 ⟨aJ,ai (by omega),ai (by omega),ai (by omega),aP,J⟩ Z dD Z Z ?_)))
  all_goals exact dC Z [] [(0,_)] (az 0 Z .nil) ⟨rfl,rfl⟩ _ cM)
def Bk{α:Type}(lt:α→α→Bool)(bs:Nat)(l:List α):Prop:=∀k,ly lt ((l.drop (k*bs)).take bs)
theorem Bk.nil{α:Type}{lt:α→α→Bool}(bs:Nat):Bk lt bs []:=fun k=>by rw[List.drop_nil,List.take_nil];exact List.Pairwise.nil
theorem Bk.app{α:Type}{lt:α→α→Bool}{bs k:Nat}{P Q:List α}(h:Bk lt bs P)(hP:P.length=k*bs)(hQ:ly lt Q):Bk lt bs (P++Q):=by
 intro i
 by_cases hi:i<k
 ·have h1:(i+1)*bs≤k*bs:=Nat.mul_le_mul_right _ hi
  rw[Nat.add_mul,Nat.one_mul] at h1
  rw[List.drop_append_of_le_length (by omega),List.take_append_of_le_length (by rw[List.length_drop];omega)]
  exact h i
 ·have h1:k*bs≤i*bs:=Nat.mul_le_mul_right _ (by omega)
  rw[List.drop_append,List.drop_eq_nil_iff.2 (by omega),List.nil_append]
  exact(hQ.drop _).take _
theorem Bk.drop{α:Type}{lt:α→α→Bool}{bs:Nat}{R:List α}(h:Bk lt bs R)(j:Nat):Bk lt bs (R.drop (j*bs)):=fun k=>by
 rw[List.drop_drop,←Nat.add_mul];exact h _
theorem Ao(v:Value)(f:Nat)(gc:List AV)(ho:gc.all jN=true)(cmp:Fl→Fl→Int)(hcmp:∀x y,aQ Tryz.prog f ([eF x,eF y]++gc) [] (fun v os=>v= .i .i64 (cmp x y)∧os=[]))(W:WO (eu cmp))(X:List Fl)(hl:X.length≤100000):
 aQ Tryz.prog 158 [.own 0 v,.i .i64 (X.length:Nat),.fn (.func f) gc] [.row v 76 5 (X.map eF)]
  (fun r os=>r= .tup []∧os=[.row v 76 5 ((cE (eu cmp) X).map eF)]):=by
 refine aA ab [(0,.row v 76 5 (X.map eF))] Tryz.func158 Z Tryz.ntmps158 aN Z Z (fun C=>?_) Z
 have his:=fun A X D=>DB v f gc ho cmp hcmp W A X D
 have hsm:=fun A U V D=>wX v f gc ho cmp hcmp W _ A U V D Z
 obtain⟨n,hn⟩:∃n,X.length=n:=⟨_,rfl⟩
 rw[hn] at hl ⊢
 repeat' (first|refine ae ?_|refine aj ?_|refine aa ?_|refine ac (ax ?_)|refine aU ab (fun _=>?_))
 refine aO (fun q:Nat×List Fl×List Fl=>⟨63,[(6,.i .i64 20),(7,.i .i64 ((20*q.1:Nat):Int)),(8,.i .i64 ((20*q.1+20:Nat):Int)),(0,.own 0 v),(1,.i .i64 n),(2,.fn (.func f) gc)],[(0,.row v 76 5 ((q.2.1++q.2.2).map eF))]⟩) (fun q=>q.2.1.length=q.1*20∧Bk (eu cmp) 20 q.2.1∧CE (eu cmp) X (q.2.1++q.2.2)∧q.2.1.length+q.2.2.length=n) (fun q=>q.2.2.length) [] (0,[],X) ⟨rfl,Bk.nil _,CE.refl _,by show 0+X.length=n;omega⟩ ?_ ?_
 ·exact⟨rfl,⟨ai Z,ai Z,ai Z,aJ,ai Z,aP,J⟩,az 0 Z .nil⟩
 rintro⟨k,P,R⟩ ⟨h1,h2,h3,h4⟩
 dsimp only at h1 h2 h3 h4 ⊢
 by_cases hlt:20≤R.length
 ·have e1:R.take 20++R.drop 20=R:=List.take_append_drop _ _
  have l1:(R.take 20).length=20:=by rw[List.length_take];omega
  have l2:(R.drop 20).length=R.length - 20:=List.length_drop
  generalize R.take 20=Q at e1 l1
  generalize R.drop 20=R2 at e1 l2
  subst e1
  rw[List.length_append] at hlt l2 h4
  have e2:P++(Q++R2)=P++Q++R2:=(List.append_assoc _ _ _).symm
  rw[e2] at h3 ⊢
  have hcall:=his P Q R2 (by simp only[List.length_append];omega)
  have e3:(P++Q).length=20*k+20:=by rw[List.length_append];omega
  rw[e3,show P.length=20*k by omega] at hcall
  have hce:CE (eu cmp) X (P++cE (eu cmp) Q++R2):=h3.trans (CE.mid P R2 (lQ W Q))
  have hsl:=lF W Q
  have hsr:=ip W Q
  generalize cE (eu cmp) Q=S at hcall hce hsl hsr
  clear his hsm
  repeat' (first|refine ae ?_|refine aj ?_|refine aa ?_|refine ac (ax ?_)|refine ac (db ?_)|refine ah (ax ?_)|(refine bc Z Z Z Z ?_ ?_;omega)|refine aU ab (fun _=>?_)|(refine ao Z (fun hc=>?_) (fun hc=>?_))<;>try omega|refine bk [] [0] [0] Z hcall ⟨aJ,ai (by omega),ai (by omega),aP,J⟩ Z dD Z Z ?_)
  exact⟨(k+1,P++S,R2),[],⟨by show (P++S).length=(k+1)*20;rw[List.length_append];omega,h2.app h1 hsr,hce,by show (P++S).length+R2.length=n;rw[List.length_append];omega⟩,by show R2.length<(Q++R2).length;rw[List.length_append];omega,rfl,⟨ai Z,ai (by show _=((20*(k+1):Nat):Int);omega),ai (by show _=((20*(k+1)+20:Nat):Int);omega),aJ,ai Z,aP,J⟩,az 0 Z .nil⟩
 have hcall:=his P R [] (by rw[List.append_nil,List.length_append];omega)
 rw[List.append_nil,List.append_nil,show P.length=20*k by omega,show (P++R).length=n by rw[List.length_append];omega] at hcall
 have hce:CE (eu cmp) X (P++cE (eu cmp) R):=h3.trans ((CE.refl P).app (lQ W R))
 have hbk:=h2.app h1 (ip W R)
 have hln:(P++cE (eu cmp) R).length=n:=by rw[List.length_append,lF W];omega
 generalize P++cE (eu cmp) R=L1 at hcall hce hbk hln
 clear his
 repeat' (first|refine ae ?_|refine aj ?_|refine aa ?_|refine ac (ax ?_)|refine aw (ax ?_)|refine aU ab (fun _=>?_)|(refine ao Z (fun hc=>?_) (fun hc=>?_))<;>try omega|refine bk [] [0] [0] Z hcall ⟨aJ,ai (by omega),ai (by omega),aP,J⟩ Z dD Z Z ?_)
 clear hcall h1 h2 h3
 refine aO (fun q:Nat×List Fl=>⟨63,[(6,.i .i64 q.1),(0,.own 0 v),(1,.i .i64 n),(2,.fn (.func f) gc)],[(0,.row v 76 5 (q.2.map eF))]⟩) (fun q=>1≤q.1∧Bk (eu cmp) q.1 q.2∧CE (eu cmp) X q.2∧q.2.length=n) (fun q=>n - q.1) [] (20,L1) ⟨by show 1≤20;decide,hbk,hce,hln⟩ ?_ ?_
 ·exact⟨rfl,⟨ai Z,aJ,ai Z,aP,J⟩,az 0 Z .nil⟩
 clear hbk hce hln
 rintro⟨bs,L⟩ ⟨h1,h2,h3,h4⟩
 dsimp only at h1 h2 h3 h4 ⊢
 by_cases hlt:bs<n
 ·repeat' (first|refine ae ?_|refine aj ?_|refine aa ?_|refine ac (ax ?_)|refine ah (ax ?_)|(refine kL Z Z Z Z ?_ ?_;omega)|refine aU ab (fun _=>?_)|(refine ao Z (fun hc=>?_) (fun hc=>?_))<;>try omega)
  refine aO (fun q:Nat×List Fl×List Fl=>⟨63,[(6,.i .i64 bs),(7,.i .i64 (q.2.1.length:Nat)),(8,.i .i64 ((q.2.1.length+2*bs:Nat):Int)),(0,.own 0 v),(1,.i .i64 n),(2,.fn (.func f) gc)],[(0,.row v 76 5 ((q.2.1++q.2.2).map eF))]⟩) (fun q=>q.2.1.length=q.1*(2*bs)∧Bk (eu cmp) (2*bs) q.2.1∧Bk (eu cmp) bs q.2.2∧CE (eu cmp) X (q.2.1++q.2.2)∧q.2.1.length+q.2.2.length=n) (fun q=>q.2.2.length) [] (0,[],L) ⟨by show 0=0*(2*bs);rw[Nat.zero_mul],Bk.nil _,h2,h3,by show 0+L.length=n;omega⟩ ?_ ?_
  ·exact⟨rfl,⟨ai Z,ai Z,ai (by show _=((0+2*bs:Nat):Int);omega),aJ,ai Z,aP,J⟩,az 0 Z .nil⟩
  clear h2 h3 h4 L
  rintro⟨k,P,R⟩ ⟨g1,g2,g3,g4,g5⟩
  dsimp only at g1 g2 g3 g4 g5 ⊢
  have sU:=g3 0
  have sV:=g3 1
  rw[Nat.zero_mul,List.drop_zero] at sU
  rw[Nat.one_mul] at sV
  obtain⟨pl,hpl⟩:∃pl,P.length=pl:=⟨_,rfl⟩
  by_cases hge:2*bs≤R.length
  ·have e1:R.take bs++(R.drop bs).take bs++R.drop (2*bs)=R:=by
    rw[List.append_assoc,show R.drop (2*bs)=(R.drop bs).drop bs by rw[List.drop_drop];congr 1;omega,List.take_append_drop,List.take_append_drop]
   have l1:(R.take bs).length=bs:=by rw[List.length_take];omega
   have l2:((R.drop bs).take bs).length=bs:=by rw[List.length_take,List.length_drop];omega
   have l3:(R.drop (2*bs)).length=R.length - 2*bs:=List.length_drop
   have g6:=g3.drop 2
   generalize R.take bs=U at*
   generalize (R.drop bs).take bs=V at*
   generalize R.drop (2*bs)=R2 at*
   have e2:P++R=P++U++V++R2:=by rw[←e1];simp only[List.append_assoc]
   have hcall:=hsm P U V R2 (by omega) (by omega) sU sV (by rw[←e2,List.length_append];omega)
   rw[←e2,show (P++U).length=pl+bs by rw[List.length_append];omega,show (P++U++V).length=pl+2*bs by simp only[List.length_append];omega,hpl] at hcall
   have hce:CE (eu cmp) X (P++cE (eu cmp) (U++V)++R2):=by
    refine g4.trans ?_
    rw[e2,List.append_assoc P U V]
    exact CE.mid P R2 (lQ W (U++V))
   have hsl:=lF W (U++V)
   rw[List.length_append] at hsl
   have hsr:=ip W (U++V)
   generalize cE (eu cmp) (U++V)=S at hcall hce hsl hsr
   rw[hpl]
   clear hsm
   repeat' (first|refine ae ?_|refine aj ?_|refine aa ?_|refine ac (ax ?_)|refine ac (db ?_)|refine ah (ax ?_)|(refine bc Z Z Z Z ?_ ?_;omega)|(refine kL Z Z Z Z ?_ ?_;omega)|refine aU ab (fun _=>?_)|(refine ao Z (fun hc=>?_) (fun hc=>?_))<;>try omega|refine bk [] [0] [0] Z hcall ⟨aJ,ai (by omega),ai (by omega),ai (by omega),aP,J⟩ Z dD Z Z ?_)
   exact⟨(k+1,P++S,R2),[],⟨by show (P++S).length=(k+1)*(2*bs);rw[List.length_append,g1,hsl,l1,l2,Nat.add_mul];omega,g2.app g1 hsr,g6,hce,by show (P++S).length+R2.length=n;rw[List.length_append];omega⟩,by show R2.length<R.length;omega,rfl,⟨ai Z,ai (by show _=(((P++S).length:Nat):Int);rw[List.length_append];omega),ai (by show _=(((P++S).length+2*bs:Nat):Int);rw[List.length_append];omega),aJ,ai Z,aP,J⟩,az 0 Z .nil⟩
  rw[hpl]
  by_cases hm:bs<R.length
  ·have e1:R.take bs++R.drop bs=R:=List.take_append_drop _ _
   have l1:(R.take bs).length=bs:=by rw[List.length_take];omega
   have l2:(R.drop bs).length=R.length - bs:=List.length_drop
   rw[List.take_of_length_le (by omega)] at sV
   generalize R.take bs=U at*
   generalize R.drop bs=V at*
   have e2:P++R=P++U++V++[]:=by rw[←e1];simp only[List.append_assoc,List.append_nil]
   have hcall:=hsm P U V [] (by omega) (by omega) sU sV (by rw[←e2,List.length_append];omega)
   rw[←e2,List.append_nil,show (P++U).length=pl+bs by rw[List.length_append];omega,show (P++U++V).length=n by simp only[List.length_append];omega,hpl,e1] at hcall
   have hce:CE (eu cmp) X (P++cE (eu cmp) R):=g4.trans ((CE.refl P).app (lQ W R))
   have hsl:=lF W R
   have hsr:=ip W R
   have hbk:=g2.app g1 hsr
   have hln:(P++cE (eu cmp) R).length=n:=by rw[List.length_append];omega
   generalize P++cE (eu cmp) R=L2 at hcall hce hbk hln
   clear hsm
   repeat' (first|refine ae ?_|refine aa ?_|refine ac (ax ?_)|refine ac (db ?_)|refine aw (ax ?_)|(refine bc Z Z Z Z ?_ ?_;omega)|(refine kL Z Z Z Z ?_ ?_;omega)|refine aU ab (fun _=>?_)|(refine ao Z (fun hc=>?_) (fun hc=>?_))<;>try omega|refine bk [] [0] [0] Z hcall ⟨aJ,ai (by omega),ai (by omega),ai (by omega),aP,J⟩ Z dD Z Z ?_)
   exact⟨(2*bs,L2),[],⟨by show 1≤2*bs;omega,hbk,hce,hln⟩,by show n - 2*bs<n - bs;omega,rfl,⟨ai (by show _=((2*bs:Nat):Int);omega),aJ,ai Z,aP,J⟩,az 0 Z .nil⟩
  ·rw[List.take_of_length_le (by omega)] at sU
   have hbk:=g2.app g1 sU
   have hln:(P++R).length=n:=by rw[List.length_append];omega
   generalize P++R=L2 at g4 hbk hln ⊢
   clear hsm
   repeat' (first|refine ae ?_|refine aa ?_|refine ac (ax ?_)|refine ac (db ?_)|refine ah (ax ?_)|refine aw (ax ?_)|(refine bc Z Z Z Z ?_ ?_;omega)|(refine kL Z Z Z Z ?_ ?_;omega)|refine aU ab (fun _=>?_)|(refine ao Z (fun hc=>?_) (fun hc=>?_))<;>try omega)
   exact⟨(2*bs,L2),[],⟨by show 1≤2*bs;omega,hbk,g4,hln⟩,by show n - 2*bs<n - bs;omega,rfl,⟨ai (by show _=((2*bs:Nat):Int);omega),aJ,ai Z,aP,J⟩,az 0 Z .nil⟩
 ·have hs:=h2 0
  rw[Nat.zero_mul,List.drop_zero,List.take_of_length_le (by omega)] at hs
  have hfin:=oU W hs h3
  subst hfin
  generalize cE (eu cmp) X=L
  repeat' (first|refine ae ?_|refine aa ?_|refine ac (ax ?_)|refine aw (bC ?_)|refine aU ab (fun _=>?_)|(refine ao Z (fun hc=>?_) (fun hc=>?_))<;>try omega)
  exact dC Z [] [(0,_)] (az 0 Z .nil) ⟨rfl,rfl⟩ _ cM
theorem uu(v:Value)(f:Nat)(gc:List AV)(ho:gc.all jN=true)(cmp:Fl→Fl→Int)(hcmp:∀x y,aQ Tryz.prog f ([eF x,eF y]++gc) [] (fun v os=>v= .i .i64 (cmp x y)∧os=[]))(W:WO (eu cmp))(X:List Fl)(hl:X.length≤100000):
 aQ Tryz.prog 138 [.own 0 v,.fn (.func f) gc] [.row v 76 5 (X.map eF)]
  (fun r os=>r= .tup []∧os=[.row v 76 5 ((cE (eu cmp) X).map eF)]):=by
 refine aA ab [(0,.row v 76 5 (X.map eF))] Tryz.func138 Z Tryz.ntmps138 aN Z Z (fun C=>?_) Z
 have hcall:=Ao v f gc ho cmp hcmp W X hl
 generalize cE (eu cmp) X=L at hcall ⊢
 repeat' (first|refine aa ?_|refine ac (bC ?_)|refine dA Z ab Z Z Z Z (fun _=>?_)|refine aU ab (fun _=>?_)|refine bk [] [0] [0] Z hcall ⟨aJ,ai (by omega),aP,J⟩ Z dD Z Z ?_)
 exact dC Z [] [(0,_)] (az 0 Z .nil) ⟨rfl,rfl⟩ _ cM
end Go.Proofs.YtginkbjclkdglaaGreat
