/- strings.CutPrefix of "log-", journal.Name and journal.number by rules. -/
import Derived.Test.YtginkbjclkdglaaGreatDK5Z
import Derived.Test.YtginkbjclkdglaaGreatKWZ
set_option maxHeartbeats 16000000
set_option maxRecDepth 100000
namespace Go.Proofs.YtginkbjclkdglaaGreat
open Go Go.RowKit
theorem tp(s p:List UInt8)(_hs:s.length≤1000000000000)(hp:p.length≤1000000000000):aQ Tryz.prog 117 [.s s,.s p] [] (fun v os=>v= .b (decide (s.take p.length=p))∧os=[]):=by
 refine aA ab [] Tryz.func117 Z Tryz.ntmps117 aN Z Z (fun C=>?_) Z
 repeat' (first|refine ae ?_|refine aa ?_|refine ac (ax ?_)|refine ap (bC ?_)|refine gM Z Z Z ?_|refine aU ab (fun _=>?_)|(fail_if_success (refine aM Z cM ?_));(refine aV Z Z (fun hc=>?_) (fun hc=>?_)<;>try omega)|(refine dK ab Z 0 p.length Z Z Z da (cn Z Z) (by omega) (by omega) ?_))
 ·refine bp Z Z Z [] [] (am ?_) .nil ⟨rfl,rfl⟩ _ (.inl Z)
  refine congrArg AV.b ?_
  rw[List.drop_zero,Bool.eq_iff_iff,beq_iff_eq,decide_eq_true_eq]
 ·refine bp Z Z Z [] [] (am ?_) .nil ⟨rfl,rfl⟩ _ (.inl Z)
  refine congrArg AV.b (Eq.symm ?_)
  refine decide_eq_false (fun h=>?_)
  have:=congrArg List.length h
  rw[List.length_take] at this
  omega
def xi(s p:List UInt8):List UInt8×Bool:=if s.take p.length=p then (s.drop p.length,true) else (s,false)
theorem B5(s p:List UInt8)(hs:s.length≤1000000000000)(hp:p.length≤1000000000000):aQ Tryz.prog 162 [.s s,.s p] [] (fun v os=>v= .tup [.s (xi s p).1,.b (xi s p).2]∧os=[]):=by
 have hh:=tp s p hs hp
 refine aA ab [] Tryz.func162 Z Tryz.ntmps162 aN Z Z (fun C=>?_) Z
 by_cases hc:s.take p.length=p
 ·have hr:xi s p=(s.drop p.length,true):=if_pos hc
  rw[hr]
  rw[decide_eq_true hc] at hh
  have hl:p.length≤s.length:=by have:=congrArg List.length hc;rw[List.length_take] at this;omega
  have htk:((s.take s.length).drop p.length)=s.drop p.length:=by rw[List.take_length]
  repeat' (first|refine ae ?_|refine aa ?_|refine ac (ax ?_)|refine ah (ax ?_)|refine ap (bC ?_)|refine aU ab (fun _=>?_)|refine aB Z ?_|(refine dK ab Z p.length s.length Z Z Z (cn Z Z) da (by omega) (by omega) ?_)|refine au Z (hh) ⟨aP,aP,J⟩ Z ?_)
  all_goals
   exact aH [] [] (.tup [.s (s.drop p.length),.b true]) Z (aW (am (congrArg AV.s htk)) (am Z) Z Z) .nil ⟨rfl,rfl⟩
 ·have hr:xi s p=(s,false):=if_neg hc
  rw[hr]
  rw[decide_eq_false hc] at hh
  repeat' (first|refine ae ?_|refine aa ?_|refine ac (ax ?_)|refine ap (bC ?_)|refine aU ab (fun _=>?_)|refine aR Z ?_|refine au Z (hh) ⟨aP,aP,J⟩ Z ?_)
  all_goals
   exact aH [] [] (.tup [.s s,.b false]) Z (aW (am Z) (am Z) Z Z) .nil ⟨rfl,rfl⟩
theorem FJ(s p:List UInt8)(hs:s.length≤1000000000000)(hp:p.length≤1000000000000):aQ Tryz.prog 152 [.s s,.s p] [] (fun v os=>v= .tup [.s (xi s p).1,.b (xi s p).2]∧os=[]):=by
 have hh:=B5 s p hs hp
 refine aA ab [] Tryz.func152 Z Tryz.ntmps152 aN Z Z (fun C=>?_) Z
 generalize xi s p=q at*
 repeat' (first|refine ae ?_|refine aa ?_|refine ac (ax ?_)|refine ap (bC ?_)|refine aU ab (fun _=>?_)|refine au Z (hh) ⟨aP,aP,J⟩ Z ?_)
 all_goals
  exact aH [] [] (.tup [.s q.1,.b q.2]) Z (aW (am Z) (am Z) Z Z) .nil ⟨rfl,rfl⟩
def ql(j n:Nat):List UInt8:=lr++(List.replicate (10 - j) 48++ja j n)
theorem HQ{j n:Nat}(hj:j≤10)(h:n<10^j):ql j n=ci n:=by
 unfold ql ci
 rw[yy 10 j n h hj]
theorem F7{j n:Nat}(hj:j≤10):(ql j n).length=14:=by
 unfold ql
 rw[List.length_append,List.length_append,List.length_replicate,nH,show lr.length=4 from rfl];omega
theorem F6{j n:Nat}(hj:j<10):(ql j n).set (13 - j) (UInt8.ofNat (48+n / 10^j%10))=ql (j+1) n:=by
 have e:ql j n=(lr++List.replicate (9 - j) 48)++48::ja j n:=by
  unfold ql
  rw[show 10 - j=(9 - j)+1 by omega,List.replicate_succ',List.append_assoc,List.append_assoc];rfl
 have hl:(lr++List.replicate (9 - j) (48:UInt8)).length=13 - j:=by
  rw[List.length_append,List.length_replicate,show lr.length=4 from rfl];omega
 have hle:(lr++List.replicate (9 - j) (48:UInt8)).length≤13 - j:=by omega
 rw[e,List.set_append_right _ _ hle,hl,Nat.sub_self,List.set_cons_zero]
 unfold ql
 rw[show 10 - (j+1)=9 - j by omega,List.append_assoc];rfl
theorem pT(n:Nat)(hn:n<10000000000):aQ Tryz.prog 70 [.i .i64 n] [] (fun v os=>v= .s (ci n)∧os=[]):=by
 refine aA ab [] Tryz.func70 Z Tryz.ntmps70 aN Z Z (fun C=>?_) Z
 have h14:(lr++List.replicate 10 (48:UInt8)).length=14:=rfl
 repeat' (first|(refine aI ab Z Z Z Z Z Z Z Z Z Z Z eo (fun vB=>?_))|refine ae ?_|refine aj ?_|refine aa ?_|refine ac (ax ?_)|(refine dW Z Z Z Z ?_ ?_;omega)|refine aU ab (fun _=>?_)|(refine JH ab Z (lr++List.replicate 10 48) Z Z Z Z Z Z Z Z (hp':=fun b' o'=>[(5,HO.obj b' o')]) (fun _ _=>rfl) (fun bM oM hM=>?_))|(refine Lz ab Z Z hM Z Z ?_))
 refine aO (fun q:Nat×Obj=>⟨29,[(4,.i .i64 (13 - (q.1:Int))),(0,.i .i64 ((n / 10^q.1:Nat):Int)),(3,.own 5 vB)],[(5,.obj bM q.2)]⟩) (fun q=>q.1≤10∧xt vB q.2 5 bM (ql q.1 n)) (fun q=>10 - q.1) [] (0,oM) ⟨Nat.zero_le _,hM⟩ ?_ ?_
 ·exact⟨rfl,⟨ai (by rw[h14];rfl),ai (by rw[Nat.pow_zero,Nat.div_one]),aJ,J⟩,az 5 Z .nil⟩
 rintro⟨j,o⟩ ⟨hj,hMj⟩
 dsimp only at hj hMj ⊢
 have hln:=F7 (n:=n) hj
 by_cases hgo:j<10∧n / 10^j≠0
 ·have eT:=F6 (n:=n) hgo.1
  have hdd:n / 10^(j+1)=n / 10^j / 10:=by rw[Nat.pow_succ,Nat.div_div_eq_div_mul]
  have hqn:n / 10^j≤n:=Nat.div_le_self _ _
  have h0:=hgo.2
  have hj10:=hgo.1
  generalize n / 10^j=q at eT hdd hqn h0 ⊢
  have hbc:AV.i .u8 (IntKind.u8.wrap (48+(q:Int)%10))=gy (UInt8.ofNat (48+q%10)):=iy (48+q%10)
  repeat' (first|refine ae ?_|refine aj ?_|refine aa ?_|refine ac (ax ?_)|refine ac (db ?_)|refine ah (ax ?_)|(refine bc Z Z Z Z ?_ ?_;omega)|(refine dW Z Z Z Z ?_ ?_;omega)|(refine vF Z Z Z Z ?_ ?_ ?_;omega;omega)|(refine t6 Z Z Z Z ?_ ?_ ?_;omega;omega)|refine aU ab (fun _=>?_)|(fail_if_success (refine aM Z cM ?_));(refine aV Z Z (fun hc=>?_) (fun hc=>?_)<;>try omega)|(refine ao Z (fun hc=>?_) (fun hc=>?_))<;>try omega|(refine HJ ab Z Z hMj Z Z Z Z Z (13 - j) ?_ ?_ ?_;omega;omega)|(refine HG ab Z Z Z hMj Z Z Z Z hbc ?_ Z (hp':=fun o'=>[(5,HO.obj bM o')]) (fun _=>rfl) (fun o2 hM2=>?_);omega))
  rw[eT] at hM2
  exact⟨(j+1,o2),[],⟨by omega,hM2⟩,by show 10 - (j+1)<10 - j;omega,rfl,⟨ai (by show (13 - (j:Int) - 1)=13 - ((j+1:Nat):Int);omega),ai (by show ((q:Int) / 10)=((n / 10^(j+1):Nat):Int);rw[hdd];rfl),aJ,J⟩,az 5 Z .nil⟩
 ·have hq:n<10^j:=by
   by_cases hj2:j<10
   ·have h0:n / 10^j=0:=Classical.byContradiction fun h=>hgo ⟨hj2,h⟩
    rcases Nat.div_eq_zero_iff.1 h0 with h|h
    ·exact absurd h (Nat.pos_iff_ne_zero.1 (Nat.pow_pos (by decide)))
    ·exact h
   ·have:j=10:=by omega
    subst this;exact hn
  have hz:n / 10^j=0:=Nat.div_eq_of_lt hq
  rw[HQ hj hq] at hMj
  rw[hz]
  refine GN 5 3 hMj Z Z Z ?_
  repeat' (first|refine ae ?_|refine aa ?_|refine ac (ax ?_)|refine aw (ax ?_)|refine ap (bC ?_)|refine gM Z Z Z ?_|refine aU ab (fun _=>?_)|(fail_if_success (refine aM Z cM ?_));(refine aV Z Z (fun hc=>?_) (fun hc=>?_)<;>try omega)|refine aB Z ?_|refine dJ ab Z Z Z Z Z (by first|exact J|exact rfl) Z Z Z Z ?_)
  all_goals exact jh
def tc(s:List UInt8):Int:=match kT s with|some n=>(n:Int)|none=> -1
theorem Gl(s:List UInt8)(hs:s.length≤1000000):aQ Tryz.prog 119 [.s s] [] (fun v os=>v= .i .i64 (tc s)∧os=[]):=by
 have hh:=FJ s lr (by omega) (by decide)
 refine aA ab [] Tryz.func119 Z Tryz.ntmps119 aN Z Z (fun C=>?_) Z
 generalize hq:xi s lr=q at hh
 obtain⟨r,ok⟩:=q
 cases ok
 ·have hN:tc s= -1:=by
   unfold tc kT
   rw[if_neg]
   rintro⟨h,_⟩
   unfold xi at hq
   rw[if_pos (show s.take lr.length=lr from h)] at hq
   cases hq
  rw[hN]
  have hh:aQ Tryz.prog 152 [.s s,.s lr] [] (fun v os=>v= .tup [.s r,.b false]∧os=[]):=hh
  repeat' (first|refine ae ?_|refine aj ?_|refine aa ?_|refine ac (ax ?_)|refine ac (db ?_)|refine ac (bC ?_)|refine ah (ax ?_)|refine ah (bC ?_)|refine ah (db ?_)|refine aw (ax ?_)|refine aw (db ?_)|refine aw (bC ?_)|refine ap (bC ?_)|refine gM Z Z Z ?_|refine qj Z Z Z ?_|refine nj Z Z Z ?_|(refine bc Z Z Z Z ?_ ?_;omega)|(refine dW Z Z Z Z ?_ ?_;omega)|(refine kL Z Z Z Z ?_ ?_;omega)|refine br Z ab Z Z Z (fun _=>?_)|refine dA Z ab Z Z Z Z (fun _=>?_)|refine gW Z ab Z Z Z Z ?_|(refine iM Z ab Z Z Z Z ?_ ?_;omega)|refine aU ab (fun _=>?_)|(refine aK Z ab Z Z Z Z Z Z ?_ (aE ?_) ?_;omega;omega)|(refine bD ab Z Z Z Z Z Z Z Z _ Z ?_ (fun bO hbO=>?_);(exact dt))|(refine bR ab Z Z Z Z Z (by assumption) (aY (List.getElem?_eq_getElem ?_)) Z Z (by first|exact Nat.add_zero _|rfl) ⟨rfl,rfl⟩ ?_;omega)|(refine dr Z ab Z Z Z ?_ (fun _=>?_);(show List.length _+List.length _≤9223372036854775807;exact dt))|(refine bQ ab Z Z Z Z Z Z (by assumption) (aY (List.getElem?_eq_getElem ?_)) Z Z (by first|exact Nat.add_zero _|rfl) ⟨rfl,rfl⟩ Z Z ?_;omega)|refine fy ab Z Z Z Z Z Z ?_|(fail_if_success (refine aM Z cM ?_));(refine aV Z Z (fun hc=>?_) (fun hc=>?_)<;>try omega)|(fail_if_success (refine aM Z cM ?_));(refine ni Z Z (fun hc=>?_) (fun hc=>?_)<;>try omega)|(fail_if_success (refine aM Z cM ?_));(refine eO Z Z (fun hc=>?_) (fun hc=>?_)<;>try omega)|(fail_if_success (refine aM Z cM ?_));(refine dM Z Z (fun hc=>?_) (fun hc=>?_))|refine aR Z ?_|refine aB Z ?_|(refine ao Z (fun hc=>?_) (fun hc=>?_))<;>try omega|(refine fk Z (fun hc=>?_) (fun hc=>?_))<;>try omega|(refine bF Z (fun hc=>?_) (fun hc=>?_))<;>try omega|(refine ba Z (fun hc=>?_) (fun hc=>?_))|refine dJ ab Z Z Z Z Z (by first|exact J|exact rfl) Z Z Z Z ?_|refine au Z (hh) ⟨aP,aP,J⟩ Z ?_)
  all_goals exact jh
 have hh:aQ Tryz.prog 152 [.s s,.s lr] [] (fun v os=>v= .tup [.s r,.b true]∧os=[]):=hh
 have hr:s.take 4=lr∧r=s.drop 4:=by
  unfold xi at hq
  split at hq
  ·next h=>exact⟨h,(congrArg Prod.fst hq).symm⟩
  ·cases hq
 have hrl:r.length≤1000000:=by rw[hr.2,List.length_drop];omega
 by_cases hl:r.length=10
 case neg=>
  have hN:tc s= -1:=by
   unfold tc kT
   rw[if_neg]
   rintro⟨_,h⟩
   exact hl (by rw[hr.2];exact h)
  rw[hN]
  repeat' (first|refine ae ?_|refine aj ?_|refine aa ?_|refine ac (ax ?_)|refine ac (db ?_)|refine ac (bC ?_)|refine ah (ax ?_)|refine ah (bC ?_)|refine ah (db ?_)|refine aw (ax ?_)|refine aw (db ?_)|refine aw (bC ?_)|refine ap (bC ?_)|refine gM Z Z Z ?_|refine qj Z Z Z ?_|refine nj Z Z Z ?_|(refine bc Z Z Z Z ?_ ?_;omega)|(refine dW Z Z Z Z ?_ ?_;omega)|(refine kL Z Z Z Z ?_ ?_;omega)|refine br Z ab Z Z Z (fun _=>?_)|refine dA Z ab Z Z Z Z (fun _=>?_)|refine gW Z ab Z Z Z Z ?_|(refine iM Z ab Z Z Z Z ?_ ?_;omega)|refine aU ab (fun _=>?_)|(refine aK Z ab Z Z Z Z Z Z ?_ (aE ?_) ?_;omega;omega)|(refine bD ab Z Z Z Z Z Z Z Z _ Z ?_ (fun bO hbO=>?_);(exact dt))|(refine bR ab Z Z Z Z Z (by assumption) (aY (List.getElem?_eq_getElem ?_)) Z Z (by first|exact Nat.add_zero _|rfl) ⟨rfl,rfl⟩ ?_;omega)|(refine dr Z ab Z Z Z ?_ (fun _=>?_);(show List.length _+List.length _≤9223372036854775807;exact dt))|(refine bQ ab Z Z Z Z Z Z (by assumption) (aY (List.getElem?_eq_getElem ?_)) Z Z (by first|exact Nat.add_zero _|rfl) ⟨rfl,rfl⟩ Z Z ?_;omega)|refine fy ab Z Z Z Z Z Z ?_|(fail_if_success (refine aM Z cM ?_));(refine aV Z Z (fun hc=>?_) (fun hc=>?_)<;>try omega)|(fail_if_success (refine aM Z cM ?_));(refine ni Z Z (fun hc=>?_) (fun hc=>?_)<;>try omega)|(fail_if_success (refine aM Z cM ?_));(refine eO Z Z (fun hc=>?_) (fun hc=>?_)<;>try omega)|(fail_if_success (refine aM Z cM ?_));(refine dM Z Z (fun hc=>?_) (fun hc=>?_))|refine aR Z ?_|refine aB Z ?_|(refine ao Z (fun hc=>?_) (fun hc=>?_))<;>try omega|(refine fk Z (fun hc=>?_) (fun hc=>?_))<;>try omega|(refine bF Z (fun hc=>?_) (fun hc=>?_))<;>try omega|(refine ba Z (fun hc=>?_) (fun hc=>?_))|refine dJ ab Z Z Z Z Z (by first|exact J|exact rfl) Z Z Z Z ?_|refine au Z (hh) ⟨aP,aP,J⟩ Z ?_)
  all_goals exact jh
 have hN:kT s=ta r 0:=by
  unfold kT
  rw[if_pos ⟨hr.1,by rw[←hr.2];exact hl⟩,hr.2]
 repeat' (first|refine ae ?_|refine aj ?_|refine aa ?_|refine ac (ax ?_)|refine ac (db ?_)|refine ac (bC ?_)|refine ah (ax ?_)|refine ah (bC ?_)|refine ah (db ?_)|refine aw (ax ?_)|refine aw (db ?_)|refine aw (bC ?_)|refine ap (bC ?_)|refine gM Z Z Z ?_|refine qj Z Z Z ?_|refine nj Z Z Z ?_|(refine bc Z Z Z Z ?_ ?_;omega)|(refine dW Z Z Z Z ?_ ?_;omega)|(refine kL Z Z Z Z ?_ ?_;omega)|refine br Z ab Z Z Z (fun _=>?_)|refine dA Z ab Z Z Z Z (fun _=>?_)|refine gW Z ab Z Z Z Z ?_|(refine iM Z ab Z Z Z Z ?_ ?_;omega)|refine aU ab (fun _=>?_)|(refine aK Z ab Z Z Z Z Z Z ?_ (aE ?_) ?_;omega;omega)|(refine bD ab Z Z Z Z Z Z Z Z _ Z ?_ (fun bO hbO=>?_);(exact dt))|(refine bR ab Z Z Z Z Z (by assumption) (aY (List.getElem?_eq_getElem ?_)) Z Z (by first|exact Nat.add_zero _|rfl) ⟨rfl,rfl⟩ ?_;omega)|(refine dr Z ab Z Z Z ?_ (fun _=>?_);(show List.length _+List.length _≤9223372036854775807;exact dt))|(refine bQ ab Z Z Z Z Z Z (by assumption) (aY (List.getElem?_eq_getElem ?_)) Z Z (by first|exact Nat.add_zero _|rfl) ⟨rfl,rfl⟩ Z Z ?_;omega)|refine fy ab Z Z Z Z Z Z ?_|(fail_if_success (refine aM Z cM ?_));(refine aV Z Z (fun hc=>?_) (fun hc=>?_)<;>try omega)|(fail_if_success (refine aM Z cM ?_));(refine ni Z Z (fun hc=>?_) (fun hc=>?_)<;>try omega)|(fail_if_success (refine aM Z cM ?_));(refine eO Z Z (fun hc=>?_) (fun hc=>?_)<;>try omega)|(fail_if_success (refine aM Z cM ?_));(refine dM Z Z (fun hc=>?_) (fun hc=>?_))|refine aR Z ?_|refine aB Z ?_|(refine ao Z (fun hc=>?_) (fun hc=>?_))<;>try omega|(refine fk Z (fun hc=>?_) (fun hc=>?_))<;>try omega|(refine bF Z (fun hc=>?_) (fun hc=>?_))<;>try omega|(refine ba Z (fun hc=>?_) (fun hc=>?_))|refine dJ ab Z Z Z Z Z (by first|exact J|exact rfl) Z Z Z Z ?_|refine au Z (hh) ⟨aP,aP,J⟩ Z ?_)
 refine aO (fun q:Nat×Nat=>⟨41,[(23,.i .i64 q.1),(22,.i .i64 10),(21,.sl 1 (r.map gy)),(5,.i .i64 q.2)],[]⟩) (fun q=>q.1≤10∧q.2<10^q.1∧ta r 0=ta (r.drop q.1) q.2) (fun q=>10 - q.1) [] (0,0) ⟨Nat.zero_le _,by decide,rfl⟩ ?_ ?_
 ·exact⟨rfl,⟨ai Z,ai (by rw[hl];rfl),ay Z,ai Z,J⟩,.nil⟩
 rintro⟨i,acc⟩ ⟨hi,hac,hnl⟩
 dsimp only at hi hac hnl ⊢
 have hpw:(10:Nat)^i≤10^10:=Nat.pow_le_pow_right (by decide) hi
 have hpc:(10:Nat)^10=10000000000:=by decide
 by_cases hlt:i<r.length
 ·have hd:=List.drop_eq_getElem_cons hlt
  have hcl:=(r[i]).toNat_lt
  have hnx:ta (r.drop i) acc=if (r[i]).toNat<48∨57<(r[i]).toNat then none else ta (r.drop (i+1)) (10*acc+((r[i]).toNat - 48)):=by rw[hd];rfl
  rw[hnx] at hnl
  by_cases hdg:(r[i]).toNat<48∨57<(r[i]).toNat
  ·rw[if_pos hdg] at hnl
   have hI:tc s= -1:=by unfold tc;rw[hN,hnl]
   rw[hI]
   repeat' (first|refine ae ?_|refine aj ?_|refine aa ?_|refine ac (ax ?_)|refine ac (db ?_)|refine ac (bC ?_)|refine ah (ax ?_)|refine ah (bC ?_)|refine ah (db ?_)|refine aw (ax ?_)|refine aw (db ?_)|refine aw (bC ?_)|refine ap (bC ?_)|refine gM Z Z Z ?_|refine qj Z Z Z ?_|refine nj Z Z Z ?_|(refine bc Z Z Z Z ?_ ?_;omega)|(refine dW Z Z Z Z ?_ ?_;omega)|(refine kL Z Z Z Z ?_ ?_;omega)|refine br Z ab Z Z Z (fun _=>?_)|refine dA Z ab Z Z Z Z (fun _=>?_)|refine gW Z ab Z Z Z Z ?_|(refine iM Z ab Z Z Z Z ?_ ?_;omega)|refine aU ab (fun _=>?_)|(refine aK Z ab Z Z Z Z Z Z ?_ (aE ?_) ?_;omega;omega)|(refine bD ab Z Z Z Z Z Z Z Z _ Z ?_ (fun bO hbO=>?_);(exact dt))|(refine bR ab Z Z Z Z Z (by assumption) (aY (List.getElem?_eq_getElem ?_)) Z Z (by first|exact Nat.add_zero _|rfl) ⟨rfl,rfl⟩ ?_;omega)|(refine dr Z ab Z Z Z ?_ (fun _=>?_);(show List.length _+List.length _≤9223372036854775807;exact dt))|(refine bQ ab Z Z Z Z Z Z (by assumption) (aY (List.getElem?_eq_getElem ?_)) Z Z (by first|exact Nat.add_zero _|rfl) ⟨rfl,rfl⟩ Z Z ?_;omega)|refine fy ab Z Z Z Z Z Z ?_|(fail_if_success (refine aM Z cM ?_));(refine aV Z Z (fun hc=>?_) (fun hc=>?_)<;>try omega)|(fail_if_success (refine aM Z cM ?_));(refine ni Z Z (fun hc=>?_) (fun hc=>?_)<;>try omega)|(fail_if_success (refine aM Z cM ?_));(refine eO Z Z (fun hc=>?_) (fun hc=>?_)<;>try omega)|(fail_if_success (refine aM Z cM ?_));(refine dM Z Z (fun hc=>?_) (fun hc=>?_))|refine aR Z ?_|refine aB Z ?_|(refine ao Z (fun hc=>?_) (fun hc=>?_))<;>try omega|(refine fk Z (fun hc=>?_) (fun hc=>?_))<;>try omega|(refine bF Z (fun hc=>?_) (fun hc=>?_))<;>try omega|(refine ba Z (fun hc=>?_) (fun hc=>?_))|refine dJ ab Z Z Z Z Z (by first|exact J|exact rfl) Z Z Z Z ?_)
   all_goals exact jh
  ·rw[if_neg hdg] at hnl
   have hu8:IntKind.u8.wrap (((r[i]).toNat:Int) - 48)=(((r[i]).toNat - 48:Nat):Int):=by
    rw[show IntKind.u8.wrap (((r[i]).toNat:Int) - 48)=(((r[i]).toNat:Int) - 48)%256 from rfl];omega
   have hac2:10*acc+((r[i]).toNat - 48)<10^(i+1):=by rw[Nat.pow_succ];omega
   have hsum:10*(acc:Int)+IntKind.u8.wrap (((r[i]).toNat:Int) - 48)=((10*acc+((r[i]).toNat - 48):Nat):Int):=by
    rw[hu8];omega
   repeat' (first|refine ae ?_|refine aj ?_|refine aa ?_|refine ac (ax ?_)|refine ac (db ?_)|refine ac (bC ?_)|refine ah (ax ?_)|refine ah (bC ?_)|refine ah (db ?_)|refine aw (ax ?_)|refine aw (db ?_)|refine aw (bC ?_)|refine ap (bC ?_)|refine gM Z Z Z ?_|refine qj Z Z Z ?_|refine nj Z Z Z ?_|(refine bc Z Z Z Z ?_ ?_;omega)|(refine dW Z Z Z Z ?_ ?_;omega)|(refine kL Z Z Z Z ?_ ?_;omega)|refine br Z ab Z Z Z (fun _=>?_)|refine dA Z ab Z Z Z Z (fun _=>?_)|refine gW Z ab Z Z Z Z ?_|(refine iM Z ab Z Z Z Z ?_ ?_;omega)|refine aU ab (fun _=>?_)|(refine aK Z ab Z Z Z Z Z Z ?_ (aE ?_) ?_;omega;omega)|(refine bD ab Z Z Z Z Z Z Z Z _ Z ?_ (fun bO hbO=>?_);(exact dt))|(refine bR ab Z Z Z Z Z (by assumption) (aY (List.getElem?_eq_getElem ?_)) Z Z (by first|exact Nat.add_zero _|rfl) ⟨rfl,rfl⟩ ?_;omega)|(refine dr Z ab Z Z Z ?_ (fun _=>?_);(show List.length _+List.length _≤9223372036854775807;exact dt))|(refine bQ ab Z Z Z Z Z Z (by assumption) (aY (List.getElem?_eq_getElem ?_)) Z Z (by first|exact Nat.add_zero _|rfl) ⟨rfl,rfl⟩ Z Z ?_;omega)|refine fy ab Z Z Z Z Z Z ?_|(fail_if_success (refine aM Z cM ?_));(refine aV Z Z (fun hc=>?_) (fun hc=>?_)<;>try omega)|(fail_if_success (refine aM Z cM ?_));(refine ni Z Z (fun hc=>?_) (fun hc=>?_)<;>try omega)|(fail_if_success (refine aM Z cM ?_));(refine eO Z Z (fun hc=>?_) (fun hc=>?_)<;>try omega)|(fail_if_success (refine aM Z cM ?_));(refine dM Z Z (fun hc=>?_) (fun hc=>?_))|refine aR Z ?_|refine aB Z ?_|(refine ao Z (fun hc=>?_) (fun hc=>?_))<;>try omega|(refine fk Z (fun hc=>?_) (fun hc=>?_))<;>try omega|(refine bF Z (fun hc=>?_) (fun hc=>?_))<;>try omega|(refine ba Z (fun hc=>?_) (fun hc=>?_))|refine dJ ab Z Z Z Z Z (by first|exact J|exact rfl) Z Z Z Z ?_)
   exact⟨(i+1,10*acc+((r[i]).toNat - 48)),[],⟨by omega,hac2,hnl⟩,by show 10 - (i+1)<10 - i;omega,rfl,⟨ai (by show (i:Int)+1=((i+1:Nat):Int);omega),ai Z,ay Z,ai hsum,J⟩,.nil⟩
 ·have hI:tc s=acc:=by
   unfold tc
   rw[hN,hnl,List.drop_eq_nil_of_le (by omega)]
   rfl
  rw[hI]
  repeat' (first|refine ae ?_|refine aj ?_|refine aa ?_|refine ac (ax ?_)|refine ac (db ?_)|refine ac (bC ?_)|refine ah (ax ?_)|refine ah (bC ?_)|refine ah (db ?_)|refine aw (ax ?_)|refine aw (db ?_)|refine aw (bC ?_)|refine ap (bC ?_)|refine gM Z Z Z ?_|refine qj Z Z Z ?_|refine nj Z Z Z ?_|(refine bc Z Z Z Z ?_ ?_;omega)|(refine dW Z Z Z Z ?_ ?_;omega)|(refine kL Z Z Z Z ?_ ?_;omega)|refine br Z ab Z Z Z (fun _=>?_)|refine dA Z ab Z Z Z Z (fun _=>?_)|refine gW Z ab Z Z Z Z ?_|(refine iM Z ab Z Z Z Z ?_ ?_;omega)|refine aU ab (fun _=>?_)|(refine aK Z ab Z Z Z Z Z Z ?_ (aE ?_) ?_;omega;omega)|(refine bD ab Z Z Z Z Z Z Z Z _ Z ?_ (fun bO hbO=>?_);(exact dt))|(refine bR ab Z Z Z Z Z (by assumption) (aY (List.getElem?_eq_getElem ?_)) Z Z (by first|exact Nat.add_zero _|rfl) ⟨rfl,rfl⟩ ?_;omega)|(refine dr Z ab Z Z Z ?_ (fun _=>?_);(show List.length _+List.length _≤9223372036854775807;exact dt))|(refine bQ ab Z Z Z Z Z Z (by assumption) (aY (List.getElem?_eq_getElem ?_)) Z Z (by first|exact Nat.add_zero _|rfl) ⟨rfl,rfl⟩ Z Z ?_;omega)|refine fy ab Z Z Z Z Z Z ?_|(fail_if_success (refine aM Z cM ?_));(refine aV Z Z (fun hc=>?_) (fun hc=>?_)<;>try omega)|(fail_if_success (refine aM Z cM ?_));(refine ni Z Z (fun hc=>?_) (fun hc=>?_)<;>try omega)|(fail_if_success (refine aM Z cM ?_));(refine eO Z Z (fun hc=>?_) (fun hc=>?_)<;>try omega)|(fail_if_success (refine aM Z cM ?_));(refine dM Z Z (fun hc=>?_) (fun hc=>?_))|refine aR Z ?_|refine aB Z ?_|(refine ao Z (fun hc=>?_) (fun hc=>?_))<;>try omega|(refine fk Z (fun hc=>?_) (fun hc=>?_))<;>try omega|(refine bF Z (fun hc=>?_) (fun hc=>?_))<;>try omega|(refine ba Z (fun hc=>?_) (fun hc=>?_))|refine dJ ab Z Z Z Z Z (by first|exact J|exact rfl) Z Z Z Z ?_)
  all_goals exact jh
end Go.Proofs.YtginkbjclkdglaaGreat
