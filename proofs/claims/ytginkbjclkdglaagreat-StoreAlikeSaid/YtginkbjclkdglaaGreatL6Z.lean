/- level: job; ref11: job by rules. -/
import Derived.Test.YtginkbjclkdglaaGreatST9Z
import Derived.Test.YtginkbjclkdglaaGreatB2Z
import Derived.Test.YtginkbjclkdglaaGreatT7Z
set_option maxHeartbeats 8000000
set_option maxRecDepth 100000
namespace Go.Proofs.YtginkbjclkdglaaGreat
open Go Go.RowKit
theorem Bq(s:iH)(n:Int)(l:List Fl)(hl:s.fs.length≤1000)(h0:0<l.length)(hl2:l.length≤1000)(hn: -10≤n∧n≤10):aQ Tryz.prog 100 [iA s,.i .i64 n,.sl 5 (l.map eF)] [] (fun v os=>v=eJ (lu s.fs n l)∧os=[]):=by
 refine aA ab [] Tryz.func100 Z Tryz.ntmps100 aN Z Z (fun C=>?_) Z
 have hsp:=xH l h0 hl2
 have hat:=zR s (n+1) hl
 have hall:=sk s.fs (n+1)
 have hj:lu s.fs n l=⟨n,l.map Fl.num,G6 (jt s.fs (n+1)) (kK l[0] l)⟩:=by unfold lu;rw[Aq l h0]
 rw[hj]
 generalize kK l[0] l=sp at hsp ⊢
 generalize jt s.fs (n+1)=al at hat hall ⊢
 unfold iA at*
 repeat' (first|refine ae ?_|refine aj ?_|refine aa ?_|refine ac (ax ?_)|refine br Z ab Z Z Z (fun _=>?_)|refine aU ab (fun _=>?_)|refine aF (d:=6) Z ab Z Z Z (fun b6=>?_)|refine aF (d:=7) Z ab Z Z Z (fun b7=>?_)|refine aF (d:=8) Z ab Z Z Z (fun b8=>?_)|refine c9 (d:=3) Z Z Z Z (fun b3=>?_)|refine aD ab Z Z Z Z Z Z Z ⟨rfl,rfl⟩ Z Z Z Z Z ?_|refine cd ab Z Z Z Z Z Z eo ?_|refine au Z (hsp) ⟨aP,J⟩ Z ?_)
 refine aO (fun q:Nat×Value=>⟨52,[(19,.i .i64 q.1),(18,.i .i64 l.length),(17,.sl 5 (l.map eF)),(8,.ptr 8 b8 [] 0),(7,.ptr 7 b7 [] 0),(6,.ptr 6 b6 [] 0),(3,.ptr 3 b3 [] 0),(1,.i .i64 n)],[(7,.var b7 (.agg [.i .i64 n,.own 28 q.2,.nil])),(28,.row q.2 3 1 (((l.take q.1).map Fl.num).map (AV.i .i64))),(8,.var b8 (eF sp)),(6,.var b6 (.agg [.i .i64 0,.nil,.nil])),(3,.var b3 (.agg [.i .i64 s.next,.i .i64 s.log,.sl 5 (s.fs.map eF)]))]⟩) (fun q=>q.1≤l.length) (fun q=>l.length - q.1) [] (0,.slice none 0 0) (Nat.zero_le _) ?_ ?_
 ·exact⟨rfl,⟨ai Z,ai Z,ay Z,af,af,af,af,ai Z,J⟩,cr.cons 7 Z (bW (bS (.cons (av _) (.cons dz (.cons (av _) .nil))))) (.none (az 8 Z (az 6 Z (az 3 Z .nil))))⟩
 rintro⟨i,v⟩ hi
 dsimp only at hi ⊢
 by_cases hlt:i<l.length
 ·have hst:=Df l i hlt
  have hfl:((l.take i).map Fl.num).length=i:=by rw[List.length_map,List.length_take];omega
  generalize (l.take i).map Fl.num=out at hst hfl ⊢
  repeat' (first|refine ae ?_|refine aj ?_|refine aa ?_|refine ac (ax ?_)|refine ac (db ?_)|refine ah (ax ?_)|(refine bc Z Z Z Z ?_ ?_;omega)|refine aU ab (fun _=>?_)|refine aF (d:=10) Z ab Z Z Z (fun b10=>?_)|refine aD ab Z Z Z Z Z Z Z ⟨rfl,rfl⟩ Z Z Z Z Z ?_|(refine aK Z ab Z Z Z Z Z Z ?_ (aE ?_) ?_;omega;omega)|refine aI ab Z Z Z Z Z Z Z Z Z Z Z eo (fun _=>?_)|(refine bH ab Z Z Z Z Z Z Z Z Z (by first|exact J|exact rfl) Z Z (fun _=>rfl) ?_ ?_ (fun _=>?_);(exact dt);(exact dt))|(refine ao Z (fun hc=>?_) (fun hc=>?_))<;>try omega)
  refine⟨(i+1,_),[],by show i+1≤l.length;omega,by show l.length - (i+1)<l.length - i;omega,rfl,⟨ai Z,ai Z,ay Z,af,af,af,af,ai Z,J⟩,az 7 Z (cr.cons 28 Z (aZ ?_) (az 8 Z (az 6 Z (az 3 Z .nil))))⟩
  rw[hst,List.map_append];rfl
 have hil:i=l.length:=by omega
 subst hil
 rw[List.take_length]
 generalize l.map Fl.num=out
 repeat' (first|refine ae ?_|refine aj ?_|refine aa ?_|refine ac (ax ?_)|refine aw (ax ?_)|(refine bc Z Z Z Z ?_ ?_;omega)|refine br Z ab Z Z Z (fun _=>?_)|refine aU ab (fun _=>?_)|(refine ao Z (fun hc=>?_) (fun hc=>?_))<;>try omega|refine au Z (hat) ⟨aP,aP,J⟩ Z ?_)
 refine aO (fun q:Nat×Value=>⟨52,[(36,.i .i64 q.1),(35,.i .i64 al.length),(34,.sl 5 (al.map eF)),(8,.ptr 8 b8 [] 0),(7,.ptr 7 b7 [] 0),(6,.ptr 6 b6 [] 0)],[(7,.var b7 (.agg [.i .i64 n,.own 28 v,.own 48 q.2])),(48,.row q.2 3 1 ((G6 (al.take q.1) sp).map (AV.i .i64))),(28,.row v 3 1 (out.map (AV.i .i64))),(8,.var b8 (eF sp)),(6,.var b6 (.agg [.i .i64 0,.nil,.nil]))]⟩) (fun q=>q.1≤al.length) (fun q=>al.length - q.1) [] (0,.slice none 0 0) (Nat.zero_le _) ?_ ?_
 ·exact⟨rfl,⟨ai Z,ai Z,ay Z,af,af,af,J⟩,cr.cons 7 Z (bW (bS (.cons (av _) (.cons (av _) (.cons dz .nil))))) (.none (az 28 Z (az 8 Z (az 6 Z .nil))))⟩
 rintro⟨i,v2⟩ hi
 dsimp only at hi ⊢
 by_cases hlt:i<al.length
 ·have hst:=G5 al sp i hlt
  have hfl:=Jr (al.take i) sp
  rw[List.length_take] at hfl
  have hm:=vT sp al[i]
  generalize G6 (al.take i) sp=out2 at hst hfl ⊢
  generalize fi sp al[i]=mb at hst hm
  repeat' (first|refine ae ?_|refine aj ?_|refine aa ?_|refine ac (ax ?_)|refine ac (db ?_)|refine ah (ax ?_)|(refine bc Z Z Z Z ?_ ?_;omega)|refine aU ab (fun _=>?_)|refine aF (d:=12) Z ab Z Z Z (fun b12=>?_)|refine aD ab Z Z Z Z Z Z Z ⟨rfl,rfl⟩ Z Z Z Z Z ?_|(refine aK Z ab Z Z Z Z Z Z ?_ (aE ?_) ?_;omega;omega)|refine aI ab Z Z Z Z Z Z Z Z Z Z Z eo (fun _=>?_)|(refine bH ab Z Z Z Z Z Z Z Z Z (by first|exact J|exact rfl) Z Z (fun _=>rfl) ?_ ?_ (fun _=>?_);(exact dt);(exact dt))|(refine ao Z (fun hc=>?_) (fun hc=>?_))<;>try omega|(refine ba Z (fun hc=>?_) (fun hc=>?_))|refine au Z (hm) ⟨aP,aP,J⟩ Z ?_)
  ·refine⟨(i+1,_),[],by show i+1≤al.length;omega,by show al.length - (i+1)<al.length - i;omega,rfl,⟨ai Z,ai Z,ay Z,af,af,af,J⟩,az 7 Z (cr.cons 48 Z (aZ ?_) (az 28 Z (az 8 Z (az 6 Z .nil))))⟩
   rw[hst,if_pos hc,List.map_append];rfl
  ·refine⟨(i+1,_),[],by show i+1≤al.length;omega,by show al.length - (i+1)<al.length - i;omega,rfl,⟨ai Z,ai Z,ay Z,af,af,af,J⟩,az 7 Z (cr.cons 48 Z (aZ ?_) (az 28 Z (az 8 Z (az 6 Z .nil))))⟩
   rw[hst,if_neg (by rw[hc];decide)]
 have hil:i=al.length:=by omega
 subst hil
 rw[List.take_length]
 generalize G6 al sp=out2
 repeat' (first|refine ae ?_|refine aa ?_|refine ac (ax ?_)|refine aw (ax ?_)|refine ap (bC ?_)|refine aU ab (fun _=>?_)|refine aD ab Z Z Z Z Z Z Z ⟨rfl,rfl⟩ Z Z Z Z Z ?_|(refine ao Z (fun hc=>?_) (fun hc=>?_))<;>try omega)
 refine cS [28,48] [] (eJ ⟨n,out,out2⟩) Z ?_ ?_ (Cq.slot (bu (bS (.cons (av _) (.cons (bP ?_) (.cons (bP ?_) .nil)))) Z)) .nil ⟨rfl,rfl⟩ _ (.inl Z)
 all_goals first|exact⟨trivial,trivial⟩|trivial|exact⟨trivial,trivial,trivial⟩|exact .head _|exact .tail _ (.head _)|trace_state
theorem sn{fr:Fr}:∀xs:List AV,gU fr xs xs
 |[]=>J
 |_::xs=>⟨aP,sn xs⟩
theorem Dv(x sp:Fl):aQ Tryz.prog 143 [eF x,.cp (eF sp)] [] (fun v os=>v= .b (fi sp x)∧os=[]):=by
 refine aA ab [] Tryz.func143 Z Tryz.ntmps143 aN Z Z (fun C=>?_) Z
 have hm:=vT sp x
 generalize fi sp x=r at hm ⊢
 repeat' (first|refine ae ?_|refine aa ?_|refine ac (ax ?_)|refine ap (bC ?_)|refine aU ab (fun _=>?_)|refine c9 Z Z Z Z (fun _=>?_)|refine au Z (hm) ⟨aP,aP,J⟩ Z ?_)
 exact jh
theorem Ih(l:List Fl)(f:Nat)(caps:List AV)(ho:caps.all jN=true)(p:Fl→Bool)(hf:∀x∈l,aQ Tryz.prog f ([eF x]++caps) [] (fun v os=>v= .b (p x)∧os=[]))(hl:l.length≤100000):
 aQ Tryz.prog 156 [.sl 5 (l.map eF),.fn (.func f) caps] [] (fun v os=>v= .i .i64 (if l.any p=true then (l.findIdx p:Nat) else -1)∧os=[]):=by
 refine aA ab [] Tryz.func156 Z Tryz.ntmps156 aN Z Z (fun C=>?_) Z
 repeat' (first|refine ae ?_|refine aj ?_|refine aa ?_|refine ac (ax ?_)|refine br Z ab Z Z Z (fun _=>?_)|refine aU ab (fun _=>?_))
 refine aO (fun q:Nat=>⟨19,[(8,.i .i64 q),(7,.i .i64 l.length),(0,.sl 5 (l.map eF)),(1,.fn (.func f) caps)],[]⟩) (fun q=>q≤l.length∧∀j (h:j<l.length),j<q→p l[j]=false) (fun q=>l.length - q) [] 0 ⟨Nat.zero_le _,fun _ _ h=>absurd h (Nat.not_lt_zero _)⟩ ?_ ?_
 ·exact⟨rfl,⟨ai Z,ai Z,ay Z,aP,J⟩,.nil⟩
 rintro i ⟨hi,hno⟩
 by_cases hlt:i<l.length
 ·have hfx:=hf l[i] (List.getElem_mem hlt)
  generalize hpb:p l[i]=pb at hfx
  repeat' (first|refine ae ?_|refine aj ?_|refine aa ?_|refine ac (ax ?_)|refine ac (db ?_)|refine ah (ax ?_)|refine ap (bC ?_)|(refine bc Z Z Z Z ?_ ?_;omega)|refine aU ab (fun _=>?_)|(refine aK Z ab Z Z Z Z Z Z ?_ (aE ?_) ?_;omega;omega)|(refine ao Z (fun hc=>?_) (fun hc=>?_))<;>try omega|(refine ba Z (fun hc=>?_) (fun hc=>?_))|(refine lI Z Z ho hfx ⟨aP,sn _⟩ Z Z ?_;rintro _ _ ⟨rfl,rfl⟩;refine⟨rfl,?_⟩))
  ·have hm:l.any p=true:=List.any_eq_true.2 ⟨l[i],List.getElem_mem _,by rw[hpb,hc]⟩
   have hx:l.findIdx p=i:=by
    rw[List.findIdx_eq hlt]
    exact⟨by rw[hpb,hc],fun j hj=>hno j (by omega) hj⟩
   refine bp Z Z Z [] [] (am ?_) .nil ⟨rfl,rfl⟩ _ (.inl Z)
   rw[if_pos hm,hx];rfl
  ·have hcp:pb=false:=hc
   exact⟨i+1,[],⟨hlt,fun j h hj=>by
    rcases Nat.lt_succ_iff_lt_or_eq.1 hj with h2|rfl
    ·exact hno j h h2
    ·rw[hpb,hcp]⟩,by show l.length - (i+1)<l.length - i;omega,rfl,⟨ai Z,ai Z,ay Z,aP,J⟩,.nil⟩
 ·have hm:¬ l.any p=true:=by
   intro h
   obtain⟨x,hx,hxp⟩:=List.any_eq_true.1 h
   obtain⟨j,hj,rfl⟩:=List.getElem_of_mem hx
   rw[hno j hj (by omega)] at hxp;cases hxp
  rw[if_neg hm]
  repeat' (first|refine ae ?_|refine aa ?_|refine ac (ax ?_)|refine aw (ax ?_)|refine ap (bC ?_)|refine aU ab (fun _=>?_)|(refine ao Z (fun hc=>?_) (fun hc=>?_))<;>try omega)
  exact jh
theorem B7(l:List Fl)(f:Nat)(caps:List AV)(ho:caps.all jN=true)(p:Fl→Bool)(hf:∀x∈l,aQ Tryz.prog f ([eF x]++caps) [] (fun v os=>v= .b (p x)∧os=[]))(hl:l.length≤100000):
 aQ Tryz.prog 135 [.sl 5 (l.map eF),.fn (.func f) caps] [] (fun v os=>v= .b (l.any p)∧os=[]):=by
 refine aA ab [] Tryz.func135 Z Tryz.ntmps135 aN Z Z (fun C=>?_) Z
 have h1:=Ih l f caps ho p hf hl
 cases hm:l.any p with
 |true=>
  rw[if_pos hm] at h1
  generalize l.findIdx p=i at h1
  repeat' (first|refine ae ?_|refine aa ?_|refine ac (ax ?_)|refine ap (bC ?_)|refine aU ab (fun _=>?_)|refine au Z (h1) ⟨aP,aP,J⟩ Z ?_)
  refine bp Z Z Z [] [] (am ?_) .nil ⟨rfl,rfl⟩ _ (.inl Z)
  exact congrArg AV.b (decide_eq_true (by omega))
 |false=>
  rw[if_neg (by rw[hm];decide)] at h1
  repeat' (first|refine ae ?_|refine aa ?_|refine ac (ax ?_)|refine ap (bC ?_)|refine aU ab (fun _=>?_)|refine au Z (h1) ⟨aP,aP,J⟩ Z ?_)
  exact jh
def Nq(j:Jb)(f:Fl):Bool:=j.fr.contains f.num||j.to.contains f.num
def jM(l:List Fl)(j:Jb):List Fl:=l.filter (Nq j)
def iQ(l:List Fl)(j:Jb):Bool:=if (jM l j).length=0 then false else !((gx l (j.lev+1)).any (fi (mE (jM l j))))
theorem Dj(l:List Fl)(j:Jb)(i:Nat)(h:i<l.length):jM (l.take (i+1)) j=if (j.fr.contains l[i].num||j.to.contains l[i].num)=true then jM (l.take i) j++[l[i]] else jM (l.take i) j:=by
 unfold jM
 rw[List.take_succ_eq_append_getElem h,List.filter_append,List.filter_cons,List.filter_nil]
 by_cases hc:Nq j l[i]=true
 ·rw[if_pos hc];exact(if_pos hc).symm
 ·rw[if_neg hc,List.append_nil];exact(if_neg hc).symm
theorem x8(l:List Fl)(j:Jb):(jM l j).length≤l.length:=List.length_filter_le _ _
theorem Gi(s:iH)(j:Jb)(hl:s.fs.length≤1000)(h1:j.fr.length≤100000)(h2:j.to.length≤100000)(hj: -10≤j.lev∧j.lev≤10):aQ Tryz.prog 106 [iA s,eJ j] [] (fun v os=>v= .b (iQ s.fs j)∧os=[]):=by
 refine aA ab [] Tryz.func106 Z Tryz.ntmps106 aN Z Z (fun C=>?_) Z
 have hbe:=wJ s (j.lev+1) hl
 have hbl:=qX s.fs (j.lev+1)
 have hla:iQ s.fs j=if (jM s.fs j).length=0 then false else !((gx s.fs (j.lev+1)).any (fi (mE (jM s.fs j)))):=rfl
 generalize iQ s.fs j=r at hla ⊢
 unfold iA eJ at*
 repeat' (first|refine ae ?_|refine aj ?_|refine aa ?_|refine ac (ax ?_)|refine br Z ab Z Z Z (fun _=>?_)|refine aU ab (fun _=>?_)|refine c9 (d:=2) Z Z Z Z (fun b2=>?_)|refine c9 (d:=3) Z Z Z Z (fun b3=>?_))
 refine aO (fun q:Nat×Value=>⟨46,[(12,.i .i64 q.1),(11,.i .i64 s.fs.length),(10,.sl 5 (s.fs.map eF)),(5,.own 31 q.2),(2,.ptr 2 b2 [] 0),(3,.ptr 3 b3 [] 0)],[(31,.row q.2 76 5 ((jM (s.fs.take q.1) j).map eF)),(3,.var b3 (.agg [.i .i64 j.lev,.sl 1 (j.fr.map (AV.i .i64)),.sl 1 (j.to.map (AV.i .i64))])),(2,.var b2 (.agg [.i .i64 s.next,.i .i64 s.log,.sl 5 (s.fs.map eF)]))]⟩) (fun q=>q.1≤s.fs.length) (fun q=>s.fs.length - q.1) [] (0,.slice none 0 0) (Nat.zero_le _) ?_ ?_
 ·exact⟨rfl,⟨ai Z,ai Z,ay Z,dp,af,af,J⟩,.none (az 3 Z (az 2 Z .nil))⟩
 rintro⟨i,v⟩ hi
 dsimp only at hi ⊢
 by_cases hlt:i<s.fs.length
 ·have hst:=Dj s.fs j i hlt
  have hfl:=x8 (s.fs.take i) j
  rw[List.length_take] at hfl
  have hc1:=kG j.fr s.fs[i].num h1
  have hc2:=kG j.to s.fs[i].num h2
  generalize jM (s.fs.take i) j=out at hst hfl ⊢
  generalize hb1:j.fr.contains s.fs[i].num=c1 at hst hc1
  generalize hb2:j.to.contains s.fs[i].num=c2 at hst hc2
  cases c1 with
  |true=>
   repeat' (first|refine ae ?_|refine aj ?_|refine aa ?_|refine ac (ax ?_)|refine ac (db ?_)|refine ah (ax ?_)|refine ib Z Z Z cM ?_|(refine bc Z Z Z Z ?_ ?_;omega)|refine aU ab (fun _=>?_)|refine aF (d:=7) Z ab Z Z Z (fun b7=>?_)|refine aD ab Z Z Z Z Z Z Z ⟨rfl,rfl⟩ Z Z Z Z Z ?_|(refine aK Z ab Z Z Z Z Z Z ?_ (aE ?_) ?_;omega;omega)|refine aI ab Z Z Z Z Z Z Z Z Z Z Z eo (fun _=>?_)|(refine bH ab Z Z Z Z Z Z Z Z Z (by first|exact J|exact rfl) Z Z (fun _=>rfl) ?_ ?_ (fun _=>?_);(exact dt);(exact dt))|refine aR Z ?_|(refine ao Z (fun hc=>?_) (fun hc=>?_))<;>try omega|refine au Z (hc1) ⟨aP,aP,J⟩ Z ?_)
   refine⟨(i+1,_),[],by show i+1≤s.fs.length;omega,by show s.fs.length - (i+1)<s.fs.length - i;omega,rfl,⟨ai Z,ai Z,ay Z,aJ,af,af,J⟩,cr.cons 31 Z (aZ ?_) (az 3 Z (az 2 Z .nil))⟩
   rw[hst,Bool.true_or,if_pos Z,List.map_append];rfl
  |false=>
   cases c2 with
   |true=>
    repeat' (first|refine ae ?_|refine aj ?_|refine aa ?_|refine ac (ax ?_)|refine ac (db ?_)|refine ah (ax ?_)|(refine bc Z Z Z Z ?_ ?_;omega)|refine aU ab (fun _=>?_)|refine aF (d:=7) Z ab Z Z Z (fun b7=>?_)|refine aD ab Z Z Z Z Z Z Z ⟨rfl,rfl⟩ Z Z Z Z Z ?_|(refine aK Z ab Z Z Z Z Z Z ?_ (aE ?_) ?_;omega;omega)|refine aI ab Z Z Z Z Z Z Z Z Z Z Z eo (fun _=>?_)|(refine bH ab Z Z Z Z Z Z Z Z Z (by first|exact J|exact rfl) Z Z (fun _=>rfl) ?_ ?_ (fun _=>?_);(exact dt);(exact dt))|refine aR Z ?_|(refine ao Z (fun hc=>?_) (fun hc=>?_))<;>try omega|refine au Z (hc1) ⟨aP,aP,J⟩ Z ?_|refine au Z (hc2) ⟨aP,aP,J⟩ Z ?_)
    refine⟨(i+1,_),[],by show i+1≤s.fs.length;omega,by show s.fs.length - (i+1)<s.fs.length - i;omega,rfl,⟨ai Z,ai Z,ay Z,aJ,af,af,J⟩,cr.cons 31 Z (aZ ?_) (az 3 Z (az 2 Z .nil))⟩
    rw[hst,Bool.false_or,if_pos Z,List.map_append];rfl
   |false=>
    repeat' (first|refine ae ?_|refine aj ?_|refine aa ?_|refine ac (ax ?_)|refine ac (db ?_)|refine ah (ax ?_)|(refine bc Z Z Z Z ?_ ?_;omega)|refine aU ab (fun _=>?_)|refine aF (d:=7) Z ab Z Z Z (fun b7=>?_)|refine aD ab Z Z Z Z Z Z Z ⟨rfl,rfl⟩ Z Z Z Z Z ?_|(refine aK Z ab Z Z Z Z Z Z ?_ (aE ?_) ?_;omega;omega)|refine aB Z ?_|(refine ao Z (fun hc=>?_) (fun hc=>?_))<;>try omega|refine au Z (hc1) ⟨aP,aP,J⟩ Z ?_|refine au Z (hc2) ⟨aP,aP,J⟩ Z ?_)
    refine⟨(i+1,_),[],by show i+1≤s.fs.length;omega,by show s.fs.length - (i+1)<s.fs.length - i;omega,rfl,⟨ai Z,ai Z,ay Z,aJ,af,af,J⟩,cr.cons 31 Z (aZ ?_) (az 3 Z (az 2 Z .nil))⟩
    rw[hst,Bool.false_or,if_neg (by decide)]
 have hil:i=s.fs.length:=by omega
 subst hil
 rw[List.take_length]
 have hfl:=x8 s.fs j
 generalize jM s.fs j=mine at hla hfl ⊢
 refine ag.weaken [31] (S':=⟨46,[(12,.i .i64 (s.fs.length:Nat)),(11,.i .i64 s.fs.length),(5,.sl 5 (mine.map eF)),(2,.ptr 2 b2 [] 0),(3,.ptr 3 b3 [] 0)],[(3,.var b3 (.agg [.i .i64 j.lev,.sl 1 (j.fr.map (AV.i .i64)),.sl 1 (j.to.map (AV.i .i64))])),(2,.var b2 (.agg [.i .i64 s.next,.i .i64 s.log,.sl 5 (s.fs.map eF)]))]⟩) ⟨rfl,⟨ai Z,ai Z,bu (bP (.head _)) Z,af,af,J⟩,az 3 Z (az 2 Z .nil)⟩ ?_
 by_cases h0:mine.length=0
 ·rw[if_pos h0] at hla
  subst hla
  repeat' (first|refine ae ?_|refine aa ?_|refine ac (ax ?_)|refine aw (ax ?_)|refine ap (bC ?_)|refine br Z ab Z Z Z (fun _=>?_)|refine aU ab (fun _=>?_)|(refine ao Z (fun hc=>?_) (fun hc=>?_))<;>try omega)
  exact jh
 ·rw[if_neg h0] at hla
  have hsp:=xH mine (by omega) (by omega)
  rw[←Aq mine (by omega)] at hsp
  generalize mE mine=sp at hla hsp
  generalize gx s.fs (j.lev+1)=bl at hla hbe hbl
  have hct:=B7 bl 143 [.cp (eF sp)] Z (fi sp) (fun x _=>Dv x sp) (by omega)
  generalize bl.any (fi sp)=an at hla hct
  repeat' (first|refine ae ?_|refine aa ?_|refine ac (ax ?_)|refine ah (ax ?_)|refine aw (ax ?_)|refine ap (bC ?_)|(refine bc Z Z Z Z ?_ ?_;omega)|refine br Z ab Z Z Z (fun _=>?_)|refine aU ab (fun _=>?_)|refine aF (d:=8) Z ab Z Z Z (fun b8=>?_)|refine aD ab Z Z Z Z Z Z Z ⟨rfl,rfl⟩ Z Z Z Z Z ?_|(refine ao Z (fun hc=>?_) (fun hc=>?_))<;>try omega|(refine s7 8 8 Z Z Z ?_;refine pc Z Z Z Z Z ?_)|refine au Z (hsp) ⟨aP,J⟩ Z ?_|refine au Z (hbe) ⟨aP,aP,J⟩ Z ?_|refine au Z (hct) ⟨aP,aP,J⟩ Z ?_)
  subst hla
  exact jh
def lp(m x:Fl):Fl:=if x.num<m.num then x else m
def qJ(o:Fl)(l:List Fl):Fl:=l.foldl lp o
theorem x9(o:Fl)(l:List Fl)(i:Nat)(h:i<l.length):qJ o (l.take (i+1))=lp (qJ o (l.take i)) l[i]:=by
 unfold qJ
 rw[List.take_succ_eq_append_getElem h,List.foldl_append];rfl
theorem C9(a b:Fl):aQ Tryz.prog 102 [eF a,eF b] [] (fun v os=>v= .i .i64 (mz a.num b.num)∧os=[]):=by
 refine aA ab [] Tryz.func102 Z Tryz.ntmps102 aN Z Z (fun C=>?_) Z
 have h1:=mZ a.num b.num
 generalize mz a.num b.num=r at h1 ⊢
 unfold eF
 repeat' (first|refine ae ?_|refine aa ?_|refine ac (ax ?_)|refine ap (bC ?_)|refine aU ab (fun _=>?_)|refine c9 Z Z Z Z (fun _=>?_)|refine au Z (h1) ⟨aP,aP,J⟩ Z ?_)
 exact jh
theorem F9(l:List Fl)(h0:0<l.length)(hl:l.length≤1000):aQ Tryz.prog 101 [.sl 5 (l.map eF),.fn (.func 102) []] [] (fun v os=>v=eF (qJ l[0] l)∧os=[]):=by
 refine aA ab [] Tryz.func101 Z Tryz.ntmps101 aN Z Z (fun C=>?_) Z
 repeat' (first|refine ae ?_|refine aj ?_|refine aa ?_|refine ac (ax ?_)|refine ah (ax ?_)|refine br Z ab Z Z Z (fun _=>?_)|refine aU ab (fun _=>?_)|refine aF (d:=4) Z ab Z Z Z (fun b4=>?_)|refine aF (d:=5) Z ab Z Z Z (fun b5=>?_)|refine aD ab Z Z Z Z Z Z Z ⟨rfl,rfl⟩ Z Z Z Z Z ?_|(refine aK Z ab Z Z Z Z Z Z ?_ (aE ?_) ?_;omega;omega)|(refine ao Z (fun hc=>?_) (fun hc=>?_))<;>try omega)
 refine aO (fun q:Nat=>⟨33,[(6,.i .i64 q),(5,.ptr 5 b5 [] 0),(4,.ptr 4 b4 [] 0),(0,.sl 5 (l.map eF)),(1,.fn (.func 102) [])],[(5,.var b5 (eF (qJ l[0] (l.take q)))),(4,.var b4 (.agg [.i .i64 0,.i .i64 0,.i .i64 0,.s [],.s []]))]⟩) (fun q=>1≤q∧q≤l.length) (fun q=>l.length - q) [] 1 ⟨Nat.le_refl _,h0⟩ ?_ ?_
 ·have e1:qJ l[0] (l.take 1)=l[0]:=by
   rw[x9 l[0] l 0 h0]
   show lp l[0] l[0]=l[0]
   unfold lp;rw[if_neg (Int.lt_irrefl _)]
  exact⟨rfl,⟨ai Z,af,af,ay Z,aP,J⟩,cr.cons 5 Z (by rw[e1];exact ak _) (az 4 Z .nil)⟩
 rintro i ⟨hi1,hi⟩
 by_cases hlt:i<l.length
 ·have hst:=x9 l[0] l i hlt
  generalize qJ l[0] (l.take i)=o at hst ⊢
  have hp1:=C9 l[i] o
  have hneg:=@wy l[i].num o.num
  generalize mz l[i].num o.num=cv at hp1 hneg
  repeat' (first|refine ae ?_|refine aj ?_|refine aa ?_|refine ac (ax ?_)|refine ac (db ?_)|refine ah (ax ?_)|(refine bc Z Z Z Z ?_ ?_;omega)|refine br Z ab Z Z Z (fun _=>?_)|refine aU ab (fun _=>?_)|refine aD ab Z Z Z Z Z Z Z ⟨rfl,rfl⟩ Z Z Z Z Z ?_|(refine aK Z ab Z Z Z Z Z Z ?_ (aE ?_) ?_;omega;omega)|(refine ao Z (fun hc=>?_) (fun hc=>?_))<;>try omega|refine cg 7 [5] [24,25] [] [0,1,2,3,4,5,6,7] aN aN aN Z Z Z ?_|(refine lI Z Z Z hp1 ⟨aP,aP,J⟩ Z Z ?_;rintro _ _ ⟨rfl,rfl⟩;refine⟨rfl,?_⟩))
  ·have hm:lp o l[i]=l[i]:=if_pos (hneg.1 hc)
   exact⟨i+1,[],⟨by omega,hlt⟩,by show l.length - (i+1)<l.length - i;omega,rfl,⟨ai Z,af,af,ay Z,aP,J⟩,cr.cons 5 Z (by rw[hst,hm];exact ak _) (az 4 Z .nil)⟩
  ·have hm:lp o l[i]=o:=if_neg (fun h=>hc (hneg.2 h))
   exact⟨i+1,[],⟨by omega,hlt⟩,by show l.length - (i+1)<l.length - i;omega,rfl,⟨ai Z,af,af,ay Z,aP,J⟩,cr.cons 5 Z (by rw[hst,hm];exact ak _) (az 4 Z .nil)⟩
 ·have hil:i=l.length:=by omega
  subst hil
  rw[List.take_length]
  generalize qJ l[0] l=o
  repeat' (first|refine ae ?_|refine aa ?_|refine ac (ax ?_)|refine aw (ax ?_)|refine ap (bC ?_)|refine br Z ab Z Z Z (fun _=>?_)|refine aU ab (fun _=>?_)|refine aD ab Z Z Z Z Z Z Z ⟨rfl,rfl⟩ Z Z Z Z Z ?_|(refine ao Z (fun hc=>?_) (fun hc=>?_))<;>try omega)
  refine cS [] [] (eF o) Z ?_ ?_ (Cq.slot (bu (am Z) Z)) .nil ⟨rfl,rfl⟩ _ (.inl Z)
  all_goals first|exact⟨trivial,trivial⟩|trivial|exact⟨trivial,trivial,trivial⟩|trace_state
def mT(l:List Fl):Int:=l.foldl (fun a f=>a+f.size) 0
theorem xF(l:List Fl)(i:Nat)(h:i<l.length):mT (l.take (i+1))=mT (l.take i)+l[i].size:=by
 unfold mT
 rw[List.take_succ_eq_append_getElem h,List.foldl_append];rfl
def M1(l:List Fl):Prop:=∀f∈l,0≤f.size∧f.size≤1073741824
theorem An(l:List Fl)(h:M1 l):∀i,i≤l.length→0≤mT (l.take i)∧mT (l.take i)≤1073741824*(i:Int)
 |0,_=>⟨Int.le_refl _,by show mT []≤_;decide⟩
 |i+1,hi=>by
  have ih:=An l h i (by omega)
  have hx:=h l[i] (List.getElem_mem (by omega))
  rw[xF l i (by omega)]
  omega
theorem E4(next:Int):∀(l pre:List Fl),Ct next pre l=0→∀f∈l,¬ kX next f
 |[],_,_,f,hf=>by cases hf
 |x::l,pre,h,f,hf=>by
  rw[Ct] at h
  by_cases hc:mc next pre x=0
  ·rw[if_neg (fun n=>n hc)] at h
   rcases List.mem_cons.1 hf with rfl|hf
   ·intro ha
    rw[nC ha] at hc;cases hc
   ·exact E4 next l _ h f hf
  ·rw[if_pos hc] at h
   exact absurd h hc
theorem Du{s:iH}(h:bT s=0):∀f∈s.fs,¬ kX s.next f:=by
 unfold bT at h
 split at h
 ·cases h
 ·split at h
  ·cases h
  ·exact E4 _ _ _ h
theorem Jv{s:iH}(h:bT s=0)(n:Int):M1 (jt s.fs n):=fun f hf=>by
 have:=Du h f (List.mem_filter.1 hf).1
 unfold kX at this
 omega
def vQ:List Fl→Fl
 |[]=>zF
 |x::l=>qJ x (x::l)
theorem JN(l:List Fl)(h:0<l.length):vQ l=qJ l[0] l:=by
 cases l with
 |nil=>exact absurd h (Nat.lt_irrefl _)
 |cons x l=>rfl
def iL(fs:List Fl)(size:Int):Nat→Int→Jb×Bool
 |0,_=>(zJ,false)
 |k+1,n=>if (if n=2 then 8*size else size)<mT (jt fs n) then (lu fs n [vQ (jt fs n)],true) else iL fs size k (n+1)
def jx(c cnt size:Int):Prop:=c≠0∨cnt<1∨size<1∨1073741824<size
instance (c cnt size:Int):Decidable (jx c cnt size):=by unfold jx;infer_instance
def lZ(s:iH)(cnt size:Int):Jb×Bool:=if jx (bT s) cnt size then (zJ,false) else if cnt≤((jt s.fs 0).length:Nat) then (lu s.fs 0 (jt s.fs 0),true) else iL s.fs size 2 1
theorem FY(s:iH)(cnt size:Int)(hl:s.fs.length≤1000):aQ Tryz.prog 52 [iA s,.agg [.i .i64 cnt,.i .i64 size]] [] (fun v os=>v=eR (lZ s cnt size)∧os=[]):=by
 refine aA ab [] Tryz.func52 Z Tryz.ntmps52 aN Z Z (fun C=>?_) Z
 have hck:=jk s
 have hw:lZ s cnt size=if jx (bT s) cnt size then (zJ,false) else if cnt≤((jt s.fs 0).length:Nat) then (lu s.fs 0 (jt s.fs 0),true) else iL s.fs size 2 1:=rfl
 have hsz:=@Jv s
 generalize lZ s cnt size=r at hw ⊢
 generalize bT s=c at hck hw hsz
 have hjob:=fun n l=>Bq s n l hl
 have hat:=fun n=>zR s n hl
 unfold iA at*
 by_cases hb:jx c cnt size
 ·rw[if_pos hb] at hw
  subst hw
  unfold jx at hb
  repeat' (first|refine ae ?_|refine aa ?_|refine ac (ax ?_)|refine ap (bC ?_)|refine ib Z Z Z cM ?_|refine aU ab (fun _=>?_)|refine aF (d:=4) Z ab Z Z Z (fun b4=>?_)|refine c9 (d:=2) Z Z Z Z (fun b2=>?_)|refine c9 (d:=3) Z Z Z Z (fun b3=>?_)|refine aD ab Z Z Z Z Z Z Z ⟨rfl,rfl⟩ Z Z Z Z Z ?_|refine cd ab Z Z Z Z Z Z eo ?_|(fail_if_success (refine aM Z cM ?_));(refine aV Z Z (fun hc=>?_) (fun hc=>?_)<;>try omega)|(fail_if_success (refine aM Z cM ?_));(refine eO Z Z (fun hc=>?_) (fun hc=>?_)<;>try omega)|refine aR Z ?_|(refine ao Z (fun hc=>?_) (fun hc=>?_))<;>try omega|refine au Z (hck) ⟨aP,J⟩ Z ?_)
  all_goals refine cS [] [] (.tup [eJ zJ,.b false]) Z ?_ ?_ (aW zN (am Z) Z Z) .nil ⟨rfl,rfl⟩ _ (.inl Z)
  all_goals first|exact⟨trivial,trivial⟩|trivial|exact⟨trivial,trivial,trivial⟩|(repeat' (first|exact J|exact rfl|refine⟨?_,?_⟩))
 rw[if_neg hb] at hw
 unfold jx at hb
 have hsz:=hsz (by omega)
 have hat0:=hat 0
 have hjob0:=hjob 0 (jt s.fs 0)
 have hal0:=sk s.fs 0
 generalize lu s.fs 0 (jt s.fs 0)=jb0 at hw hjob0
 generalize jt s.fs 0=al0 at hat0 hjob0 hal0 hw
 by_cases hcn:cnt≤(al0.length:Nat)
 ·rw[if_pos hcn] at hw
  subst hw
  have hjob0:=hjob0 (by omega) (by omega) (by omega)
  repeat' (first|refine ae ?_|refine aa ?_|refine ac (ax ?_)|refine ah (ax ?_)|refine ap (bC ?_)|refine br Z ab Z Z Z (fun _=>?_)|refine aU ab (fun _=>?_)|refine aF (d:=4) Z ab Z Z Z (fun b4=>?_)|refine c9 (d:=2) Z Z Z Z (fun b2=>?_)|refine c9 (d:=3) Z Z Z Z (fun b3=>?_)|refine aD ab Z Z Z Z Z Z Z ⟨rfl,rfl⟩ Z Z Z Z Z ?_|(fail_if_success (refine aM Z cM ?_));(refine aV Z Z (fun hc=>?_) (fun hc=>?_)<;>try omega)|(fail_if_success (refine aM Z cM ?_));(refine eO Z Z (fun hc=>?_) (fun hc=>?_)<;>try omega)|(refine ao Z (fun hc=>?_) (fun hc=>?_))<;>try omega|refine au Z (hck) ⟨aP,J⟩ Z ?_|refine au Z (hat0) ⟨aP,aP,J⟩ Z ?_|refine au Z (hjob0) ⟨aP,aP,aP,J⟩ Z ?_)
  all_goals refine cS [] [] (.tup [eJ jb0,.b true]) Z ?_ ?_ (aW (am Z) (am Z) Z Z) .nil ⟨rfl,rfl⟩ _ (.inl Z)
  all_goals first|exact⟨trivial,trivial⟩|trivial|exact⟨trivial,trivial,trivial⟩|(repeat' (first|exact J|exact rfl|refine⟨?_,?_⟩))
 rw[if_neg hcn] at hw
 repeat' (first|refine ae ?_|refine aj ?_|refine aa ?_|refine ac (ax ?_)|refine ah (ax ?_)|refine br Z ab Z Z Z (fun _=>?_)|refine aU ab (fun _=>?_)|refine aF (d:=4) Z ab Z Z Z (fun b4=>?_)|refine c9 (d:=2) Z Z Z Z (fun b2=>?_)|refine c9 (d:=3) Z Z Z Z (fun b3=>?_)|(fail_if_success (refine aM Z cM ?_));(refine aV Z Z (fun hc=>?_) (fun hc=>?_)<;>try omega)|(fail_if_success (refine aM Z cM ?_));(refine eO Z Z (fun hc=>?_) (fun hc=>?_)<;>try omega)|(refine ao Z (fun hc=>?_) (fun hc=>?_))<;>try omega|refine au Z (hck) ⟨aP,J⟩ Z ?_|refine au Z (hat0) ⟨aP,aP,J⟩ Z ?_)
 refine aO (fun q:Nat=>⟨76,[(8,.i .i64 q),(7,.i .i64 (if q=1 then size else if q=2 then 8*size else 64*size)),(4,.ptr 4 b4 [] 0),(2,.ptr 2 b2 [] 0)],[(4,.var b4 (.agg [.i .i64 0,.nil,.nil])),(2,.var b2 (.agg [.i .i64 s.next,.i .i64 s.log,.sl 5 (s.fs.map eF)]))]⟩) (fun q=>1≤q∧q≤3∧r=iL s.fs size (3 - q) (q:Int)) (fun q=>3 - q) [] 1 ⟨by decide,by decide,hw⟩ ?_ ?_
 ·exact⟨rfl,⟨ai Z,ai Z,af,af,J⟩,az 4 Z (az 2 Z .nil)⟩
 rintro n ⟨hn1,hn,hr⟩
 by_cases hlt:n<3
 ·have hn3:3 - n=(3 - (n+1))+1:=by omega
  rw[hn3,iL] at hr
  have hmo:(if (n:Int)=2 then 8*size else size)=(if n=1 then size else if n=2 then 8*size else 64*size):=by
   rcases (show n=1∨n=2 by omega) with rfl|rfl<;>rfl
  have hmo2:(if n+1=1 then size else if n+1=2 then 8*size else 64*size)=8*(if n=1 then size else if n=2 then 8*size else 64*size):=by
   rcases (show n=1∨n=2 by omega) with rfl|rfl
   ·rfl
   ·show 64*size=8*(8*size);omega
  have hmo3:1≤(if n=1 then size else if n=2 then 8*size else 64*size)∧(if n=1 then size else if n=2 then 8*size else 64*size)≤8589934592:=by
   rcases (show n=1∨n=2 by omega) with rfl|rfl
   ·show 1≤size∧size≤_;omega
   ·show 1≤8*size∧8*size≤_;omega
  rw[hmo] at hr
  generalize (if n=1 then size else if n=2 then 8*size else 64*size)=most at hr hmo2 hmo3 ⊢
  have hat:=hat n
  have hjob:=hjob n [vQ (jt s.fs n)]
  have hal:=sk s.fs n
  have hsz:=hsz n
  have hmn:=F9 (jt s.fs n)
  have hmh:=JN (jt s.fs n)
  generalize lu s.fs n [vQ (jt s.fs n)]=jb at hr hjob
  generalize vQ (jt s.fs n)=mh at hjob hmh
  generalize jt s.fs n=al at hat hjob hal hsz hr hmn hmh
  repeat' (first|refine ae ?_|refine aj ?_|refine aa ?_|refine ac (ax ?_)|refine ah (ax ?_)|refine br Z ab Z Z Z (fun _=>?_)|refine aU ab (fun _=>?_)|(refine ao Z (fun hc=>?_) (fun hc=>?_))<;>try omega|refine au Z (hat) ⟨aP,aP,J⟩ Z ?_)
  refine aO (fun q:Nat=>⟨76,[(54,.i .i64 q),(53,.i .i64 al.length),(52,.sl 5 (al.map eF)),(10,.i .i64 (mT (al.take q))),(9,.sl 5 (al.map eF)),(8,.i .i64 n),(7,.i .i64 most),(4,.ptr 4 b4 [] 0),(2,.ptr 2 b2 [] 0)],[(4,.var b4 (.agg [.i .i64 0,.nil,.nil])),(2,.var b2 (.agg [.i .i64 s.next,.i .i64 s.log,.sl 5 (s.fs.map eF)]))]⟩) (fun q=>q≤al.length) (fun q=>al.length - q) [] 0 (Nat.zero_le _) ?_ ?_
  ·exact⟨rfl,⟨ai Z,ai Z,ay Z,ai Z,ay Z,ai Z,ai Z,af,af,J⟩,az 4 Z (az 2 Z .nil)⟩
  intro k hk
  by_cases hkl:k<al.length
  ·have hst:=xF al k hkl
   have hbd:=An al hsz k hk
   have hx:=hsz al[k] (List.getElem_mem hkl)
   generalize mT (al.take k)=sm at hst hbd ⊢
   repeat' (first|refine ae ?_|refine aj ?_|refine aa ?_|refine ac (ax ?_)|refine ac (db ?_)|refine ah (ax ?_)|(refine bc Z Z Z Z ?_ ?_;omega)|refine aU ab (fun _=>?_)|refine aF (d:=12) Z ab Z Z Z (fun b12=>?_)|refine aD ab Z Z Z Z Z Z Z ⟨rfl,rfl⟩ Z Z Z Z Z ?_|(refine aK Z ab Z Z Z Z Z Z ?_ (aE ?_) ?_;omega;omega)|(refine ao Z (fun hc=>?_) (fun hc=>?_))<;>try omega)
   exact⟨k+1,[],hkl,by show al.length - (k+1)<al.length - k;omega,rfl,⟨ai Z,ai Z,ay Z,ai (by rw[hst]),ay Z,ai Z,ai Z,af,af,J⟩,az 4 Z (az 2 Z .nil)⟩
  have hkl2:k=al.length:=by omega
  subst hkl2
  rw[List.take_length]
  by_cases hmost:most<mT al
  ·have h0:0<al.length:=by
    rcases Nat.eq_zero_or_pos al.length with h|h
    ·have:al=[]:=List.length_eq_zero_iff.1 h
     rw[this] at hmost
     have:mT []=0:=rfl
     omega
    ·exact h
   rw[if_pos hmost] at hr
   subst hr
   have hmn:=hmn h0 (by omega)
   rw[←hmh h0] at hmn
   have hjob:=hjob (by show 0<1;decide) (by show 1≤1000;decide) (by omega)
   generalize mT al=sm at hmost ⊢
   have hjb':aQ Tryz.prog 100 [.agg [.i .i64 s.next,.i .i64 s.log,.sl 5 (s.fs.map eF)],.i .i64 n,.sl 5 ([mh].map eF)] [] (fun v os=>v=eJ jb∧os=[]):=hjob
   repeat' (first|refine ae ?_|refine aa ?_|refine ac (ax ?_)|refine aw (ax ?_)|refine ap (bC ?_)|refine aU ab (fun _=>?_)|refine aF (d:=13) Z ab Z Z Z (fun b13=>?_)|refine aD ab Z Z Z Z Z Z Z ⟨rfl,rfl⟩ Z Z Z Z Z ?_|refine aI ab Z Z Z Z Z Z Z Z Z Z Z eo (fun _=>?_)|(refine ao Z (fun hc=>?_) (fun hc=>?_))<;>try omega|(refine bx [71] [] [] Z hjb' ⟨aP,aP,bu (bP (.head _)) Z,J⟩ Z trivial Z eZ ?_;rintro _ _ ⟨rfl,rfl⟩;refine⟨_,rfl,rfl,?_⟩)|refine au Z (hmn) ⟨aP,aP,J⟩ Z ?_)
   all_goals refine cS [] [] (.tup [eJ jb,.b true]) Z ?_ ?_ (aW (am Z) (am Z) Z Z) .nil ⟨rfl,rfl⟩ _ (.inl Z)
   all_goals first|exact⟨trivial,trivial⟩|trivial|exact⟨trivial,trivial,trivial⟩|(repeat' (first|exact J|exact rfl|refine⟨?_,?_⟩))
  ·rw[if_neg hmost] at hr
   generalize mT al=sm at hmost ⊢
   repeat' (first|refine ae ?_|refine aa ?_|refine ac (ax ?_)|refine ac (db ?_)|refine ah (ax ?_)|refine aw (ax ?_)|(refine bc Z Z Z Z ?_ ?_;omega)|(refine kL Z Z Z Z ?_ ?_;omega)|refine aU ab (fun _=>?_)|(refine ao Z (fun hc=>?_) (fun hc=>?_))<;>try omega)
   all_goals exact⟨n+1,[],⟨by omega,hlt,hr⟩,by show 3 - (n+1)<3 - n;omega,rfl,⟨ai Z,ai (by show most*8=_;rw[hmo2];omega),af,af,J⟩,az 4 Z (az 2 Z .nil)⟩
 ·have hn3:3 - n=0:=by omega
  rw[hn3,iL] at hr
  subst hr
  generalize (if n=1 then size else if n=2 then 8*size else 64*size)=most
  repeat' (first|refine ae ?_|refine aa ?_|refine ac (ax ?_)|refine aw (ax ?_)|refine ap (bC ?_)|refine aU ab (fun _=>?_)|refine aD ab Z Z Z Z Z Z Z ⟨rfl,rfl⟩ Z Z Z Z Z ?_|refine cd ab Z Z Z Z Z Z eo ?_|(refine ao Z (fun hc=>?_) (fun hc=>?_))<;>try omega)
  refine cS [] [] (.tup [eJ zJ,.b false]) Z ?_ ?_ (aW zN (am Z) Z Z) .nil ⟨rfl,rfl⟩ _ (.inl Z)
  all_goals first|exact⟨trivial,trivial⟩|trivial|exact⟨trivial,trivial,trivial⟩|(repeat' (first|exact J|exact rfl|refine⟨?_,?_⟩))
end Go.Proofs.YtginkbjclkdglaaGreat
