/- slices.swapRangeCmpFunc, rotateCmpFunc at files by rules. -/
import Derived.Test.YtginkbjclkdglaaGreatB2Z
import Derived.Test.YtginkbjclkdglaaGreatL13Z
set_option maxHeartbeats 8000000
set_option maxRecDepth 100000
namespace Go.Proofs.YtginkbjclkdglaaGreat
open Go Go.RowKit
theorem yS{α:Type}(P:List α)(x:α)(Q:List α)(y:α)(R:List α):((P++x::(Q++y::R)).set P.length y).set (P++x::Q).length x=P++y::(Q++x::R):=by
 rw[EK]
 have h:P++y::(Q++y::R)=(P++y::Q)++y::R:=by simp
 rw[h,show (P++x::Q).length=(P++y::Q).length by simp,EK]
 simp
theorem rf{α:Type}(P:List α)(x:α)(Q:List α)(y:α)(R:List α):(P++x::(Q++y::R))[P.length]?=some x∧(P++x::(Q++y::R))[(P++x::Q).length]?=some y:=by
 refine⟨E8 _ _ _,?_⟩
 rw[show P++x::(Q++y::R)=(P++x::Q)++y::R by simp]
 exact E8 _ _ _
theorem lP(v:Value)(gf:Fn)(gc:List AV)(A X B Y D:List Fl)(hX:X.length=Y.length)(hl:(A++X++B++Y++D).length≤100000):
 aQ Tryz.prog 183 [.own 0 v,.i .i64 (A.length:Nat),.i .i64 ((A++X++B).length:Nat),.i .i64 (X.length:Nat),.fn gf gc] [.row v 76 5 ((A++X++B++Y++D).map eF)]
  (fun r os=>r= .tup []∧os=[.row v 76 5 ((A++Y++B++X++D).map eF)]):=by
 refine aA ab [(0,.row v 76 5 ((A++X++B++Y++D).map eF))] Tryz.func183 Z Tryz.ntmps183 aN Z Z (fun C=>?_) Z
 repeat' (first|refine ae ?_|refine aj ?_|refine aa ?_|refine ac (ax ?_)|refine aU ab (fun _=>?_))
 refine aO (fun q:Nat=>⟨38,[(10,.i .i64 q),(0,.own 0 v),(1,.i .i64 (A.length:Nat)),(2,.i .i64 ((A++X++B).length:Nat)),(3,.i .i64 (X.length:Nat)),(4,.fn gf gc)],[(0,.row v 76 5 ((A++Y.take q++X.drop q++B++X.take q++Y.drop q++D).map eF))]⟩) (fun q=>q≤X.length) (fun q=>X.length - q) [] 0 (Nat.zero_le _) ?_ ?_
 ·refine⟨rfl,⟨ai Z,aJ,ai Z,ai Z,ai Z,aP,J⟩,cr.cons 0 Z (aZ ?_) .nil⟩
  simp
 intro k hk
 by_cases hlt:k<X.length
 ·have hky:k<Y.length:=by omega
  have e0:A++Y.take k++X.drop k++B++X.take k++Y.drop k++D=(A++Y.take k)++X[k]::((X.drop (k+1)++B++X.take k)++Y[k]::(Y.drop (k+1)++D)):=by
   rw[List.drop_eq_getElem_cons hlt,List.drop_eq_getElem_cons hky];simp only[List.append_assoc,List.cons_append]
  have e1:A++Y.take (k+1)++X.drop (k+1)++B++X.take (k+1)++Y.drop (k+1)++D=(A++Y.take k)++Y[k]::((X.drop (k+1)++B++X.take k)++X[k]::(Y.drop (k+1)++D)):=by
   rw[List.take_succ_eq_append_getElem hlt,List.take_succ_eq_append_getElem hky];simp only[List.append_assoc,List.cons_append,List.nil_append]
  have e2:=yS (A++Y.take k) X[k] (X.drop (k+1)++B++X.take k) Y[k] (Y.drop (k+1)++D)
  obtain⟨e3,e4⟩:=rf (A++Y.take k) X[k] (X.drop (k+1)++B++X.take k) Y[k] (Y.drop (k+1)++D)
  rw[←e0] at e2 e3 e4
  rw[←e1] at e2
  generalize hL':A++Y.take (k+1)++X.drop (k+1)++B++X.take (k+1)++Y.drop (k+1)++D=L' at e2
  have hll:(A++Y.take k++X.drop k++B++X.take k++Y.drop k++D).length=A.length+X.length+B.length+Y.length+D.length:=by
   simp only[List.length_append,List.length_take,List.length_drop];omega
  have h1:(A++Y.take k).length=A.length+k:=by simp only[List.length_append,List.length_take];omega
  have h2:((A++Y.take k)++X[k]::(X.drop (k+1)++B++X.take k)).length=A.length+X.length+B.length+k:=by simp only[List.length_append,List.length_take,List.length_drop,List.length_cons];omega
  have h3:(A++X++B).length=A.length+X.length+B.length:=by simp only[List.length_append]
  have h4:(A++X++B++Y++D).length=A.length+X.length+B.length+Y.length+D.length:=by simp only[List.length_append]
  generalize A++Y.take k++X.drop k++B++X.take k++Y.drop k++D=L at e2 e3 e4 hll ⊢
  generalize X[k]=x at e2 e3 e4 h2
  generalize Y[k]=y at e2 e3 e4
  generalize (A++Y.take k).length=i1 at e2 e3 h1
  generalize ((A++Y.take k)++x::(X.drop (k+1)++B++X.take k)).length=i2 at e2 e4 h2
  generalize (A++X++B).length=bb at h3 ⊢
  have hne:i1≠i2:=by omega
  repeat' (first|(refine bQ ab Z Z Z Z Z Z (by assumption) ((List.getElem?_set_ne hne).trans (aY e4)) Z Z (by first|exact Nat.add_zero _|rfl) ⟨rfl,rfl⟩ Z Z ?_)|(refine bQ ab Z Z Z Z Z Z (by assumption) (aY e3) Z Z (by first|exact Nat.add_zero _|rfl) ⟨rfl,rfl⟩ Z Z ?_)|(refine bR ab Z Z Z Z Z (by assumption) (aY e4) Z Z (by first|exact Nat.add_zero _|rfl) ⟨rfl,rfl⟩ ?_)|(refine bR ab Z Z Z Z Z (by assumption) (aY e3) Z Z (by first|exact Nat.add_zero _|rfl) ⟨rfl,rfl⟩ ?_)|(refine bD ab Z Z Z Z Z Z Z Z i2 ?_ ?_ (fun bO hbO=>?_);omega;((repeat' (first|rw[List.length_map]|rw[List.length_set]))<;>omega))|(refine bD ab Z Z Z Z Z Z Z Z i1 ?_ ?_ (fun bO hbO=>?_);omega;((repeat' (first|rw[List.length_map]|rw[List.length_set]))<;>omega))|refine ae ?_|refine aj ?_|refine aa ?_|refine ac (ax ?_)|refine ac (db ?_)|refine ah (ax ?_)|(refine bc Z Z Z Z ?_ ?_;omega)|refine aU ab (fun _=>?_)|(refine ao Z (fun hc=>?_) (fun hc=>?_))<;>try omega|refine cg 3 [0] [29,35] [] [0,1,2,3,4,5,6,7,8,9,10,11,12,14,15,16,17,18,13,19,20,21,22,23] aN aN aN Z Z Z ?_)
  refine⟨k+1,[],hlt,by show X.length - (k+1)<X.length - k;omega,rfl,⟨ai Z,aJ,ai Z,ai Z,ai Z,aP,J⟩,cr.cons 0 Z (aZ ?_) .nil⟩
  rw[hL',←e2,List.map_set,List.map_set];rfl
 ·have hkx:k=X.length:=by omega
  have e0:A++Y.take k++X.drop k++B++X.take k++Y.drop k++D=A++Y++B++X++D:=by
   rw[hkx,List.drop_length,List.take_length,hX,List.drop_length,List.take_length];simp only[List.append_assoc,List.nil_append]
  rw[e0]
  generalize A++Y++B++X++D=L
  generalize (A++X++B).length=bb
  repeat' (first|refine ae ?_|refine aa ?_|refine ac (ax ?_)|refine aw (bC ?_)|refine aU ab (fun _=>?_)|(refine ao Z (fun hc=>?_) (fun hc=>?_))<;>try omega)
  exact dC Z [] [(0,_)] (az 0 Z .nil) ⟨rfl,rfl⟩ _ (.inr Z)
theorem AC(v:Value)(gf:Fn)(gc:List AV)(A U V D:List Fl)(hU:0<U.length)(hV:0<V.length)(hl:(A++U++V++D).length≤100000):
 aQ Tryz.prog 177 [.own 0 v,.i .i64 (A.length:Nat),.i .i64 ((A++U).length:Nat),.i .i64 ((A++U++V).length:Nat),.fn gf gc] [.row v 76 5 ((A++U++V++D).map eF)]
  (fun r os=>r= .tup []∧os=[.row v 76 5 ((A++V++U++D).map eF)]):=by
 refine aA ab [(0,.row v 76 5 ((A++U++V++D).map eF))] Tryz.func177 Z Tryz.ntmps177 aN Z Z (fun C=>?_) Z
 have h1:(A++U).length=A.length+U.length:=List.length_append
 have h2:(A++U++V).length=A.length+U.length+V.length:=by simp only[List.length_append]
 have h0:(A++U++V++D).length=A.length+U.length+V.length+D.length:=by simp only[List.length_append]
 obtain⟨T,hT⟩:∃T,A++V++U++D=T:=⟨_,rfl⟩
 rw[hT]
 generalize hmm:(A++U).length=m at h1 ⊢
 generalize (A++U++V).length=bb at h2 ⊢
 repeat' (first|refine ae ?_|refine aj ?_|refine aa ?_|refine ac (ax ?_)|(refine dW Z Z Z Z ?_ ?_;omega)|refine aU ab (fun _=>?_))
 refine aO (fun q:List Fl×List Fl×List Fl×List Fl=>⟨58,[(10,.i .i64 (q.2.1.length:Nat)),(11,.i .i64 (q.2.2.1.length:Nat)),(0,.own 0 v),(2,.i .i64 m),(4,.fn gf gc)],[(0,.row v 76 5 ((q.1++q.2.1++q.2.2.1++q.2.2.2).map eF))]⟩)
  (fun q=>0<q.2.1.length∧0<q.2.2.1.length∧q.1.length+q.2.1.length=m∧q.1++q.2.2.1++q.2.1++q.2.2.2=T∧(q.1++q.2.1++q.2.2.1++q.2.2.2).length≤100000) (fun q=>q.2.1.length+q.2.2.1.length) [] (A,U,V,D) ⟨hU,hV,h1.symm,hT,hl⟩ ?_ ?_
 ·exact⟨rfl,⟨ai (by show _=((U.length:Nat):Int);omega),ai (by show _=((V.length:Nat):Int);omega),aJ,ai Z,aP,J⟩,az 0 Z .nil⟩
 rintro⟨P,X,Y,S⟩ ⟨hx,hy,hm,hg,hl3⟩
 dsimp only at hx hy hm hg hl3 ⊢
 have h4:(P++X++Y++S).length=P.length+X.length+Y.length+S.length:=by simp only[List.length_append]
 by_cases hgt:Y.length<X.length
 ·have e1:X.take Y.length++X.drop Y.length=X:=List.take_append_drop _ _
  have hx1:(X.take Y.length).length=Y.length:=by rw[List.length_take];omega
  have hx2:(X.drop Y.length).length=X.length - Y.length:=List.length_drop
  generalize X.take Y.length=X1 at e1 hx1
  generalize X.drop Y.length=X2 at e1 hx2
  subst e1
  have hxl:(X1++X2).length=X1.length+X2.length:=List.length_append
  have e2:P++(X1++X2)++Y++S=P++X1++X2++Y++S:=by simp only[List.append_assoc]
  rw[e2] at hl3 h4 ⊢
  rw[hxl] at hx hm hgt hx2 h4 ⊢
  have hsw:=lP v gf gc P X1 X2 Y S hx1 hl3
  have hpl:(P++X1++X2).length=m:=by simp only[List.length_append];omega
  rw[hpl,hx1] at hsw
  have e3:P++Y++X2++X1++S=(P++Y)++X2++X1++S:=rfl
  rw[e3] at hsw
  repeat' (first|refine ae ?_|refine aj ?_|refine aa ?_|refine ac (ax ?_)|refine ac (db ?_)|refine ah (ax ?_)|(refine dW Z Z Z Z ?_ ?_;omega)|refine aU ab (fun _=>?_)|(refine ao Z (fun hc=>?_) (fun hc=>?_))<;>try omega|(refine bF Z (fun hc=>?_) (fun hc=>?_))<;>try omega|refine bk [] [0] [0] Z hsw ⟨aJ,ai (by omega),ai (by omega),ai (by omega),aP,J⟩ Z dD Z Z ?_)
  refine⟨(P++Y,X2,X1,S),[],⟨by show 0<X2.length;omega,by show 0<X1.length;omega,by show (P++Y).length+X2.length=m;rw[List.length_append];omega,by rw[←hg];simp only[List.append_assoc],by show ((P++Y)++X2++X1++S).length≤_;simp only[List.length_append] at hl3 ⊢;omega⟩,by show X2.length+X1.length<X1.length+X2.length+Y.length;omega,rfl,⟨ai (by show _=((X2.length:Nat):Int);omega),ai (by show _=((X1.length:Nat):Int);omega),aJ,ai Z,aP,J⟩,az 0 Z .nil⟩
 by_cases hlt:X.length<Y.length
 ·have e1:Y.take (Y.length - X.length)++Y.drop (Y.length - X.length)=Y:=List.take_append_drop _ _
  have hy1:(Y.take (Y.length - X.length)).length=Y.length - X.length:=by rw[List.length_take];omega
  have hy2:(Y.drop (Y.length - X.length)).length=X.length:=by rw[List.length_drop];omega
  generalize Y.take (Y.length - X.length)=Y1 at e1 hy1
  generalize Y.drop (Y.length - X.length)=Y2 at e1 hy2
  subst e1
  have hyl:(Y1++Y2).length=Y1.length+Y2.length:=List.length_append
  have e2:P++X++(Y1++Y2)++S=P++X++Y1++Y2++S:=by simp only[List.append_assoc]
  rw[e2] at hl3 h4 ⊢
  rw[hyl] at hy hlt hgt hy1 h4 ⊢
  have hsw:=lP v gf gc P X Y1 Y2 S hy2.symm hl3
  have hpl:((P++X++Y1).length:Int)=(m:Int)+Y1.length:=by simp only[List.length_append];omega
  rw[hpl] at hsw
  have e3:P++Y2++Y1++X++S=P++Y2++Y1++(X++S):=by simp only[List.append_assoc]
  rw[e3] at hsw
  repeat' (first|refine ae ?_|refine aj ?_|refine aa ?_|refine ac (ax ?_)|refine ac (db ?_)|refine ah (ax ?_)|(refine bc Z Z Z Z ?_ ?_;omega)|(refine dW Z Z Z Z ?_ ?_;omega)|refine aU ab (fun _=>?_)|(refine ao Z (fun hc=>?_) (fun hc=>?_))<;>try omega|(refine bF Z (fun hc=>?_) (fun hc=>?_))<;>try omega|refine bk [] [0] [0] Z hsw ⟨aJ,ai (by omega),ai (by omega),ai (by omega),aP,J⟩ Z dD Z Z ?_)
  refine⟨(P,Y2,Y1,X++S),[],⟨by show 0<Y2.length;omega,by show 0<Y1.length;omega,by show P.length+Y2.length=m;omega,by rw[←hg];simp only[List.append_assoc],by show (P++Y2++Y1++(X++S)).length≤_;simp only[List.length_append] at hl3 ⊢;omega⟩,by show Y2.length+Y1.length<X.length+(Y1.length+Y2.length);omega,rfl,⟨ai (by show _=((Y2.length:Nat):Int);omega),ai (by show _=((Y1.length:Nat):Int);omega),aJ,ai Z,aP,J⟩,az 0 Z .nil⟩
 ·have hxy:X.length=Y.length:=by omega
  have hsw:=lP v gf gc P X [] Y S hxy (by rw[List.append_nil];exact hl3)
  rw[List.append_nil,List.append_nil] at hsw
  have hpl:(P++X).length=m:=by rw[List.length_append];omega
  rw[hpl,hg] at hsw
  repeat' (first|refine ae ?_|refine aa ?_|refine ac (ax ?_)|refine ac (bC ?_)|refine aw (ax ?_)|(refine dW Z Z Z Z ?_ ?_;omega)|refine aU ab (fun _=>?_)|(refine bF Z (fun hc=>?_) (fun hc=>?_))<;>try omega|refine bk [] [0] [0] Z hsw ⟨aJ,ai (by omega),ai (by omega),ai (by omega),aP,J⟩ Z dD Z Z ?_)
  exact dC Z [] [(0,_)] (az 0 Z .nil) ⟨rfl,rfl⟩ _ (.inr Z)
theorem Al{α:Type}(P:List α)(x:α)(Q:List α)(y:α)(R:List α):((P++x::(Q++y::R)).set (P++x::Q).length x).set P.length y=P++y::(Q++x::R):=by
 have hne:(P++x::Q).length≠P.length:=by simp only[List.length_append,List.length_cons];omega
 rw[List.set_comm _ _ hne,yS]
theorem uN{α:Type}{lt:α→α→Bool}{x:α}:∀(S1 S2:List α),(∀s∈S1,lt x s=false)→(∀s∈S2,lt x s=true)→jC lt x (S1++S2)=S1++x::S2
 |[],[],_,_=>rfl
 |[],y::r,_,h=>by
  show jC lt x (y::r)=_
  unfold jC;rw[if_pos (h y (by simp))];rfl
 |y::r,S2,h,k=>by
  show jC lt x (y::(r++S2))=_
  unfold jC
  rw[if_neg (by rw[h y (by simp)];decide),uN r S2 (fun s hs=>h s (List.mem_cons_of_mem _ hs)) k];rfl
theorem CS{α:Type}{lt:α→α→Bool}(l:List α)(k:Nat)(h:k<l.length):cE lt (l.take (k+1))=jC lt l[k] (cE lt (l.take k)):=by
 unfold cE;rw[List.take_succ_eq_append_getElem h,List.foldl_append];rfl
theorem lF{α:Type}{lt:α→α→Bool}(_W:WO lt)(l:List α):(cE lt l).length=l.length:=by
 have h:∀(x:α) (a:List α),(jC lt x a).length=a.length+1:=fun x a=>by
  induction a with
  |nil=>rfl
  |cons y r ih=>unfold jC;split<;>simp[ih]
 have h2:∀(l a:List α),(l.foldl (fun a x=>jC lt x a) a).length=a.length+l.length:=fun l=>by
  induction l with
  |nil=>intro a;rfl
  |cons x l ih=>intro a;rw[List.foldl_cons,ih,h,List.length_cons];omega
 unfold cE;rw[h2];simp
def eu(cmp:Fl→Fl→Int)(x y:Fl):Bool:=decide (cmp x y<0)
theorem DB(v:Value)(f:Nat)(gc:List AV)(ho:gc.all jN=true)(cmp:Fl→Fl→Int)(hcmp:∀x y,aQ Tryz.prog f ([eF x,eF y]++gc) [] (fun v os=>v= .i .i64 (cmp x y)∧os=[]))(W:WO (eu cmp))(A X D:List Fl)(hl:(A++X++D).length≤100000):
 aQ Tryz.prog 164 [.own 0 v,.i .i64 (A.length:Nat),.i .i64 ((A++X).length:Nat),.fn (.func f) gc] [.row v 76 5 ((A++X++D).map eF)]
  (fun r os=>r= .tup []∧os=[.row v 76 5 ((A++cE (eu cmp) X++D).map eF)]):=by
 refine aA ab [(0,.row v 76 5 ((A++X++D).map eF))] Tryz.func164 Z Tryz.ntmps164 aN Z Z (fun C=>?_) Z
 have hb:(A++X).length=A.length+X.length:=List.length_append
 have hl0:(A++X++D).length=A.length+X.length+D.length:=by simp only[List.length_append]
 generalize (A++X).length=b at hb ⊢
 repeat' (first|refine ae ?_|refine aj ?_|refine aa ?_|refine ac (ax ?_)|(refine bc Z Z Z Z ?_ ?_;omega)|refine aU ab (fun _=>?_))
 refine aO (fun q:Nat=>⟨53,[(8,.i .i64 ((A.length+q:Nat):Int)),(0,.own 0 v),(1,.i .i64 (A.length:Nat)),(2,.i .i64 b),(3,.fn (.func f) gc)],[(0,.row v 76 5 ((A++cE (eu cmp) (X.take q)++X.drop q++D).map eF))]⟩) (fun q=>1≤q∧q≤max 1 X.length) (fun q=>X.length+1 - q) [] 1 ⟨Nat.le_refl _,by omega⟩ ?_ ?_
 ·have e1:cE (eu cmp) (X.take 1)=X.take 1:=by
   cases X with
   |nil=>rfl
   |cons x l=>rfl
  refine⟨rfl,⟨ai (by omega),aJ,ai Z,ai Z,aP,J⟩,cr.cons 0 Z (aZ ?_) .nil⟩
  have e2:A++X.take 1++X.drop 1=A++X:=by rw[List.append_assoc,List.take_append_drop]
  rw[e1,e2]
 rintro k ⟨hk1,hk⟩
 by_cases hlt:k<X.length
 ·have hss:=ip W (X.take k)
  have hsu:=CS (lt:=eu cmp) X k hlt
  have hsl:=lF W (X.take k)
  rw[List.length_take] at hsl
  have e0:A++cE (eu cmp) (X.take k)++X.drop k++D=A++cE (eu cmp) (X.take k)++X[k]::([]++(X.drop (k+1)++D)):=by
   rw[List.drop_eq_getElem_cons hlt];simp only[List.append_assoc,List.cons_append,List.nil_append]
  rw[e0]
  have e9:A++cE (eu cmp) (X.take (k+1))++X.drop (k+1)++D=A++jC (eu cmp) X[k] (cE (eu cmp) (X.take k))++(X.drop (k+1)++D):=by
   rw[hsu];simp only[List.append_assoc]
  have hR:(X.drop (k+1)++D).length=X.length - (k+1)+D.length:=by rw[List.length_append,List.length_drop]
  obtain⟨T,hT⟩:∃T,A++cE (eu cmp) (X.take (k+1))++X.drop (k+1)++D=T:=⟨_,rfl⟩
  rw[hT] at e9
  have hk2:min k X.length=k:=by omega
  rw[hk2] at hsl
  generalize cE (eu cmp) (X.take k)=S at hss hsl e9 ⊢
  generalize X[k]=x at e9 ⊢
  generalize X.drop (k+1)++D=R at hR e9 ⊢
  repeat' (first|refine ae ?_|refine aj ?_|refine aa ?_|refine ac (ax ?_)|refine ah (ax ?_)|refine aU ab (fun _=>?_)|(refine ao Z (fun hc=>?_) (fun hc=>?_))<;>try omega)
  refine aO (fun q:List Fl×List Fl=>⟨53,[(9,.i .i64 ((A.length+q.1.length:Nat):Int)),(8,.i .i64 ((A.length+k:Nat):Int)),(0,.own 0 v),(1,.i .i64 (A.length:Nat)),(2,.i .i64 b),(3,.fn (.func f) gc)],[(0,.row v 76 5 ((A++q.1++x::(q.2++R)).map eF))]⟩) (fun q=>q.1++q.2=S∧∀s∈q.2,eu cmp x s=true) (fun q=>q.1.length) [] (S,[]) ⟨List.append_nil _,fun s hs=>by cases hs⟩ ?_ ?_
  ·exact⟨rfl,⟨ai (by show _=((A.length+S.length:Nat):Int);omega),ai Z,aJ,ai Z,ai Z,aP,J⟩,az 0 Z .nil⟩
  rintro⟨S1,S2⟩ ⟨hS,hS2⟩
  dsimp only at hS hS2 ⊢
  have hSl:S1.length+S2.length=S.length:=by rw[←hS,List.length_append]
  rcases List.eq_nil_or_concat S1 with h1|⟨S0,y,h1⟩
  ·subst h1
   have hi:=uN (lt:=eu cmp) (x:=x) [] S2 (fun s hs=>by cases hs) hS2
   have hT2:A++[]++x::(S2++R)=T:=by rw[e9,←hS,hi];simp only[List.append_assoc,List.cons_append,List.nil_append]
   rw[hT2]
   have hnil:([]:List Fl).length=0:=rfl
   repeat' (first|refine ae ?_|refine aa ?_|refine ac (ax ?_)|refine ac (db ?_)|refine aw (ax ?_)|refine gM Z Z Z ?_|(refine bc Z Z Z Z ?_ ?_;omega)|refine aU ab (fun _=>?_)|(fail_if_success (refine aM Z cM ?_));(refine aV Z Z (fun hc=>?_) (fun hc=>?_)<;>try omega)|refine aB Z ?_|refine cg 4 [] [] [] [0,1,2,3,4,5,6,7,9,10,11,12,8,13,14,15,16] aN aN aN Z Z Z ?_)
   refine⟨k+1,[],⟨by omega,by omega⟩,by omega,rfl,⟨ai (by omega),aJ,ai Z,ai Z,aP,J⟩,cr.cons 0 Z (aZ ?_) .nil⟩
   rw[hT]
  ·rw[List.concat_eq_append] at h1
   subst h1
   have hlen0:(S0++[y]).length=S0.length+1:=by simp
   have e0:A++(S0++[y])++x::(S2++R)=(A++S0)++y::([]++x::(S2++R)):=by simp only[List.append_assoc,List.cons_append,List.nil_append]
   have e2:=Al (A++S0) y [] x (S2++R)
   obtain⟨e3,e4⟩:=rf (A++S0) y [] x (S2++R)
   have hL2:(A++S0)++x::([]++y::(S2++R))=A++S0++x::((y::S2)++R):=by simp only[List.append_assoc,List.cons_append,List.nil_append]
   rw[hL2] at e2
   rw[←e0] at e2 e3 e4
   have i1e:(A++S0).length=A.length+S0.length:=List.length_append
   have i2e:((A++S0)++y::[]).length=A.length+S0.length+1:=by simp only[List.length_append,List.length_cons,List.length_nil]
   have hll:(A++(S0++[y])++x::(S2++R)).length=A.length+S0.length+1+(S2.length+R.length+1):=by simp only[List.length_append,List.length_cons,List.length_nil];omega
   have hcx:=hcmp x y
   have hlt2:eu cmp x y=decide (cmp x y<0):=rfl
   generalize (A++S0).length=i1 at i1e e2 e3
   generalize ((A++S0)++y::[]).length=i2 at i2e e2 e4
   obtain⟨L,hL⟩:∃L,A++(S0++[y])++x::(S2++R)=L:=⟨_,rfl⟩
   rw[hL] at e2 e3 e4 hll ⊢
   have hne:i2≠i1:=by omega
   generalize hcv:cmp x y=cv at hcx hlt2
   repeat' (first|(refine bQ ab Z Z Z Z Z Z (by assumption) ((List.getElem?_set_ne hne).trans (aY e3)) Z Z (by first|exact Nat.add_zero _|rfl) ⟨rfl,rfl⟩ Z Z ?_)|(refine bQ ab Z Z Z Z Z Z (by assumption) (aY e4) Z Z (by first|exact Nat.add_zero _|rfl) ⟨rfl,rfl⟩ Z Z ?_)|(refine bR ab Z Z Z Z Z (by assumption) (aY e4) Z Z (by first|exact Nat.add_zero _|rfl) ⟨rfl,rfl⟩ ?_)|(refine bR ab Z Z Z Z Z (by assumption) (aY e3) Z Z (by first|exact Nat.add_zero _|rfl) ⟨rfl,rfl⟩ ?_)|(refine bD ab Z Z Z Z Z Z Z Z i2 ?_ ?_ (fun bO hbO=>?_);omega;((repeat' (first|rw[List.length_map]|rw[List.length_set]))<;>omega))|(refine bD ab Z Z Z Z Z Z Z Z i1 ?_ ?_ (fun bO hbO=>?_);omega;((repeat' (first|rw[List.length_map]|rw[List.length_set]))<;>omega))|refine ae ?_|refine aj ?_|refine aa ?_|refine ac (ax ?_)|refine ac (db ?_)|refine ah (ax ?_)|refine aw (ax ?_)|(refine bc Z Z Z Z ?_ ?_;omega)|(refine dW Z Z Z Z ?_ ?_;omega)|refine aU ab (fun _=>?_)|(fail_if_success (refine aM Z cM ?_));(refine aV Z Z (fun hc=>?_) (fun hc=>?_)<;>try omega)|(refine ao Z (fun hc=>?_) (fun hc=>?_))<;>try omega|refine cg 4 [] [] [] [0,1,2,3,4,5,6,7,9,10,11,12,8,13,14,15,16] aN aN aN Z Z Z ?_|refine cg 6 [0] [46,50] [] [0,1,2,3,4,5,6,7,8,10,11,12,9,13,14,15,16,17] aN aN aN Z Z Z ?_|(refine lI Z Z ho hcx ⟨aP,aP,kP _⟩ Z Z ?_;rintro _ _ ⟨rfl,rfl⟩;refine⟨rfl,?_⟩))
   ·have hxy:eu cmp x y=true:=by rw[hlt2];exact decide_eq_true (by assumption)
    refine⟨(S0,y::S2),[],⟨by rw[←hS];simp only[List.append_assoc,List.cons_append,List.nil_append],fun s hs=>?_⟩,by show S0.length<(S0++[y]).length;omega,rfl,⟨ai (by show _=((A.length+S0.length:Nat):Int);omega),ai Z,aJ,ai Z,ai Z,aP,J⟩,cr.cons 0 Z (aZ ?_) .nil⟩
    ·rcases List.mem_cons.1 hs with rfl|hs
     ·exact hxy
     ·exact hS2 s hs
    ·show _=List.map eF (A++S0++x::((y::S2)++R))
     rw[←e2,List.map_set,List.map_set];rfl
   ·have hxy:eu cmp x y=false:=by rw[hlt2];exact decide_eq_false (by assumption)
    have hS1:ly (eu cmp) (S0++[y]):=by rw[←hS] at hss;exact(List.pairwise_append.1 hss).1
    have hall:∀s∈S0++[y],eu cmp x s=false:=fun s hs=>by
     rcases List.mem_append.1 hs with hs|hs
     ·exact W.neg x y s hxy ((List.pairwise_append.1 hS1).2.2 s hs y (by simp))
     ·rw[List.mem_singleton.1 hs];exact hxy
    have hi:=uN (lt:=eu cmp) (x:=x) (S0++[y]) S2 hall hS2
    have hT2:L=T:=by rw[e9,←hS,hi,←hL];simp only[List.append_assoc,List.cons_append,List.nil_append]
    refine⟨k+1,[],⟨by omega,by omega⟩,by omega,rfl,⟨ai (by omega),aJ,ai Z,ai Z,aP,J⟩,cr.cons 0 Z (aZ ?_) .nil⟩
    rw[hT,hT2]
 ·have e0:A++cE (eu cmp) (X.take k)++X.drop k++D=A++cE (eu cmp) X++D:=by
   rw[List.take_of_length_le (by omega),List.drop_eq_nil_iff.2 (by omega),List.append_nil]
  rw[e0]
  generalize A++cE (eu cmp) X++D=L
  repeat' (first|refine ae ?_|refine aa ?_|refine ac (ax ?_)|refine aw (bC ?_)|refine aU ab (fun _=>?_)|(refine ao Z (fun hc=>?_) (fun hc=>?_))<;>try omega)
  exact dC Z [] [(0,_)] (az 0 Z .nil) ⟨rfl,rfl⟩ _ (.inr Z)
set_option maxHeartbeats 16000000
theorem It{α:Type}(A U V D:List α)(k:Nat)(h:k<U.length):(A++U++V++D)[A.length+k]?=some U[k]:=by
 rw[List.append_assoc,List.append_assoc,List.getElem?_append_right (by omega),List.getElem?_append_left (by omega),List.getElem?_eq_getElem (by omega)]
 congr 2;omega
theorem Ir{α:Type}(A U V D:List α)(k:Nat)(h:k<V.length):(A++U++V++D)[A.length+U.length+k]?=some V[k]:=by
 have h1:(A++U).length=A.length+U.length:=List.length_append
 rw[List.append_assoc (A++U),List.getElem?_append_right (by omega),List.getElem?_append_left (by omega),List.getElem?_eq_getElem (by omega)]
 congr 2;omega
theorem Hl(v:Value)(f:Nat)(gc:List AV)(ho:gc.all jN=true)(cmp:Fl→Fl→Int)(hcmp:∀x y,aQ Tryz.prog f ([eF x,eF y]++gc) [] (fun v os=>v= .i .i64 (cmp x y)∧os=[]))(W:WO (eu cmp))(A:List Fl)(u:Fl)(V D:List Fl)(hV:0<V.length)(sV:ly (eu cmp) V)(hl:(A++[u]++V++D).length≤100000):
 aQ Tryz.prog 165 [.own 0 v,.i .i64 (A.length:Nat),.i .i64 ((A++[u]).length:Nat),.i .i64 ((A++[u]++V).length:Nat),.fn (.func f) gc] [.row v 76 5 ((A++[u]++V++D).map eF)]
  (fun r os=>r= .tup []∧os=[.row v 76 5 ((A++cE (eu cmp) ([u]++V)++D).map eF)]):=by
 refine aA ab [(0,.row v 76 5 ((A++[u]++V++D).map eF))] Tryz.func165 Z Tryz.ntmps165 aN Z Z (fun C=>?_) Z
 have hm:(A++[u]).length=A.length+1:=by simp
 have hb:(A++[u]++V).length=A.length+1+V.length:=by simp only[List.length_append,List.length_cons,List.length_nil]
 have hL:(A++[u]++V++D).length=A.length+1+V.length+D.length:=by simp only[List.length_append,List.length_cons,List.length_nil]
 have ga:(A++[u]++V++D)[A.length]?=some u:=It A [u] V D 0 (by show 0<1;decide)
 have gv:∀k (h:k<V.length),(A++[u]++V++D)[A.length+1+k]?=some V[k]:=fun k h=>Ir A [u] V D k h
 generalize (A++[u]).length=m at hm ⊢
 generalize (A++[u]++V).length=b at hb ⊢
 obtain⟨L,hLe⟩:∃L,A++[u]++V++D=L:=⟨_,rfl⟩
 rw[hLe] at hl hL ga gv ⊢
 obtain⟨a,hal⟩:∃a,A.length=a:=⟨_,rfl⟩
 rw[hal] at hm hb hL ga gv ⊢
 repeat' (first|refine ae ?_|refine aj ?_|refine aa ?_|refine ac (ax ?_)|(refine dW Z Z Z Z ?_ ?_;omega)|refine aU ab (fun _=>?_)|(refine ao Z (fun hc=>?_) (fun hc=>?_))<;>try omega)
 refine aO (fun q:Nat×Nat=>⟨220,[(10,.i .i64 q.1),(11,.i .i64 q.2),(0,.own 0 v),(1,.i .i64 a),(2,.i .i64 m),(3,.i .i64 b),(4,.fn (.func f) gc)],[(0,.row v 76 5 (L.map eF))]⟩)
  (fun q=>m≤q.1∧q.1≤q.2∧q.2≤b∧(q.1 - m=0∨∃(h:q.1 - m - 1<V.length),eu cmp V[q.1 - m - 1] u=true)∧(q.2 - m=V.length∨∃(h:q.2 - m<V.length),eu cmp V[q.2 - m] u=false)) (fun q=>q.2 - q.1) [] (m,b) ⟨Nat.le_refl _,by show m≤b;omega,Nat.le_refl _,.inl (by show m - m=0;omega),.inl (by show b - m=V.length;omega)⟩ ?_ ?_
 ·exact⟨rfl,⟨ai Z,ai Z,aJ,ai Z,ai Z,ai Z,aP,J⟩,az 0 Z .nil⟩
 rintro⟨i,j⟩ ⟨h1,h2,h3,h4,h5⟩
 dsimp only at h1 h2 h3 h4 h5 ⊢
 by_cases hlt:i<j
 ·have hmid:=q5 i j (by omega)
  have hh1:i≤(i+j) / 2:=by omega
  have hh2:(i+j) / 2<j:=by omega
  generalize (i+j) / 2=h at hmid hh1 hh2
  have hv:h - m<V.length:=by omega
  have gh:=gv (h - m) hv
  rw[show a+1+(h - m)=h by omega] at gh
  have hcx:=hcmp V[h - m] u
  have hltv:eu cmp V[h - m] u=decide (cmp V[h - m] u<0):=rfl
  generalize cmp V[h - m] u=cv at hcx hltv
  repeat' (first|(refine bR ab Z Z Z Z Z (by assumption) (aY ga) Z Z (by first|exact Nat.add_zero _|rfl) ⟨rfl,rfl⟩ ?_)|(refine bR ab Z Z Z Z Z (by assumption) (aY gh) Z Z (by first|exact Nat.add_zero _|rfl) ⟨rfl,rfl⟩ ?_)|(refine bD ab Z Z Z Z Z Z Z Z a ?_ ?_ (fun bO hbO=>?_);omega;((repeat' (first|rw[List.length_map]|rw[List.length_set]))<;>omega))|(refine bD ab Z Z Z Z Z Z Z Z h ?_ ?_ (fun bO hbO=>?_);omega;((repeat' (first|rw[List.length_map]|rw[List.length_set]))<;>omega))|(refine dr Z ab Z Z Z ?_ (fun _=>?_);exact J;rw[hmid])|refine ae ?_|refine aj ?_|refine aa ?_|refine ac (ax ?_)|refine ac (db ?_)|refine ah (ax ?_)|(refine bc Z Z Z Z ?_ ?_;omega)|refine aU ab (fun _=>?_)|(refine ao Z (fun hc=>?_) (fun hc=>?_))<;>try omega|refine cg 5 [] [] [] [0,1,2,3,5,6,7,4,8,9,10] aN aN aN Z Z Z ?_|(refine lI Z Z ho hcx ⟨aP,aP,kP _⟩ Z Z ?_;rintro _ _ ⟨rfl,rfl⟩;refine⟨rfl,?_⟩))
  ·have hcc:cv<0:=by assumption
   exact⟨(h+1,j),[],⟨by show m≤h+1;omega,by show h+1≤j;omega,h3,.inr ⟨by show h+1 - m - 1<V.length;omega,by
    have e:h+1 - m - 1=h - m:=by omega
    have:=decide_eq_true hcc
    rw[←hltv] at this
    simpa only[e] using this⟩,h5⟩,by show j - (h+1)<j - i;omega,rfl,⟨ai Z,ai Z,aJ,ai Z,ai Z,ai Z,aP,J⟩,az 0 Z .nil⟩
  ·have hcc:¬ cv<0:=by assumption
   exact⟨(i,h),[],⟨h1,by show i≤h;omega,by show h≤b;omega,h4,.inr ⟨hv,by rw[hltv];exact decide_eq_false hcc⟩⟩,by show h - i<j - i;omega,rfl,⟨ai Z,ai Z,aJ,ai Z,ai Z,ai Z,aP,J⟩,az 0 Z .nil⟩
 have hij:j=i:=by omega
 subst hij
 obtain⟨m1,m2⟩:=Bc W (x:=u) sV (k:=j - m) (by omega) h4 h5
 have hres:=oU W m1 m2
 obtain⟨p,hp⟩:∃p,j - m=p:=⟨_,rfl⟩
 rw[hp] at hres
 have hpv:p≤V.length:=by omega
 have hjp:j=a+1+p:=by omega
 clear gv ga h4 h5 m1 m2
 repeat' (first|refine ae ?_|refine aj ?_|refine aa ?_|refine ac (ax ?_)|refine aw (ax ?_)|refine aU ab (fun _=>?_)|(refine ao Z (fun hc=>?_) (fun hc=>?_))<;>try omega)
 refine aO (fun q:Nat=>⟨220,[(13,.i .i64 ((a+q:Nat):Int)),(10,.i .i64 j),(0,.own 0 v),(1,.i .i64 a)],[(0,.row v 76 5 ((A++V.take q++u::([]++(V.drop q++D))).map eF))]⟩) (fun q=>q≤p) (fun q=>p - q) [] 0 (Nat.zero_le _) ?_ ?_
 ·refine⟨rfl,⟨ai Z,ai Z,aJ,ai Z,J⟩,cr.cons 0 Z (aZ ?_) .nil⟩
  rw[←hLe];simp only[List.append_assoc,List.cons_append,List.nil_append,List.take_zero,List.drop_zero]
 intro t ht
 by_cases htl:t<p
 ·have htv:t<V.length:=by omega
  have e0:A++V.take t++u::([]++(V.drop t++D))=(A++V.take t)++u::([]++V[t]::(V.drop (t+1)++D)):=by
   rw[List.drop_eq_getElem_cons htv];simp only[List.append_assoc,List.cons_append,List.nil_append]
  have e1:(A++V.take t)++V[t]::([]++u::(V.drop (t+1)++D))=A++V.take (t+1)++u::([]++(V.drop (t+1)++D)):=by
   rw[List.take_succ_eq_append_getElem htv];simp only[List.append_assoc,List.cons_append,List.nil_append]
  have e2:=yS (A++V.take t) u [] V[t] (V.drop (t+1)++D)
  obtain⟨e3,e4⟩:=rf (A++V.take t) u [] V[t] (V.drop (t+1)++D)
  rw[e1] at e2
  rw[←e0] at e2 e3 e4
  have i1e:(A++V.take t).length=a+t:=by rw[List.length_append,List.length_take];omega
  have i2e:((A++V.take t)++u::[]).length=a+t+1:=by rw[List.length_append,i1e];rfl
  have hll:(A++V.take t++u::([]++(V.drop t++D))).length=a+1+V.length+D.length:=by
   simp only[List.length_append,List.length_cons,List.length_nil,List.length_take,List.length_drop];omega
  rw[i1e] at e2 e3
  rw[i2e] at e2 e4
  generalize A++V.take t++u::([]++(V.drop t++D))=L2 at e2 e3 e4 hll ⊢
  generalize hL3:A++V.take (t+1)++u::([]++(V.drop (t+1)++D))=L3 at e2
  generalize V[t]=y at e2 e4
  obtain⟨i1,hi1⟩:∃i1,a+t=i1:=⟨_,rfl⟩
  obtain⟨i2,hi2⟩:∃i2,a+t+1=i2:=⟨_,rfl⟩
  rw[hi2] at e2 e4
  rw[hi1] at e2 e3
  have hne:i1≠i2:=by omega
  repeat' (first|(refine bQ ab Z Z Z Z Z Z (by assumption) ((List.getElem?_set_ne hne).trans (aY e4)) Z Z (by first|exact Nat.add_zero _|rfl) ⟨rfl,rfl⟩ Z Z ?_)|(refine bQ ab Z Z Z Z Z Z (by assumption) (aY e3) Z Z (by first|exact Nat.add_zero _|rfl) ⟨rfl,rfl⟩ Z Z ?_)|(refine bR ab Z Z Z Z Z (by assumption) (aY e4) Z Z (by first|exact Nat.add_zero _|rfl) ⟨rfl,rfl⟩ ?_)|(refine bR ab Z Z Z Z Z (by assumption) (aY e3) Z Z (by first|exact Nat.add_zero _|rfl) ⟨rfl,rfl⟩ ?_)|(refine bD ab Z Z Z Z Z Z Z Z i2 ?_ ?_ (fun bO hbO=>?_);omega;((repeat' (first|rw[List.length_map]|rw[List.length_set]))<;>omega))|(refine bD ab Z Z Z Z Z Z Z Z i1 ?_ ?_ (fun bO hbO=>?_);omega;((repeat' (first|rw[List.length_map]|rw[List.length_set]))<;>omega))|refine ae ?_|refine aj ?_|refine aa ?_|refine ac (ax ?_)|refine ac (db ?_)|refine ah (ax ?_)|(refine bc Z Z Z Z ?_ ?_;omega)|(refine dW Z Z Z Z ?_ ?_;omega)|refine aU ab (fun _=>?_)|(refine ao Z (fun hc=>?_) (fun hc=>?_))<;>try omega|refine cg 11 [0] [70,74] [] [0,1,2,3,4,5,6,7,8,10,11,12,9,13,14,15,16,17] aN aN aN Z Z Z ?_)
  refine⟨t+1,[],by omega,by omega,rfl,⟨ai (by omega),ai Z,aJ,ai Z,J⟩,cr.cons 0 Z (aZ ?_) .nil⟩
  rw[hL3,←e2,List.map_set,List.map_set];rfl
 ·have htp:t=p:=by omega
  subst htp
  have e0:A++V.take t++u::([]++(V.drop t++D))=A++cE (eu cmp) ([u]++V)++D:=by
   rw[←hres];simp only[List.append_assoc,List.cons_append,List.nil_append]
  rw[e0]
  generalize A++cE (eu cmp) ([u]++V)++D=L2
  repeat' (first|refine ae ?_|refine aa ?_|refine ac (ax ?_)|refine aw (ax ?_)|refine ap (bC ?_)|(refine dW Z Z Z Z ?_ ?_;omega)|refine aU ab (fun _=>?_)|(refine ao Z (fun hc=>?_) (fun hc=>?_))<;>try omega)
  exact dC Z [] [(0,_)] (az 0 Z .nil) ⟨rfl,rfl⟩ _ (.inl Z)
theorem Hk(v:Value)(f:Nat)(gc:List AV)(ho:gc.all jN=true)(cmp:Fl→Fl→Int)(hcmp:∀x y,aQ Tryz.prog f ([eF x,eF y]++gc) [] (fun v os=>v= .i .i64 (cmp x y)∧os=[]))(W:WO (eu cmp))(A U:List Fl)(w:Fl)(D:List Fl)(hU:2≤U.length)(sU:ly (eu cmp) U)(hl:(A++U++[w]++D).length≤100000):
 aQ Tryz.prog 165 [.own 0 v,.i .i64 (A.length:Nat),.i .i64 ((A++U).length:Nat),.i .i64 ((A++U++[w]).length:Nat),.fn (.func f) gc] [.row v 76 5 ((A++U++[w]++D).map eF)]
  (fun r os=>r= .tup []∧os=[.row v 76 5 ((A++cE (eu cmp) (U++[w])++D).map eF)]):=by
 refine aA ab [(0,.row v 76 5 ((A++U++[w]++D).map eF))] Tryz.func165 Z Tryz.ntmps165 aN Z Z (fun C=>?_) Z
 have hm:(A++U).length=A.length+U.length:=List.length_append
 have hb:(A++U++[w]).length=A.length+U.length+1:=by simp only[List.length_append,List.length_cons,List.length_nil]
 have hL:(A++U++[w]++D).length=A.length+U.length+1+D.length:=by simp only[List.length_append,List.length_cons,List.length_nil]
 have gu:∀k (h:k<U.length),(A++U++[w]++D)[A.length+k]?=some U[k]:=fun k h=>It A U [w] D k h
 have gm:(A++U++[w]++D)[A.length+U.length]?=some w:=Ir A U [w] D 0 (by show 0<1;decide)
 rw[←hm] at gm
 generalize (A++U).length=m at hm gm ⊢
 generalize (A++U++[w]).length=b at hb ⊢
 obtain⟨L,hLe⟩:∃L,A++U++[w]++D=L:=⟨_,rfl⟩
 rw[hLe] at hl hL gu gm ⊢
 obtain⟨a,hal⟩:∃a,A.length=a:=⟨_,rfl⟩
 rw[hal] at hm hb hL gu ⊢
 repeat' (first|refine ae ?_|refine aj ?_|refine aa ?_|refine ac (ax ?_)|refine ah (ax ?_)|(refine dW Z Z Z Z ?_ ?_;omega)|refine aU ab (fun _=>?_)|(refine ao Z (fun hc=>?_) (fun hc=>?_))<;>try omega)
 refine aO (fun q:Nat×Nat=>⟨220,[(14,.i .i64 q.1),(15,.i .i64 q.2),(0,.own 0 v),(1,.i .i64 a),(2,.i .i64 m),(3,.i .i64 b),(4,.fn (.func f) gc)],[(0,.row v 76 5 (L.map eF))]⟩)
  (fun q=>a≤q.1∧q.1≤q.2∧q.2≤m∧(q.1 - a=0∨∃(h:q.1 - a - 1<U.length),eu cmp w U[q.1 - a - 1]=false)∧(q.2 - a=U.length∨∃(h:q.2 - a<U.length),eu cmp w U[q.2 - a]=true)) (fun q=>q.2 - q.1) [] (a,m) ⟨Nat.le_refl _,by show a≤m;omega,Nat.le_refl _,.inl (by show a - a=0;omega),.inl (by show m - a=U.length;omega)⟩ ?_ ?_
 ·exact⟨rfl,⟨ai Z,ai Z,aJ,ai Z,ai Z,ai Z,aP,J⟩,az 0 Z .nil⟩
 rintro⟨i,j⟩ ⟨h1,h2,h3,h4,h5⟩
 dsimp only at h1 h2 h3 h4 h5 ⊢
 by_cases hlt:i<j
 ·have hmid:=q5 i j (by omega)
  have hh1:i≤(i+j) / 2:=by omega
  have hh2:(i+j) / 2<j:=by omega
  generalize (i+j) / 2=h at hmid hh1 hh2
  have hv:h - a<U.length:=by omega
  have gh:=gu (h - a) hv
  rw[show a+(h - a)=h by omega] at gh
  have hcx:=hcmp w U[h - a]
  have hltv:eu cmp w U[h - a]=decide (cmp w U[h - a]<0):=rfl
  generalize cmp w U[h - a]=cv at hcx hltv
  repeat' (first|(refine bR ab Z Z Z Z Z (by assumption) (aY gm) Z Z (by first|exact Nat.add_zero _|rfl) ⟨rfl,rfl⟩ ?_)|(refine bR ab Z Z Z Z Z (by assumption) (aY gh) Z Z (by first|exact Nat.add_zero _|rfl) ⟨rfl,rfl⟩ ?_)|(refine bD ab Z Z Z Z Z Z Z Z m ?_ ?_ (fun bO hbO=>?_);omega;((repeat' (first|rw[List.length_map]|rw[List.length_set]))<;>omega))|(refine bD ab Z Z Z Z Z Z Z Z h ?_ ?_ (fun bO hbO=>?_);omega;((repeat' (first|rw[List.length_map]|rw[List.length_set]))<;>omega))|(refine dr Z ab Z Z Z ?_ (fun _=>?_);exact J;rw[hmid])|refine ae ?_|refine aj ?_|refine aa ?_|refine ac (ax ?_)|refine ac (db ?_)|refine ah (ax ?_)|(refine bc Z Z Z Z ?_ ?_;omega)|refine aU ab (fun _=>?_)|(refine ao Z (fun hc=>?_) (fun hc=>?_))<;>try omega|(refine ba Z (fun hc=>?_) (fun hc=>?_))|refine cg 17 [] [] [] [0,1,2,3,5,6,7,4,8,9,10,11] aN aN aN Z Z Z ?_|(refine lI Z Z ho hcx ⟨aP,aP,kP _⟩ Z Z ?_;rintro _ _ ⟨rfl,rfl⟩;refine⟨rfl,?_⟩))
  ·have hcc:(!decide (cv<0))=true:=by assumption
   rw[←hltv] at hcc
   exact⟨(h+1,j),[],⟨by show a≤h+1;omega,by show h+1≤j;omega,h3,.inr ⟨by show h+1 - a - 1<U.length;omega,by
    have e:h+1 - a - 1=h - a:=by omega
    have:eu cmp w U[h - a]=false:=by simpa using hcc
    simpa only[e] using this⟩,h5⟩,by show j - (h+1)<j - i;omega,rfl,⟨ai Z,ai Z,aJ,ai Z,ai Z,ai Z,aP,J⟩,az 0 Z .nil⟩
  ·have hcc:(!decide (cv<0))=false:=by assumption
   rw[←hltv] at hcc
   exact⟨(i,h),[],⟨h1,by show i≤h;omega,by show h≤m;omega,h4,.inr ⟨hv,by simpa using hcc⟩⟩,by show h - i<j - i;omega,rfl,⟨ai Z,ai Z,aJ,ai Z,ai Z,ai Z,aP,J⟩,az 0 Z .nil⟩
 have hij:j=i:=by omega
 subst hij
 obtain⟨m1,m2⟩:=Bb W (x:=w) sU (k:=j - a) (by omega) h4 h5
 have hres:=oU W m1 m2
 obtain⟨p,hp⟩:∃p,j - a=p:=⟨_,rfl⟩
 rw[hp] at hres
 have hpv:p≤U.length:=by omega
 have hjp:j=a+p:=by omega
 clear gu gm h4 h5 m1 m2
 repeat' (first|refine ae ?_|refine aj ?_|refine aa ?_|refine ac (ax ?_)|refine aw (ax ?_)|refine aU ab (fun _=>?_)|(refine ao Z (fun hc=>?_) (fun hc=>?_))<;>try omega)
 refine aO (fun q:Nat=>⟨220,[(17,.i .i64 ((a+q:Nat):Int)),(14,.i .i64 j),(0,.own 0 v)],[(0,.row v 76 5 ((A++U.take q++w::(U.drop q++D)).map eF))]⟩) (fun q=>p≤q∧q≤U.length) (fun q=>q) [] U.length ⟨hpv,Nat.le_refl _⟩ ?_ ?_
 ·refine⟨rfl,⟨ai (by omega),ai Z,aJ,J⟩,cr.cons 0 Z (aZ ?_) .nil⟩
  rw[←hLe,List.take_length,List.drop_length];simp only[List.append_assoc,List.cons_append,List.nil_append]
 rintro t0 ⟨ht1,ht2⟩
 by_cases htl:p<t0
 ·obtain⟨t,rfl⟩:∃t,t0=t+1:=⟨t0 - 1,by omega⟩
  have htv:t<U.length:=by omega
  have e0:A++U.take (t+1)++w::(U.drop (t+1)++D)=(A++U.take t)++U[t]::([]++w::(U.drop (t+1)++D)):=by
   rw[List.take_succ_eq_append_getElem htv];simp only[List.append_assoc,List.cons_append,List.nil_append]
  have e1:(A++U.take t)++w::([]++U[t]::(U.drop (t+1)++D))=A++U.take t++w::(U.drop t++D):=by
   rw[List.drop_eq_getElem_cons htv];simp only[List.append_assoc,List.cons_append,List.nil_append]
  have e2:=Al (A++U.take t) U[t] [] w (U.drop (t+1)++D)
  obtain⟨e3,e4⟩:=rf (A++U.take t) U[t] [] w (U.drop (t+1)++D)
  rw[e1] at e2
  rw[←e0] at e2 e3 e4
  have i1e:(A++U.take t).length=a+t:=by rw[List.length_append,List.length_take];omega
  have i2e:((A++U.take t)++U[t]::[]).length=a+t+1:=by rw[List.length_append,i1e];rfl
  have hll:(A++U.take (t+1)++w::(U.drop (t+1)++D)).length=a+U.length+1+D.length:=by
   simp only[List.length_append,List.length_cons,List.length_take,List.length_drop];omega
  rw[i1e] at e2 e3
  rw[i2e] at e2 e4
  generalize A++U.take (t+1)++w::(U.drop (t+1)++D)=L2 at e2 e3 e4 hll ⊢
  generalize hL3:A++U.take t++w::(U.drop t++D)=L3 at e2
  generalize U[t]=y at e2 e3
  obtain⟨i1,hi1⟩:∃i1,a+t=i1:=⟨_,rfl⟩
  obtain⟨i2,hi2⟩:∃i2,a+t+1=i2:=⟨_,rfl⟩
  rw[hi2] at e2 e4
  rw[hi1] at e2 e3
  have hne:i2≠i1:=by omega
  repeat' (first|(refine bQ ab Z Z Z Z Z Z (by assumption) ((List.getElem?_set_ne hne).trans (aY e3)) Z Z (by first|exact Nat.add_zero _|rfl) ⟨rfl,rfl⟩ Z Z ?_)|(refine bQ ab Z Z Z Z Z Z (by assumption) (aY e4) Z Z (by first|exact Nat.add_zero _|rfl) ⟨rfl,rfl⟩ Z Z ?_)|(refine bR ab Z Z Z Z Z (by assumption) (aY e4) Z Z (by first|exact Nat.add_zero _|rfl) ⟨rfl,rfl⟩ ?_)|(refine bR ab Z Z Z Z Z (by assumption) (aY e3) Z Z (by first|exact Nat.add_zero _|rfl) ⟨rfl,rfl⟩ ?_)|(refine bD ab Z Z Z Z Z Z Z Z i2 ?_ ?_ (fun bO hbO=>?_);omega;((repeat' (first|rw[List.length_map]|rw[List.length_set]))<;>omega))|(refine bD ab Z Z Z Z Z Z Z Z i1 ?_ ?_ (fun bO hbO=>?_);omega;((repeat' (first|rw[List.length_map]|rw[List.length_set]))<;>omega))|refine ae ?_|refine aj ?_|refine aa ?_|refine ac (ax ?_)|refine ac (db ?_)|refine ah (ax ?_)|(refine dW Z Z Z Z ?_ ?_;omega)|refine aU ab (fun _=>?_)|(refine ao Z (fun hc=>?_) (fun hc=>?_))<;>try omega|refine cg 23 [0] [122,126] [] [0,1,2,3,4,5,6,7,8,10,11,12,9,13,14,15,16,17] aN aN aN Z Z Z ?_)
  refine⟨t,[],⟨by omega,by omega⟩,by omega,rfl,⟨ai (by omega),ai Z,aJ,J⟩,cr.cons 0 Z (aZ ?_) .nil⟩
  rw[hL3,←e2,List.map_set,List.map_set];rfl
 ·have htp:t0=p:=by omega
  subst htp
  have e0:A++U.take t0++w::(U.drop t0++D)=A++cE (eu cmp) (U++[w])++D:=by
   rw[←hres];simp only[List.append_assoc,List.cons_append,List.nil_append]
  rw[e0]
  generalize A++cE (eu cmp) (U++[w])++D=L2
  repeat' (first|refine ae ?_|refine aa ?_|refine ac (ax ?_)|refine aw (ax ?_)|refine ap (bC ?_)|refine aU ab (fun _=>?_)|(refine ao Z (fun hc=>?_) (fun hc=>?_))<;>try omega)
  exact dC Z [] [(0,_)] (az 0 Z .nil) ⟨rfl,rfl⟩ _ (.inl Z)
end Go.Proofs.YtginkbjclkdglaaGreat
