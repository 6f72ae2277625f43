/- seal.Wrap, ref04.four, ref04.Wrap by rules. -/
import Derived.Test.YtginkbjclkdglaaGreatST3Z
import Derived.Test.YtginkbjclkdglaaGreatKWZ
import Derived.Test.YtginkbjclkdglaaGreatB2Z
import Derived.Test.YtginkbjclkdglaaGreatV13Z
import Derived.Test.YtginkbjclkdglaaGreatProg
import Derived.Test.YtginkbjclkdglaaGreatBase2Z
import Derived.Lib.ConvBytes
import Derived.Lib.AppendStr
import Derived.Laws.IdiomStrings
import Derived.Laws.BytesArg
import Derived.Laws.BitsAllLaws
import Derived.Laws.BitsLemmas
set_option maxHeartbeats 4000000
set_option maxRecDepth 100000
namespace Go.Proofs.YtginkbjclkdglaaGreat
open Go Go.RowKit
theorem yV(n:Nat){k:Nat}(hk:k≤64):(n:Int).fdiv (2^(min ((k:Int)).toNat (IntKind.bits .i64)))=((n / 2^k:Nat):Int):=by
 rw[show min ((k:Int)).toNat (IntKind.bits .i64)=k by rw[show IntKind.bits .i64=64 from rfl];omega,r8]
theorem Iu(x:Nat):[AV.i .u8 (IntKind.u8.wrap ((x:Int).fdiv (2^(min (Int.toNat 24) (IntKind.bits .u32))))),AV.i .u8 (IntKind.u8.wrap ((x:Int).fdiv (2^(min (Int.toNat 16) (IntKind.bits .u32))))),AV.i .u8 (IntKind.u8.wrap ((x:Int).fdiv (2^(min (Int.toNat 8) (IntKind.bits .u32))))),AV.i .u8 (IntKind.u8.wrap (x:Int))]=(Gt x).map gy:=by
 have e1:(x:Int).fdiv (2^(min (Int.toNat 24) (IntKind.bits .u32)))=((x / 16777216:Nat):Int):=Ax x (k:=24) (by decide)
 have e2:(x:Int).fdiv (2^(min (Int.toNat 16) (IntKind.bits .u32)))=((x / 65536:Nat):Int):=Ax x (k:=16) (by decide)
 have e3:(x:Int).fdiv (2^(min (Int.toNat 8) (IntKind.bits .u32)))=((x / 256:Nat):Int):=Ax x (k:=8) (by decide)
 rw[e1,e2,e3,iy,iy,iy,iy];rfl
theorem Il(x:Nat):[AV.i .u8 94,AV.i .u8 (IntKind.u8.wrap ((x:Int).fdiv (2^(min (Int.toNat 16) (IntKind.bits .i64))))),AV.i .u8 (IntKind.u8.wrap ((x:Int).fdiv (2^(min (Int.toNat 8) (IntKind.bits .i64))))),AV.i .u8 (IntKind.u8.wrap (x:Int))]=(eE x).map gy:=by
 have e2:(x:Int).fdiv (2^(min (Int.toNat 16) (IntKind.bits .i64)))=((x / 65536:Nat):Int):=yV x (k:=16) (by decide)
 have e3:(x:Int).fdiv (2^(min (Int.toNat 8) (IntKind.bits .i64)))=((x / 256:Nat):Int):=yV x (k:=8) (by decide)
 rw[e2,e3,iy,iy,iy];rfl
theorem pk(n:Nat):(eE n).length=4:=rfl
theorem pp(n:Nat):(Gt n).length=4:=rfl
def nc(s:List UInt8):List UInt8×Int:=if 65536<s.length then ([],2) else (bo s,0)
theorem pM(s:List UInt8)(hs:s.length≤1000000000):aQ Tryz.prog 90 [.s s] [] (fun v os=>v= .tup [.s (nc s).1,.i .i64 (nc s).2]∧os=[]):=by
 refine aA ab [] Tryz.func90 Z Tryz.ntmps90 aN Z Z (fun C=>?_) Z
 have hwr:bo s=eE s.length++Gt (xl (eE s.length++s))++s:=rfl
 have hhl:=pk s.length
 have hck:=wE (eE s.length++s) (by rw[List.length_append];omega)
 have hfl:=pp (xl (eE s.length++s))
 have hcl:=IT (eE s.length++s)
 repeat' (first|refine ae ?_|refine aa ?_|refine ac (ax ?_)|refine ah (ax ?_)|refine ap (bC ?_)|refine aU ab (fun _=>?_)|refine aI ab Z Z Z Z Z Z Z Z Z Z Z eo (fun _=>?_)|(refine ao Z (fun hc=>?_) (fun hc=>?_))<;>try omega)
 ·have hsw:nc s=([],2):=by unfold nc;rw[if_pos (by omega)]
  rw[hsw]
  exact aH [] [] (.tup [.s [],.i .i64 2]) Z (aW (av _) (av _) Z Z) .nil ⟨rfl,rfl⟩
 ·have hsw:nc s=(bo s,0):=by unfold nc;rw[if_neg (by omega)]
  rw[hsw,hwr,Il]
  generalize eE s.length=hd at hhl hck hfl hcl ⊢
  generalize xl (hd++s)=x at hck hfl hcl ⊢
  repeat' (first|refine ae ?_|refine aa ?_|refine ac (ax ?_)|refine aU ab (fun _=>?_)|(refine dr Z ab Z Z Z ?_ (fun _=>?_);(show List.length _+List.length _≤9223372036854775807;exact dt))|refine aI ab Z Z Z Z Z Z Z Z Z Z Z eo (fun _=>?_)|(refine bH ab Z Z Z Z Z Z Z Z Z (by first|exact J|exact rfl) Z Z (fun _=>rfl) ?_ ?_ (fun _=>?_);(exact dt);(exact dt))|refine dJ ab Z Z Z Z Z (by first|exact J|exact rfl) Z Z Z Z ?_|refine au Z (hck) ⟨aP,J⟩ Z ?_)
  rw[Iu,←List.map_append]
  generalize Gt x=fr at hfl ⊢
  have hhf:(hd++fr).length=8:=by rw[List.length_append];omega
  generalize hd++fr=hf at hhf ⊢
  repeat' (first|refine ac (ax ?_)|refine ap (bC ?_)|refine aU ab (fun _=>?_)|(refine dr Z ab Z Z Z ?_ (fun _=>?_);(show List.length _+List.length _≤9223372036854775807;exact dt))|refine dJ ab Z Z Z Z Z (by first|exact J|exact rfl) Z Z Z Z ?_)
  exact aH [] [] (.tup [.s (hf++s),.i .i64 0]) Z (aW (av _) (av _) Z Z) .nil ⟨rfl,rfl⟩
set_option maxHeartbeats 8000000
def fF(l:List aC)(k:Nat):List UInt8:=(n9 l k).getD []
theorem qM(l:List aC)(k:Nat)(h:k<l.length):fF l (k+1)=l[k].k:=by
 show ((l[k]?).map _).getD []=_
 rw[List.getElem?_eq_getElem h];rfl
def pw(last:List UInt8)(x:aC):List UInt8:=(ar (ms last x.k)++gl (x.k.drop (ms last x.k)))++[if x.g then 1 else 0]
def BT(last:List UInt8)(x:aC)(t:List UInt8):List UInt8:=if x.g then t++pw last x else (t++pw last x)++gl x.v
def dw(l:List aC):Nat→List UInt8
 |0=>ar l.length
 |k+1=>match l[k]? with
  |some x=>BT (fF l k) x (dw l k)
  |none=>[]
theorem jU(l:List aC)(k:Nat)(h:k<l.length):dw l (k+1)=BT (fF l k) l[k] (dw l k):=by
 show (match l[k]? with|some x=>_|none=>_)=_
 rw[List.getElem?_eq_getElem h]
theorem eL(t:List UInt8)(h:t.length<9223372036854775808):(gl t).length≤9+t.length:=by
 unfold gl;rw[List.length_append];have:=bz t.length h;omega
theorem BS(last:List UInt8)(x:aC)(hx:x.k.length≤110):(pw last x).length≤129:=by
 have h0:=(qU last x.k).2
 have h1:=bz (ms last x.k) (by omega)
 have h2:=eL (x.k.drop (ms last x.k)) (by rw[List.length_drop];omega)
 rw[List.length_drop] at h2
 unfold pw
 rw[List.length_append,List.length_append,List.length_singleton];omega
theorem sF(l:List aC)(hm:∀e∈l,e.k.length≤110∧e.v.length≤4010)(hl:l.length≤300):∀k,k≤l.length→(dw l k).length≤9+4200*k
 |0,_=>bz l.length (by omega)
 |k+1,h=>by
  have ih:=sF l hm hl k (by omega)
  have hx:=hm _ (List.getElem_mem (show k<l.length by omega))
  rw[jU l k (by omega)]
  have h1:=BS (fF l k) l[k] hx.1
  have h2:=eL l[k].v (by omega)
  unfold BT
  split
  ·rw[List.length_append];omega
  ·rw[List.length_append,List.length_append];omega
def jj(l:List aC):List UInt8×Int:=
 if di l≠0 then ([],di l) else if 65536<(dw l l.length).length then ([],2) else (bo (dw l l.length),0)
theorem im(bs:List UInt8)(n:Nat):(⟨bs,0⟩:WS).number n=⟨bs++ar n,0⟩:=by unfold WS.number;rw[if_neg (by omega)];rfl
theorem nN(bs t:List UInt8)(h:t.length≤65536):(⟨bs,0⟩:WS).text t=⟨bs++gl t,0⟩:=by
 unfold WS.text;rw[if_neg (by omega),im]
 unfold WS.put gl;rw[List.append_assoc]
theorem uz(bs:List UInt8):(⟨bs,0⟩:WS).done=if 65536<bs.length then ([],2) else (bs,0):=by
 unfold WS.done;rw[if_neg (fun h=>h Z)]
theorem Ee(l:List aC)(hl:l.length≤300)(hm:∀e∈l,e.k.length≤110∧e.v.length≤4010):aQ Tryz.prog 131 [.sl 3 (l.map eA)] [] (fun v os=>v= .tup [.s (jj l).1,.i .i64 (jj l).2]∧os=[]):=by
 refine aA ab [] Tryz.func131 Z Tryz.ntmps131 aN Z Z (fun C=>?_) Z
 have hck:=pE l (by omega) (fun e he=>⟨Nat.le_trans (hm e he).1 (by decide),Nat.le_trans (hm e he).2 (by decide)⟩)
 have hmk:jj l=if di l≠0 then ([],di l) else if 65536<(dw l l.length).length then ([],2) else (bo (dw l l.length),0):=rfl
 generalize jj l=q at hmk ⊢
 generalize di l=ck at hck hmk
 repeat' (first|refine ae ?_|refine aa ?_|refine ac (ax ?_)|refine ah (ax ?_)|refine ap (bC ?_)|refine br Z ab Z Z Z (fun _=>?_)|refine aU ab (fun _=>?_)|refine aF (d:=5) Z ab Z Z Z (fun b5=>?_)|(refine bF Z (fun hc=>?_) (fun hc=>?_))<;>try omega|refine au Z (hck) ⟨aP,J⟩ Z ?_)
 ·rw[if_pos hc] at hmk;subst hmk
  exact aH [] [] (.tup [.s [],.i .i64 ck]) Z (aW (av _) (av _) Z Z) .nil ⟨rfl,rfl⟩
 rw[if_neg (by omega)] at hmk
 refine gJ [] (S':=⟨60,[(18,.i .i64 l.length),(5,.ptr 5 b5 [] 0),(0,.sl 3 (l.map eA))],[(5,.var b5 (wV (.slice none 0 0) ⟨[],0⟩)),(1,.row (.slice none 0 0) 5 1 [])]⟩) ⟨rfl,⟨ai Z,af,ay Z,J⟩,cr.cons 5 Z (bW (bS (.cons dz (.cons (av _) .nil)))) (.none .nil)⟩ ?_
 have hw0:∀v,aQ Tryz.prog 86 [.ptr 0 b5 [] 0,.i .i64 (l.length:Int)] (kC b5 v ⟨[],0⟩) (fun r os=>r= .tup []∧∃v',os=kC b5 v' ⟨ar l.length,0⟩):=fun v=>by
  have h:=eK b5 l.length (by omega) v ⟨[],0⟩ (by decide)
  rw[im] at h;exact h
 repeat' (first|refine ae ?_|refine aj ?_|refine aa ?_|refine ac (ax ?_)|refine br Z ab Z Z Z (fun _=>?_)|refine aU ab (fun _=>?_)|(refine cJ Z Z Z Z Z (hw0 _) ⟨af,aP,J⟩ (ak _) (ak _) Z Z ?_;rintro _ _ ⟨rfl,wv,rfl⟩;refine⟨_,_,rfl,_,rfl,?_⟩))
 refine aO (fun q:Nat×Value=>⟨60,[(22,.i .i64 q.1),(21,.i .i64 l.length),(20,.sl 3 (l.map eA)),(6,.s (fF l q.1)),(5,.ptr 5 b5 [] 0)],[(5,.var b5 (wV q.2 ⟨dw l q.1,0⟩)),(1,.row q.2 5 1 ((dw l q.1).map gy))]⟩) (fun q=>q.1≤l.length) (fun q=>l.length - q.1) [] (0,wv) (Nat.zero_le _) ?_ ?_
 ·exact⟨rfl,⟨ai Z,ai Z,ay Z,cY Z,af,J⟩,az 5 Z (az 1 Z .nil)⟩
 rintro⟨k,v⟩ hk
 dsimp only at hk ⊢
 by_cases hlt:k<l.length
 ·have hx:=hm _ (List.getElem_mem hlt)
  have hTl:=sF l hm hl k hk
  have hsu:=jU l k hlt
  have hls:=qM l k hlt
  have hll:(fF l k).length≤110:=by
   rcases k with _|m
   ·exact Nat.zero_le _
   ·rw[qM l m (by omega)];exact(hm _ (List.getElem_mem _)).1
  generalize dw l k=T at hTl hsu ⊢
  have hcl:=(qU (fF l k) l[k].k).2
  have hcm:=oW (fF l k) l[k].k (by omega) (by omega)
  have hen:pw (fF l k) l[k]=(ar (ms (fF l k) l[k].k)++gl (l[k].k.drop (ms (fF l k) l[k].k)))++[if l[k].g then 1 else 0]:=rfl
  have heb:BT (fF l k) l[k] T=if l[k].g then T++pw (fF l k) l[k] else (T++pw (fF l k) l[k])++gl l[k].v:=rfl
  generalize ms (fF l k) l[k].k=c at hcl hcm hen
  have hnl:=bz c (by omega)
  have htl:=eL (l[k].k.drop c) (by rw[List.length_drop];omega)
  have htvl:=eL l[k].v (by omega)
  have hdl:(l[k].k.drop c).length≤110:=by rw[List.length_drop];omega
  have hw1:∀v,aQ Tryz.prog 86 [.ptr 0 b5 [] 0,.i .i64 (c:Int)] (kC b5 v ⟨T,0⟩) (fun r os=>r= .tup []∧∃v',os=kC b5 v' ⟨T++ar c,0⟩):=fun v=>by
   have h:=eK b5 c (by omega) v ⟨T,0⟩ (by show T.length≤_;omega)
   rw[im] at h;exact h
  have hw2:∀v,aQ Tryz.prog 87 [.ptr 0 b5 [] 0,.s (l[k].k.drop c)] (kC b5 v ⟨T++ar c,0⟩) (fun r os=>r= .tup []∧∃v',os=kC b5 v' ⟨(T++ar c)++gl (l[k].k.drop c),0⟩):=fun v=>by
   have h:=g9 b5 (l[k].k.drop c) v ⟨T++ar c,0⟩ (by show (T++ar c).length≤_;rw[List.length_append];omega)
   rw[nN _ _ (by omega)] at h;exact h
  have hw3:∀v,aQ Tryz.prog 88 [.ptr 0 b5 [] 0,.b l[k].g] (kC b5 v ⟨(T++ar c)++gl (l[k].k.drop c),0⟩) (fun r os=>r= .tup []∧∃v',os=kC b5 v' ⟨T++pw (fF l k) l[k],0⟩):=fun v=>by
   have h:=uV b5 l[k].g v ⟨(T++ar c)++gl (l[k].k.drop c),0⟩ (by show ((T++ar c)++gl (l[k].k.drop c)).length≤_;rw[List.length_append,List.length_append];omega)
   rw[hen,←List.append_assoc,←List.append_assoc];exact h
  have hhl:=BS (fF l k) l[k] hx.1
  have hw4:∀v,aQ Tryz.prog 87 [.ptr 0 b5 [] 0,.s l[k].v] (kC b5 v ⟨T++pw (fF l k) l[k],0⟩) (fun r os=>r= .tup []∧∃v',os=kC b5 v' ⟨(T++pw (fF l k) l[k])++gl l[k].v,0⟩):=fun v=>by
   have h:=g9 b5 l[k].v v ⟨T++pw (fF l k) l[k],0⟩ (by show (T++pw (fF l k) l[k]).length≤_;rw[List.length_append];omega)
   rw[nN _ _ (by omega)] at h;exact h
  generalize pw (fF l k) l[k]=E at hw3 hw4 heb
  repeat' (first|refine ae ?_|refine aj ?_|refine aa ?_|refine ac (ax ?_)|refine ac (db ?_)|refine ah (ax ?_)|(refine bc Z Z Z Z ?_ ?_;omega)|refine aU ab (fun _=>?_)|refine aF (d:=8) Z ab Z Z Z (fun b8=>?_)|refine aD ab Z Z Z Z Z Z Z ⟨rfl,rfl⟩ Z Z Z Z Z ?_|(refine aK Z ab Z Z Z Z Z Z ?_ (aE ?_) ?_;omega;omega)|(refine ao Z (fun hc=>?_) (fun hc=>?_))<;>try omega|(refine ba Z (fun hc=>?_) (fun hc=>?_))|(refine dK ab Z c l[k].k.length Z Z Z (cn Z Z) da hcl (Nat.le_refl _) ?_;rw[List.take_length])|refine au Z (hcm) ⟨aP,aP,J⟩ Z ?_|(refine cJ Z Z Z Z Z (hw1 _) ⟨af,aP,J⟩ (ak _) (ak _) Z Z ?_;rintro _ _ ⟨rfl,wv,rfl⟩;refine⟨_,_,rfl,_,rfl,?_⟩)|(refine cJ Z Z Z Z Z (hw2 _) ⟨af,aP,J⟩ (ak _) (ak _) Z Z ?_;rintro _ _ ⟨rfl,wv,rfl⟩;refine⟨_,_,rfl,_,rfl,?_⟩)|(refine cJ Z Z Z Z Z (hw3 _) ⟨af,aP,J⟩ (ak _) (ak _) Z Z ?_;rintro _ _ ⟨rfl,wv,rfl⟩;refine⟨_,_,rfl,_,rfl,?_⟩)|(refine cJ Z Z Z Z Z (hw4 _) ⟨af,aP,J⟩ (ak _) (ak _) Z Z ?_;rintro _ _ ⟨rfl,wv,rfl⟩;refine⟨_,_,rfl,_,rfl,?_⟩))
  ·have hg:l[k].g=false:=by simpa using hc
   refine⟨(k+1,wv),[],by show k+1≤l.length;omega,by show l.length - (k+1)<l.length - k;omega,rfl,⟨ai (by show (k:Int)+1=((k+1:Nat):Int);omega),ai Z,ay Z,cY hls.symm,af,J⟩,cr.cons 5 Z (bW (am Z)) (cr.cons 1 Z (aZ ?_) .nil)⟩
   rw[hsu,heb,hg];rfl
  ·have hg:l[k].g=true:=by simpa using hc
   refine⟨(k+1,wv),[],by show k+1≤l.length;omega,by show l.length - (k+1)<l.length - k;omega,rfl,⟨ai (by show (k:Int)+1=((k+1:Nat):Int);omega),ai Z,ay Z,cY hls.symm,af,J⟩,cr.cons 5 Z (bW (am Z)) (cr.cons 1 Z (aZ ?_) .nil)⟩
   rw[hsu,heb,hg];rfl
 ·have hkl:k=l.length:=by omega
  subst hkl
  have hd:=jQ b5
  generalize dw l l.length=T at hmk ⊢
  have hdn:∀v,aQ Tryz.prog 89 [.ptr 0 b5 [] 0] (kC b5 v ⟨T,0⟩) (fun r os=>r= .tup [.s (if 65536<T.length then [] else T),.i .i64 (if 65536<T.length then 2 else 0)]∧∃v',os=kC b5 v' ⟨T,0⟩):=fun v=>by
   have h:=jQ b5 v ⟨T,0⟩
   rw[uz] at h
   split
   ·rename_i h1;rw[if_pos h1] at h;exact h
   ·rename_i h1;rw[if_neg h1] at h;exact h
  by_cases hT:65536<T.length
  ·rw[if_pos hT,if_pos hT] at hdn
   rw[if_pos hT] at hmk
   subst hmk
   repeat' (first|refine ae ?_|refine aa ?_|refine ac (ax ?_)|refine aw (ax ?_)|refine ap (bC ?_)|refine aU ab (fun _=>?_)|refine aR Z ?_|(refine ao Z (fun hc=>?_) (fun hc=>?_))<;>try omega|(refine cJ Z Z Z Z Z (hdn _) ⟨af,J⟩ (ak _) (ak _) Z Z ?_;rintro _ _ ⟨rfl,wv,rfl⟩;refine⟨_,_,rfl,_,rfl,?_⟩))
   exact aH [] [] (.tup [.s [],.i .i64 2]) Z (aW (av _) (av _) Z Z) .nil ⟨rfl,rfl⟩
  ·rw[if_neg hT,if_neg hT] at hdn
   rw[if_neg hT] at hmk
   subst hmk
   have hwr:=pM T (by omega)
   have hsw:nc T=(bo T,0):=by unfold nc;rw[if_neg hT]
   rw[hsw] at hwr
   generalize bo T=S at hwr ⊢
   repeat' (first|refine ae ?_|refine aa ?_|refine ac (ax ?_)|refine ah (ax ?_)|refine aw (ax ?_)|refine ap (bC ?_)|refine aU ab (fun _=>?_)|refine aB Z ?_|(refine ao Z (fun hc=>?_) (fun hc=>?_))<;>try omega|refine au Z (hwr) ⟨aP,J⟩ Z ?_|(refine cJ Z Z Z Z Z (hdn _) ⟨af,J⟩ (ak _) (ak _) Z Z ?_;rintro _ _ ⟨rfl,wv,rfl⟩;refine⟨_,_,rfl,_,rfl,?_⟩))
   exact aH [] [] (.tup [.s S,.i .i64 0]) Z (aW (av _) (av _) Z Z) .nil ⟨rfl,rfl⟩
set_option maxHeartbeats 4000000
def n3(a b c:UInt8):Nat:=a.toNat*65536+b.toNat*256+c.toNat
def n4(a b c d:UInt8):Nat:=a.toNat*16777216+b.toNat*65536+c.toNat*256+d.toNat
def cN:List UInt8→List UInt8×Nat×Int
 |c0::c1::c2::c3::c4::c5::c6::c7::r=>
  if c0.toNat≠94∨65536<n3 c1 c2 c3 then ([],0,4) else if r.length<n3 c1 c2 c3 then ([],0,5)
  else if xl ([c0,c1,c2,c3]++r.take (n3 c1 c2 c3))=n4 c4 c5 c6 c7 then (r.take (n3 c1 c2 c3),8+n3 c1 c2 c3,0) else ([],0,6)
 |_=>([],0,5)
theorem IH{s:List UInt8}(h:¬ s.length<8):∃c0 c1 c2 c3 c4 c5 c6 c7 r,s=c0::c1::c2::c3::c4::c5::c6::c7::r:=by
 rcases s with _|⟨c0,_|⟨c1,_|⟨c2,_|⟨c3,_|⟨c4,_|⟨c5,_|⟨c6,_|⟨c7,r⟩⟩⟩⟩⟩⟩⟩⟩
 all_goals first|exact⟨_,_,_,_,_,_,_,_,_,rfl⟩|(exfalso;simp at h)
theorem mF{s:List UInt8}(h:s.length<8):cN s=([],0,5):=by
 rcases s with _|⟨c0,_|⟨c1,_|⟨c2,_|⟨c3,_|⟨c4,_|⟨c5,_|⟨c6,_|⟨c7,r⟩⟩⟩⟩⟩⟩⟩⟩
 all_goals first|rfl|(exfalso;simp at h;omega)
theorem Ko{x y:Nat}(hx:x<9223372036854775808)(hy:y<9223372036854775808):eB .or .i64 (x:Int) (y:Int)=((x|||y:Nat):Int):=by
 have hl:x|||y<9223372036854775808:=Nat.or_lt_two_pow (n:=63) hx hy
 show IntKind.i64.wrap _=_
 rw[dU,dU,BitVec.toNat_or,BitVec.toNat_ofNat,BitVec.toNat_ofNat,show (2^IntKind.i64.bits:Nat)=18446744073709551616 from rfl,Nat.mod_eq_of_lt (by omega),Nat.mod_eq_of_lt (by omega),rQ hl]
theorem vE(a b i:Nat)(h:b<2^i):(a*2^i)|||b=a*2^i+b:=by
 rw[Nat.mul_comm];exact(Nat.two_pow_add_eq_or_of_lt h a).symm
theorem Kq(a b c:UInt8):eB .or .i64 (eB .or .i64 (IntKind.i64.wrap ((a.toNat:Int)*2^(min (Int.toNat 16) (IntKind.bits .i64)))) (IntKind.i64.wrap ((b.toNat:Int)*2^(min (Int.toNat 8) (IntKind.bits .i64))))) (c.toNat:Int)=(n3 a b c:Nat):=by
 have ha:=a.toNat_lt;have hb:=b.toNat_lt;have hc:=c.toNat_lt
 rw[show (a.toNat:Int)*2^(min (Int.toNat 16) (IntKind.bits .i64))=((a.toNat*65536:Nat):Int) by rw[Int.natCast_mul];rfl,show (b.toNat:Int)*2^(min (Int.toNat 8) (IntKind.bits .i64))=((b.toNat*256:Nat):Int) by rw[Int.natCast_mul];rfl]
 rw[rQ (by omega),rQ (by omega),Ko (by omega) (by omega),vE a.toNat (b.toNat*256) 16 (by omega),Ko (by omega) (by omega)]
 rw[show a.toNat*2^16+b.toNat*256=(a.toNat*256+b.toNat)*2^8 by omega,vE _ _ 8 (by omega)]
 unfold n3
 congr 1;omega
theorem M7(a b c d:UInt8):eB .or .u32 (eB .or .u32 (eB .or .u32 (IntKind.u32.wrap (IntKind.u32.wrap (a.toNat:Int)*2^(min (Int.toNat 24) (IntKind.bits .u32)))) (IntKind.u32.wrap (IntKind.u32.wrap (b.toNat:Int)*2^(min (Int.toNat 16) (IntKind.bits .u32))))) (IntKind.u32.wrap (IntKind.u32.wrap (c.toNat:Int)*2^(min (Int.toNat 8) (IntKind.bits .u32))))) (IntKind.u32.wrap (d.toNat:Int))=(n4 a b c d:Nat):=by
 have ha:=a.toNat_lt;have hb:=b.toNat_lt;have hc:=c.toNat_lt;have hd:=d.toNat_lt
 rw[fC (n:=a.toNat) (by omega),fC (n:=b.toNat) (by omega),fC (n:=c.toNat) (by omega),fC (n:=d.toNat) (by omega)]
 rw[show (a.toNat:Int)*2^(min (Int.toNat 24) (IntKind.bits .u32))=((a.toNat*16777216:Nat):Int) by rw[Int.natCast_mul];rfl,show (b.toNat:Int)*2^(min (Int.toNat 16) (IntKind.bits .u32))=((b.toNat*65536:Nat):Int) by rw[Int.natCast_mul];rfl,show (c.toNat:Int)*2^(min (Int.toNat 8) (IntKind.bits .u32))=((c.toNat*256:Nat):Int) by rw[Int.natCast_mul];rfl]
 rw[fC (by omega),fC (by omega),fC (by omega),Lx (by omega) (by omega),vE a.toNat (b.toNat*65536) 24 (by omega),Lx (by omega) (by omega),show a.toNat*2^24+b.toNat*65536=(a.toNat*256+b.toNat)*2^16 by omega,vE _ (c.toNat*256) 16 (by omega),Lx (by omega) (by omega),show (a.toNat*256+b.toNat)*2^16+c.toNat*256=((a.toNat*256+b.toNat)*256+c.toNat)*2^8 by omega,vE _ _ 8 (by omega)]
 unfold n4
 congr 1;omega
theorem dI{fr:Fr}{a b c d e f:AV}(h1:aL fr a d)(h2:aL fr b e)(h3:aL fr c f)(ha:a.isVal=true)(hb:b.isVal=true)(hc:c.isVal=true):Cq fr (oV [a,b,c]) (.tup [d,e,f]):=
 Cq.tup (xs:=[a,b,c]) (ys:=[d,e,f]) Z (fun i x y hx hy=>by
  match i with
  |0=>simp at hx hy;subst hx;subst hy;exact .inr ⟨ha,h1⟩
  |1=>simp at hx hy;subst hx;subst hy;exact .inr ⟨hb,h2⟩
  |2=>simp at hx hy;subst hx;subst hy;exact .inr ⟨hc,h3⟩
  |k+3=>simp at hx)
theorem lS(s:List UInt8)(hs:s.length≤1000000000):aQ Tryz.prog 57 [.s s] [] (fun v os=>v= .tup [.s (cN s).1,.i .i64 ((cN s).2.1:Nat),.i .i64 (cN s).2.2]∧os=[]):=by
 refine aA ab [] Tryz.func57 Z Tryz.ntmps57 aN Z Z (fun C=>?_) Z
 by_cases h8:s.length<8
 ·rw[mF h8]
  repeat' (first|refine ae ?_|refine aa ?_|refine ac (ax ?_)|refine ap (bC ?_)|refine aU ab (fun _=>?_)|(refine ao Z (fun hc=>?_) (fun hc=>?_))<;>try omega)
  exact aH [] [] (.tup [.s [],.i .i64 ((0:Nat):Int),.i .i64 5]) Z (dI (am Z) (am Z) (am Z) Z Z Z) .nil ⟨rfl,rfl⟩
 ·obtain⟨c0,c1,c2,c3,c4,c5,c6,c7,r,rfl⟩:=IH h8
  have hl:(c0::c1::c2::c3::c4::c5::c6::c7::r).length=r.length+8:=rfl
  have hn3:=Kq c1 c2 c3
  have hn4:=M7 c4 c5 c6 c7
  have hso:cN (c0::c1::c2::c3::c4::c5::c6::c7::r)=if c0.toNat≠94∨65536<n3 c1 c2 c3 then ([],0,4) else if r.length<n3 c1 c2 c3 then ([],0,5)
   else if xl ([c0,c1,c2,c3]++r.take (n3 c1 c2 c3))=n4 c4 c5 c6 c7 then (r.take (n3 c1 c2 c3),8+n3 c1 c2 c3,0) else ([],0,6):=rfl
  generalize cN (c0::c1::c2::c3::c4::c5::c6::c7::r)=q at hso ⊢
  generalize n3 c1 c2 c3=n at hn3 hso
  generalize n4 c4 c5 c6 c7=N at hn4 hso
  have hrl:r.length≤1000000000:=by omega
  have hb4:xl ([c0,c1,c2,c3]++r.take n)=N∨¬ xl ([c0,c1,c2,c3]++r.take n)=N:=Decidable.em _
  repeat' (first|refine ae ?_|refine aa ?_|refine ac (ax ?_)|refine ah (ax ?_)|refine aU ab (fun _=>?_)|refine aB Z ?_)
  repeat' (first|refine ac (ax ?_)|refine gW Z ab Z Z Z Z ?_|refine aU ab (fun _=>?_)|refine cg 3 [] [] [] [0,1,2,3,4,5,6,7,8,9,10,11,12,13] aN aN aN Z Z Z ?_|(refine gE ab Z Z Z Z Z (by decide) Z ?_))
  rw[hn3]
  clear hn3
  repeat' (first|refine ae ?_|refine aj ?_|refine aa ?_|refine ac (ax ?_)|refine ah (ax ?_)|refine ap (bC ?_)|(refine bc Z Z Z Z ?_ ?_;omega)|refine aU ab (fun _=>?_)|(refine ao Z (fun hc=>?_) (fun hc=>?_))<;>try omega|(refine bF Z (fun hc=>?_) (fun hc=>?_))<;>try omega|(refine gE ab Z Z Z Z Z (by decide) Z ?_))
  ·rw[if_pos (.inl (by omega))] at hso;subst hso
   exact aH [] [] (.tup [.s [],.i .i64 ((0:Nat):Int),.i .i64 4]) Z (dI (am Z) (am Z) (am Z) Z Z Z) .nil ⟨rfl,rfl⟩
  ·rw[if_pos (.inr (by omega))] at hso;subst hso
   exact aH [] [] (.tup [.s [],.i .i64 ((0:Nat):Int),.i .i64 4]) Z (dI (am Z) (am Z) (am Z) Z Z Z) .nil ⟨rfl,rfl⟩
  ·rw[if_neg (by omega),if_pos (by omega)] at hso;subst hso
   exact aH [] [] (.tup [.s [],.i .i64 ((0:Nat):Int),.i .i64 5]) Z (dI (am Z) (am Z) (am Z) Z Z Z) .nil ⟨rfl,rfl⟩
  ·rw[if_neg (by omega),if_neg (by omega)] at hso
   repeat' (first|refine ac (ax ?_)|refine aU ab (fun _=>?_)|refine cg 9 [] [] [] [0,1,2,3,4,5,6,7,8,9,10,11,12,13,14,15,16,17,18] aN aN aN Z Z Z ?_|(refine gE ab Z Z Z Z Z (by decide) Z ?_))
   rw[hn4]
   clear hn4
   have hck:=wE ([c0,c1,c2,c3]++r.take n) (by rw[List.length_append,List.length_take];show 4+min n r.length≤_;omega)
   have htl:(r.take n).length≤1000000000:=by rw[List.length_take];omega
   generalize xl ([c0,c1,c2,c3]++r.take n)=x at hck hso
   repeat' (first|refine ae ?_|refine aa ?_|(refine bc Z Z Z Z ?_ ?_;omega)|refine aU ab (fun _=>?_))
   refine dK ab Z 8 (n+8) Z Z Z (cn Z Z) (cn Z (by omega)) (by omega) (by show n+8≤r.length+8;omega) ?_
   rw[show ((c0::c1::c2::c3::c4::c5::c6::c7::r).take (n+8)).drop 8=r.take n from rfl]
   generalize r.take n=t at hck hso htl ⊢
   repeat' (first|refine ae ?_|refine aa ?_|refine ac (ax ?_)|refine aU ab (fun _=>?_))
   refine dK ab Z 0 4 Z Z Z da (cn Z Z) (by omega) (by show 4≤r.length+8;omega) ?_
   rw[show ((c0::c1::c2::c3::c4::c5::c6::c7::r).take 4).drop 0=[c0,c1,c2,c3] from rfl]
   repeat' (first|refine ae ?_|refine aa ?_|refine ac (ax ?_)|refine ah (ax ?_)|refine ap (bC ?_)|(refine bc Z Z Z Z ?_ ?_;omega)|refine aU ab (fun _=>?_)|(refine dr Z ab Z Z Z ?_ (fun _=>?_);(show List.length _+List.length _≤9223372036854775807;exact dt))|(refine ao Z (fun hc=>?_) (fun hc=>?_))<;>try omega|refine au Z (hck) ⟨aP,J⟩ Z ?_)
   ·rw[if_pos (by omega)] at hso;subst hso
    exact aH [] [] (.tup [.s t,.i .i64 ((8+n:Nat):Int),.i .i64 0]) Z (dI (am Z) (am (congrArg (AV.i .i64) (show (8:Int)+(n:Int)=((8+n:Nat):Int) by omega))) (am Z) Z Z Z) .nil ⟨rfl,rfl⟩
   ·rw[if_neg (by omega)] at hso;subst hso
    exact aH [] [] (.tup [.s [],.i .i64 ((0:Nat):Int),.i .i64 6]) Z (dI (am Z) (am Z) (am Z) Z Z Z) .nil ⟨rfl,rfl⟩
structure RS where
 s:List UInt8
 p:Nat
 e:Int
def RS.ok(r:RS):Prop:=r.p≤r.s.length∧r.s.length≤9223372036854775807
def ry(r:RS):AV:=.agg [.s r.s,.i .i64 r.p,.i .i64 r.e]
def RS.take(r:RS)(n:Nat):List UInt8×RS:=
 if r.e≠0 then ([],r) else if r.s.length - r.p<n then ([],⟨r.s,r.p,5⟩) else ((r.s.drop r.p).take n,⟨r.s,r.p+n,0⟩)
def RS.fail(r:RS)(x:Int):RS:=if r.e=0 then ⟨r.s,r.p,x⟩ else r
theorem jX(b:Nat)(x:Int)(r:RS):aQ Tryz.prog 110 [.ptr 0 b [] 0,.i .i64 x] [.var b (ry r)] (fun v os=>v= .tup []∧os=[.var b (ry (r.fail x))]):=by
 refine aA ab [(0,.var b (ry r))] Tryz.func110 Z Tryz.ntmps110 aN Z Z (fun C=>?_) Z
 repeat' (first|refine ae ?_|refine aa ?_|refine ac (ax ?_)|refine ac (bC ?_)|refine ah (bC ?_)|refine aU ab (fun _=>?_)|refine aD ab Z Z Z Z Z Z Z ⟨rfl,rfl⟩ Z Z Z Z Z ?_|(refine ao Z (fun hc=>?_) (fun hc=>?_))<;>try omega)
 ·refine dC Z [] _ (bq (k:=0) Z (ak _) .nil) ⟨rfl,?_⟩ _ cM
  unfold RS.fail;rw[if_pos hc];rfl
 ·refine dC Z [] _ (bq (k:=0) Z (ak _) .nil) ⟨rfl,?_⟩ _ cM
  unfold RS.fail;rw[if_neg hc];rfl
theorem lV(b:Nat)(n:Nat)(r:RS)(hok:r.ok):aQ Tryz.prog 109 [.ptr 0 b [] 0,.i .i64 n] [.var b (ry r)] (fun v os=>v= .s (r.take n).1∧os=[.var b (ry (r.take n).2)]):=by
 obtain⟨h1,h2⟩:=hok
 refine aA ab [(0,.var b (ry r))] Tryz.func109 Z Tryz.ntmps109 aN Z Z (fun C=>?_) Z
 repeat' (first|refine ae ?_|refine aa ?_|refine ac (ax ?_)|refine ah (ax ?_)|refine ap (bC ?_)|refine d9 Z Z Z cM ?_|(refine bc Z Z Z Z ?_ ?_;omega)|(refine dW Z Z Z Z ?_ ?_;omega)|refine aU ab (fun _=>?_)|refine aD ab Z Z Z Z Z Z Z ⟨rfl,rfl⟩ Z Z Z Z Z ?_|(fail_if_success (refine aM Z cM ?_));(refine aV Z Z (fun hc=>?_) (fun hc=>?_)<;>try omega)|refine aR Z ?_|refine aB Z ?_|(refine ao Z (fun hc=>?_) (fun hc=>?_))<;>try omega|(refine bF Z (fun hc=>?_) (fun hc=>?_))<;>try omega|refine cg 1 [] [] [] [0,1,2,3,4,5,6,7,8,9,12,13,14,10,11,15,16,17,18] aN aN aN Z Z Z ?_|refine cg 6 [] [] [] [0,1,2,4,5,6,8,10,11,12,3,7,9,13,14,15] aN aN aN Z Z Z ?_)
 ·have ht:r.take n=([],⟨r.s,r.p,5⟩):=by unfold RS.take;rw[if_neg (by omega),if_pos (by omega)]
  refine bp Z Z Z [] [(0,_)] (am (by rw[ht];rfl)) (bq Z (ak _) .nil) ⟨rfl,by rw[ht];rfl⟩ _ (.inl Z)
 ·refine dK ab Z r.p (r.p+n) Z Z Z (cn Z (by omega)) (cn Z (by omega)) (by omega) (by omega) ?_
  repeat' (first|refine ac (ax ?_)|refine ap (bC ?_)|refine aU ab (fun _=>?_))
  have ht:r.take n=((r.s.drop r.p).take n,⟨r.s,r.p+n,0⟩):=by unfold RS.take;rw[if_neg (by omega),if_neg (by omega)]
  refine bp Z Z Z [] [(0,_)] (am ?_) (bq Z (ak _) .nil) ⟨rfl,?_⟩ _ (.inl Z)
  ·rw[ht];show AV.s ((r.s.take (r.p+n)).drop r.p)=AV.s ((r.s.drop r.p).take n);rw[List.drop_take,Nat.add_sub_cancel_left]
  ·rw[ht];show [HO.var b (.agg [.s r.s,.i .i64 (r.p+n),.i .i64 r.e])]=[HO.var b (.agg [.s r.s,.i .i64 ((r.p+n:Nat):Int),.i .i64 0])];rw[Int.natCast_add,hc]
 ·have ht:r.take n=([],r):=by unfold RS.take;rw[if_pos hc]
  refine bp Z Z Z [] [(0,_)] (am (by rw[ht];rfl)) (bq Z (ak _) .nil) ⟨rfl,by rw[ht];rfl⟩ _ (.inl Z)
theorem RS.ok_take{r:RS}(h:r.ok)(n:Nat):(r.take n).2.ok:=by
 unfold RS.take;split
 ·exact h
 ·split
  ·exact h
  ·exact⟨by show r.p+n≤r.s.length;have:=h.1;omega,h.2⟩
theorem RS.ok_fail{r:RS}(h:r.ok)(x:Int):(r.fail x).ok:=by unfold RS.fail;split<;>exact h
end Go.Proofs.YtginkbjclkdglaaGreat
namespace Go.Proofs.YtginkbjclkdglaaGreat
open Go.RowKit
def OB(c:UInt8):List Value:=[.int .u8 (c.toNat:Int)]
theorem xW(a:Nat)(ha:a<9223372036854775808):(BitVec.ofInt 64 (a:Int)).toNat=a:=by
 rw[BitVec.ofInt_natCast,BitVec.toNat_ofNat];exact Nat.mod_eq_of_lt (by omega)
theorem DF(a b:Nat)(ha:a<9223372036854775808)(hb:b<9223372036854775808):bits .or .i64 (a:Int) (b:Int)=((a|||b:Nat):Int):=by
 have hx:a|||b<2^63:=Nat.or_lt_two_pow (by omega) (by omega)
 show IntKind.i64.wrap ((BitVec.ofInt 64 (a:Int)|||BitVec.ofInt 64 (b:Int)).toNat:Int)=_
 rw[BitVec.toNat_or,xW a ha,xW b hb,IntKind.wrap_i64]
 omega
theorem JD(x c:Nat)(hc:c<256)(hx:256*x+c<9223372036854775808):bits .or .i64 ((x:Int)*256) (c:Int)=((256*x+c:Nat):Int):=by
 have h1:((x:Int)*256)=((256*x:Nat):Int):=by omega
 rw[h1,DF _ _ (by omega) (by omega),←Nat.two_pow_add_eq_or_of_lt (i:=8) (by omega)]
end Go.Proofs.YtginkbjclkdglaaGreat
