/- code.Writer by rules: fail, Number, Text, Flag, Done. -/
import Derived.Test.YtginkbjclkdglaaGreatV13Z
import Derived.Laws.StructEq
set_option maxHeartbeats 4000000
namespace Go.Proofs.YtginkbjclkdglaaGreat
open Go Go.RowKit
structure WS where
 bs:List UInt8
 e:Int
def WS.fail(s:WS)(x:Int):WS:=if s.e=0 then {s with e:=x} else s
def WS.put(s:WS)(l:List UInt8):WS:={s with bs:=s.bs++l}
def dy(n:Nat):List UInt8:=if n=0 then [] else dy (n / 256)++[UInt8.ofNat n]
termination_by n
decreasing_by omega
def ar(n:Nat):List UInt8:=UInt8.ofNat (dy n).length::dy n
theorem gC:dy 0=[]:=by unfold dy;rfl
theorem me{n:Nat}(h:n≠0):dy n=dy (n / 256)++[UInt8.ofNat n]:=by rw[dy];rw[if_neg h]
theorem nF:∀(k n:Nat),n<256^k→(dy n).length≤k
 |0,n,h=>by
  have:n=0:=by simpa using h
  subst this;rw[gC];simp
 |k+1,n,h=>by
  by_cases h0:n=0
  ·subst h0;rw[gC];simp
  ·rw[me h0,List.length_append,List.length_singleton]
   have:=nF k (n / 256) (by rw[Nat.div_lt_iff_lt_mul (by omega)];rw[Nat.pow_succ] at h;exact h)
   omega
theorem yx:∀(k n:Nat),n<256^k→∀i,i<(dy n).length→(dy n)[(dy n).length - 1 - i]?=some (UInt8.ofNat (n / 256^i))
 |0,n,h,i,hi=>by
  have:n=0:=by simpa using h
  subst this;rw[gC] at hi;simp at hi
 |k+1,n,h,i,hi=>by
  by_cases h0:n=0
  ·subst h0;rw[gC] at hi;simp at hi
  ·have hd:=me h0
   rw[hd] at hi ⊢
   rw[List.length_append,List.length_singleton] at hi ⊢
   rcases i with _|i
   ·rw[show (dy (n / 256)).length+1 - 1 - 0=(dy (n / 256)).length by omega,List.getElem?_append_right (Nat.le_refl _)]
    simp
   ·rw[List.getElem?_append_left (by omega)]
    have:=yx k (n / 256) (by rw[Nat.div_lt_iff_lt_mul (by omega)];rw[Nat.pow_succ] at h;exact h) i (by omega)
    rw[show (dy (n / 256)).length+1 - 1 - (i+1)=(dy (n / 256)).length - 1 - i by omega,this,Nat.div_div_eq_div_mul,Nat.pow_succ,Nat.mul_comm 256]
def WS.number(s:WS)(n:Int):WS:=if n<0 then s.fail 1 else s.put (ar n.toNat)
def wV(v:Value)(s:WS):AV:=.agg [.own 1 v,.i .i64 s.e]
def kC(b:Nat)(v:Value)(s:WS):List HO:=[.var b (wV v s),.row v 5 1 (s.bs.map gy)]
theorem iy(n:Nat):AV.i .u8 (IntKind.u8.wrap (n:Int))=gy (UInt8.ofNat n):=by
 show AV.i _ _=AV.i _ _
 rw[UInt8.toNat_ofNat',show IntKind.u8.wrap (n:Int)=((n%256:Nat):Int) from by rw[Int.natCast_emod];rfl]
theorem EI(n k:Nat):(n:Int).fdiv (2^k)=((n / 2^k:Nat):Int):=by
 rw[show (2:Int)^k=((2^k:Nat):Int) by rw[Int.natCast_pow];rfl,Int.ofNat_fdiv]
theorem Lo(n t:Nat)(ht:t≤7):AV.i .u8 (IntKind.u8.wrap ((n:Int).fdiv (2^(min (8*(t:Int)).toNat (IntKind.bits .i64)))))=gy (UInt8.ofNat (n / 256^t)):=by
 rw[show min (8*(t:Int)).toNat (IntKind.bits .i64)=8*t by rw[show IntKind.bits .i64=64 from rfl];omega,EI,iy,Nat.pow_mul]
theorem uW(b:Nat)(x:Int)(v:Value)(s:WS):aQ Tryz.prog 126 [.ptr 0 b [] 0,.i .i64 x] (kC b v s) (fun r os=>r= .tup []∧∃v',os=kC b v' (s.fail x)):=by
 refine aA ab [(0,.var b (wV v s)),(1,.row v 5 1 (s.bs.map gy))] Tryz.func126 Z Tryz.ntmps126 aN Z Z (fun C=>?_) Z
 repeat' (first|refine ae ?_|refine aa ?_|refine ac (ax ?_)|refine ac (bC ?_)|refine ah (bC ?_)|refine aU ab (fun _=>?_)|refine aD ab Z Z Z Z Z Z Z ⟨rfl,rfl⟩ Z Z Z Z Z ?_|(refine ao Z (fun hc=>?_) (fun hc=>?_))<;>try omega)
 ·refine dC Z [] [(0,_),(1,_)] (bq Z (ak _) (bq Z (ak _) .nil)) ⟨rfl,v,?_⟩ _ cM
  unfold WS.fail;rw[if_pos hc];rfl
 ·refine dC Z [] [(0,_),(1,_)] (bq Z (ak _) (bq Z (ak _) .nil)) ⟨rfl,v,?_⟩ _ cM
  unfold WS.fail;rw[if_neg hc];rfl
theorem eK(b:Nat)(n:Int)(hn:n<9223372036854775808)(v:Value)(s:WS)(hs:s.bs.length≤1000000000000):aQ Tryz.prog 86 [.ptr 0 b [] 0,.i .i64 n] (kC b v s) (fun r os=>r= .tup []∧∃v',os=kC b v' (s.number n)):=by
 refine aA ab [(0,.var b (wV v s)),(1,.row v 5 1 (s.bs.map gy))] Tryz.func86 Z Tryz.ntmps86 aN Z Z (fun C=>?_) Z
 repeat' (first|refine ae ?_|refine aj ?_|refine aa ?_|refine ac (ax ?_)|refine ah (ax ?_)|refine aU ab (fun _=>?_)|(refine ao Z (fun hc=>?_) (fun hc=>?_))<;>try omega)
 ·refine bx [] [0,1] [0,1] Z (uW b 1 v s) ⟨af,ai Z,J⟩ Z dD Z Z ?_
  rintro r os' ⟨rfl,v',rfl⟩;refine⟨_,rfl,rfl,?_⟩
  repeat' (first|refine ac (ax ?_)|refine ap (bC ?_))
  refine dC Z [] [(0,_),(1,_)] (bq Z (ak _) (bq Z (ak _) .nil)) ⟨rfl,v',?_⟩ _ cM
  unfold WS.number;rw[if_pos hc];rfl
 obtain⟨n,rfl⟩:=Int.eq_ofNat_of_zero_le (Int.not_lt.1 hc)
 have hW:s.number n=s.put (ar n):=by unfold WS.number;rw[if_neg hc];rfl
 have hle:=nF 8 n (by omega)
 have hD:=yx 8 n (by omega)
 have hNB:ar n=UInt8.ofNat (dy n).length::dy n:=rfl
 obtain⟨L,hL⟩:∃L,(dy n).length=L:=⟨_,rfl⟩
 rw[hL] at hle hD hNB
 refine aO (fun (x:Nat×Nat)=>⟨49,[(4,.i .i64 x.1),(5,.i .i64 x.2),(1,.i .i64 n),(0,.ptr 0 b [] 0)],[(0,.var b (wV v s)),(1,.row v 5 1 (s.bs.map gy))]⟩) (fun x=>x.2≤n∧x.1+(dy x.2).length=L∧x.1≤8) (fun x=>x.2) [] (0,n) ⟨Nat.le_refl _,by simpa using hL,by omega⟩ ?_ ?_
 ·refine⟨rfl,?_,?_⟩<;>repeat' (first|exact J|refine ai ?_|exact af|exact cr.nil|exact ak _|refine bq Z ?_ ?_|with_reducible rfl|refine⟨?_,?_⟩|fail)
  all_goals rfl
 rintro⟨i,j⟩ ⟨hj,hij,hi8⟩
 dsimp only at hj hij hi8 ⊢
 repeat' (first|refine ae ?_|refine aj ?_|refine aa ?_|refine ac (ax ?_)|refine ac (db ?_)|refine ah (ax ?_)|refine aw (ax ?_)|(refine bc Z Z Z Z ?_ ?_;omega)|(refine dW Z Z Z Z ?_ ?_;omega)|refine aU ab (fun _=>?_)|refine aD ab Z Z Z Z Z Z Z ⟨rfl,rfl⟩ Z Z Z Z Z ?_|refine aI ab Z Z Z Z Z Z Z Z Z Z Z eo (fun _=>?_)|(refine bH ab Z Z Z Z Z Z Z Z Z (by first|exact J|exact rfl) Z Z (fun _=>rfl) ?_ ?_ (fun _=>?_);(exact dt);(exact dt))|(refine ao Z (fun hc=>?_) (fun hc=>?_))<;>try omega)
 ·have hd:=congrArg List.length (me (n:=j) (by omega))
  rw[List.length_append,List.length_singleton] at hd
  refine⟨(i+1,j / 256),[],⟨by show j / 256≤n;omega,by show i+1+(dy (j / 256)).length=L;omega,by show i+1≤8;omega⟩,by show j / 256<j;omega,?_⟩
  refine⟨rfl,?_,?_⟩<;>repeat' (first|exact J|refine ai ?_|exact af|exact cr.nil|exact ak _|refine bq Z ?_ ?_|with_reducible rfl|refine⟨?_,?_⟩|fail)
  all_goals first|rfl|(exact EI j 8)
 have hj0:j=0:=by omega
 subst hj0
 have hiL:i=L:=by rw[gC] at hij;simpa using hij
 subst hiL
 rename_i v1 _ _ _ _
 refine aO (fun (x:Nat×Value)=>⟨49,[(6,.i .i64 ((x.1:Int) - 1)),(1,.i .i64 n),(0,.ptr 0 b [] 0)],[(0,.var b (.agg [.own 1 x.2,.i .i64 s.e])),(1,.row x.2 5 1 ((s.bs++(UInt8.ofNat i::(dy n).take (i - x.1))).map gy))]⟩) (fun x=>x.1≤i) (fun x=>x.1) [] (i,v1) (Nat.le_refl _) ?_ ?_
 ·refine⟨rfl,?_,?_⟩<;>repeat' (first|exact J|refine ai ?_|exact af|exact cr.nil|exact ak _|refine bq Z ?_ ?_|refine aZ ?_|with_reducible rfl|refine⟨?_,?_⟩|fail)
  all_goals first|rfl|skip
  show List.map gy s.bs++[AV.i .u8 (IntKind.u8.wrap (i:Int))]=_
  rw[iy,Nat.sub_self,List.take_zero,List.map_append];rfl
 rintro⟨t,v2⟩ ht
 dsimp only at ht ⊢
 have hlen:(s.bs++(UInt8.ofNat i::(dy n).take (i - t))).length<2000000000000:=by simp;omega
 generalize hbs:s.bs++(UInt8.ofNat i::(dy n).take (i - t))=bs at hlen ⊢
 repeat' (first|refine ae ?_|refine aj ?_|refine aa ?_|refine ac (ax ?_)|refine ac (db ?_)|refine ah (ax ?_)|refine aw (bC ?_)|(refine dW Z Z Z Z ?_ ?_;omega)|(refine kL Z Z Z Z ?_ ?_;omega)|refine aU ab (fun _=>?_)|refine aD ab Z Z Z Z Z Z Z ⟨rfl,rfl⟩ Z Z Z Z Z ?_|refine aI ab Z Z Z Z Z Z Z Z Z Z Z eo (fun _=>?_)|(refine bH ab Z Z Z Z Z Z Z Z Z (by first|exact J|exact rfl) Z Z (fun _=>rfl) ?_ ?_ (fun _=>?_);(exact dt);(exact dt))|(refine ao Z (fun hc=>?_) (fun hc=>?_))<;>try omega|refine cg 11 [0,1] [39] [45] [0,1,2,3,5,6,7,8,9,4,10,11,12,13,14] aN aN aN Z Z Z ?_)
 ·rename_i v3 _ _ _ _
  have ht7:t - 1≤7:=by omega
  have htk:(dy n).take (i - (t - 1))=(dy n).take (i - t)++[UInt8.ofNat (n / 256^(t - 1))]:=by
   have h1:=hD (t - 1) (by omega)
   rw[show i - (t - 1)=(i - t)+1 by omega,List.take_add_one,show i - t=i - 1 - (t - 1) by omega,h1];rfl
  have hrow:List.map gy bs++[AV.i .u8 (IntKind.u8.wrap ((n:Int).fdiv (2^(min (8*((t:Int) - 1)).toNat (IntKind.bits .i64)))))]=List.map gy (s.bs++(UInt8.ofNat i::(dy n).take (i - (t - 1)))):=by
   rw[show ((t:Int) - 1)=((t - 1:Nat):Int) by omega,Lo n (t - 1) ht7,htk,←hbs,←List.cons_append,←List.append_assoc,List.map_append (l₂:=[_])];rfl
  refine⟨(t - 1,v3),[],by show t - 1≤i;omega,by show t - 1<t;omega,?_⟩
  refine⟨rfl,?_,?_⟩<;>repeat' (first|exact J|refine ai ?_|exact af|exact cr.nil|exact ak _|refine bq Z ?_ ?_|refine aZ ?_|with_reducible rfl|refine⟨?_,?_⟩|fail)
  all_goals first|rfl|exact hrow|(show (t:Int) - 1 - 1=((t - 1:Nat):Int) - 1;omega)
 ·have ht0:t=0:=by omega
  subst ht0
  refine dC Z [] [(0,_),(1,_)] (bq Z (ak _) (bq Z (ak _) .nil)) ⟨rfl,v2,?_⟩ _ cM
  rw[hW]
  show _=[HO.var b (wV v2 ⟨s.bs++ar n,s.e⟩),HO.row v2 _ 1 ((s.bs++ar n).map gy)]
  rw[hNB,←hbs,Nat.sub_zero,List.take_of_length_le (by omega)];rfl
def WS.text(s:WS)(t:List UInt8):WS:=if 65536<t.length then s.fail 2 else (s.number t.length).put t
def WS.done(s:WS):List UInt8×Int:=if s.e≠0 then ([],s.e) else if 65536<s.bs.length then ([],2) else (s.bs,0)
theorem bz(n:Nat)(h:n<9223372036854775808):(ar n).length≤9:=by
 have:=nF 8 n (by omega)
 unfold ar;rw[List.length_cons];omega
theorem WS.len_fail(s:WS)(x:Int):(s.fail x).bs=s.bs:=by unfold WS.fail;split<;>rfl
theorem WS.len_number(s:WS)(n:Int)(hn:n<9223372036854775808):(s.number n).bs.length≤s.bs.length+9:=by
 unfold WS.number
 split
 ·rw[WS.len_fail];omega
 ·unfold WS.put
  have:=bz n.toNat (by omega)
  show (s.bs++ar n.toNat).length≤_
  rw[List.length_append];omega
theorem uV(b:Nat)(c:Bool)(v:Value)(s:WS)(hs:s.bs.length≤1000000000000):aQ Tryz.prog 88 [.ptr 0 b [] 0,.b c] (kC b v s) (fun r os=>r= .tup []∧∃v',os=kC b v' (s.put [if c then 1 else 0])):=by
 refine aA ab [(0,.var b (wV v s)),(1,.row v 5 1 (s.bs.map gy))] Tryz.func88 Z Tryz.ntmps88 aN Z Z (fun C=>?_) Z
 repeat' (first|refine ae ?_|refine aa ?_|refine ac (ax ?_)|refine ac (bC ?_)|refine ah (ax ?_)|refine aU ab (fun _=>?_)|refine aD ab Z Z Z Z Z Z Z ⟨rfl,rfl⟩ Z Z Z Z Z ?_|refine aI ab Z Z Z Z Z Z Z Z Z Z Z eo (fun _=>?_)|(refine bH ab Z Z Z Z Z Z Z Z Z (by first|exact J|exact rfl) Z Z (fun _=>rfl) ?_ ?_ (fun _=>?_);(exact dt);(exact dt))|(refine ba Z (fun hc=>?_) (fun hc=>?_)))
 all_goals
  subst hc
  rename_i v2 _ _
  refine dC Z [] [(0,_),(1,_)] (bq Z (ak _) (bq Z (ak _) .nil)) ⟨rfl,v2,?_⟩ _ cM
  show [HO.var b (.agg [.own 1 v2,.i .i64 s.e]),HO.row v2 _ 1 (List.map gy s.bs++[_])]=[HO.var b (.agg [.own 1 v2,.i .i64 s.e]),HO.row v2 _ 1 ((s.bs++[_]).map gy)]
  rw[List.map_append];rfl
theorem jQ(b:Nat)(v:Value)(s:WS):aQ Tryz.prog 89 [.ptr 0 b [] 0] (kC b v s) (fun r os=>r= .tup [.s s.done.1,.i .i64 s.done.2]∧∃v',os=kC b v' s):=by
 refine aA ab [(0,.var b (wV v s)),(1,.row v 5 1 (s.bs.map gy))] Tryz.func89 Z Tryz.ntmps89 aN Z Z (fun C=>?_) Z
 repeat' (first|refine ae ?_|refine aa ?_|refine ac (ax ?_)|refine ah (ax ?_)|refine ap (bC ?_)|refine dA Z ab Z Z Z Z (fun _=>?_)|refine aU ab (fun _=>?_)|(refine ao Z (fun hc=>?_) (fun hc=>?_))<;>try omega|(refine bF Z (fun hc=>?_) (fun hc=>?_))<;>try omega|refine dJ ab Z Z Z Z Z (by first|exact J|exact rfl) Z Z Z Z ?_|refine cg 2 [] [] [] [0,1,2,4,3,5] aN aN aN Z Z Z ?_)
 ·have hn:s.done=([],s.e):=by unfold WS.done;rw[if_pos hc]
  refine cS [] [(0,_),(1,_)] (.tup [.s _,.i .i64 _]) Z ?_ ?_ (aW (av _) (av _) Z Z) (bq Z (ak _) (bq Z (ak _) .nil)) ⟨by rw[hn],v,rfl⟩ _ (.inl Z)
  all_goals exact⟨trivial,trivial,trivial⟩
 ·have hn:s.done=([],2):=by unfold WS.done;rw[if_neg (by simpa using by assumption),if_pos (by omega)]
  refine cS [] [(0,_),(1,_)] (.tup [.s _,.i .i64 _]) Z ?_ ?_ (aW (av _) (av _) Z Z) (bq Z (ak _) (bq Z (ak _) .nil)) ⟨by rw[hn],v,rfl⟩ _ (.inl Z)
  all_goals exact⟨trivial,trivial,trivial⟩
 ·have hn:s.done=(s.bs,0):=by unfold WS.done;rw[if_neg (by simpa using by assumption),if_neg (by omega)]
  refine cS [] [(0,_),(1,_)] (.tup [.s _,.i .i64 _]) Z ?_ ?_ (aW (av _) (av _) Z Z) (bq Z (ak _) (bq Z (ak _) .nil)) ⟨by rw[hn],v,rfl⟩ _ (.inl Z)
  all_goals exact⟨trivial,trivial,trivial⟩
theorem g9(b:Nat)(t:List UInt8)(v:Value)(s:WS)(hs:s.bs.length≤900000000000):aQ Tryz.prog 87 [.ptr 0 b [] 0,.s t] (kC b v s) (fun r os=>r= .tup []∧∃v',os=kC b v' (s.text t)):=by
 refine aA ab [(0,.var b (wV v s)),(1,.row v 5 1 (s.bs.map gy))] Tryz.func87 Z Tryz.ntmps87 aN Z Z (fun C=>?_) Z
 repeat' (first|refine ae ?_|refine aa ?_|refine ac (ax ?_)|refine ah (ax ?_)|refine aU ab (fun _=>?_)|(refine ao Z (fun hc=>?_) (fun hc=>?_))<;>try omega)
 ·refine bx [] [0,1] [0,1] Z (uW b 2 v s) ⟨af,ai Z,J⟩ Z dD Z Z ?_
  rintro r os' ⟨rfl,v',rfl⟩;refine⟨_,rfl,rfl,?_⟩
  repeat' (first|refine ac (ax ?_)|refine ap (bC ?_))
  refine dC Z [] [(0,_),(1,_)] (bq Z (ak _) (bq Z (ak _) .nil)) ⟨rfl,v',?_⟩ _ cM
  unfold WS.text;rw[if_pos (by omega)];rfl
 ·refine bx [] [0,1] [0,1] Z (eK b (t.length:Int) (by omega) v s (by omega)) ⟨af,ai Z,J⟩ Z dD Z Z ?_
  rintro r os' ⟨rfl,v',rfl⟩;refine⟨_,rfl,rfl,?_⟩
  have hl:=WS.len_number s (t.length:Int) (by omega)
  repeat' (first|refine aa ?_|refine ac (ax ?_)|refine ac (bC ?_)|refine aU ab (fun _=>?_)|refine aD ab Z Z Z Z Z Z Z ⟨rfl,rfl⟩ Z Z Z Z Z ?_|(refine jg ab Z Z Z Z Z Z Z Z Z (fun _=>rfl) ?_ (fun _=>?_);(exact dt)))
  rename_i v2 _ _
  refine dC Z [] [(0,_),(1,_)] (bq Z (ak _) (bq Z (ak _) .nil)) ⟨rfl,v2,?_⟩ _ cM
  have hn:s.text t=(s.number t.length).put t:=by unfold WS.text;rw[if_neg (by omega)]
  rw[hn]
  show _=[HO.var b (wV v2 ⟨(s.number t.length).bs++t,(s.number t.length).e⟩),HO.row v2 _ 1 (((s.number t.length).bs++t).map gy)]
  rw[List.map_append];rfl
def gl(t:List UInt8):List UInt8:=ar t.length++t
theorem B6(s:List UInt8)(n:Nat)(hn:n≤1000000000000):aQ Tryz.prog 76 [.s s,.i .i64 n] [] (fun v os=>v= .s (s.take n)∧os=[]):=by
 refine aA ab [] Tryz.func76 Z Tryz.ntmps76 aN Z Z (fun C=>?_) Z
 repeat' (first|refine ae ?_|refine aa ?_|refine ac (ax ?_)|refine ah (ax ?_)|refine ap (bC ?_)|refine aU ab (fun _=>?_)|(refine ao Z (fun hc=>?_) (fun hc=>?_))<;>try omega)
 ·refine dK ab Z 0 n Z Z Z da (cn Z Z) (by omega) (by omega) ?_
  repeat' (first|refine ac (ax ?_)|refine ap (bC ?_)|refine aU ab (fun _=>?_))
  exact jh
 ·refine bp Z Z Z [] [] (am ?_) .nil ⟨rfl,rfl⟩ _ (.inl Z)
  rw[List.take_of_length_le (by omega)];rfl
structure aC where
 k:List UInt8
 v:List UInt8
 g:Bool
def eA(e:aC):AV:=.agg [.s e.k,.s e.v,.b e.g]
def Ni(e:aC):aC:=⟨e.k.take 110,e.v.take 4010,e.g⟩
def iG(l:List aC)(n:Nat):List aC:=(l.take n).map Ni
theorem Gz(l:List aC)(k:Nat)(h:k<l.length):iG l (k+1)=iG l k++[Ni (l[k]'h)]:=by
 unfold iG;rw[List.take_succ_eq_append_getElem h,List.map_append];rfl
theorem l9(l:List aC)(n:Nat):(iG l n).length≤n:=by unfold iG;rw[List.length_map,List.length_take];omega
theorem wj(l:List aC)(n:Nat):∀e∈iG l n,e.k.length≤110∧e.v.length≤4010:=by
 intro e he
 obtain⟨t,_,rfl⟩:=List.mem_map.1 he
 exact⟨by show (t.k.take 110).length≤110;rw[List.length_take];omega,by show (t.v.take 4010).length≤4010;rw[List.length_take];omega⟩
def ms:List UInt8→List UInt8→Nat
 |a::xs,b::ys=>if a=b then ms xs ys+1 else 0
 |_,_=>0
theorem qU:∀(a b:List UInt8),ms a b≤a.length∧ms a b≤b.length
 |[],_=>⟨by simp[ms],by simp[ms]⟩
 |_::_,[]=>⟨by simp[ms],by simp[ms]⟩
 |a::xs,b::ys=>by
  have:=qU xs ys
  unfold ms;split<;>simp<;>omega
theorem IW:∀(a b:List UInt8) (n:Nat),n<ms a b→∀(ha:n<a.length) (hb:n<b.length),a[n]=b[n]
 |[],_,n,h,_,_=>by simp[ms] at h
 |_::_,[],n,h,_,_=>by simp[ms] at h
 |a::xs,b::ys,n,h,ha,hb=>by
  unfold ms at h
  split at h
  ·cases n with
   |zero=>assumption
   |succ n=>exact IW xs ys n (by omega) (by simpa using ha) (by simpa using hb)
  ·omega
theorem IX:∀(a b:List UInt8) (ha:ms a b<a.length) (hb:ms a b<b.length),a[ms a b]≠b[ms a b]
 |[],_,ha,_=>by simp at ha
 |_::_,[],_,hb=>by simp at hb
 |a::xs,b::ys,ha,hb=>by
  unfold ms at ha hb ⊢
  by_cases h:a=b
  ·simp only[if_pos h] at ha hb ⊢
   exact IX xs ys (by simpa using ha) (by simpa using hb)
  ·simp only[if_neg h] at ha hb ⊢
   exact h
theorem oW(a b:List UInt8)(hal:a.length≤1000000000000)(_hbl:b.length≤1000000000000):aQ Tryz.prog 154 [.s a,.s b] [] (fun v os=>v= .i .i64 (ms a b:Nat)∧os=[]):=by
 refine aA ab [] Tryz.func154 Z Tryz.ntmps154 aN Z Z (fun C=>?_) Z
 repeat' (first|refine ae ?_|refine aj ?_|refine aa ?_|refine ac (ax ?_)|refine aU ab (fun _=>?_))
 refine aO (fun n:Nat=>⟨28,[(5,.i .i64 n),(0,.s a),(1,.s b)],[]⟩) (fun n=>n≤ms a b) (fun n=>ms a b - n) [] 0 (Nat.zero_le _) ?_ ?_
 ·exact⟨rfl,⟨ai Z,cY Z,cY Z,J⟩,.nil⟩
 intro n hn
 obtain⟨h1,h2⟩:=qU a b
 have hlt:=IW a b n
 have hat:=IX a b
 generalize ms a b=c at hn h1 h2 hlt hat ⊢
 by_cases hnc:n<c
 ·have hna:n<a.length:=by omega
  have hnb:n<b.length:=by omega
  have he:a[n].toNat=b[n].toNat:=by rw[hlt hnc hna hnb]
  repeat' (first|refine ae ?_|refine aj ?_|refine aa ?_|refine ac (ax ?_)|refine ac (db ?_)|refine ah (ax ?_)|(refine bc Z Z Z Z ?_ ?_;omega)|refine aU ab (fun _=>?_)|(refine gE ab Z Z Z Z Z ?_ (aE ?_) ?_;omega;omega)|(fail_if_success (refine aM Z cM ?_));(refine aV Z Z (fun hc=>?_) (fun hc=>?_)<;>try omega)|(refine ao Z (fun hc=>?_) (fun hc=>?_))<;>try omega|refine cg 2 [] [] [] [0,1,2,3,4,5,6,7,8,9,10,11,12,13,14,15,16,17,18] aN aN aN Z Z Z ?_)
  exact⟨n+1,[],by omega,by omega,rfl,⟨ai (by omega),cY Z,cY Z,J⟩,.nil⟩
 ·have hnc:n=c:=by omega
  subst hnc
  by_cases hna:n<a.length
  ·by_cases hnb:n<b.length
   ·have he:¬ a[n].toNat=b[n].toNat:=fun h=>hat hna hnb (UInt8.toNat_inj.1 h)
    repeat' (first|refine ae ?_|refine aa ?_|refine ac (ax ?_)|refine aw (ax ?_)|refine ap (bC ?_)|refine aU ab (fun _=>?_)|(refine gE ab Z Z Z Z Z ?_ (aE ?_) ?_;omega;omega)|(fail_if_success (refine aM Z cM ?_));(refine aV Z Z (fun hc=>?_) (fun hc=>?_)<;>try omega)|(refine ao Z (fun hc=>?_) (fun hc=>?_))<;>try omega|refine cg 2 [] [] [] [0,1,2,3,4,5,6,7,8,9,10,11,12,13,14,15,16,17,18] aN aN aN Z Z Z ?_)
    all_goals exact jh
   ·repeat' (first|refine ae ?_|refine aa ?_|refine ac (ax ?_)|refine aw (ax ?_)|refine ap (bC ?_)|refine d9 Z Z Z cM ?_|refine aU ab (fun _=>?_)|(fail_if_success (refine aM Z cM ?_));(refine aV Z Z (fun hc=>?_) (fun hc=>?_)<;>try omega)|refine aB Z ?_|refine cg 2 [] [] [] [0,1,2,3,4,5,6,7,8,9,10,11,12,13,14,15,16,17,18] aN aN aN Z Z Z ?_)
    all_goals exact jh
  ·repeat' (first|refine ae ?_|refine aa ?_|refine ac (ax ?_)|refine aw (ax ?_)|refine ap (bC ?_)|refine d9 Z Z Z cM ?_|refine aU ab (fun _=>?_)|(fail_if_success (refine aM Z cM ?_));(refine aV Z Z (fun hc=>?_) (fun hc=>?_)<;>try omega)|refine aB Z ?_|refine cg 2 [] [] [] [0,1,2,3,4,5,6,7,8,9,10,11,12,13,14,15,16,17,18] aN aN aN Z Z Z ?_)
   all_goals exact jh
theorem GA(l:List aC)(hl:l.length≤9223372036854775807)(n:Nat)(hn:n≤1000000):aQ Tryz.prog 31 [.sl 3 (l.map eA),.i .i64 n] [] (fun v os=>v= .sl 3 ((iG l n).map eA)∧os=[]):=by
 refine aA ab [] Tryz.func31 Z Tryz.ntmps31 aN Z Z (fun C=>?_) Z
 repeat' (first|refine ae ?_|refine aj ?_|refine aa ?_|refine ac (ax ?_)|refine aU ab (fun _=>?_)|refine aI ab Z Z Z Z Z Z Z Z Z Z Z eo (fun _=>?_))
 rename_i _ v8 _ _
 refine aO (fun q:Nat×Value=>⟨37,[(6,.i .i64 q.1),(5,.own 8 q.2),(0,.sl 3 (l.map eA)),(1,.i .i64 n)],[(8,.row q.2 47 3 ((iG l q.1).map eA))]⟩) (fun q=>q.1≤l.length∧q.1≤n) (fun q=>l.length - q.1) [] (0,v8) ⟨Nat.zero_le _,Nat.zero_le _⟩ ?_ ?_
 ·exact⟨rfl,⟨ai Z,aJ,ay Z,ai Z,J⟩,bq Z (ak _) .nil⟩
 rintro⟨k,v⟩ ⟨hk,hkn⟩
 dsimp only at hk hkn ⊢
 have hfl:=l9 l k
 have hsu:=fun h=>Gz l k h
 have hend:¬ (k<l.length∧k<n)→iG l n=iG l k:=fun h=>by
  unfold iG
  by_cases h1:k=n
  ·rw[h1]
  ·rw[List.take_of_length_le (show l.length≤n by omega),List.take_of_length_le (show l.length≤k by omega)]
 generalize iG l k=out at hfl hsu hend ⊢
 repeat' (first|refine ae ?_|refine aj ?_|refine aa ?_|refine ac (ax ?_)|refine ac (db ?_)|refine ah (ax ?_)|refine aw (ax ?_)|refine ap (bC ?_)|refine d9 Z Z Z cM ?_|(refine bc Z Z Z Z ?_ ?_;omega)|refine br Z ab Z Z Z (fun _=>?_)|refine aU ab (fun _=>?_)|refine aF (d:=7) Z ab Z Z Z (fun b7=>?_)|refine aD ab Z Z Z Z Z Z Z ⟨rfl,rfl⟩ Z Z Z Z Z ?_|(refine aK Z ab Z Z Z Z Z Z ?_ (aE ?_) ?_;omega;omega)|refine cd ab Z Z Z Z Z Z eo ?_|refine aI ab Z Z Z Z Z Z Z Z Z Z Z eo (fun _=>?_)|(refine bH ab Z Z Z Z Z Z Z Z Z (by first|exact J|exact rfl) Z Z (fun _=>rfl) ?_ ?_ (fun _=>?_);(exact dt);(exact dt))|(fail_if_success (refine aM Z cM ?_));(refine aV Z Z (fun hc=>?_) (fun hc=>?_)<;>try omega)|refine aB Z ?_|(refine ao Z (fun hc=>?_) (fun hc=>?_))<;>try omega|refine cg 6 [8] [26] [34] [0,1,4,7,2,5,8,3,6,9,10,11,12] aN aN aN Z Z Z ?_|(refine gg Z (B6 _ 110 (by decide)) ⟨aP,aP,J⟩ Z ?_;rintro _ _ ⟨rfl,rfl⟩;refine⟨rfl,?_⟩)|(refine gg Z (B6 _ 4010 (by decide)) ⟨aP,aP,J⟩ Z ?_;rintro _ _ ⟨rfl,rfl⟩;refine⟨rfl,?_⟩))
 ·refine⟨(k+1,_),[],⟨by show k+1≤l.length;omega,by show k+1≤n;omega⟩,by show l.length - (k+1)<l.length - k;omega,rfl,⟨ai (by show (k:Int)+1=((k+1:Nat):Int);omega),aJ,ay Z,ai Z,J⟩,cr.cons 8 Z (aZ ?_) .nil⟩
  rw[hsu (by omega),List.map_append];rfl
 ·refine bp Z Z Z [8] [] (bP ?_) .nil ⟨rfl,rfl⟩ _ (.inl Z)
  rw[hend (by omega)];exact .head _
 ·refine bp Z Z Z [8] [] (bP ?_) .nil ⟨rfl,rfl⟩ _ (.inl Z)
  rw[hend (by omega)];exact .head _
set_option maxHeartbeats 8000000
def wm(x y:aC):Bool:=x.k==y.k&&(x.v==y.v&&x.g==y.g)
theorem yr{x y:aC}:wm x y=true↔x=y:=by
 cases x;cases y;simp[wm]
theorem Ol(l:List UInt8):(bf l).toList=l:=ByteArray.toList_eq _
theorem JZ(x y:aC)(w:World):(binOp .neq 47 (.agg #[.string (bf x.k),.string (bf x.v),.bool x.g]) (.agg #[.string (bf y.k),.string (bf y.v),.bool y.g])).run Tryz.prog w= .ok (.bool (!wm x y)) w:=by
 have hS:Tryz.prog.underlying 47=some (.struct (Tryz.prog.fieldsOf 47)):=by kernel_rfl
 have hh:Tryz.prog.stoodInHeld 47=false:=by kernel_rfl
 rw[run_neq_struct,run_equalIn_agg w 9999 _ _ _ hS hh]
 simp only[Program.fieldsOf,Tryz.underlying47]
 simp[go_sem,wm]
 simp only[Ol]
 by_cases h1:x.k=y.k<;>by_cases h2:x.v=y.v<;>by_cases h3:x.g=y.g<;>simp[h1,h2,h3]
theorem II{w:World}{F:Nat→Prop}{x:aC}{v:Value}(h:cL w F (eA x) v):v= .agg #[.string (bf x.k),.string (bf x.v),.bool x.g]:=by
 obtain⟨cs,hc,he⟩:=h
 simp only[eA,bw,fK] at hc
 obtain⟨c1,c2,rfl,⟨rfl,_⟩,c3,c4,rfl,⟨rfl,_⟩,c5,c6,rfl,rfl,rfl⟩:=hc
 rw[he];rfl
section
variable {m:OM} {C:il} {ops:Array Oper} {l:List Oper} {K:St→Prop} {n:Nat} {sl:List (Nat×AV)} {hp:List (Nat×HO)} {d:Nat} {ty:Nat} {pos:String} {aft:Array Edge} {gd:Option (Nat×Bool)}
theorem AX(hw:cH ops ⟨n,sl,hp⟩ gd=bE gd){u:Nat}{x y:Operand}(p q:aC)(hx:ev ⟨n,sl,hp⟩ x=eA p)(hy:ev ⟨n,sl,hp⟩ y=eA q)(hd:Nat.blt d n=true)
 (h:aq m Tryz.prog C ops l ⟨n,(d,.b (!wm p q))::sl,hp⟩ K):aq m Tryz.prog C ops (⟨some d,.binOp .neq 47 x y u,ty,pos,aft,gd⟩::l) ⟨n,sl,hp⟩ K:=by
 refine eI (d:=some d) hw none cT hd Z (fun a w hs=>?_) h
 have Ex:=bg hs x
 have Ey:=bg hs y
 rw[hx] at Ex
 rw[hy] at Ey
 have Ex:=II Ex
 have Ey:=II Ey
 refine⟨_,gr.2 Z,fun w' _=>?_⟩
 have hgd:=run_eqGuard_agg (P:=Tryz.prog) w' .neq 47 x y #[.string (bf p.k),.string (bf p.v),.bool p.g] #[.string (bf q.k),.string (bf q.v),.bool q.g] aN
 simp only[execOp,Ex,Ey,Sem.run_bind,hgd,JZ,Result.andThen_ok,Sem.run_pure]
end
section
variable {m:OM} {P:Program} {T:List (Nat×TI)} {C:il} {ops:Array Oper} {l:List Oper} {K:St→Prop} {n:Nat} {sl:List (Nat×AV)} {hp:List (Nat×HO)} {d:Nat} {ty:Nat} {pos:String} {aft:Array Edge} {gd:Option (Nat×Bool)}
theorem aQ.le{f:FuncId}{args:List AV}{os:List HO}{R R':AV→List HO→Prop}(h:aQ P f args os R)(hr:∀r os',R r os'→∃r',gY [] r r'∧R' r' os'):aQ P f args os R':=
 ⟨h.fn,fun w vals F h1 h2 h3=>(h.run w vals F h1 h2 h3).mono fun e w' ⟨v,r,os',e1,e2,e3,e4,e5,e6⟩=>by
  obtain⟨r',hle,hr'⟩:=hr r os' e2
  exact⟨v,r',os',e1,hr',e3,e4,e5,hle w' _ v (fun z hz=>by cases hz) e6⟩⟩
theorem bh(hw:cH ops ⟨n,sl,hp⟩ gd=bE gd){f:FuncId}{args:Array Operand}{ats:Array TypeId}{as_:List AV}{x0:Operand}{xs:List Operand}{key b:Nat}{ho o:HO}{H1:List (Nat×HO)}{R:AV→List HO→Prop}
 (_hx0:args.toList=x0::xs)(_hk:ev ⟨n,sl,hp⟩ x0= .ptr key b [] 0)(htk:kY hp [key]=some ([ho],H1))
 (hspec:aQ P f as_ [o] R)(hargs:gU [] (args.toList.map (ev ⟨n,sl,hp⟩)) as_)(hos:aG [] ho o)(hd:Nat.blt d n=true)(hm:m.oke (some d) [key]=true)
 (h:∀r os',R r os'→∃o',os'=[o']∧∃H2,fG ((key,o')::H1)=some H2∧aq m P C ops l ⟨n,(d,r)::sl,H2⟩ K):
 aq m P C ops (⟨some d,.call ⟨.value (.func f),args,ats⟩,ty,pos,aft,gd⟩::l) ⟨n,sl,hp⟩ K:=
 bx [] [key] [key] hw hspec hargs htk ⟨hos,trivial⟩ hd hm (fun r os' hr=>by
  obtain⟨o',rfl,H2,h1,h2⟩:=h r os' hr
  exact⟨H2,h1,rfl,h2⟩)
theorem cJ(hw:cH ops ⟨n,sl,hp⟩ gd=bE gd){f:FuncId}{args:Array Operand}{ats:Array TypeId}{as_:List AV}{x0:Operand}{xs:List Operand}{key b k2:Nat}{v:Value}{fs:List AV}{ho ho2 o o2:HO}{H1:List (Nat×HO)}{R:AV→List HO→Prop}
 (_hx0:args.toList=x0::xs)(_hk:ev ⟨n,sl,hp⟩ x0= .ptr key b [] 0)(_hg:bU hp key=some (.var b (.agg (.own k2 v::fs))))(htk:kY hp [key,k2]=some ([ho,ho2],H1))
 (hspec:aQ P f as_ [o,o2] R)(hargs:gU [] (args.toList.map (ev ⟨n,sl,hp⟩)) as_)(hos:aG [] ho o)(hos2:aG [] ho2 o2)(hd:Nat.blt d n=true)(hm:m.oke (some d) [key,k2]=true)
 (h:∀r os',R r os'→∃o' o2',os'=[o',o2']∧∃H2,fG ((key,o')::(k2,o2')::H1)=some H2∧aq m P C ops l ⟨n,(d,r)::sl,H2⟩ K):
 aq m P C ops (⟨some d,.call ⟨.value (.func f),args,ats⟩,ty,pos,aft,gd⟩::l) ⟨n,sl,hp⟩ K:=
 bx [] [key,k2] [key,k2] hw hspec hargs htk ⟨hos,hos2,trivial⟩ hd hm (fun r os' hr=>by
  obtain⟨o',o2',rfl,H2,h1,h2⟩:=h r os' hr
  exact⟨H2,h1,rfl,h2⟩)
theorem pS(hw:cH ops ⟨n,sl,hp⟩ gd=bE gd){f:FuncId}{args:Array Operand}{ats:Array TypeId}{as_:List AV}{c:AV}
 (hspec:aQ P f as_ [] (fun v os=>∃b,v= .ptr 0 b [] 0∧os=[.var b c]))(hargs:gU [] (args.toList.map (ev ⟨n,sl,hp⟩)) as_)(hd:Nat.blt d n=true)
 (h:∀b,aq m P C ops l ⟨n,(d,.ptr d b [] 0)::sl,(d,.var b c)::hp⟩ K):
 aq m P C ops (⟨some d,.call ⟨.value (.func f),args,ats⟩,ty,pos,aft,gd⟩::l) ⟨n,sl,hp⟩ K:=
 aq.call hw [] [] [d] (hspec.le (R':=fun v os=>∃b,v= .ptr d b [] 0∧os=[.var b c]) (fun r os' ⟨b,h1,h2⟩=>⟨.ptr d b [] 0,h1▸af,b,rfl,h2⟩)) hargs Z trivial hd eZ (fun r os' hr=>by
  obtain⟨b,rfl,rfl⟩:=hr
  exact⟨rfl,h b⟩)
end
end Go.Proofs.YtginkbjclkdglaaGreat
