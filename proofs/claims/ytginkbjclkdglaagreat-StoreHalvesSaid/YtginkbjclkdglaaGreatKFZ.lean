/- law02.few and ref02's Open, Fail, Take by rules. -/
import Derived.Test.YtginkbjclkdglaaGreatKR2Z
import Derived.Test.YtginkbjclkdglaaGreatV13Z
import Derived.Test.YtginkbjclkdglaaGreatKWZ
import Derived.Test.YtginkbjclkdglaaGreatST3Z
import Derived.Test.YtginkbjclkdglaaGreatS2Z
import Derived.Test.YtginkbjclkdglaaGreatB2Z
import Derived.Test.YtginkbjclkdglaaGreatV18Z
set_option maxHeartbeats 4000000
namespace Go.Proofs.YtginkbjclkdglaaGreat
open Go Go.RowKit
set_option maxHeartbeats 8000000
theorem take_nil{r:RS}(hok:r.ok){n:Nat}(hn:0<n):(r.take n).1=[]↔(r.take n).2.e≠0:=by
 obtain⟨h1,h2⟩:=hok
 unfold RS.take
 split
 ·rename_i h;exact⟨fun _=>h,fun _=>rfl⟩
 ·split
  ·exact⟨fun _=>by show (5:Int)≠0;decide,fun _=>rfl⟩
  ·refine⟨fun h=>?_,fun h=>absurd Z h⟩
   have:((r.s.drop r.p).take n).length=0:=by rw[show (r.s.drop r.p).take n=[] from h];rfl
   rw[List.length_take,List.length_drop] at this
   omega
set_option maxHeartbeats 16000000
def RS.label(r:RS):List UInt8×RS:=((r.take 32).1++List.replicate (32 - (r.take 32).1.length) 0,(r.take 32).2)
structure Nl where
 k:Int
 n:Int
 s:List UInt8
 l:List UInt8
def Ov(t:Nl):AV:=.agg [.i .i64 t.k,.i .i64 t.n,.s t.s,NJ t.l]
def RS.rest(r:RS):List UInt8:=r.s.drop r.p
theorem RS.rest_len(r:RS):r.rest.length=r.s.length - r.p:=by unfold RS.rest;rw[List.length_drop]
theorem RS.take_ok(r:RS)(he:r.e=0)(n:Nat)(h:n≤r.rest.length):r.take n=(r.rest.take n,⟨r.s,r.p+n,0⟩):=by
 rw[RS.rest_len] at h
 unfold RS.take RS.rest
 rw[if_neg (by simpa using he),if_neg (by omega)]
theorem RS.rest_step(s:List UInt8)(p n:Nat)(e:Int):(RS.mk s (p+n) e).rest=(RS.mk s p 0).rest.drop n:=by unfold RS.rest;rw[List.drop_drop]
theorem yD(n:Nat):be (dy n)=n:=by
 induction n using Nat.strongRecOn with
 |_ n ih=>
  by_cases h:n=0
  ·subst h;rw[gC];rfl
  ·rw[me h,Fm,ih (n / 256) (by omega),UInt8.toNat_ofNat'];omega
theorem BZ(n:Nat)(h:n≠0):∃c l,dy n=c::l∧c.toNat≠0:=by
 induction n using Nat.strongRecOn with
 |_ n ih=>
  rw[me h]
  by_cases h0:n / 256=0
  ·rw[h0,gC];exact⟨_,[],rfl,by rw[UInt8.toNat_ofNat'];omega⟩
  ·obtain⟨c,l,e,hc⟩:=ih (n / 256) (by omega) h0
   rw[e];exact⟨c,l++[_],rfl,hc⟩
theorem Nj(c:UInt8)(l:List UInt8):c.toNat*256^l.length≤be (c::l):=by
 rw[zQ];omega
theorem xo(n:Nat)(hn:n<9223372036854775808):ku (dy n).length (dy n)=false:=by
 by_cases h:n=0
 ·subst h;rw[gC];rfl
 ·obtain⟨c,l,e,hc⟩:=BZ n h
  have hb:=Nj c l
  rw[←e,yD] at hb
  rw[e]
  unfold ku
  simp only[Bool.or_eq_false_iff,beq_eq_false_iff_ne,Bool.and_eq_false_imp,beq_iff_eq,decide_eq_false_iff_not,Nat.not_lt]
  refine⟨hc,fun h8=>?_⟩
  have hl:l.length=7:=by simp at h8;omega
  rw[hl] at hb
  omega
theorem xa(n:Nat)(hn:n<9223372036854775808):∃c,ar n=c::dy n∧c.toNat=(dy n).length:=⟨_,rfl,by
 have:=nF 8 n (by omega)
 rw[UInt8.toNat_ofNat'];omega⟩
theorem RS.number_reads(r:RS)(he:r.e=0)(n:Nat)(hn:n<9223372036854775808)(t:List UInt8)(h:r.rest=ar n++t):r.number=(n,⟨r.s,r.p+(ar n).length,0⟩):=by
 obtain⟨c,hc,hcl⟩:=xa n hn
 have h8:=nF 8 n (by omega)
 rw[hc] at h
 have h1:r.take 1=([c],⟨r.s,r.p+1,0⟩):=by rw[RS.take_ok r he 1 (by rw[h];simp),h];rfl
 have hr:(RS.mk r.s (r.p+1) 0).rest=dy n++t:=by
  rw[RS.rest_step];show r.rest.drop 1=_;rw[h];rfl
 have h2:(RS.mk r.s (r.p+1) 0).take c.toNat=(dy n,⟨r.s,r.p+1+(dy n).length,0⟩):=by
  rw[hcl,RS.take_ok _ Z _ (by rw[hr];simp),hr,List.take_left]
 unfold RS.number
 rw[h1]
 have hb0:rS [c]=c.toNat:=rfl
 simp only[hb0]
 rw[if_neg (by simp),if_neg (by omega),h2]
 simp only[]
 rw[if_neg (by rw[hcl,xo n hn];simp),yD,hc,List.length_cons]
 rw[show r.p+1+(dy n).length=r.p+((dy n).length+1) by omega]
def bK(s:List UInt8):List UInt8:=ar s.length++s
theorem RS.text_reads(r:RS)(he:r.e=0)(s:List UInt8)(hs:s.length≤65536)(t:List UInt8)(h:r.rest=bK s++t):r.text=(s,⟨r.s,r.p+(bK s).length,0⟩):=by
 unfold bK at h ⊢
 rw[List.append_assoc] at h
 have h1:=RS.number_reads r he s.length (by omega) _ h
 have hr:(RS.mk r.s (r.p+(ar s.length).length) 0).rest=s++t:=by
  rw[RS.rest_step];show r.rest.drop _=_;rw[h,List.drop_left]
 have h2:(RS.mk r.s (r.p+(ar s.length).length) 0).take s.length=(s,⟨r.s,r.p+(ar s.length).length+s.length,0⟩):=by
  rw[RS.take_ok _ Z _ (by rw[hr,List.length_append];omega),hr,List.take_left]
 unfold RS.text RS.big
 rw[h1]
 simp only[]
 rw[if_neg (by omega),h2,List.length_append,Nat.add_assoc]
theorem RS.flag_reads(r:RS)(he:r.e=0)(c:Bool)(t:List UInt8)(h:r.rest=(if c then 1 else 0)::t):r.flag=(c,⟨r.s,r.p+1,0⟩):=by
 unfold RS.flag
 rw[RS.take_ok r he 1 (by rw[h];simp),h]
 cases c<;>rfl
def NC(t:Nl):List UInt8:=if t.k=1 then ar t.n.toNat else if t.k=2 then bK t.s else if t.k=3 then t.l else if t.k=4 then [if 0<t.n then 1 else 0] else []
def WS.thing(w:WS)(t:Nl):WS:=if t.k=1 then w.number t.n else if t.k=2 then w.text t.s else if t.k=3 then w.put t.l else if t.k=4 then w.put [if 0<t.n then 1 else 0] else w
def WS.things(w:WS)(l:List Nl):WS:=l.foldl WS.thing w
def Ow(t:Nl):Prop:=(t.k=1→0≤t.n)∧(t.k=2→t.s.length≤65536)
set_option maxRecDepth 100000
def rC(x:aC):List UInt8:=(gl x.k++[if x.g then 1 else 0])++gl x.v
def batK(l:List aC)(k:Nat):List UInt8:=ar l.length++((l.take k).map rC).flatten
def ey(l:List aC):List UInt8:=batK l l.length
theorem yG(l:List aC)(k:Nat)(h:k<l.length):batK l (k+1)=((batK l k++gl l[k].k)++[if l[k].g then 1 else 0])++gl l[k].v:=by
 unfold batK rC
 rw[List.take_succ_eq_append_getElem h,List.map_append,List.flatten_append]
 simp
theorem HE{x:aC}(h:x.k.length≤10000∧x.v.length≤10000):(rC x).length≤20019:=by
 have h1:=eL x.k (by omega)
 have h2:=eL x.v (by omega)
 unfold rC
 simp only[List.length_append,List.length_singleton]
 omega
theorem wL{l:List aC}(hl:l.length≤256)(hm:∀e∈l,e.k.length≤10000∧e.v.length≤10000):∀k,k≤l.length→(batK l k).length≤9+20019*k
 |0,_=>by
  have h1:=bz l.length (by omega)
  unfold batK
  rw[List.take_zero,List.map_nil,List.flatten_nil,List.append_nil];omega
 |k+1,h=>by
  have ih:=wL hl hm k (by omega)
  have h1:=HE (hm l[k] (List.getElem_mem (by omega)))
  unfold batK at ih ⊢
  rw[List.take_succ_eq_append_getElem (by omega),List.map_append,List.flatten_append,List.map_singleton,List.flatten_singleton,←List.append_assoc,List.length_append]
  omega
theorem CM(l:List aC)(hl:l.length≤256)(hm:∀e∈l,e.k.length≤10000∧e.v.length≤10000):aQ Tryz.prog 43 [.sl 3 (l.map eA)] [] (fun v os=>v= .tup [.s (if 65536<(ey l).length then [] else ey l),.i .i64 (if 65536<(ey l).length then 2 else 0)]∧os=[]):=by
 refine aA ab [] Tryz.func43 Z Tryz.ntmps43 aN Z Z (fun C=>?_) Z
 have hTl:=wL hl hm l.length (Nat.le_refl _)
 have hTe:ey l=batK l l.length:=rfl
 repeat' (first|refine ae ?_|refine aa ?_|refine ac (ax ?_)|refine br Z ab Z Z Z (fun _=>?_)|refine aU ab (fun _=>?_)|refine aF (d:=4) Z ab Z Z Z (fun b4=>?_))
 refine gJ [] (S':=⟨29,[(8,.i .i64 l.length),(4,.ptr 4 b4 [] 0),(0,.sl 3 (l.map eA))],[(4,.var b4 (wV (.slice none 0 0) ⟨[],0⟩)),(1,.row (.slice none 0 0) 5 1 [])]⟩) ⟨rfl,⟨ai Z,af,ay Z,J⟩,cr.cons 4 Z (bW (bS (.cons dz (.cons (av _) .nil)))) (.none .nil)⟩ ?_
 have hw0:∀v,aQ Tryz.prog 86 [.ptr 0 b4 [] 0,.i .i64 l.length] (kC b4 v ⟨[],0⟩) (fun r os=>r= .tup []∧∃v',os=kC b4 v' ⟨batK l 0,0⟩):=fun v=>by
  have h:=eK b4 l.length (by omega) v ⟨[],0⟩ (by decide)
  rw[im] at h
  unfold batK
  rw[List.take_zero,List.map_nil,List.flatten_nil,List.append_nil];exact h
 have ht:∀(bs t:List UInt8),t.length≤10000→bs.length≤6000000→∀v,aQ Tryz.prog 87 [.ptr 0 b4 [] 0,.s t] (kC b4 v ⟨bs,0⟩) (fun r os=>r= .tup []∧∃v',os=kC b4 v' ⟨bs++gl t,0⟩):=fun bs t k1 k2 v=>by
  have h:=g9 b4 t v ⟨bs,0⟩ (by show bs.length≤_;omega)
  rw[nN _ _ (by omega)] at h;exact h
 have hfl:∀(bs:List UInt8) (c:Bool),bs.length≤6000000→∀v,aQ Tryz.prog 88 [.ptr 0 b4 [] 0,.b c] (kC b4 v ⟨bs,0⟩) (fun r os=>r= .tup []∧∃v',os=kC b4 v' ⟨bs++[if c then 1 else 0],0⟩):=fun bs c k2 v=>uV b4 c v ⟨bs,0⟩ (by show bs.length≤_;omega)
 repeat' (first|refine ae ?_|refine aj ?_|refine aa ?_|refine ac (ax ?_)|refine br Z ab Z Z Z (fun _=>?_)|refine aU ab (fun _=>?_)|(refine cJ Z Z Z Z Z (hw0 _) ⟨af,aP,J⟩ (ak _) (ak _) Z Z ?_;rintro _ _ ⟨rfl,wv,rfl⟩;refine⟨_,_,rfl,_,rfl,?_⟩))
 refine aO (fun q:Nat×Value=>⟨29,[(12,.i .i64 q.1),(11,.i .i64 l.length),(10,.sl 3 (l.map eA)),(4,.ptr 4 b4 [] 0)],[(4,.var b4 (wV q.2 ⟨batK l q.1,0⟩)),(1,.row q.2 5 1 ((batK l q.1).map gy))]⟩) (fun q=>q.1≤l.length) (fun q=>l.length - q.1) [] (0,wv) (Nat.zero_le _) ?_ ?_
 ·exact⟨rfl,⟨ai Z,ai (by simp),ay Z,af,J⟩,az 4 Z (az 1 Z .nil)⟩
 rintro⟨k,v⟩ hk
 dsimp only at hk ⊢
 clear hw0
 by_cases hlt:k<l.length
 ·have hm1:=hm l[k] (List.getElem_mem hlt)
  have hKl:=wL hl hm k hk
  have hsu:=yG l k hlt
  have a1:=eL l[k].k (by omega)
  generalize batK l k=T at hKl hsu ⊢
  have w1:=ht T l[k].k hm1.1 (by omega)
  have w2:=hfl (T++gl l[k].k) l[k].g (by rw[List.length_append];omega)
  have w3:=ht ((T++gl l[k].k)++[if l[k].g then 1 else 0]) l[k].v hm1.2 (by simp only[List.length_append,List.length_singleton];omega)
  generalize gl l[k].k=X1 at w1 w2 w3 hsu
  generalize ([if l[k].g then 1 else 0]:List UInt8)=X2 at w2 w3 hsu
  generalize gl l[k].v=X3 at w3 hsu
  repeat' (first|refine ae ?_|refine aj ?_|refine aa ?_|refine ac (ax ?_)|refine ac (db ?_)|refine ah (ax ?_)|(refine bc Z Z Z Z ?_ ?_;omega)|refine aU ab (fun _=>?_)|refine aF (d:=6) Z ab Z Z Z (fun b6=>?_)|refine aD ab Z Z Z Z Z Z Z ⟨rfl,rfl⟩ Z Z Z Z Z ?_|(refine aK Z ab Z Z Z Z Z Z ?_ (aE ?_) ?_;omega;omega)|(refine ao Z (fun hc=>?_) (fun hc=>?_))<;>try omega|(refine cJ Z Z Z Z Z (w1 _) ⟨af,aP,J⟩ (ak _) (ak _) Z Z ?_;rintro _ _ ⟨rfl,wv,rfl⟩;refine⟨_,_,rfl,_,rfl,?_⟩)|(refine cJ Z Z Z Z Z (w2 _) ⟨af,aP,J⟩ (ak _) (ak _) Z Z ?_;rintro _ _ ⟨rfl,wv,rfl⟩;refine⟨_,_,rfl,_,rfl,?_⟩)|(refine cJ Z Z Z Z Z (w3 _) ⟨af,aP,J⟩ (ak _) (ak _) Z Z ?_;rintro _ _ ⟨rfl,wv,rfl⟩;refine⟨_,_,rfl,_,rfl,?_⟩))
  refine⟨(k+1,wv),[],by show k+1≤l.length;omega,by show l.length - (k+1)<l.length - k;omega,rfl,⟨ai (by show (k:Int)+1=((k+1:Nat):Int);omega),ai Z,ay Z,af,J⟩,cr.cons 4 Z (bW (am ?_)) (cr.cons 1 Z (aZ ?_) .nil)⟩
  ·rw[hsu]
  ·rw[hsu]
 ·have hkl:k=l.length:=by omega
  subst hkl
  rw[hTe]
  generalize batK l l.length=T at hTl ⊢
  have hdn:∀v,aQ Tryz.prog 89 [.ptr 0 b4 [] 0] (kC b4 v ⟨T,0⟩) (fun r os=>r= .tup [.s (if 65536<T.length then [] else T),.i .i64 (if 65536<T.length then 2 else 0)]∧∃v',os=kC b4 v' ⟨T,0⟩):=fun v=>by
   have h:=jQ b4 v ⟨T,0⟩
   rw[uz] at h
   by_cases h6:65536<T.length
   ·rw[if_pos h6] at h;rw[if_pos h6,if_pos h6];exact h
   ·rw[if_neg h6] at h;rw[if_neg h6,if_neg h6];exact h
  generalize (if 65536<T.length then [] else T)=T2 at hdn ⊢
  generalize (if 65536<T.length then (2:Int) else 0)=e2 at hdn ⊢
  repeat' (first|refine ae ?_|refine aa ?_|refine ac (ax ?_)|refine aw (ax ?_)|refine ap (bC ?_)|refine aU ab (fun _=>?_)|(refine ao Z (fun hc=>?_) (fun hc=>?_))<;>try omega|(refine cJ Z Z Z Z Z (hdn _) ⟨af,J⟩ (ak _) (ak _) Z Z ?_;rintro _ _ ⟨rfl,wv,rfl⟩;refine⟨_,_,rfl,_,rfl,?_⟩))
  all_goals
   exact aH [] [] (.tup [.s T2,.i .i64 e2]) Z (aW (av _) (av _) Z Z) .nil ⟨rfl,rfl⟩
def z4(l:List aC)(k:Nat):RS:=⟨ey l,(batK l k).length,0⟩
theorem yF(l:List aC)(k:Nat):ey l=batK l k++((l.drop k).map rC).flatten:=by
 unfold ey batK
 rw[List.take_length,List.append_assoc,←List.flatten_append,←List.map_append,List.take_append_drop]
theorem Hw(l:List aC)(k:Nat):(z4 l k).rest=((l.drop k).map rC).flatten:=by
 unfold z4 RS.rest
 dsimp only
 rw[yF l k,List.drop_left]
theorem JA{l:List aC}(hm:∀e∈l,e.k.length≤10000∧e.v.length≤10000)(k:Nat)(h:k<l.length):
 ∃r1 r2:RS,(z4 l k).text=(l[k].k,r1)∧r1.flag=(l[k].g,r2)∧r2.text=(l[k].v,z4 l (k+1)):=by
 have hk:=hm l[k] (List.getElem_mem h)
 have hr:=Hw l k
 rw[List.drop_eq_getElem_cons h,List.map_cons,List.flatten_cons] at hr
 have e1:(z4 l k).rest=bK l[k].k++((if l[k].g then 1 else 0)::(bK l[k].v++((l.drop (k+1)).map rC).flatten)):=by
  rw[hr];unfold rC gl bK;simp
 have h1:=RS.text_reads (z4 l k) Z l[k].k (by omega) _ e1
 have e2:(RS.mk (ey l) ((batK l k).length+(bK l[k].k).length) 0).rest=(if l[k].g then 1 else 0)::(bK l[k].v++((l.drop (k+1)).map rC).flatten):=by
  rw[RS.rest_step]
  show (z4 l k).rest.drop _=_
  rw[e1,List.drop_left]
 have h2:=RS.flag_reads (RS.mk (ey l) ((batK l k).length+(bK l[k].k).length) 0) Z l[k].g _ e2
 have e3:(RS.mk (ey l) ((batK l k).length+(bK l[k].k).length+1) 0).rest=bK l[k].v++((l.drop (k+1)).map rC).flatten:=by
  rw[RS.rest_step,e2];rfl
 have h3:=RS.text_reads (RS.mk (ey l) ((batK l k).length+(bK l[k].k).length+1) 0) Z l[k].v (by omega) _ e3
 have hp:(batK l k).length+(bK l[k].k).length+1+(bK l[k].v).length=(batK l (k+1)).length:=by
  rw[yG l k h]
  show _=(((batK l k++bK l[k].k)++[_])++bK l[k].v).length
  simp only[List.length_append,List.length_singleton]
 refine⟨_,_,h1,h2,?_⟩
 rw[h3]
 show _=(l[k].v,RS.mk (ey l) (batK l (k+1)).length 0)
 rw[←hp]
theorem Lq{l:List aC}(hs:(ey l).length≤65536)(k:Nat):(z4 l k).ok:=by
 refine⟨?_,by show (ey l).length≤_;omega⟩
 have:=congrArg List.length (yF l k)
 rw[List.length_append] at this
 show (batK l k).length≤(ey l).length
 omega
theorem FU{l:List aC}(hl:l.length≤256)(hs:(ey l).length≤65536):(RS.open (ey l)).below 257=(l.length,z4 l 0):=by
 have h0:RS.open (ey l)=⟨ey l,0,0⟩:=by unfold RS.open;rw[if_neg (by omega)]
 have h1:=RS.number_reads ⟨ey l,0,0⟩ Z l.length (by omega) ((l.take l.length).map rC).flatten (by unfold RS.rest;rfl)
 have h2:(batK l 0)=ar l.length:=by unfold batK;rw[List.take_zero,List.map_nil,List.flatten_nil,List.append_nil]
 unfold RS.below
 rw[h0,h1,if_neg (by show ¬ (257:Int)≤(l.length:Int);omega)]
 unfold z4
 rw[h2]
 show (l.length,RS.mk (ey l) (0+_) 0)=_
 rw[Nat.zero_add]
theorem Hx{l:List aC}:(z4 l l.length).done=0:=by
 unfold RS.done z4
 rw[if_neg]
 rintro⟨_,h⟩
 have h:(batK l l.length).length<(ey l).length:=h
 exact absurd h (Nat.lt_irrefl _)
theorem Eh(l:List aC)(hl:l.length≤256)(hm:∀e∈l,e.k.length≤10000∧e.v.length≤10000)(hs:(ey l).length≤65536)(hc:js l=0):aQ Tryz.prog 28 [.s (ey l)] [] (fun v os=>v= .tup [.sl 3 (l.map eA),.i .i64 0]∧os=[]):=by
 refine aA ab [] Tryz.func28 Z Tryz.ntmps28 aN Z Z (fun C=>?_) Z
 have hop:=jW (ey l)
 have hB:=fun b=>mI b 257 (RS.open (ey l)) (RS.ok_open (by omega))
 rw[FU hl hs] at hB
 have hck:=yE l (by omega) (fun e he=>⟨by have:=(hm e he).1;omega,by have:=(hm e he).2;omega⟩)
 rw[hc] at hck
 have hdn:=fun b=>fY b (z4 l l.length)
 rw[Hx] at hdn
 have hone:=fun k h=>JA hm k h
 have hok:=fun k=>Lq hs k
 generalize ey l=s at hop hB ⊢
 generalize RS.open s=r0 at hop hB
 repeat' (first|refine ae ?_|refine aj ?_|refine aa ?_|refine ac (ax ?_)|refine aU ab (fun _=>?_)|(refine pS Z hop ⟨aP,J⟩ Z (fun bN=>?_))|(refine bh Z Z Z Z (hB _) ⟨af,aP,J⟩ (ak _) Z Z ?_;rintro _ _ ⟨rfl,rfl⟩;refine⟨_,rfl,_,rfl,?_⟩))
 refine aO (fun q:Nat×Value=>⟨34,[(12,.i .i64 q.1),(11,.i .i64 l.length),(4,.ptr 9 bN [] 0),(5,.own 24 q.2)],[(9,.var bN (ry (z4 l q.1))),(24,.row q.2 47 3 ((l.take q.1).map eA))]⟩) (fun q=>q.1≤l.length) (fun q=>l.length - q.1) [] (0,.slice none 0 0) (Nat.zero_le _) ?_ ?_
 ·exact⟨rfl,⟨ai Z,ai Z,af,dp,J⟩,az 9 Z (cr.none .nil)⟩
 rintro⟨k,v⟩ hk
 dsimp only at hk ⊢
 clear hB hop
 have htl:((l.take k).map eA).length=k:=by rw[List.length_map,List.length_take];omega
 by_cases hlt:k<l.length
 ·obtain⟨r1,r2,e1,e2,e3⟩:=hone k hlt
  have o0:=hok k
  have h1:=fun b=>fX b (z4 l k) o0
  have o1:=RS.ok_text o0
  rw[e1] at h1 o1
  have h2:=fun b=>vt b r1 o1
  have o2:r1.flag.2.ok:=RS.ok_flag o1
  rw[e2] at h2 o2
  have h3:=fun b=>fX b r2 o2
  rw[e3] at h3
  have htk:(l.take (k+1)).map eA=(l.take k).map eA++[eA l[k]]:=by rw[List.take_succ_eq_append_getElem hlt,List.map_append];rfl
  generalize z4 l k=q0 at h1 ⊢
  generalize hq3:z4 l (k+1)=q3 at h3
  repeat' (first|refine ae ?_|refine aj ?_|refine aa ?_|refine ac (ax ?_)|refine ac (db ?_)|refine ah (ax ?_)|(refine bc Z Z Z Z ?_ ?_;omega)|refine aU ab (fun _=>?_)|refine aF (d:=6) Z ab Z Z Z (fun b6=>?_)|refine aD ab Z Z Z Z Z Z Z ⟨rfl,rfl⟩ Z Z Z Z Z ?_|refine cd ab Z Z Z Z Z Z eo ?_|refine aI ab Z Z Z Z Z Z Z Z Z Z Z eo (fun _=>?_)|(refine bH ab Z Z Z Z Z Z Z Z Z (by first|exact J|exact rfl) Z Z (fun _=>rfl) ?_ ?_ (fun _=>?_);(exact dt);(exact dt))|(refine ao Z (fun hc=>?_) (fun hc=>?_))<;>try omega|(refine bh Z Z Z Z (h1 _) ⟨af,J⟩ (ak _) Z Z ?_;rintro _ _ ⟨rfl,rfl⟩;refine⟨_,rfl,_,rfl,?_⟩)|(refine bh Z Z Z Z (h2 _) ⟨af,J⟩ (ak _) Z Z ?_;rintro _ _ ⟨rfl,rfl⟩;refine⟨_,rfl,_,rfl,?_⟩)|(refine bh Z Z Z Z (h3 _) ⟨af,J⟩ (ak _) Z Z ?_;rintro _ _ ⟨rfl,rfl⟩;refine⟨_,rfl,_,rfl,?_⟩))
  exact⟨(k+1,_),[],by show k+1≤l.length;omega,by show l.length - (k+1)<l.length - k;omega,rfl,⟨ai (by show (k:Int)+1=((k+1:Nat):Int);omega),ai Z,af,aJ,J⟩,cr.cons 9 Z (by rw[hq3];exact ak _) (cr.cons 24 Z (by rw[htk];exact ak _) .nil)⟩
 ·have hkl:k=l.length:=by omega
  subst hkl
  rw[List.take_length]
  refine ag.weaken [24] (S':=⟨34,[(12,.i .i64 l.length),(11,.i .i64 l.length),(4,.ptr 9 bN [] 0),(5,.sl 3 (l.map eA))],[(9,.var bN (ry (z4 l l.length)))]⟩) ⟨rfl,⟨ai Z,ai Z,af,bu (bP (.head _)) Z,J⟩,az 9 Z .nil⟩ ?_
  repeat' (first|refine ae ?_|refine aa ?_|refine ac (ax ?_)|refine ah (ax ?_)|refine aw (ax ?_)|refine ap (bC ?_)|refine aU ab (fun _=>?_)|refine aB Z ?_|(refine ao Z (fun hc=>?_) (fun hc=>?_))<;>try omega|refine au Z (hck) ⟨aP,J⟩ Z ?_|(refine bh Z Z Z Z (hdn _) ⟨af,J⟩ (ak _) Z Z ?_;rintro _ _ ⟨rfl,rfl⟩;refine⟨_,rfl,_,rfl,?_⟩))
  all_goals
   exact aH [] [] (.tup [.sl 3 (l.map eA),.i .i64 0]) Z (aW (av _) (av _) Z Z) .nil ⟨rfl,rfl⟩
set_option maxHeartbeats 8000000
def eh(x:aC):Nat:=x.k.length+x.v.length+8
def grp(size:Int):List aC→List aC→Nat→List (List aC)
 |[],_,_=>[]
 |x::r,g,n=>if size≤((n+eh x:Nat):Int)∨g.length+1=256∨r=[] then (g++[x])::grp size r [] 0 else grp size r (g++[x]) (n+eh x)
def rV(g:List aC):AV:=.sl 3 (g.map eA)
theorem Ip(size:Int)(l g:List aC)(n k:Nat)(h:k<l.length):grp size (l.drop k) g n=
 if size≤((n+eh l[k]:Nat):Int)∨g.length+1=256∨k+1=l.length then (g++[l[k]])::grp size (l.drop (k+1)) [] 0 else grp size (l.drop (k+1)) (g++[l[k]]) (n+eh l[k]):=by
 rw[List.drop_eq_getElem_cons h]
 have e:(l.drop (k+1)=[])↔(k+1=l.length):=by rw[List.drop_eq_nil_iff];omega
 show (if size≤((n+eh l[k]:Nat):Int)∨g.length+1=256∨l.drop (k+1)=[] then _ else _)=_
 simp only[e]
theorem px(l:List aC)(f k:Nat)(h:k<l.length)(hf:f≤k):(l.take (k+1)).drop f=(l.take k).drop f++[l[k]]:=by
 rw[List.take_succ_eq_append_getElem h,List.drop_append_of_le_length (by rw[List.length_take];omega)]
theorem py(l:List aC)(k:Nat):(l.take k).drop k=[]:=by
 rw[List.drop_eq_nil_iff,List.length_take];omega
theorem BF(l:List aC)(size:Int)(hl:l.length≤300)(hm:∀e∈l,e.k.length≤110∧e.v.length≤4010):aQ Tryz.prog 130 [.sl 3 (l.map eA),.i .i64 size] [] (fun v os=>v= .sl 1 ((grp size l [] 0).map rV)∧os=[]):=by
 refine aA ab [] Tryz.func130 Z Tryz.ntmps130 aN Z Z (fun C=>?_) Z
 obtain⟨G,hG⟩:∃G,grp size l [] 0=G:=⟨_,rfl⟩
 rw[hG]
 repeat' (first|refine ae ?_|refine aj ?_|refine aa ?_|refine ac (ax ?_)|refine br Z ab Z Z Z (fun _=>?_)|refine aU ab (fun _=>?_))
 refine aO (fun q:Nat×Nat×Nat×List (List aC)×Value=>⟨56,[(12,.i .i64 q.1),(11,.i .i64 l.length),(10,.sl 3 (l.map eA)),(6,.i .i64 q.2.1),(7,.i .i64 q.2.2.1),(5,.own 5 q.2.2.2.2),(0,.sl 3 (l.map eA)),(1,.i .i64 size)],[(5,.row q.2.2.2.2 35 1 (q.2.2.2.1.map rV))]⟩)
  (fun q=>q.1≤l.length∧q.2.1≤q.1∧q.2.2.1≤4200*q.1∧q.2.2.2.1.length≤q.1∧q.2.2.2.1++grp size (l.drop q.1) ((l.take q.1).drop q.2.1) q.2.2.1=G) (fun q=>l.length - q.1) [] (0,0,0,[],.slice none 0 0) ⟨Nat.zero_le _,Nat.le_refl _,Nat.le_refl _,Nat.le_refl _,hG⟩ ?_ ?_
 ·exact⟨rfl,⟨ai Z,ai Z,ay Z,ai Z,ai Z,dp,ay Z,ai Z,J⟩,cr.none .nil⟩
 rintro⟨i,f,n,out,v⟩ ⟨hi,hf,hn,hol,hgr⟩
 dsimp only at hi hf hn hol hgr ⊢
 by_cases hlt:i<l.length
 ·have hx:=hm _ (List.getElem_mem hlt)
  rw[Ip size l _ n i hlt,←px l f i hlt hf] at hgr
  have hes:eh l[i]=l[i].k.length+l[i].v.length+8:=rfl
  have hfl:((l.take i).drop f).length=i - f:=by rw[List.length_drop,List.length_take];omega
  rw[hfl] at hgr
  have hi1:((i:Int)+1=((i+1:Nat):Int)):=by omega
  repeat' (first|refine ae ?_|refine aj ?_|refine aa ?_|refine ac (ax ?_)|refine ac (db ?_)|refine ah (ax ?_)|refine ib Z Z Z cM ?_|(refine bc Z Z Z Z ?_ ?_;omega)|(refine dW Z Z Z Z ?_ ?_;omega)|refine br Z ab Z Z Z (fun _=>?_)|refine aU ab (fun _=>?_)|refine aF Z ab Z Z Z (fun bA=>?_)|refine aD ab Z Z Z Z Z Z Z ⟨rfl,rfl⟩ Z Z Z Z Z ?_|(refine aK Z ab Z Z Z Z Z Z ?_ (aE ?_) ?_;omega;omega)|refine aI ab Z Z Z Z Z Z Z Z Z Z Z eo (fun _=>?_)|(refine bH ab Z Z Z Z Z Z Z Z Z (by first|exact J|exact rfl) Z Z (fun _=>rfl) ?_ ?_ (fun _=>?_);(exact dt);(exact dt))|(fail_if_success (refine aM Z cM ?_));(refine aV Z Z (fun hc=>?_) (fun hc=>?_)<;>try omega)|refine aR Z ?_|(refine ao Z (fun hc=>?_) (fun hc=>?_))<;>try omega|(refine d5 ab Z f (i+1) Z Z Z Z Z (cn Z Z) (cn Z hi1) (by omega) (by omega) ?_))
  iterate 3
   rw[if_pos (by omega)] at hgr
   refine⟨(i+1,i+1,0,out++[(l.take (i+1)).drop f],_),[],⟨hlt,Nat.le_refl _,Nat.zero_le _,by rw[List.length_append];exact Nat.succ_le_succ hol,by rw[py,←hgr,List.append_assoc];rfl⟩,by show l.length - (i+1)<l.length - i;omega,rfl,⟨ai hi1,ai Z,ay Z,ai hi1,ai Z,aJ,ay Z,ai Z,J⟩,cr.cons 5 Z (aZ ?_) .nil⟩
   rw[List.map_append];rfl
  rw[if_neg (by omega)] at hgr
  exact⟨(i+1,f,n+eh l[i],out,v),[],⟨hlt,Nat.le_succ_of_le hf,by show n+eh l[i]≤4200*(i+1);omega,Nat.le_succ_of_le hol,hgr⟩,by show l.length - (i+1)<l.length - i;omega,rfl,⟨ai hi1,ai Z,ay Z,ai Z,ai (by show _=((n+eh l[i]:Nat):Int);omega),aJ,ay Z,ai Z,J⟩,az 5 Z .nil⟩
 ·have hil:i=l.length:=by omega
  subst hil
  rw[List.drop_length] at hgr
  have hgr:out++[]=G:=hgr
  rw[List.append_nil] at hgr
  subst hgr
  repeat' (first|refine ae ?_|refine aa ?_|refine ac (ax ?_)|refine aw (ax ?_)|refine ap (bC ?_)|refine aU ab (fun _=>?_)|(refine ao Z (fun hc=>?_) (fun hc=>?_))<;>try omega)
  refine bp Z Z Z [5] [] (bP ?_) .nil ⟨rfl,rfl⟩ _ (.inl Z)
  exact .head _
set_option maxHeartbeats 4000000
def tq(h:Nat)(c:UInt8):Nat:=((h^^^c.toNat)*1099511628211)%18446744073709551616
def JW(h:Nat):Nat:=((h^^^(h / 2^29))*13787848793156543929)%18446744073709551616
def NK(h:Nat):Nat:=JW h^^^(JW h / 2^32)
def nz(s:List UInt8):Nat:=s.foldl tq 14695981039346656037
def ed(s:List UInt8):Nat:=NK (nz s)
theorem DH(s:List UInt8)(k:Nat)(h:k<s.length):nz (s.take (k+1))=tq (nz (s.take k)) (s[k]'h):=by
 unfold nz;rw[List.take_succ_eq_append_getElem h,List.foldl_append,List.foldl_cons,List.foldl_nil]
theorem Gr(h:Nat)(c:UInt8):tq h c<18446744073709551616:=Nat.mod_lt _ (by decide)
theorem BD(s:List UInt8):nz s<18446744073709551616:=by
 unfold nz
 have:∀(s:List UInt8) (h:Nat),h<18446744073709551616→s.foldl tq h<18446744073709551616:=by
  intro s
  induction s with
  |nil=>intro h hh;exact hh
  |cons c s ih=>intro h _;exact ih _ (Gr h c)
 exact this s _ (by decide)
theorem zy(h:Nat):JW h<18446744073709551616:=Nat.mod_lt _ (by decide)
theorem wq{n k:Nat}(h:n<18446744073709551616):n / 2^k<18446744073709551616:=Nat.lt_of_le_of_lt (Nat.div_le_self _ _) h
theorem Im(s:List UInt8):ed s<18446744073709551616:=Nat.xor_lt_two_pow (n:=64) (zy _) (wq (zy _))
theorem Hr{h:Nat}(hh:h<18446744073709551616)(c:UInt8):IntKind.u64.wrap (eB .xor .u64 (h:Int) (IntKind.u64.wrap (c.toNat:Int))*1099511628211)=(tq h c:Int):=by
 have hc:=c.toNat_lt
 rw[oK (by omega),GU hh (by omega),show ((h^^^c.toNat:Nat):Int)*1099511628211=(((h^^^c.toNat)*1099511628211:Nat):Int) by rw[Int.natCast_mul];rfl,m7];rfl
theorem LK{h:Nat}(hh:h<18446744073709551616):IntKind.u64.wrap (eB .xor .u64 (h:Int) ((h:Int).fdiv (2^(min (Int.toNat 29) (IntKind.bits .u64))))*13787848793156543929)=(JW h:Int):=by
 have e:(h:Int).fdiv (2^(min (Int.toNat 29) (IntKind.bits .u64)))=((h / 2^29:Nat):Int):=EJ h (k:=29) (by decide)
 rw[e,GU hh (wq hh),show ((h^^^(h / 2^29):Nat):Int)*13787848793156543929=(((h^^^(h / 2^29))*13787848793156543929:Nat):Int) by rw[Int.natCast_mul];rfl,m7];rfl
theorem LY{h:Nat}(hh:h<18446744073709551616):eB .xor .u64 (h:Int) ((h:Int).fdiv (2^(min (Int.toNat 32) (IntKind.bits .u64))))=((h^^^(h / 2^32):Nat):Int):=by
 have e:(h:Int).fdiv (2^(min (Int.toNat 32) (IntKind.bits .u64)))=((h / 2^32:Nat):Int):=EJ h (k:=32) (by decide)
 rw[e,GU hh (wq hh)]
theorem wa(s:List UInt8):aQ Tryz.prog 155 [.s s] [] (fun v os=>v= .i .u64 (ed s:Nat)∧os=[]):=by
 refine aA ab [] Tryz.func155 Z Tryz.ntmps155 aN Z Z (fun C=>?_) Z
 repeat' (first|(refine dr Z ab Z Z Z trivial (fun (hs:(List.map gy s).length≤9223372036854775807)=>?_))|refine ae ?_|refine aj ?_|refine aa ?_|refine ac (ax ?_)|refine ac (db ?_)|refine ac (bC ?_)|refine ah (ax ?_)|refine ah (bC ?_)|refine ah (db ?_)|refine aw (ax ?_)|refine aw (db ?_)|refine aw (bC ?_)|refine ap (bC ?_)|(refine bc Z Z Z Z ?_ ?_;omega)|(refine kL Z Z Z Z ?_ ?_;omega)|refine br Z ab Z Z Z (fun _=>?_)|refine dA Z ab Z Z Z Z (fun _=>?_)|refine gW Z ab Z Z Z Z ?_|(refine iM Z ab Z Z Z Z ?_ ?_;omega)|refine aU ab (fun _=>?_)|(refine aK Z ab Z Z Z Z Z Z ?_ (aE ?_) ?_;omega;omega)|(refine bD ab Z Z Z Z Z Z Z Z _ Z ?_ (fun bO hbO=>?_);(exact dt))|(refine bR ab Z Z Z Z Z (by assumption) (aY (List.getElem?_eq_getElem ?_)) Z Z (by first|exact Nat.add_zero _|rfl) ⟨rfl,rfl⟩ ?_;omega)|(refine dr Z ab Z Z Z ?_ (fun _=>?_);(show List.length _+List.length _≤9223372036854775807;exact dt))|(refine bQ ab Z Z Z Z Z Z (by assumption) (aY (List.getElem?_eq_getElem ?_)) Z Z (by first|exact Nat.add_zero _|rfl) ⟨rfl,rfl⟩ Z Z ?_;omega)|refine fy ab Z Z Z Z Z Z ?_|refine aR Z ?_|refine aB Z ?_|(refine ao Z (fun hc=>?_) (fun hc=>?_))<;>try omega|(refine fk Z (fun hc=>?_) (fun hc=>?_))<;>try omega|(refine bF Z (fun hc=>?_) (fun hc=>?_))<;>try omega|(refine ba Z (fun hc=>?_) (fun hc=>?_))|refine dJ ab Z Z Z Z Z (by first|exact J|exact rfl) Z Z Z Z ?_)
 rw[List.length_map] at hs
 refine aO (fun (k:Nat)=>⟨29,[(3,.i .u64 (nz (s.take k):Nat)),(9,.i .i64 k),(8,.i .i64 s.length),(7,.sl 1 (s.map gy))],[]⟩) (fun k=>k≤s.length) (fun k=>s.length - k) [] 0 (Nat.zero_le _) ?_ ?_
 ·refine⟨rfl,?_,?_⟩<;>repeat' (first|exact J|refine ai ?_|refine cY ?_|refine gq ?_|refine ay ?_|exact af|exact aJ|exact dp|exact gY.any|exact cr.nil|exact ak _|refine bq Z ?_ ?_|refine cr.none ?_|refine aZ ?_|refine bW ?_|exact av _|exact gZ|exact gK|exact dz|refine bS ?_|refine uy.cons ?_ ?_|exact uy.nil|with_reducible rfl|refine⟨?_,?_⟩|exact aP)
  all_goals first|rfl|simp
 rintro k hk
 have hst:=fun hlt=>Hr (BD (s.take k)) (s[k]'hlt)
 have hst2:∀hlt:k<s.length,tq (nz (s.take k)) (s[k]'hlt)=nz (s.take (k+1)):=fun hlt=>(DH s k hlt).symm
 have hend:k=s.length→nz (s.take k)=nz s:=fun h=>by rw[h,List.take_length]
 generalize nz (s.take k)=h at hst hst2 hend ⊢
 repeat' (first|refine ae ?_|refine aj ?_|refine aa ?_|refine ac (ax ?_)|refine ac (db ?_)|refine ac (bC ?_)|refine ah (ax ?_)|refine ah (bC ?_)|refine ah (db ?_)|refine aw (ax ?_)|refine aw (db ?_)|refine aw (bC ?_)|refine ap (bC ?_)|(refine bc Z Z Z Z ?_ ?_;omega)|(refine kL Z Z Z Z ?_ ?_;omega)|refine br Z ab Z Z Z (fun _=>?_)|refine dA Z ab Z Z Z Z (fun _=>?_)|refine gW Z ab Z Z Z Z ?_|(refine iM Z ab Z Z Z Z ?_ ?_;omega)|refine aU ab (fun _=>?_)|(refine aK Z ab Z Z Z Z Z Z ?_ (aE ?_) ?_;omega;omega)|(refine bD ab Z Z Z Z Z Z Z Z _ Z ?_ (fun bO hbO=>?_);(exact dt))|(refine bR ab Z Z Z Z Z (by assumption) (aY (List.getElem?_eq_getElem ?_)) Z Z (by first|exact Nat.add_zero _|rfl) ⟨rfl,rfl⟩ ?_;omega)|(refine dr Z ab Z Z Z ?_ (fun _=>?_);(show List.length _+List.length _≤9223372036854775807;exact dt))|(refine bQ ab Z Z Z Z Z Z (by assumption) (aY (List.getElem?_eq_getElem ?_)) Z Z (by first|exact Nat.add_zero _|rfl) ⟨rfl,rfl⟩ Z Z ?_;omega)|refine fy ab Z Z Z Z Z Z ?_|refine aR Z ?_|refine aB Z ?_|(refine ao Z (fun hc=>?_) (fun hc=>?_))<;>try omega|(refine fk Z (fun hc=>?_) (fun hc=>?_))<;>try omega|(refine bF Z (fun hc=>?_) (fun hc=>?_))<;>try omega|(refine ba Z (fun hc=>?_) (fun hc=>?_))|refine dJ ab Z Z Z Z Z (by first|exact J|exact rfl) Z Z Z Z ?_)
 ·have hlt':k<s.length:=by omega
  refine⟨k+1,[],hlt',by omega,?_⟩
  refine⟨rfl,?_,?_⟩<;>repeat' (first|exact J|refine ai ?_|refine cY ?_|refine gq ?_|refine ay ?_|exact af|exact aJ|exact dp|exact gY.any|exact cr.nil|exact ak _|refine bq Z ?_ ?_|refine cr.none ?_|refine aZ ?_|refine bW ?_|exact av _|exact gZ|exact gK|exact dz|refine bS ?_|refine uy.cons ?_ ?_|exact uy.nil|with_reducible rfl|refine⟨?_,?_⟩|exact aP)
  all_goals first|exact(hst hlt').trans (congrArg _ (hst2 hlt'))|omega
 ·have hkk:k=s.length:=by omega
  refine bp Z Z Z [] [] (am ?_) .nil ⟨rfl,rfl⟩ _ (.inl Z)
  have h1:=LK (BD s)
  have h2:=LY (zy (nz s))
  rw[←h1] at h2
  rw[hend hkk]
  exact congrArg (AV.i .u64) h2
end Go.Proofs.YtginkbjclkdglaaGreat
