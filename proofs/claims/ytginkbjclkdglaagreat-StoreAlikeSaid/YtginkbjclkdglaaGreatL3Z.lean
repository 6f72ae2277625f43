/- ref11.Ahead, number, key, Check by rules. -/
import Derived.Test.YtginkbjclkdglaaGreatT7Z
import Derived.Test.YtginkbjclkdglaaGreatKWZ
import Derived.Test.YtginkbjclkdglaaGreatV13Z
import Derived.Test.YtginkbjclkdglaaGreatS2Z
import Derived.Test.YtginkbjclkdglaaGreatKR2Z
set_option maxHeartbeats 8000000
set_option maxRecDepth 100000
namespace Go.Proofs.YtginkbjclkdglaaGreat
open Go Go.RowKit
def NW(n:Int):Bool:=decide (0≤n∧n≤1073741824)
set_option maxHeartbeats 4000000
set_option maxHeartbeats 8000000
theorem Jo(bs:List UInt8)(n:Int)(h:0≤n):(⟨bs,0⟩:WS).number n=⟨bs++ar n.toNat,0⟩:=by
 have:=im bs n.toNat
 rwa [Int.toNat_of_nonneg h] at this
def M6(f:Fl):Prop:=0≤f.num∧f.num≤1073741824∧0≤f.lev∧f.lev≤1073741824∧0≤f.size∧f.size≤1073741824∧f.first.length≤100∧f.last.length≤100
theorem yg{s:List UInt8}(h:fR s=true):s.length≤100:=by
 unfold fR at h
 simp only[Bool.and_eq_true,decide_eq_true_eq] at h
 exact h.2
theorem H8(next:Int)(hn:next≤1073741824):∀(l pre:List Fl),Ct next pre l=0→∀f∈l,M6 f
 |[],_,_,f,hf=>by cases hf
 |x::l,pre,h,f,hf=>by
  rw[Ct] at h
  by_cases hc:mc next pre x=0
  ·rw[if_neg (fun n=>n hc)] at h
   rcases List.mem_cons.1 hf with rfl|hf
   ·by_cases ha:kX next f
    ·rw[nC ha] at hc;cases hc
    ·by_cases hb:qQ pre f
     ·rw[p7 ha hb] at hc;cases hc
     ·unfold kX at ha
      unfold qQ at hb
      have k1:fR f.first=true:=by
       cases hk:fR f.first
       ·exact absurd (.inl hk) hb
       ·rfl
      have k2:fR f.last=true:=by
       cases hk:fR f.last
       ·exact absurd (.inr (.inl hk)) hb
       ·rfl
      exact⟨by omega,by omega,by omega,by omega,by omega,by omega,yg k1,yg k2⟩
   ·exact H8 next hn l _ h f hf
  ·rw[if_pos hc] at h
   exact absurd h hc
theorem nu{s:iH}(h:bT s=0):0≤s.next∧s.next≤1073741824∧0≤s.log∧s.log≤1073741824∧∀f∈s.fs,M6 f:=by
 unfold bT at h
 split at h
 ·cases h
 ·rename_i hh
  unfold gG at hh
  split at h
  ·cases h
  ·exact⟨by omega,by omega,by omega,by omega,H8 _ (by omega) _ _ h⟩
def pv(f:Fl):List UInt8:=(((ar f.num.toNat++ar f.lev.toNat)++ar f.size.toNat)++gl f.first)++gl f.last
def vd(l:List Fl):List UInt8:=(l.map pv).flatten
def JU(s:iH):List UInt8:=(ar s.next.toNat++ar s.log.toNat)++ar s.fs.length
def iK(s:iH)(k:Nat):List UInt8:=JU s++vd (s.fs.take k)
theorem u7(s:iH):iK s 0=JU s:=List.append_nil _
theorem u9(s:iH)(k:Nat)(h:k<s.fs.length):iK s (k+1)=iK s k++pv s.fs[k]:=by
 unfold iK vd
 rw[List.take_succ_eq_append_getElem h,List.map_append,List.flatten_append,←List.append_assoc]
 show _++[pv s.fs[k]].flatten=_
 rw[List.flatten_cons,List.flatten_nil,List.append_nil]
theorem Gx{f:Fl}(h:M6 f):(pv f).length≤245:=by
 obtain⟨h1,h2,h3,h4,h5,h6,h7,h8⟩:=h
 have a1:=bz f.num.toNat (by omega)
 have a2:=bz f.lev.toNat (by omega)
 have a3:=bz f.size.toNat (by omega)
 have a4:=eL f.first (by omega)
 have a5:=eL f.last (by omega)
 unfold pv
 simp only[List.length_append]
 omega
theorem jT{s:iH}(h:bT s=0)(hl:s.fs.length≤250):∀k,k≤s.fs.length→(iK s k).length≤27+245*k
 |0,_=>by
  obtain⟨h1,h2,h3,h4,_⟩:=nu h
  have a1:=bz s.next.toNat (by omega)
  have a2:=bz s.log.toNat (by omega)
  have a3:=bz s.fs.length (by omega)
  rw[u7];unfold JU
  simp only[List.length_append]
  omega
 |k+1,hk=>by
  have ih:=jT h hl k (by omega)
  have hf:=Gx ((nu h).2.2.2.2 s.fs[k] (List.getElem_mem (by omega)))
  rw[u9 s k (by omega),List.length_append]
  omega
def dP(s:iH):List UInt8×Int:=if bT s≠0 then ([],bT s) else (bo (iK s s.fs.length),0)
theorem Bj(s:iH)(hl:s.fs.length≤250):aQ Tryz.prog 97 [iA s] [] (fun v os=>v= .tup [.s (dP s).1,.i .i64 (dP s).2]∧os=[]):=by
 refine aA ab [] Tryz.func97 Z Tryz.ntmps97 aN Z Z (fun C=>?_) Z
 have hck:=jk s
 have hb:dP s=if bT s≠0 then ([],bT s) else (bo (iK s s.fs.length),0):=rfl
 generalize dP s=q at hb ⊢
 unfold iA at*
 by_cases h0:bT s=0
 ·rw[h0] at hck
  rw[if_neg (fun h=>h h0)] at hb
  obtain⟨n1,n2,n3,n4,hok⟩:=nu h0
  repeat' (first|refine ae ?_|refine aa ?_|refine ac (ax ?_)|refine ah (ax ?_)|refine aU ab (fun _=>?_)|refine aF (d:=5) Z ab Z Z Z (fun b5=>?_)|refine c9 (d:=1) Z Z Z Z (fun b1=>?_)|refine aB Z ?_|refine au Z (hck) ⟨aP,J⟩ Z ?_)
  refine gJ [] (S':=⟨59,[(16,.i .i64 s.next),(5,.ptr 5 b5 [] 0),(1,.ptr 77 b1 [] 0)],[(5,.var b5 (wV (.slice none 0 0) ⟨[],0⟩)),(1,.row (.slice none 0 0) 5 1 []),(77,.var b1 (.agg [.i .i64 s.next,.i .i64 s.log,.sl 5 (s.fs.map eF)]))]⟩) ⟨rfl,⟨ai Z,af,af,J⟩,cr.cons 5 Z (bW (bS (.cons dz (.cons (av _) .nil)))) (.none (az 1 Z .nil))⟩ ?_
  have hw:∀(bs:List UInt8) (n:Int),0≤n→n≤1073741824→bs.length≤100000→∀v,aQ Tryz.prog 86 [.ptr 0 b5 [] 0,.i .i64 n] (kC b5 v ⟨bs,0⟩) (fun r os=>r= .tup []∧∃v',os=kC b5 v' ⟨bs++ar n.toNat,0⟩):=fun bs n k1 k2 k3 v=>by
   have h:=eK b5 n (by omega) v ⟨bs,0⟩ (by show bs.length≤_;omega)
   rw[Jo _ _ k1] at h;exact h
  have ht:∀(bs t:List UInt8),t.length≤100→bs.length≤100000→∀v,aQ Tryz.prog 87 [.ptr 0 b5 [] 0,.s t] (kC b5 v ⟨bs,0⟩) (fun r os=>r= .tup []∧∃v',os=kC b5 v' ⟨bs++gl t,0⟩):=fun bs t k1 k2 v=>by
   have h:=g9 b5 t v ⟨bs,0⟩ (by show bs.length≤_;omega)
   rw[nN _ _ (by omega)] at h;exact h
  have a1:=bz s.next.toNat (by omega)
  have a2:=bz s.log.toNat (by omega)
  have hw1:=hw [] s.next n1 n2 (by decide)
  have hw2:=hw (ar s.next.toNat) s.log n3 n4 (by omega)
  have hw3:=hw (ar s.next.toNat++ar s.log.toNat) s.fs.length (by omega) (by omega) (by rw[List.length_append];omega)
  rw[show ([]:List UInt8)++ar s.next.toNat=ar s.next.toNat from rfl] at hw1
  rw[show ((ar s.next.toNat++ar s.log.toNat)++ar ((s.fs.length:Int)).toNat:List UInt8)=iK s 0 from (u7 s).symm] at hw3
  repeat' (first|refine ae ?_|refine aj ?_|refine aa ?_|refine ac (ax ?_)|refine br Z ab Z Z Z (fun _=>?_)|refine aU ab (fun _=>?_)|(refine cJ Z Z Z Z Z (hw1 _) ⟨af,aP,J⟩ (ak _) (ak _) Z Z ?_;rintro _ _ ⟨rfl,wv,rfl⟩;refine⟨_,_,rfl,_,rfl,?_⟩)|(refine cJ Z Z Z Z Z (hw2 _) ⟨af,aP,J⟩ (ak _) (ak _) Z Z ?_;rintro _ _ ⟨rfl,wv,rfl⟩;refine⟨_,_,rfl,_,rfl,?_⟩)|(refine cJ Z Z Z Z Z (hw3 _) ⟨af,aP,J⟩ (ak _) (ak _) Z Z ?_;rintro _ _ ⟨rfl,wv,rfl⟩;refine⟨_,_,rfl,_,rfl,?_⟩))
  refine aO (fun q:Nat×Value=>⟨59,[(28,.i .i64 q.1),(27,.i .i64 s.fs.length),(26,.sl 5 (s.fs.map eF)),(5,.ptr 5 b5 [] 0)],[(5,.var b5 (wV q.2 ⟨iK s q.1,0⟩)),(1,.row q.2 5 1 ((iK s q.1).map gy))]⟩) (fun q=>q.1≤s.fs.length) (fun q=>s.fs.length - q.1) [] (0,wv) (Nat.zero_le _) ?_ ?_
  ·exact⟨rfl,⟨ai Z,ai Z,ay Z,af,J⟩,az 5 Z (az 1 Z .nil)⟩
  clear hw1 hw2 hw3
  rintro⟨k,v⟩ hk
  dsimp only at hk ⊢
  by_cases hlt:k<s.fs.length
  ·clear a1 a2
   have hf:=hok s.fs[k] (List.getElem_mem hlt)
   obtain⟨f1,f2,f3,f4,f5,f6,f7,f8⟩:=hf
   have hTl:=jT h0 hl k hk
   have hsu:=u9 s k hlt
   have hfB:pv s.fs[k]=(((ar s.fs[k].num.toNat++ar s.fs[k].lev.toNat)++ar s.fs[k].size.toNat)++gl s.fs[k].first)++gl s.fs[k].last:=rfl
   have a1:=bz s.fs[k].num.toNat (by omega)
   have a2:=bz s.fs[k].lev.toNat (by omega)
   have a3:=bz s.fs[k].size.toNat (by omega)
   have a4:=eL s.fs[k].first (by omega)
   have a5:=eL s.fs[k].last (by omega)
   generalize iK s k=T at hTl hsu ⊢
   have w1:=hw T s.fs[k].num f1 f2 (by omega)
   have w2:=hw (T++ar s.fs[k].num.toNat) s.fs[k].lev f3 f4 (by rw[List.length_append];omega)
   have w3:=hw ((T++ar s.fs[k].num.toNat)++ar s.fs[k].lev.toNat) s.fs[k].size f5 f6 (by simp only[List.length_append];omega)
   have w4:=ht (((T++ar s.fs[k].num.toNat)++ar s.fs[k].lev.toNat)++ar s.fs[k].size.toNat) s.fs[k].first f7 (by simp only[List.length_append];omega)
   have w5:=ht ((((T++ar s.fs[k].num.toNat)++ar s.fs[k].lev.toNat)++ar s.fs[k].size.toNat)++gl s.fs[k].first) s.fs[k].last f8 (by simp only[List.length_append];omega)
   generalize ar s.fs[k].num.toNat=N1 at w1 w2 w3 w4 w5 hfB
   generalize ar s.fs[k].lev.toNat=N2 at w2 w3 w4 w5 hfB
   generalize ar s.fs[k].size.toNat=N3 at w3 w4 w5 hfB
   generalize gl s.fs[k].first=X1 at w4 w5 hfB
   generalize gl s.fs[k].last=X2 at w5 hfB
   repeat' (first|refine ae ?_|refine aj ?_|refine aa ?_|refine ac (ax ?_)|refine ac (db ?_)|refine ah (ax ?_)|(refine bc Z Z Z Z ?_ ?_;omega)|refine aU ab (fun _=>?_)|refine aF (d:=7) Z ab Z Z Z (fun b7=>?_)|refine aD ab Z Z Z Z Z Z Z ⟨rfl,rfl⟩ Z Z Z Z Z ?_|(refine aK Z ab Z Z Z Z Z Z ?_ (aE ?_) ?_;omega;omega)|(refine ao Z (fun hc=>?_) (fun hc=>?_))<;>try omega|(refine cJ Z Z Z Z Z (w1 _) ⟨af,aP,J⟩ (ak _) (ak _) Z Z ?_;rintro _ _ ⟨rfl,wv,rfl⟩;refine⟨_,_,rfl,_,rfl,?_⟩)|(refine cJ Z Z Z Z Z (w2 _) ⟨af,aP,J⟩ (ak _) (ak _) Z Z ?_;rintro _ _ ⟨rfl,wv,rfl⟩;refine⟨_,_,rfl,_,rfl,?_⟩)|(refine cJ Z Z Z Z Z (w3 _) ⟨af,aP,J⟩ (ak _) (ak _) Z Z ?_;rintro _ _ ⟨rfl,wv,rfl⟩;refine⟨_,_,rfl,_,rfl,?_⟩)|(refine cJ Z Z Z Z Z (w4 _) ⟨af,aP,J⟩ (ak _) (ak _) Z Z ?_;rintro _ _ ⟨rfl,wv,rfl⟩;refine⟨_,_,rfl,_,rfl,?_⟩)|(refine cJ Z Z Z Z Z (w5 _) ⟨af,aP,J⟩ (ak _) (ak _) Z Z ?_;rintro _ _ ⟨rfl,wv,rfl⟩;refine⟨_,_,rfl,_,rfl,?_⟩))
   refine⟨(k+1,wv),[],by show k+1≤s.fs.length;omega,by show s.fs.length - (k+1)<s.fs.length - k;omega,rfl,⟨ai (by show (k:Int)+1=((k+1:Nat):Int);omega),ai Z,ay Z,af,J⟩,cr.cons 5 Z (bW (am ?_)) (cr.cons 1 Z (aZ ?_) .nil)⟩
   ·rw[hsu,hfB];simp only[List.append_assoc]
   ·rw[hsu,hfB];simp only[List.append_assoc]
  have hkl:k=s.fs.length:=by omega
  subst hkl
  have hTl:=jT h0 hl s.fs.length (Nat.le_refl _)
  generalize iK s s.fs.length=T at hTl hb ⊢
  have hdn:∀v,aQ Tryz.prog 89 [.ptr 0 b5 [] 0] (kC b5 v ⟨T,0⟩) (fun r os=>r= .tup [.s T,.i .i64 0]∧∃v',os=kC b5 v' ⟨T,0⟩):=fun v=>by
   have h:=jQ b5 v ⟨T,0⟩
   rw[uz,if_neg (by omega)] at h
   exact h
  have hwr:=pM T (by omega)
  have hsw:nc T=(bo T,0):=by unfold nc;rw[if_neg (by omega)]
  rw[hsw] at hwr
  subst hb
  generalize bo T=S at hwr ⊢
  repeat' (first|refine ae ?_|refine aa ?_|refine ac (ax ?_)|refine ah (ax ?_)|refine aw (ax ?_)|refine ap (bC ?_)|refine aU ab (fun _=>?_)|refine aB Z ?_|(refine ao Z (fun hc=>?_) (fun hc=>?_))<;>try omega|refine au Z (hwr) ⟨aP,J⟩ Z ?_|(refine cJ Z Z Z Z Z (hdn _) ⟨af,J⟩ (ak _) (ak _) Z Z ?_;rintro _ _ ⟨rfl,wv,rfl⟩;refine⟨_,_,rfl,_,rfl,?_⟩))
  exact aH [] [] (.tup [.s S,.i .i64 0]) Z (aW (av _) (av _) Z Z) .nil ⟨rfl,rfl⟩
 ·rw[if_pos h0] at hb
  generalize bT s=c at hck hb h0
  subst hb
  repeat' (first|refine ae ?_|refine aa ?_|refine ac (ax ?_)|refine ap (bC ?_)|refine aU ab (fun _=>?_)|refine c9 (d:=1) Z Z Z Z (fun b1=>?_)|(refine bF Z (fun hc=>?_) (fun hc=>?_))<;>try omega|refine au Z (hck) ⟨aP,J⟩ Z ?_)
  exact aH [] [] (.tup [.s [],.i .i64 c]) Z (aW (av _) (av _) Z Z) .nil ⟨rfl,rfl⟩
theorem nU{r:RS}(h:r.e≠3)(n:Nat):(r.take n).2.e≠3:=by
 unfold RS.take;split
 ·exact h
 ·split
  ·show (5:Int)≠3;decide
  ·show (0:Int)≠3;decide
theorem uQ{r:RS}(h:r.e≠3)(x:Int)(hx:x≠3):(r.fail x).e≠3:=by
 unfold RS.fail;split
 ·exact hx
 ·exact h
theorem ir{r:RS}(h:r.e≠3):r.number.2.e≠3:=by
 unfold RS.number;split
 ·exact nU h _
 ·split
  ·exact uQ (nU h _) 4 (by decide)
  ·split
   ·exact uQ (nU (nU h _) _) 4 (by decide)
   ·exact nU (nU h _) _
theorem Ew{r:RS}(h:r.e≠3):r.text.2.e≠3:=by
 unfold RS.text
 refine nU ?_ _
 unfold RS.big;split
 ·exact uQ (ir h) 2 (by decide)
 ·exact ir h
theorem JF(s:List UInt8):(RS.open s).e≠3:=by
 unfold RS.open;show (if _ then (2:Int) else 0)≠3;split<;>decide
theorem IJ{r:RS}(h:r.e≠3){d:Int}(hd:r.done=d):(d≠0∧d≠3)↔r.e≠0:=by
 subst hd
 unfold RS.done
 split
 ·rename_i h1;exact⟨fun h2=>absurd Z h2.2,fun h2=>absurd h1.1 h2⟩
 ·exact⟨fun h2=>h2.1,fun h2=>⟨h2,h⟩⟩
def Mb(r:RS):Fl×RS:=
 (⟨(r.number.1:Nat),(r.number.2.number.1:Nat),(r.number.2.number.2.number.1:Nat),r.number.2.number.2.number.2.text.1,r.number.2.number.2.number.2.text.2.text.1⟩,r.number.2.number.2.number.2.text.2.text.2)
def E0:Nat→RS→List Fl→RS×List Fl
 |0,r,l=>(r,l)
 |k+1,r,l=>if (Mb r).2.e≠0 then ((Mb r).2,l) else E0 k (Mb r).2 (l++[(Mb r).1])
def zS:iH:=⟨0,0,[]⟩
def t9(s:List UInt8):iH×Int:=
 if (cN s).2.2≠0 then (zS,(cN s).2.2) else if (cN s).2.1≠s.length then (zS,3) else
 let q:=RS.open (cN s).1
 let b:=q.number.2.number.2.below 1001
 let R:=E0 b.1 b.2 []
 if R.1.done≠0 then (zS,R.1.done) else
 let t:iH:=⟨(q.number.1:Nat),(q.number.2.number.1:Nat),R.2⟩
 if bT t≠0 then (zS,bT t) else (t,0)
theorem wD{fr:Fr}:aL fr (.agg [.i .i64 0,.i .i64 0,.nil]) (iA zS):=bS (.cons (av _) (.cons (av _) (.cons cQ .nil)))
theorem Dq(s:List UInt8)(hs:s.length≤1000000000):aQ Tryz.prog 24 [.s s] [] (fun v os=>v= .tup [iA (t9 s).1,.i .i64 (t9 s).2]∧os=[]):=by
 refine aA ab [] Tryz.func24 Z Tryz.ntmps24 aN Z Z (fun C=>?_) Z
 have hso:=lS s hs
 have hsl:(cN s).1.length≤1000000000:=Nat.le_trans (xJ s) hs
 have hbr:t9 s=if (cN s).2.2≠0 then (zS,(cN s).2.2) else if (cN s).2.1≠s.length then (zS,3) else
  if (E0 ((RS.open (cN s).1).number.2.number.2.below 1001).1 ((RS.open (cN s).1).number.2.number.2.below 1001).2 []).1.done≠0 then (zS,(E0 ((RS.open (cN s).1).number.2.number.2.below 1001).1 ((RS.open (cN s).1).number.2.number.2.below 1001).2 []).1.done) else
  if bT ⟨((RS.open (cN s).1).number.1:Nat),((RS.open (cN s).1).number.2.number.1:Nat),(E0 ((RS.open (cN s).1).number.2.number.2.below 1001).1 ((RS.open (cN s).1).number.2.number.2.below 1001).2 []).2⟩≠0 then
   (zS,bT ⟨((RS.open (cN s).1).number.1:Nat),((RS.open (cN s).1).number.2.number.1:Nat),(E0 ((RS.open (cN s).1).number.2.number.2.below 1001).1 ((RS.open (cN s).1).number.2.number.2.below 1001).2 []).2⟩) else
   (⟨((RS.open (cN s).1).number.1:Nat),((RS.open (cN s).1).number.2.number.1:Nat),(E0 ((RS.open (cN s).1).number.2.number.2.below 1001).1 ((RS.open (cN s).1).number.2.number.2.below 1001).2 []).2⟩,0):=rfl
 generalize t9 s=out at hbr ⊢
 generalize cN s=o at hso hbr hsl
 obtain⟨t,sz,e⟩:=o
 dsimp only at hso hbr hsl
 by_cases he:e≠0
 ·rw[if_pos he] at hbr;subst hbr
  repeat' (first|refine ae ?_|refine aa ?_|refine ac (ax ?_)|refine ap (bC ?_)|refine aU ab (fun _=>?_)|refine aF (d:=2) Z ab Z Z Z (fun b2=>?_)|refine aD ab Z Z Z Z Z Z Z ⟨rfl,rfl⟩ Z Z Z Z Z ?_|refine cd ab Z Z Z Z Z Z eo ?_|(refine bF Z (fun hc=>?_) (fun hc=>?_))<;>try omega|refine au Z (hso) ⟨aP,J⟩ Z ?_)
  refine cS [] [] (.tup [iA zS,.i .i64 e]) Z ?_ ?_ (aW wD (am Z) Z Z) .nil ⟨rfl,rfl⟩ _ (.inl Z)
  all_goals first|exact⟨trivial,trivial⟩|trivial|exact⟨trivial,trivial,trivial⟩|(repeat' (first|exact J|exact rfl|refine⟨?_,?_⟩))
 rw[if_neg he] at hbr
 by_cases hsz:sz≠s.length
 ·rw[if_pos hsz] at hbr;subst hbr
  repeat' (first|refine ae ?_|refine aa ?_|refine ac (ax ?_)|refine ah (ax ?_)|refine ap (bC ?_)|refine aU ab (fun _=>?_)|refine aF (d:=2) Z ab Z Z Z (fun b2=>?_)|refine aD ab Z Z Z Z Z Z Z ⟨rfl,rfl⟩ Z Z Z Z Z ?_|refine cd ab Z Z Z Z Z Z eo ?_|(refine bF Z (fun hc=>?_) (fun hc=>?_))<;>try omega|refine au Z (hso) ⟨aP,J⟩ Z ?_)
  refine cS [] [] (.tup [iA zS,.i .i64 3]) Z ?_ ?_ (aW wD (am Z) Z Z) .nil ⟨rfl,rfl⟩ _ (.inl Z)
  all_goals first|exact⟨trivial,trivial⟩|trivial|exact⟨trivial,trivial,trivial⟩|(repeat' (first|exact J|exact rfl|refine⟨?_,?_⟩))
 rw[if_neg hsz] at hbr
 have hop:=jW t
 have hok0:=RS.ok_open (s:=t) (by omega)
 have he0:=JF t
 generalize RS.open t=q at hop hok0 he0 hbr
 have hN1:=fun b=>dX b q hok0
 have hok1:=RS.ok_number hok0
 have he1:=ir he0
 generalize q.number.1=nx at hN1 hbr
 generalize q.number.2=q1 at hN1 hok1 he1 hbr
 have hN2:=fun b=>dX b q1 hok1
 have hok2:=RS.ok_number hok1
 have he2:=ir he1
 generalize q1.number.1=lg at hN2 hbr
 generalize q1.number.2=q2 at hN2 hok2 he2 hbr
 have hB:=fun b=>mI b 1001 q2 hok2
 have hbw:(q2.below 1001).1≤1000:=by
  unfold RS.below;split
  ·exact Nat.zero_le _
  ·rename_i h;have h:¬ (1001:Int)≤(q2.number.1:Int):=h;omega
 have hokb:(q2.below 1001).2.ok:=by
  unfold RS.below;split
  ·exact RS.ok_fail (RS.ok_number hok2) _
  ·exact RS.ok_number hok2
 have heb:(q2.below 1001).2.e≠3:=by
  unfold RS.below;split
  ·exact uQ (ir he2) 2 (by decide)
  ·exact ir he2
 generalize (q2.below 1001).1=c at hbw hbr hB
 generalize (q2.below 1001).2=r0 at hokb heb hbr hB
 obtain⟨R,hR⟩:∃R,E0 c r0 []=R:=⟨_,rfl⟩
 rw[hR] at hbr
 repeat' (first|refine ae ?_|refine aj ?_|refine aa ?_|refine ac (ax ?_)|refine ah (ax ?_)|refine aU ab (fun _=>?_)|refine aF (d:=2) Z ab Z Z Z (fun b2=>?_)|refine aF (d:=8) Z ab Z Z Z (fun b8=>?_)|refine aD ab Z Z Z Z Z Z Z ⟨rfl,rfl⟩ Z Z Z Z Z ?_|refine cd ab Z Z Z Z Z Z eo ?_|(refine bF Z (fun hc=>?_) (fun hc=>?_))<;>try omega|(refine pS Z hop ⟨aP,J⟩ Z (fun bN=>?_))|refine au Z (hso) ⟨aP,J⟩ Z ?_|(refine bh Z Z Z Z (hN1 _) ⟨af,J⟩ (ak _) Z Z ?_;rintro _ _ ⟨rfl,rfl⟩;refine⟨_,rfl,_,rfl,?_⟩)|(refine bh Z Z Z Z (hN2 _) ⟨af,J⟩ (ak _) Z Z ?_;rintro _ _ ⟨rfl,rfl⟩;refine⟨_,rfl,_,rfl,?_⟩)|(refine bh Z Z Z Z (hB _) ⟨af,aP,J⟩ (ak _) Z Z ?_;rintro _ _ ⟨rfl,rfl⟩;refine⟨_,rfl,_,rfl,?_⟩))
 refine aO (fun q:Nat×RS×List Fl×Value=>⟨80,[(37,.i .i64 q.1),(36,.i .i64 c),(8,.ptr 8 b8 [] 0),(7,.ptr 29 bN [] 0),(2,.ptr 2 b2 [] 0)],[(8,.var b8 (.agg [.i .i64 nx,.i .i64 lg,.own 64 q.2.2.2])),(64,.row q.2.2.2 76 5 (q.2.2.1.map eF)),(29,.var bN (ry q.2.1)),(2,.var b2 (.agg [.i .i64 0,.i .i64 0,.nil]))]⟩) (fun q=>q.1≤c∧E0 (c - q.1) q.2.1 q.2.2.1=R∧q.2.1.ok∧q.2.1.e≠3∧q.2.2.1.length≤q.1) (fun q=>c - q.1) [] (0,r0,[],.slice none 0 0) ⟨Nat.zero_le _,hR,hokb,heb,Nat.le_refl _⟩ ?_ ?_
 ·exact⟨rfl,⟨ai Z,ai Z,af,af,af,J⟩,cr.cons 8 Z (bW (bS (.cons (av _) (.cons (av _) (.cons dz .nil))))) (.none (az 29 Z (az 2 Z .nil)))⟩
 clear hN1 hN2 hB hop hso
 rintro⟨i,r,l,v⟩ ⟨hic,hbl,hrok,hre,hln⟩
 dsimp only at hic hbl hrok hre hln ⊢
 by_cases hlt:i<c
 ·have hst:E0 (c - i) r l=if r.number.2.number.2.number.2.text.2.text.2.e≠0 then (r.number.2.number.2.number.2.text.2.text.2,l)
   else E0 (c - (i+1)) r.number.2.number.2.number.2.text.2.text.2 (l++[⟨(r.number.1:Nat),(r.number.2.number.1:Nat),(r.number.2.number.2.number.1:Nat),r.number.2.number.2.number.2.text.1,r.number.2.number.2.number.2.text.2.text.1⟩]):=by
   rw[show c - i=(c - (i+1))+1 by omega];rfl
  rw[hbl] at hst
  have hA:=dX bN r hrok
  have ok1:=RS.ok_number hrok
  have e1:=ir hre
  generalize r.number.1=a1 at hA hst
  generalize r.number.2=r1 at hA ok1 e1 hst
  have hB:=dX bN r1 ok1
  have ok2:=RS.ok_number ok1
  have e2:=ir e1
  generalize r1.number.1=a2 at hB hst
  generalize r1.number.2=r2 at hB ok2 e2 hst
  have hC:=dX bN r2 ok2
  have ok3:=RS.ok_number ok2
  have e3:=ir e2
  generalize r2.number.1=a3 at hC hst
  generalize r2.number.2=r3 at hC ok3 e3 hst
  have hD:=fX bN r3 ok3
  have ok4:=RS.ok_text ok3
  have e4:=Ew e3
  generalize r3.text.1=t1 at hD hst
  generalize r3.text.2=r4 at hD ok4 e4 hst
  have hE:=fX bN r4 ok4
  have ok5:=RS.ok_text ok4
  have e5:=Ew e4
  generalize r4.text.1=t2 at hE hst
  generalize r4.text.2=r5 at hE ok5 e5 hst
  have hF:=fY bN r5
  generalize hd:r5.done=d at hF
  have hdi:=IJ e5 hd
  by_cases hr5:r5.e≠0
  ·have hdd:=hdi.2 hr5
   rw[if_pos hr5] at hst
   subst hst
   have hbr:out=if r5.done≠0 then (zS,r5.done) else if bT {next:=nx,log:=lg,fs:=l}≠0 then (zS,bT {next:=nx,log:=lg,fs:=l}) else ({next:=nx,log:=lg,fs:=l},0):=hbr
   rw[hd,if_pos hdd.1] at hbr
   subst hbr
   obtain⟨hd1,hd2⟩:=hdd
   repeat' (first|refine ae ?_|refine aj ?_|refine aa ?_|refine ac (ax ?_)|refine ah (ax ?_)|refine ap (bC ?_)|refine aU ab (fun _=>?_)|refine aF (d:=9) Z ab Z Z Z (fun b9=>?_)|refine aD ab Z Z Z Z Z Z Z ⟨rfl,rfl⟩ Z Z Z Z Z ?_|refine cd ab Z Z Z Z Z Z eo ?_|(fail_if_success (refine aM Z cM ?_));(refine eO Z Z (fun hc=>?_) (fun hc=>?_)<;>try omega)|(refine ao Z (fun hc=>?_) (fun hc=>?_))<;>try omega|(refine bF Z (fun hc=>?_) (fun hc=>?_))<;>try omega|(refine bh Z Z Z Z (hA) ⟨af,J⟩ (ak _) Z Z ?_;rintro _ _ ⟨rfl,rfl⟩;refine⟨_,rfl,_,rfl,?_⟩)|(refine bh Z Z Z Z (hB) ⟨af,J⟩ (ak _) Z Z ?_;rintro _ _ ⟨rfl,rfl⟩;refine⟨_,rfl,_,rfl,?_⟩)|(refine bh Z Z Z Z (hC) ⟨af,J⟩ (ak _) Z Z ?_;rintro _ _ ⟨rfl,rfl⟩;refine⟨_,rfl,_,rfl,?_⟩)|(refine bh Z Z Z Z (hD) ⟨af,J⟩ (ak _) Z Z ?_;rintro _ _ ⟨rfl,rfl⟩;refine⟨_,rfl,_,rfl,?_⟩)|(refine bh Z Z Z Z (hE) ⟨af,J⟩ (ak _) Z Z ?_;rintro _ _ ⟨rfl,rfl⟩;refine⟨_,rfl,_,rfl,?_⟩)|(refine bh Z Z Z Z (hF) ⟨af,J⟩ (ak _) Z Z ?_;rintro _ _ ⟨rfl,rfl⟩;refine⟨_,rfl,_,rfl,?_⟩))
   refine cS [] [] (.tup [iA zS,.i .i64 d]) Z ?_ ?_ (aW wD (am Z) Z Z) .nil ⟨rfl,rfl⟩ _ (.inl Z)
   all_goals first|exact⟨trivial,trivial⟩|trivial|exact⟨trivial,trivial,trivial⟩|(repeat' (first|exact J|exact rfl|refine⟨?_,?_⟩))
  ·have hdd:¬ (d≠0∧d≠3):=fun h=>hr5 (hdi.1 h)
   rw[if_neg hr5] at hst
   repeat' (first|refine ae ?_|refine aj ?_|refine aa ?_|refine ac (ax ?_)|refine ac (db ?_)|refine ah (ax ?_)|refine d9 Z Z Z cM ?_|(refine bc Z Z Z Z ?_ ?_;omega)|refine aU ab (fun _=>?_)|refine aF (d:=9) Z ab Z Z Z (fun b9=>?_)|refine aD ab Z Z Z Z Z Z Z ⟨rfl,rfl⟩ Z Z Z Z Z ?_|refine cd ab Z Z Z Z Z Z eo ?_|refine aI ab Z Z Z Z Z Z Z Z Z Z Z eo (fun _=>?_)|(refine bH ab Z Z Z Z Z Z Z Z Z (by first|exact J|exact rfl) Z Z (fun _=>rfl) ?_ ?_ (fun _=>?_);(exact dt);(exact dt))|(fail_if_success (refine aM Z cM ?_));(refine eO Z Z (fun hc=>?_) (fun hc=>?_)<;>try omega)|refine aB Z ?_|(refine ao Z (fun hc=>?_) (fun hc=>?_))<;>try omega|(refine bF Z (fun hc=>?_) (fun hc=>?_))<;>try omega|(refine bh Z Z Z Z (hA) ⟨af,J⟩ (ak _) Z Z ?_;rintro _ _ ⟨rfl,rfl⟩;refine⟨_,rfl,_,rfl,?_⟩)|(refine bh Z Z Z Z (hB) ⟨af,J⟩ (ak _) Z Z ?_;rintro _ _ ⟨rfl,rfl⟩;refine⟨_,rfl,_,rfl,?_⟩)|(refine bh Z Z Z Z (hC) ⟨af,J⟩ (ak _) Z Z ?_;rintro _ _ ⟨rfl,rfl⟩;refine⟨_,rfl,_,rfl,?_⟩)|(refine bh Z Z Z Z (hD) ⟨af,J⟩ (ak _) Z Z ?_;rintro _ _ ⟨rfl,rfl⟩;refine⟨_,rfl,_,rfl,?_⟩)|(refine bh Z Z Z Z (hE) ⟨af,J⟩ (ak _) Z Z ?_;rintro _ _ ⟨rfl,rfl⟩;refine⟨_,rfl,_,rfl,?_⟩)|(refine bh Z Z Z Z (hF) ⟨af,J⟩ (ak _) Z Z ?_;rintro _ _ ⟨rfl,rfl⟩;refine⟨_,rfl,_,rfl,?_⟩))
   all_goals refine⟨(i+1,r5,l++[⟨a1,a2,a3,t1,t2⟩],_),[],⟨hlt,hst.symm,ok5,e5,by rw[List.length_append];exact Nat.succ_le_succ hln⟩,by show c - (i+1)<c - i;omega,rfl,⟨ai Z,ai Z,af,af,af,J⟩,az 8 Z (cr.cons 64 Z (aZ ?_) (az 29 Z (az 2 Z .nil)))⟩
   all_goals (rw[List.map_append];rfl)
 have hil:i=c:=by omega
 subst hil
 have hR2:(r,l)=R:=by rw[←hbl,Nat.sub_self];rfl
 subst hR2
 refine ag.weaken [64] (S':=⟨80,[(37,.i .i64 i),(36,.i .i64 i),(8,.ptr 8 b8 [] 0),(7,.ptr 29 bN [] 0),(2,.ptr 2 b2 [] 0)],[(8,.var b8 (iA ⟨nx,lg,l⟩)),(29,.var bN (ry r)),(2,.var b2 (.agg [.i .i64 0,.i .i64 0,.nil]))]⟩) ⟨rfl,⟨ai Z,ai Z,af,af,af,J⟩,cr.cons 8 Z (bW (bS (.cons (av _) (.cons (av _) (.cons (bP (.head _)) .nil))))) (az 29 Z (az 2 Z .nil))⟩ ?_
 have hF:=fY bN r
 dsimp only at hbr
 generalize r.done=d at hF hbr
 have hck:=jk ⟨nx,lg,l⟩
 generalize bT ⟨nx,lg,l⟩=ck at hck hbr
 by_cases hd:d≠0
 ·rw[if_pos hd] at hbr
  subst hbr
  repeat' (first|refine ae ?_|refine aa ?_|refine ac (ax ?_)|refine aw (ax ?_)|refine ap (bC ?_)|refine aU ab (fun _=>?_)|refine aD ab Z Z Z Z Z Z Z ⟨rfl,rfl⟩ Z Z Z Z Z ?_|refine cd ab Z Z Z Z Z Z eo ?_|(refine ao Z (fun hc=>?_) (fun hc=>?_))<;>try omega|(refine bF Z (fun hc=>?_) (fun hc=>?_))<;>try omega|(refine bh Z Z Z Z (hF) ⟨af,J⟩ (ak _) Z Z ?_;rintro _ _ ⟨rfl,rfl⟩;refine⟨_,rfl,_,rfl,?_⟩))
  refine cS [] [] (.tup [iA zS,.i .i64 d]) Z ?_ ?_ (aW wD (am Z) Z Z) .nil ⟨rfl,rfl⟩ _ (.inl Z)
  all_goals first|exact⟨trivial,trivial⟩|trivial|exact⟨trivial,trivial,trivial⟩|(repeat' (first|exact J|exact rfl|refine⟨?_,?_⟩))
 rw[if_neg hd] at hbr
 by_cases hk:ck≠0
 ·rw[if_pos hk] at hbr
  subst hbr
  repeat' (first|refine ae ?_|refine aa ?_|refine ac (ax ?_)|refine ah (ax ?_)|refine aw (ax ?_)|refine ap (bC ?_)|refine aU ab (fun _=>?_)|refine aD ab Z Z Z Z Z Z Z ⟨rfl,rfl⟩ Z Z Z Z Z ?_|refine cd ab Z Z Z Z Z Z eo ?_|(refine ao Z (fun hc=>?_) (fun hc=>?_))<;>try omega|(refine bF Z (fun hc=>?_) (fun hc=>?_))<;>try omega|refine au Z (hck) ⟨aP,J⟩ Z ?_|(refine bh Z Z Z Z (hF) ⟨af,J⟩ (ak _) Z Z ?_;rintro _ _ ⟨rfl,rfl⟩;refine⟨_,rfl,_,rfl,?_⟩))
  refine cS [] [] (.tup [iA zS,.i .i64 ck]) Z ?_ ?_ (aW wD (am Z) Z Z) .nil ⟨rfl,rfl⟩ _ (.inl Z)
  all_goals first|exact⟨trivial,trivial⟩|trivial|exact⟨trivial,trivial,trivial⟩|(repeat' (first|exact J|exact rfl|refine⟨?_,?_⟩))
 rw[if_neg hk] at hbr
 subst hbr
 repeat' (first|refine ae ?_|refine aa ?_|refine ac (ax ?_)|refine ah (ax ?_)|refine aw (ax ?_)|refine ap (bC ?_)|refine aU ab (fun _=>?_)|refine aD ab Z Z Z Z Z Z Z ⟨rfl,rfl⟩ Z Z Z Z Z ?_|(refine ao Z (fun hc=>?_) (fun hc=>?_))<;>try omega|(refine bF Z (fun hc=>?_) (fun hc=>?_))<;>try omega|refine au Z (hck) ⟨aP,J⟩ Z ?_|(refine bh Z Z Z Z (hF) ⟨af,J⟩ (ak _) Z Z ?_;rintro _ _ ⟨rfl,rfl⟩;refine⟨_,rfl,_,rfl,?_⟩))
 refine cS [] [] (.tup [iA ⟨nx,lg,l⟩,.i .i64 0]) Z ?_ ?_ (aW (am Z) (am Z) Z Z) .nil ⟨rfl,rfl⟩ _ (.inl Z)
 all_goals first|exact⟨trivial,trivial⟩|trivial|exact⟨trivial,trivial,trivial⟩|(repeat' (first|exact J|exact rfl|refine⟨?_,?_⟩))
end Go.Proofs.YtginkbjclkdglaaGreat
