/- What block.Make writes, block.Read reads: in plain Lean. -/
import Derived.Test.YtginkbjclkdglaaGreatKH4Z
import Derived.Test.YtginkbjclkdglaaGreatKFZ
import Derived.Test.YtginkbjclkdglaaGreatV18Z
set_option maxHeartbeats 4000000
namespace Go.Proofs.YtginkbjclkdglaaGreat
open Go Go.RowKit
theorem Cc:∀(a b:List UInt8),a.take (ms a b)=b.take (ms a b)
 |[],b=>by simp[ms]
 |a::xs,[]=>by simp[ms]
 |a::xs,b::ys=>by
  unfold ms
  by_cases h:a=b
  ·rw[if_pos h,h,List.take_succ_cons,List.take_succ_cons,Cc xs ys]
  ·rw[if_neg h];rfl
def xh(last:List UInt8)(x:aC):List UInt8:=pw last x++(if x.g then [] else gl x.v)
theorem DR(last:List UInt8)(x:aC)(t:List UInt8):BT last x t=t++xh last x:=by
 unfold BT xh
 cases x.g
 ·rw[if_neg (by decide),if_neg (by decide),List.append_assoc]
 ·rw[if_pos Z,if_pos Z,List.append_nil]
def Kp(x:aC):Prop:=x.k.length≤100∧x.v.length≤4000∧(x.g=true→x.v=[])
theorem Fk{p:Option (List UInt8)}{x:aC}(h:lx p x=0):Kp x:=by
 unfold lx at h
 split at h
 ·exact absurd h (by decide)
 ·rename_i h1
  split at h
  ·exact absurd h (by decide)
  ·rename_i h2
   refine⟨by omega,by omega,fun hg=>List.eq_nil_of_length_eq_zero ?_⟩
   exact Classical.byContradiction fun h3=>h1 (.inr ⟨hg,by omega⟩)
theorem Fj:∀(p:Option (List UInt8)) (l:List aC),oE p l=0→∀x∈l,Kp x
 |_,[],_,x,hx=>by cases hx
 |p,y::r,h,x,hx=>by
  unfold oE at h
  split at h
  ·rename_i h1;exact absurd h h1
  ·rename_i h1
   rcases List.mem_cons.1 hx with rfl|hx
   ·exact Fk (Classical.byContradiction fun h2=>h1 h2)
   ·exact Fj _ r h x hx
theorem GF{l:List aC}(h:di l=0):l.length≤256∧∀x∈l,Kp x:=by
 unfold di at h
 split at h
 ·exact absurd h (by decide)
 ·exact⟨by omega,Fj _ l h⟩
theorem rq(r:RS)(n:Nat):(⟨r.s,r.p+n,0⟩:RS).rest=r.rest.drop n:=by
 unfold RS.rest;rw[List.drop_drop]
theorem FW(r:RS)(he:r.e=0)(last:List UInt8)(x:aC)(hx:Kp x)(t:List UInt8)(h:r.rest=xh last x++t):qG r=((ms last x.k,x.k.drop (ms last x.k),x.g,x.v),⟨r.s,r.p+(xh last x).length,0⟩):=by
 obtain⟨hk,hv,hg⟩:=hx
 have hc:=(qU last x.k).2
 have hX:xh last x=ar (ms last x.k)++(bK (x.k.drop (ms last x.k))++((if x.g then 1 else 0)::(if x.g then [] else bK x.v))):=by
  unfold xh pw
  rw[List.append_assoc,List.append_assoc];rfl
 generalize hcc:ms last x.k=c at hX hc ⊢
 have hd:(x.k.drop c).length≤65536:=by rw[List.length_drop];omega
 generalize x.k.drop c=d at hX hd ⊢
 have h1:=RS.number_reads r he c (by omega) (bK d++((if x.g then 1 else 0)::(if x.g then [] else bK x.v))++t) (by rw[h,hX,List.append_assoc])
 have e1:=rq r (ar c).length
 rw[h,hX,List.append_assoc,List.drop_left] at e1
 have h2:=RS.text_reads ⟨r.s,r.p+(ar c).length,0⟩ Z d hd (((if x.g then 1 else 0)::(if x.g then [] else bK x.v))++t) (by rw[e1,List.append_assoc])
 have e2:=rq ⟨r.s,r.p+(ar c).length,0⟩ (bK d).length
 rw[e1,List.append_assoc,List.drop_left] at e2
 have h3:=RS.flag_reads ⟨r.s,r.p+(ar c).length+(bK d).length,0⟩ Z x.g ((if x.g then [] else bK x.v)++t) e2
 have e3:=rq ⟨r.s,r.p+(ar c).length+(bK d).length,0⟩ 1
 rw[e2] at e3
 have hn:r.number.1=c:=by rw[h1]
 have hr1:r.number.2=⟨r.s,r.p+(ar c).length,0⟩:=by rw[h1]
 have hlen:(xh last x).length=(ar c).length+((bK d).length+(1+(if x.g then [] else bK x.v).length)):=by
  rw[hX,List.length_append,List.length_append,List.length_cons];omega
 unfold qG
 rw[hn,hr1,h2]
 show (if (RS.flag ⟨r.s,r.p+(ar c).length+(bK d).length,0⟩).1=true then _ else _)=_
 rw[h3,hlen]
 cases hgg:x.g
 ·rw[hgg] at e3
  have h4:=RS.text_reads ⟨r.s,r.p+(ar c).length+(bK d).length+1,0⟩ Z x.v (by omega) t e3
  show (if false=true then _ else ((c,d,false,(RS.text ⟨r.s,r.p+(ar c).length+(bK d).length+1,0⟩).1),(RS.text ⟨r.s,r.p+(ar c).length+(bK d).length+1,0⟩).2))=_
  rw[if_neg (by decide),h4]
  show ((c,d,false,x.v),(⟨r.s,r.p+(ar c).length+(bK d).length+1+(bK x.v).length,0⟩:RS))=((c,d,false,x.v),⟨r.s,r.p+((ar c).length+((bK d).length+(1+(bK x.v).length))),0⟩)
  congr 2;omega
 ·rw[hg hgg]
  show ((c,d,true,[]),(⟨r.s,r.p+(ar c).length+(bK d).length+1,0⟩:RS))=((c,d,true,[]),⟨r.s,r.p+((ar c).length+((bK d).length+(1+0))),0⟩)
  congr 2;omega
theorem sE(L:List aC):∀(m k:Nat),k+m=L.length→∃t,dw L L.length=dw L k++t
 |0,k,h=>⟨[],by rw[←h,Nat.add_zero,List.append_nil]⟩
 |m+1,k,h=>by
  obtain⟨t,ht⟩:=sE L m (k+1) (by omega)
  exact⟨xh (fF L k) (L[k]'(by omega))++t,by rw[ht,jU L k (by omega),DR,List.append_assoc]⟩
theorem Nf(T:List UInt8)(p:Nat):¬ ((⟨T,p,0⟩:RS).done≠0∧(⟨T,p,0⟩:RS).done≠3):=by
 unfold RS.done
 split
 ·exact fun h=>h.2 Z
 ·exact fun h=>h.1 Z
theorem um(L:List aC)(hok:∀x∈L,Kp x):∀(m k:Nat),k+m=L.length→pH m ⟨dw L L.length,(dw L k).length,0⟩ (fF L k) (L.take k)=some (⟨dw L L.length,(dw L L.length).length,0⟩,L)
 |0,k,h=>by
  rw[show k=L.length by omega,List.take_length];rfl
 |m+1,k,h=>by
  have hk:k<L.length:=by omega
  obtain⟨t,ht⟩:=sE L m (k+1) (by omega)
  have hx:=hok _ (List.getElem_mem hk)
  rw[jU L k hk,DR,List.append_assoc] at ht
  have hr:=FW ⟨dw L L.length,(dw L k).length,0⟩ Z (fF L k) L[k] hx t (by
   unfold RS.rest
   show (dw L L.length).drop (dw L k).length=_
   rw[ht,List.drop_left])
  have ih:=um L hok m (k+1) (by omega)
  have hlen:(dw L (k+1)).length=(dw L k).length+(xh (fF L k) L[k]).length:=by rw[jU L k hk,DR,List.length_append]
  have hls:=qM L k hk
  have hcl:=(qU (fF L k) L[k].k).1
  have hkey:(fF L k).take (ms (fF L k) L[k].k)++L[k].k.drop (ms (fF L k) L[k].k)=L[k].k:=by rw[Cc,List.take_append_drop]
  unfold pH
  rw[hr]
  dsimp only
  rw[if_neg (Nf _ _),if_neg (by omega),hkey,if_neg (fun h=>h Z),←hlen]
  rw[hls,List.take_succ_eq_append_getElem hk] at ih
  exact ih
theorem Ed(L:List aC)(hck:di L=0)(hT:(dw L L.length).length≤65536)(more:List UInt8):qr (bo (dw L L.length)++more)=(L,8+(dw L L.length).length,0):=by
 obtain⟨hl,hok⟩:=GF hck
 have hb:=um L hok L.length 0 (by omega)
 obtain⟨t,ht⟩:=sE L L.length 0 (by omega)
 rw[Ka,lR _ _ hT]
 have ho:RS.open (dw L L.length)=⟨dw L L.length,0,0⟩:=by unfold RS.open;rw[if_neg (by omega)]
 have hn:=RS.number_reads ⟨dw L L.length,0,0⟩ Z L.length (by omega) t (by unfold RS.rest;exact ht)
 have hbw:(RS.open (dw L L.length)).below 257=(L.length,⟨dw L L.length,(dw L 0).length,0⟩):=by
  rw[ho]
  unfold RS.below
  rw[hn,if_neg (by show ¬ (257:Int)≤(L.length:Int);omega)]
  show (L.length,(⟨dw L L.length,0+(ar L.length).length,0⟩:RS))=_
  rw[Nat.zero_add];rfl
 unfold I8
 rw[if_neg (fun h=>h Z)]
 dsimp only
 rw[hbw]
 have hb2:pH L.length ⟨dw L L.length,(dw L 0).length,0⟩ [] []=some (⟨dw L L.length,(dw L L.length).length,0⟩,L):=hb
 dsimp only
 rw[hb2]
 dsimp only
 have hd:(⟨dw L L.length,(dw L L.length).length,0⟩:RS).done=0:=by
  unfold RS.done;rw[if_neg (fun h=>absurd h.2 (Nat.lt_irrefl _))]
 rw[if_neg (by rw[hd];exact fun h=>h Z),if_neg (by rw[hck];exact fun h=>h Z)]
def NG:List UInt8→List aC→List UInt8
 |_,[]=>[]
 |last,x::E=>xh last x++NG x.k E
theorem EM{r r':RS}{a t:List UInt8}(h:r.rest=a++t)(h2:r'=⟨r.s,r.p+a.length,0⟩):r'.rest=t:=by
 rw[h2,rq,h,List.drop_left]
set_option maxHeartbeats 16000000
set_option maxRecDepth 100000
def pB(p:tJ):List UInt8:=ar p.a++gl p.l
def rz(ps:List tJ):List UInt8:=ps.flatMap pB
theorem ze{r:RS}(he:r.e=0)(hok:r.ok){n:Nat}(hn:n<9223372036854775808){t:List UInt8}(h:r.rest=ar n++t):∃r',r.number=(n,r')∧r'.e=0∧r'.ok∧r'.rest=t:=by
 have h1:=RS.number_reads r he n hn t h
 have h2:=RS.ok_number hok
 rw[h1] at h2
 exact⟨_,h1,rfl,h2,EM h Z⟩
theorem CA{r:RS}(he:r.e=0)(hok:r.ok){s:List UInt8}(hs:s.length≤65536){t:List UInt8}(h:r.rest=gl s++t):∃r',r.text=(s,r')∧r'.e=0∧r'.ok∧r'.rest=t:=by
 have h1:=RS.text_reads r he s hs t h
 have h2:=RS.ok_text hok
 rw[h1] at h2
 exact⟨_,h1,rfl,h2,EM (a:=bK s) h Z⟩
theorem GC{r:RS}(he:r.e=0):r.done=0∨r.done=3:=by
 unfold RS.done;rw[he]
 split
 ·exact .inr Z
 ·exact .inl Z
theorem BU{r:RS}(he:r.e=0)(h:r.rest=[]):r.done=0:=by
 have h1:=r.rest_len
 rw[h] at h1
 have h1:0=r.s.length - r.p:=h1
 unfold RS.done;rw[if_neg (by omega),he]
structure Ki(ps:List tJ)(en:Nat):Prop where
 pos:0<ps.length
 few:ps.length≤2048
 fst:∀(h:0<ps.length),ps[0].a=0
 up:∀i (h:i<ps.length) (h0:0<i),ps[i - 1].a<ps[i].a∧Op.bytesLess ps[i - 1].l ps[i].l=true
 lt:∀p∈ps,p.a<en∧p.l.length≤65536
theorem Ab(b:Nat)(text fb first:List UInt8)(fp:Nat)(count en:Nat)(ps:List tJ)(hp:Ki ps en)(hc1:ps.length≤count)(hc2:count≤2048)(hen:en≤1000000000)(hil:(ar ps.length++rz ps).length≤65536):
 aQ Tryz.prog 148 [.ptr 0 b [] 0,.s (ar ps.length++rz ps),.i .i64 en] [.var b (.agg [.s text,.nil,uf (fp:Nat) fb,.i .i64 count,.s first])] (fun v os=>v= .i .i64 0∧∃vp,os=[.var b (.agg [.s text,.own 1 vp,uf (fp:Nat) fb,.i .i64 count,.s first]),.row vp 146 2 (ps.map oz)]):=by
 refine aA ab [(0,.var b (.agg [.s text,.nil,uf (fp:Nat) fb,.i .i64 count,.s first]))] Tryz.func148 Z Tryz.ntmps148 aN Z Z (fun C=>?_) Z
 have hfew:=hp.few
 have hr0:RS.open (ar ps.length++rz ps)=⟨ar ps.length++rz ps,0,0⟩:=by unfold RS.open;rw[if_neg (by omega)]
 have hok0:=RS.ok_open (s:=ar ps.length++rz ps) (by omega)
 have hrr:(RS.open (ar ps.length++rz ps)).rest=ar ps.length++rz ps:=by rw[hr0];rfl
 obtain⟨r0,hn0,he0,ok0,hre0⟩:=ze (by rw[hr0]) hok0 (by omega) hrr
 have hbl:(RS.open (ar ps.length++rz ps)).below 2049=(ps.length,r0):=by
  unfold RS.below;rw[hn0,if_neg (by show ¬ (2049:Int)≤((ps.length:Nat):Int);omega)]
 have hop:=jW (ar ps.length++rz ps)
 have hbe:=fun b=>mI b 2049 (RS.open (ar ps.length++rz ps)) hok0
 rw[hbl] at hbe
 dsimp only at hbe
 generalize RS.open (ar ps.length++rz ps)=ro at hop hbe
 generalize ar ps.length++rz ps=idx at hop
 repeat' (first|refine ae ?_|refine aj ?_|refine aa ?_|refine ac (ax ?_)|refine aU ab (fun _=>?_)|(refine pS Z hop ⟨aP,J⟩ Z (fun bN=>?_))|(refine bh Z Z Z Z (hbe _) ⟨af,aP,J⟩ (ak _) Z Z ?_;rintro _ _ ⟨rfl,rfl⟩;refine⟨_,rfl,_,rfl,?_⟩))
 refine aO (fun z:Nat×RS×Value=>⟨123,[(16,.i .i64 z.1),(15,.i .i64 ps.length),(7,.ptr 13 bN [] 0),(0,.ptr 0 b [] 0),(2,.i .i64 en)],[(0,.var b (.agg [.s text,.own 1 z.2.2,uf (fp:Nat) fb,.i .i64 count,.s first])),(1,.row z.2.2 146 2 ((ps.take z.1).map oz)),(13,.var bN (ry z.2.1))]⟩) (fun z=>z.1≤ps.length∧z.2.1.e=0∧z.2.1.ok∧z.2.1.rest=rz (ps.drop z.1)) (fun z=>ps.length - z.1) [] (0,r0,.slice none 0 0) ⟨Nat.zero_le _,he0,ok0,hre0⟩ ?_ ?_
 ·exact⟨rfl,⟨ai Z,ai Z,af,af,ai Z,J⟩,cr.cons 0 Z (bW (bS (.cons (av _) (.cons dz (.cons (av _) (.cons (av _) (.cons (av _) .nil))))))) (.none (az 13 Z .nil))⟩
 rintro⟨i,r,v⟩ ⟨hi,he,hok,hre⟩
 dsimp only at hi he hok hre ⊢
 by_cases hlt:i<ps.length
 ·rw[List.drop_eq_getElem_cons hlt] at hre
  have hre:r.rest=ar ps[i].a++(gl ps[i].l++rz (ps.drop (i+1))):=by
   rw[hre];show pB ps[i]++rz _=_;unfold pB;rw[List.append_assoc]
  obtain⟨hlt2,hll⟩:=hp.lt _ (List.getElem_mem hlt)
  obtain⟨r1,hn1,he1,ok1,hre1⟩:=ze he hok (by omega) hre
  obtain⟨r2,hn2,he2,ok2,hre2⟩:=CA he1 ok1 hll hre1
  have hN:=dX bN r hok
  rw[hn1] at hN
  have hT:=fX bN r1 ok1
  rw[hn2] at hT
  have hD:=fY bN r2
  have hd:=GC he2
  generalize r2.done=d at hD hd
  dsimp only at hN hT
  have htk:(ps.take i).length=i:=by rw[List.length_take];omega
  have hmt:(ps.take (i+1)).map oz=(ps.take i).map oz++[oz ps[i]]:=by rw[List.take_succ_eq_append_getElem hlt,List.map_append];rfl
  by_cases hi0:i=0
  ·have hf0:=hp.fst (by omega)
   have hf1:ps[i].a=0:=by subst hi0;exact hf0
   rcases hd with hd|hd<;>subst hd
   all_goals
    repeat' (first|refine ae ?_|refine aj ?_|refine aa ?_|refine ac (ax ?_)|refine ac (db ?_)|refine ah (ax ?_)|refine gM Z Z Z ?_|refine qj Z Z Z ?_|(refine bc Z Z Z Z ?_ ?_;omega)|refine dA Z ab Z Z Z Z (fun _=>?_)|refine aU ab (fun _=>?_)|refine aF Z ab Z Z Z (fun bA=>?_)|refine aD ab Z Z Z Z Z Z Z ⟨rfl,rfl⟩ Z Z Z Z Z ?_|refine cd ab Z Z Z Z Z Z eo ?_|refine aI ab Z Z Z Z Z Z Z Z Z Z Z eo (fun _=>?_)|(refine bH ab Z Z Z Z Z Z Z Z Z (by first|exact J|exact rfl) Z Z (fun _=>rfl) ?_ ?_ (fun _=>?_);(exact dt);(exact dt))|(fail_if_success (refine aM Z cM ?_));(refine aV Z Z (fun hc=>?_) (fun hc=>?_)<;>try omega)|(fail_if_success (refine aM Z cM ?_));(refine eO Z Z (fun hc=>?_) (fun hc=>?_)<;>try omega)|refine aB Z ?_|(refine ao Z (fun hc=>?_) (fun hc=>?_))<;>try omega|(refine cg 9 [] [] [] [0,1,2,3,4,5,6,7,8,9,10,11,13,14,15,17,18,12,16,19,20,21,22,23,24,26,27,28,30,31,25,29,32,33,34,35,36,37,38,39,40,42,41,43,44] aN aN aN Z Z Z ?_;(try dsimp only[List.getElem_toArray,List.getElem_cons_zero,List.getElem_cons_succ]))|refine cg 11 [0,1] [86,87] [88] [0,1,2,3,4,5,6,7,8,9,10] aN aN aN Z Z Z ?_|(refine bh Z Z Z Z (hN) ⟨af,J⟩ (ak _) Z Z ?_;rintro _ _ ⟨rfl,rfl⟩;refine⟨_,rfl,_,rfl,?_⟩)|(refine bh Z Z Z Z (hT) ⟨af,J⟩ (ak _) Z Z ?_;rintro _ _ ⟨rfl,rfl⟩;refine⟨_,rfl,_,rfl,?_⟩)|(refine bh Z Z Z Z (hD) ⟨af,J⟩ (ak _) Z Z ?_;rintro _ _ ⟨rfl,rfl⟩;refine⟨_,rfl,_,rfl,?_⟩))
   all_goals
    refine⟨(i+1,r2,_),[],⟨hlt,he2,ok2,hre2⟩,by show ps.length - (i+1)<ps.length - i;omega,rfl,⟨ai (by omega),ai Z,af,af,ai Z,J⟩,az 0 Z (cr.cons 1 Z (aZ (by rw[hmt];rfl)) (az 13 Z .nil))⟩
  ·obtain⟨hu1,hu2⟩:=hp.up i hlt (by omega)
   have hlt1:i - 1<(ps.take i).length:=by omega
   have hg1:(ps.take i)[i - 1]=ps[i - 1]:=List.getElem_take ..
   rw[←hg1] at hu1 hu2
   have hle2:(Op.bytesLess ps[i].l (ps.take i)[i - 1].l||ps[i].l==(ps.take i)[i - 1].l)=false:=by
    rw[du hu2]
    cases hbb:ps[i].l==(ps.take i)[i - 1].l
    ·rfl
    ·have:=eq_of_beq hbb
     rw[this,cW] at hu2;cases hu2
   rcases hd with hd|hd<;>subst hd
   all_goals
    repeat' (first|(exact absurd (hc.symm.trans hle2) (by decide))|refine ae ?_|refine aj ?_|refine aa ?_|refine ac (ax ?_)|refine ac (db ?_)|refine ah (ax ?_)|refine gM Z Z Z ?_|(refine bc Z Z Z Z ?_ ?_;omega)|(refine dW Z Z Z Z ?_ ?_;omega)|refine dA Z ab Z Z Z Z (fun _=>?_)|refine aU ab (fun _=>?_)|refine aF Z ab Z Z Z (fun bA=>?_)|refine aD ab Z Z Z Z Z Z Z ⟨rfl,rfl⟩ Z Z Z Z Z ?_|(refine bR ab Z Z Z Z Z (by assumption) (aY (List.getElem?_eq_getElem ?_)) Z Z (by first|exact Nat.add_zero _|rfl) ⟨rfl,rfl⟩ ?_;omega)|refine cd ab Z Z Z Z Z Z eo ?_|refine aI ab Z Z Z Z Z Z Z Z Z Z Z eo (fun _=>?_)|(refine bH ab Z Z Z Z Z Z Z Z Z (by first|exact J|exact rfl) Z Z (fun _=>rfl) ?_ ?_ (fun _=>?_);(exact dt);(exact dt))|(fail_if_success (refine aM Z cM ?_));(refine aV Z Z (fun hc=>?_) (fun hc=>?_)<;>try omega)|(fail_if_success (refine aM Z cM ?_));(refine dM Z Z (fun hc=>?_) (fun hc=>?_))|refine aB Z ?_|(refine ao Z (fun hc=>?_) (fun hc=>?_))<;>try omega|(refine cg 9 [] [] [] [0,1,2,3,4,5,6,7,8,9,10,11,13,14,15,17,18,12,16,19,20,21,22,23,24,26,27,28,30,31,25,29,32,33,34,35,36,37,38,39,40,42,41,43,44] aN aN aN Z Z Z ?_;(try dsimp only[List.getElem_toArray,List.getElem_cons_zero,List.getElem_cons_succ]))|refine cg 11 [0,1] [86,87] [88] [0,1,2,3,4,5,6,7,8,9,10] aN aN aN Z Z Z ?_|(refine bD ab Z Z Z Z Z Z Z Z (i-1) ?_ ?_ (fun bO hbO=>?_);omega;(exact dt))|(refine bh Z Z Z Z (hN) ⟨af,J⟩ (ak _) Z Z ?_;rintro _ _ ⟨rfl,rfl⟩;refine⟨_,rfl,_,rfl,?_⟩)|(refine bh Z Z Z Z (hT) ⟨af,J⟩ (ak _) Z Z ?_;rintro _ _ ⟨rfl,rfl⟩;refine⟨_,rfl,_,rfl,?_⟩)|(refine bh Z Z Z Z (hD) ⟨af,J⟩ (ak _) Z Z ?_;rintro _ _ ⟨rfl,rfl⟩;refine⟨_,rfl,_,rfl,?_⟩))
   all_goals
    refine⟨(i+1,r2,_),[],⟨hlt,he2,ok2,hre2⟩,by show ps.length - (i+1)<ps.length - i;omega,rfl,⟨ai (by omega),ai Z,af,af,ai Z,J⟩,az 0 Z (cr.cons 1 Z (aZ (by rw[hmt];rfl)) (az 13 Z .nil))⟩
 ·have hil:i=ps.length:=by omega
  subst hil
  rw[List.drop_length] at hre
  rw[List.take_length]
  have hD:=fY bN r
  rw[BU he hre] at hD
  have hpos:=hp.pos
  repeat' (first|refine ae ?_|refine aa ?_|refine ac (ax ?_)|refine ah (ax ?_)|refine aw (ax ?_)|refine ap (bC ?_)|refine dA Z ab Z Z Z Z (fun _=>?_)|refine aU ab (fun _=>?_)|(fail_if_success (refine aM Z cM ?_));(refine aV Z Z (fun hc=>?_) (fun hc=>?_)<;>try omega)|refine aB Z ?_|(refine ao Z (fun hc=>?_) (fun hc=>?_))<;>try omega|(refine cg 16 [] [] [] [0,1,2,3,4,5,6,7,8,9,11,12,13,10,14,15,16,17,18,19,20,21,22,23,24] aN aN aN Z Z Z ?_;(try dsimp only[List.getElem_toArray,List.getElem_cons_zero,List.getElem_cons_succ]))|(refine bh Z Z Z Z (hD) ⟨af,J⟩ (ak _) Z Z ?_;rintro _ _ ⟨rfl,rfl⟩;refine⟨_,rfl,_,rfl,?_⟩))
  exact bp Z Z Z [] [(0,_),(1,_)] (am Z) (bq Z (ak _) (bq Z (ak _) .nil)) ⟨rfl,v,rfl⟩ _ (.inl Z)
theorem E5(a b:List UInt8):(!Op.bytesLess a b)=GR b a:=by
 unfold GR
 rcases gt a b with h|rfl|h
 ·rw[h,du h]
  cases hb:b==a
  ·rfl
  ·have:=eq_of_beq hb
   subst this
   rw[cW] at h;cases h
 ·rw[cW];simp
 ·rw[h,du h];rfl
theorem Fx(x:Nat):[AV.i .u8 (IntKind.u8.wrap ((x:Int).fdiv (2^(min (Int.toNat 16) (IntKind.bits .i64))))),AV.i .u8 (IntKind.u8.wrap ((x:Int).fdiv (2^(min (Int.toNat 8) (IntKind.bits .i64))))),AV.i .u8 (IntKind.u8.wrap (x:Int))]=(three x).map gy:=by
 have e2:(x:Int).fdiv (2^(min (Int.toNat 16) (IntKind.bits .i64)))=((x / 65536:Nat):Int):=yV x (k:=16) (by decide)
 have e3:(x:Int).fdiv (2^(min (Int.toNat 8) (IntKind.bits .i64)))=((x / 256:Nat):Int):=yV x (k:=8) (by decide)
 rw[e2,e3,iy,iy,iy];rfl
theorem Ie(a b:List aC):(ig (a++b)).map Hg=(ig a).map Hg++(ig b).map Hg:=by unfold ig;rw[List.map_append,List.map_append]
theorem tT(b:Nat)(T:List UInt8)(hT:T.length≤65536)(v:Value):aQ Tryz.prog 134 [.ptr 0 b [] 0] (kC b v ⟨T,0⟩) (fun r os=>r= .tup [.s (bo T),.i .i64 0]∧∃v',os=kC b v' ⟨T,0⟩):=by
 refine aA ab [(0,.var b (wV v ⟨T,0⟩)),(1,.row v 5 1 (T.map gy))] Tryz.func134 Z Tryz.ntmps134 aN Z Z (fun C=>?_) Z
 have hwr:=pM T (by omega)
 have hsw:nc T=(bo T,0):=by unfold nc;rw[if_neg (by omega)]
 rw[hsw] at hwr
 have hdn:∀v,aQ Tryz.prog 89 [.ptr 0 b [] 0] (kC b v ⟨T,0⟩) (fun r os=>r= .tup [.s T,.i .i64 0]∧∃v',os=kC b v' ⟨T,0⟩):=fun v=>by
  have h:=jQ b v ⟨T,0⟩
  rw[uz,if_neg (by omega)] at h;exact h
 generalize bo T=S at hwr ⊢
 repeat' (first|refine ae ?_|refine aa ?_|refine ac (ax ?_)|refine ah (ax ?_)|refine ap (bC ?_)|refine aU ab (fun _=>?_)|refine aB Z ?_|refine au Z (hwr) ⟨aP,J⟩ Z ?_|(refine cJ Z Z Z Z Z (hdn _) ⟨af,J⟩ (ak _) (ak _) Z Z ?_;rintro _ _ ⟨rfl,wv,rfl⟩;refine⟨_,_,rfl,_,rfl,?_⟩))
 refine cS [] [(0,_),(1,_)] (.tup [.s S,.i .i64 0]) Z ?_ ?_ (aW (av _) (av _) Z Z) (bq Z (ak _) (bq Z (ak _) .nil)) ⟨rfl,wv,rfl⟩ _ (.inl Z)
 all_goals exact⟨trivial,trivial,trivial⟩
theorem nA(size:Int):∀(l g:List aC) (n:Nat),0<l.length→(grp size l g n).flatten=g++l
 |[],_,_,h=>by cases h
 |x::r,g,n,_=>by
  unfold grp
  by_cases hr:r=[]
  ·subst hr
   rw[if_pos (.inr (.inr Z))]
   show (g++[x])++[]=_
   rw[List.append_nil]
  ·have hrl:0<r.length:=List.length_pos_iff.2 hr
   split
   ·rw[List.flatten_cons,nA size r [] 0 hrl,List.append_assoc];rfl
   ·rw[nA size r (g++[x]) _ hrl,List.append_assoc];rfl
theorem Gw(G:List (List aC))(i:Nat)(h:i<G.length):(G.take (i+1)).flatten=(G.take i).flatten++G[i]:=by
 rw[List.take_succ_eq_append_getElem h,List.flatten_append];simp
theorem Ix{size:Int}{l:List aC}(h:0<l.length)(i:Nat)(_hi:i≤(grp size l [] 0).length):((grp size l [] 0).take i).flatten.length≤l.length:=by
 have e:=nA size l [] 0 h
 have e2:(grp size l [] 0)=(grp size l [] 0).take i++(grp size l [] 0).drop i:=(List.take_append_drop _ _).symm
 have e3:=congrArg List.length e
 rw[e2,List.flatten_append,List.length_append] at e3
 have:([]++l:List aC).length=l.length:=rfl
 omega
theorem BO(l:List aC)(hl:l.length≤300):mO (7:Nat) (cX (vO (ig l) 10)).length=true:=by
 rw[gb,rH,j8]
 have:(ig l).length=l.length:=List.length_map ..
 unfold kU;omega
theorem yp(l:List aC)(hl:l.length≤300):md (7:Nat) (vO (ig l) 10)=(l8 l,0):=by
 unfold md;rw[if_pos (BO l hl)];rfl
theorem CC(l:List aC)(size:Int)(hl:l.length≤300)(hm:∀e∈l,e.k.length≤110∧e.v.length≤4010):aQ Tryz.prog 94 [.sl 3 (l.map eA),.i .i64 size] [] (fun v os=>v= .tup [.s (mt l size).1,.i .i64 (mt l size).2]∧os=[]):=by
 refine aA ab [] Tryz.func94 Z Tryz.ntmps94 aN Z Z (fun C=>?_) Z
 have hgs:=BF l size hl hm
 have hgm:=rU size l [] 0 (by decide)
 have hgl:=uP size l [] 0
 have hgf:=fun h=>nA size l [] 0 h
 have hfl:=fun h i=>@Ix size l h i
 have htm:mt l size=if size<1∨16384<size then ([],1) else if l.length=0 then ([],3) else
  if (nS (grp size l [] 0) (ar (grp size l [] 0).length) [] []).2≠0 then ([],(nS (grp size l [] 0) (ar (grp size l [] 0).length) [] []).2)
  else (wW l (nS (grp size l [] 0) (ar (grp size l [] 0).length) [] []).1.1 (nS (grp size l [] 0) (ar (grp size l [] 0).length) [] []).1.2,0):=rfl
 generalize mt l size=q at htm ⊢
 generalize grp size l [] 0=G at hgs hgm hgl htm hgf hfl
 obtain⟨R,hR⟩:∃R,nS G (ar G.length) [] []=R:=⟨_,rfl⟩
 rw[hR] at htm
 repeat' (first|refine ae ?_|refine aa ?_|refine ac (ax ?_)|refine ah (ax ?_)|refine ap (bC ?_)|refine ib Z Z Z cM ?_|refine br Z ab Z Z Z (fun _=>?_)|refine aU ab (fun _=>?_)|refine aF (d:=6) Z ab Z Z Z (fun b6=>?_)|refine aF (d:=7) Z ab Z Z Z (fun b7=>?_)|(fail_if_success (refine aM Z cM ?_));(refine aV Z Z (fun hc=>?_) (fun hc=>?_)<;>try omega)|refine aR Z ?_|(refine ao Z (fun hc=>?_) (fun hc=>?_))<;>try omega|refine au Z (hgs) ⟨aP,aP,J⟩ Z ?_)
 ·rw[if_pos (by omega)] at htm;subst htm
  exact aH [] [] (.tup [.s [],.i .i64 1]) Z (aW (av _) (av _) Z Z) .nil ⟨rfl,rfl⟩
 ·rw[if_pos (by omega)] at htm;subst htm
  exact aH [] [] (.tup [.s [],.i .i64 1]) Z (aW (av _) (av _) Z Z) .nil ⟨rfl,rfl⟩
 ·rw[if_neg (by omega),if_pos (by omega)] at htm;subst htm
  exact aH [] [] (.tup [.s [],.i .i64 3]) Z (aW (av _) (av _) Z Z) .nil ⟨rfl,rfl⟩
 rw[if_neg (by omega),if_neg (by omega)] at htm
 have hlp:0<l.length:=by omega
 have hgf:=hgf hlp
 have hfl:=hfl hlp
 have hnl1:=bz G.length (by omega)
 have hw0:∀v,aQ Tryz.prog 86 [.ptr 0 b6 [] 0,.i .i64 (G.length:Int)] (kC b6 v ⟨[],0⟩) (fun r os=>r= .tup []∧∃v',os=kC b6 v' ⟨ar G.length,0⟩):=fun v=>by
  have h:=eK b6 G.length (by omega) v ⟨[],0⟩ (by decide)
  rw[im] at h;exact h
 generalize ar G.length=nG at hw0 hnl1 hR
 refine gJ [] (S':=⟨149,[(6,.ptr 6 b6 [] 0),(41,.i .i64 G.length),(11,.sl 1 (G.map rV)),(7,.ptr 7 b7 [] 0),(8,.s []),(10,.s []),(9,.nil),(0,.sl 3 (l.map eA))],[(6,.var b6 (wV (.slice none 0 0) ⟨[],0⟩)),(1,.row (.slice none 0 0) 5 1 []),(7,.var b7 (.agg [.nil,.i .i64 0]))]⟩) ⟨rfl,⟨af,ai Z,ay Z,af,cY Z,cY Z,aP,ay Z,J⟩,cr.cons 6 Z (bW (bS (.cons dz (.cons (av _) .nil)))) (.none (az 7 Z .nil))⟩ ?_
 repeat' (first|refine ae ?_|refine aj ?_|refine aa ?_|refine ac (ax ?_)|refine br Z ab Z Z Z (fun _=>?_)|refine aU ab (fun _=>?_)|(refine cJ Z Z Z Z Z (hw0 _) ⟨af,aP,J⟩ (ak _) (ak _) Z Z ?_;rintro _ _ ⟨rfl,wv,rfl⟩;refine⟨_,_,rfl,_,rfl,?_⟩))
 refine aO (fun q:Nat×List UInt8×List UInt8×List UInt8×Value×Value=>⟨149,[(45,.i .i64 q.1),(44,.i .i64 G.length),(43,.sl 1 (G.map rV)),(8,.s q.2.2.1),(10,.s q.2.2.2.1),(6,.ptr 6 b6 [] 0),(7,.ptr 7 b7 [] 0),(9,.own 9 q.2.2.2.2.2),(0,.sl 3 (l.map eA))],[(6,.var b6 (wV q.2.2.2.2.1 ⟨q.2.1,0⟩)),(1,.row q.2.2.2.2.1 5 1 (q.2.1.map gy)),(7,.var b7 (.agg [.nil,.i .i64 0])),(9,.row q.2.2.2.2.2 9 1 ((ig (G.take q.1).flatten).map Hg))]⟩)
  (fun q=>q.1≤G.length∧q.2.1.length≤9+130*q.1∧q.2.2.1.length≤65544*q.1∧q.2.2.2.1.length≤110∧nS (G.drop q.1) q.2.1 q.2.2.1 q.2.2.2.1=R) (fun q=>G.length - q.1) [] (0,nG,[],[],wv,.slice none 0 0) ⟨Nat.zero_le _,by show nG.length≤9+130*0;omega,Nat.zero_le _,Nat.zero_le _,hR⟩ ?_ ?_
 ·exact⟨rfl,⟨ai Z,ai Z,ay Z,cY Z,cY Z,af,af,dp,ay Z,J⟩,az 6 Z (az 1 Z (az 7 Z (.none .nil)))⟩
 rintro⟨i,idx,text,last,vi,vk⟩ ⟨hi,hxl,htl,hll,hst⟩
 dsimp only at hi hxl htl hll hst ⊢
 by_cases hlt:i<G.length
 ·rw[xB G i hlt] at hst
  have hxg:=hgm _ (List.getElem_mem hlt)
  obtain⟨hg0,hg1,hg2⟩:=hxg
  have hg2:∀e∈G[i],e.k.length≤110∧e.v.length≤4010:=fun e he=>hm e ((hg2 e he).resolve_left (fun h=>by cases h))
  have hmk9:=Ee G[i] (by omega) hg2
  have hml:=Gf G[i]
  have hll2:=EZ G[i] hg2
  rw[qP hg0] at hst
  have hle:=th (show G[i].length - 1<G[i].length by omega)
  generalize np G[i]=ls at hst hll2 hle
  generalize jj G[i]=b at hmk9 hml hst
  obtain⟨b,e⟩:=b
  dsimp only at hmk9 hml hst
  have hntl:=bz text.length (by omega)
  have htxl:=eL ls (by omega)
  have hw1:∀v,aQ Tryz.prog 86 [.ptr 0 b6 [] 0,.i .i64 (text.length:Int)] (kC b6 v ⟨idx,0⟩) (fun r os=>r= .tup []∧∃v',os=kC b6 v' ⟨idx++ar text.length,0⟩):=fun v=>by
   have h:=eK b6 text.length (by omega) v ⟨idx,0⟩ (by show idx.length≤_;omega)
   rw[im] at h;exact h
  have hw2:∀v,aQ Tryz.prog 87 [.ptr 0 b6 [] 0,.s ls] (kC b6 v ⟨idx++ar text.length,0⟩) (fun r os=>r= .tup []∧∃v',os=kC b6 v' ⟨idx++(ar text.length++gl ls),0⟩):=fun v=>by
   have h:=g9 b6 ls v ⟨idx++ar text.length,0⟩ (by show (idx++ar text.length).length≤_;rw[List.length_append];omega)
   rw[nN _ _ (by omega),List.append_assoc] at h;exact h
  generalize ar text.length=nt at hntl hst hw1 hw2
  generalize gl ls=tx at htxl hst hw2
  have hlt1:G[i].length - 1<G[i].length:=by omega
  have hks:=Gw G i hlt
  have hkb:=hfl (i+1) hlt
  rw[hks,List.length_append] at hkb
  generalize (G.take i).flatten=K at hks hkb ⊢
  repeat' (first|refine ae ?_|refine aj ?_|refine aa ?_|refine ac (ax ?_)|refine ah (ax ?_)|refine ap (bC ?_)|(refine dW Z Z Z Z ?_ ?_;omega)|refine br Z ab Z Z Z (fun _=>?_)|refine aU ab (fun _=>?_)|(refine aK Z ab Z Z Z Z Z Z ?_ (aE ?_) ?_;omega;omega)|(refine dr Z ab Z Z Z ?_ (fun _=>?_);(show List.length _+List.length _≤9223372036854775807;exact dt))|(refine ao Z (fun hc=>?_) (fun hc=>?_))<;>try omega|(refine bF Z (fun hc=>?_) (fun hc=>?_))<;>try omega|(refine ba Z (fun hc=>?_) (fun hc=>?_))|(refine aK Z ab Z Z Z Z Z Z ?_ (ol (G[i].length-1) ?_ hlt1) ?_;omega;omega)|(rw[←hle])|refine au Z (hmk9) ⟨aP,J⟩ Z ?_|(refine cJ Z Z Z Z Z (hw1 _) ⟨af,aP,J⟩ (ak _) (ak _) Z Z ?_;rintro _ _ ⟨rfl,wv,rfl⟩;refine⟨_,_,rfl,_,rfl,?_⟩)|(refine cJ Z Z Z Z Z (hw2 _) ⟨af,aP,J⟩ (ak _) (ak _) Z Z ?_;rintro _ _ ⟨rfl,wv,rfl⟩;refine⟨_,_,rfl,_,rfl,?_⟩))
  ·rw[if_pos hc] at hst;subst hst
   rw[if_pos hc] at htm;subst htm
   exact aH [] [] (.tup [.s [],.i .i64 e]) Z (aW (av _) (av _) Z Z) .nil ⟨rfl,rfl⟩
  ·rw[E5] at hc
   rw[if_neg (show ¬ e≠0 by omega),if_pos hc] at hst;subst hst
   rw[if_pos (by decide)] at htm;subst htm
   exact aH [] [] (.tup [.s [],.i .i64 3]) Z (aW (av _) (av _) Z Z) .nil ⟨rfl,rfl⟩
  rw[E5] at hc
  rw[if_neg (show ¬ e≠0 by omega),if_neg (by rw[hc];decide)] at hst
  refine aO (fun q:Nat×Value=>⟨149,[(80,.i .i64 q.1),(79,.i .i64 G[i].length),(78,.sl 3 (G[i].map eA)),(45,.i .i64 i),(44,.i .i64 G.length),(43,.sl 1 (G.map rV)),(8,.s (text++b)),(10,.s ls),(6,.ptr 6 b6 [] 0),(7,.ptr 7 b7 [] 0),(9,.own 9 q.2),(0,.sl 3 (l.map eA))],[(6,.var b6 (wV wv ⟨idx++(nt++tx),0⟩)),(1,.row wv 5 1 ((idx++(nt++tx)).map gy)),(7,.var b7 (.agg [.nil,.i .i64 0])),(9,.row q.2 9 1 ((ig (K++G[i].take q.1)).map Hg))]⟩) (fun q=>q.1≤G[i].length) (fun q=>G[i].length - q.1) [] (0,vk) (Nat.zero_le _) ?_ ?_
  ·exact⟨rfl,⟨ai Z,ai Z,ay Z,ai Z,ai Z,ay Z,cY Z,cY Z,af,af,aJ,ay Z,J⟩,az 6 Z (az 1 Z (az 7 Z (cr.cons 9 Z (aZ (by show _=(ig (K++[])).map Hg;rw[List.append_nil])) .nil)))⟩
  rintro⟨j,vk2⟩ hj
  dsimp only at hj ⊢
  by_cases hjl:j<G[i].length
  ·have hx:=hg2 _ (List.getElem_mem hjl)
   have hkj:(ig (K++G[i].take (j+1))).map Hg=(ig (K++G[i].take j)).map Hg++[.s G[i][j].k]:=by
    rw[List.take_succ_eq_append_getElem hjl,←List.append_assoc,Ie];rfl
   have hkn:(ig (K++G[i].take j)).length≤300:=by unfold ig;rw[List.length_map,List.length_append,List.length_take];omega
   generalize ig (K++G[i].take j)=kk at hkj hkn ⊢
   repeat' (first|refine ae ?_|refine aj ?_|refine aa ?_|refine ac (ax ?_)|refine ac (db ?_)|refine ah (ax ?_)|(refine bc Z Z Z Z ?_ ?_;omega)|refine aU ab (fun _=>?_)|refine aF Z ab Z Z Z (fun bA=>?_)|refine aD ab Z Z Z Z Z Z Z ⟨rfl,rfl⟩ Z Z Z Z Z ?_|(refine aK Z ab Z Z Z Z Z Z ?_ (aE ?_) ?_;omega;omega)|refine aI ab Z Z Z Z Z Z Z Z Z Z Z eo (fun _=>?_)|(refine bH ab Z Z Z Z Z Z Z Z Z (by first|exact J|exact rfl) Z Z (fun _=>rfl) ?_ ?_ (fun _=>?_);(exact dt);(exact dt))|(refine ao Z (fun hc=>?_) (fun hc=>?_))<;>try omega)
   exact⟨(j+1,_),[],hjl,by show G[i].length - (j+1)<G[i].length - j;omega,rfl,⟨ai (by omega),ai Z,ay Z,ai Z,ai Z,ay Z,cY Z,cY Z,af,af,aJ,ay Z,J⟩,az 6 Z (az 1 Z (az 7 Z (cr.cons 9 Z (aZ (by rw[hkj])) .nil)))⟩
  ·have hje:j=G[i].length:=by omega
   subst hje
   rw[List.take_length,←hks]
   repeat' (first|refine ae ?_|refine aa ?_|refine ac (ax ?_)|refine ac (db ?_)|refine aw (ax ?_)|(refine bc Z Z Z Z ?_ ?_;omega)|refine aU ab (fun _=>?_)|(refine ao Z (fun hc=>?_) (fun hc=>?_))<;>try omega)
   exact⟨(i+1,idx++(nt++tx),text++b,ls,_,_),[],⟨hlt,by rw[List.length_append,List.length_append];omega,by rw[List.length_append];omega,hll2,hst⟩,by show G.length - (i+1)<G.length - i;omega,rfl,⟨ai (by omega),ai Z,ay Z,cY Z,cY Z,af,af,aJ,ay Z,J⟩,az 6 Z (az 1 Z (az 7 Z (az 9 Z .nil)))⟩
 ·have hil:i=G.length:=by omega
  subst hil
  rw[List.drop_length] at hst
  have hst:((idx,text),0)=R:=hst
  subst hst
  rw[if_neg (fun h=>h Z)] at htm
  dsimp only at htm
  unfold wW at htm
  rw[List.take_length,hgf,List.nil_append]
  have hkn:(ig l).length≤300:=by unfold ig;rw[List.length_map];exact hl
  have hbm:=Ge (ig l) 10 (by decide) (by omega) (fun s hs=>by
   obtain⟨x,hx,rfl⟩:=List.mem_map.1 hs
   have:=(hm x hx).1;omega)
  have hp:GQ 10=7:=rfl
  rw[hp] at hbm
  have hfb:=BP (7:Nat) (vO (ig l) 10) (by rw[rH];have:(ig l).length=l.length:=List.length_map ..;unfold kU;omega)
  rw[yp l hl] at hfb
  have hfll:=r7 l hl
  generalize vO (ig l) 10=F at hbm hfb
  repeat' (first|(refine s8 9 92 Z Z Z ?_)|refine ae ?_|refine aa ?_|refine ac (ax ?_)|refine ah (ax ?_)|refine aw (ax ?_)|refine aU ab (fun _=>?_)|refine aF (d:=18) Z ab Z Z Z (fun b18=>?_)|refine aD ab Z Z Z Z Z Z Z ⟨rfl,rfl⟩ Z Z Z Z Z ?_|refine aB Z ?_|(refine ao Z (fun hc=>?_) (fun hc=>?_))<;>try omega|refine au Z (hbm) ⟨aP,aP,J⟩ Z ?_|refine au Z (hfb) ⟨aP,J⟩ Z ?_)
  have hfl:=nB l text hl hm (by omega)
  have hF:jO l text=(((([]:List UInt8)++ar text.length)++gl (l8 l))++ar l.length)++gl (qo l):=rfl
  have hhd:=qP hlp
  have hhl:=zx l hm
  rw[hhd] at hF hhl
  have hn1:=bz text.length (by omega)
  have hn2:=eL (l8 l) (by omega)
  have hn3:=bz l.length (by omega)
  have hw1:∀v,aQ Tryz.prog 86 [.ptr 0 b7 [] 0,.i .i64 (text.length:Int)] (kC b7 v ⟨[],0⟩) (fun r os=>r= .tup []∧∃v',os=kC b7 v' ⟨[]++ar text.length,0⟩):=fun v=>by
   have h:=eK b7 text.length (by omega) v ⟨[],0⟩ (by decide)
   rw[im] at h;exact h
  have hw2:∀v,aQ Tryz.prog 87 [.ptr 0 b7 [] 0,.s (l8 l)] (kC b7 v ⟨[]++ar text.length,0⟩) (fun r os=>r= .tup []∧∃v',os=kC b7 v' ⟨([]++ar text.length)++gl (l8 l),0⟩):=fun v=>by
   have h:=g9 b7 (l8 l) v ⟨[]++ar text.length,0⟩ (by show ([]++ar text.length).length≤_;rw[List.nil_append];omega)
   rw[nN _ _ (by omega)] at h;exact h
  have hw3:∀v,aQ Tryz.prog 86 [.ptr 0 b7 [] 0,.i .i64 (l.length:Int)] (kC b7 v ⟨([]++ar text.length)++gl (l8 l),0⟩) (fun r os=>r= .tup []∧∃v',os=kC b7 v' ⟨(([]++ar text.length)++gl (l8 l))++ar l.length,0⟩):=fun v=>by
   have h:=eK b7 l.length (by omega) v ⟨([]++ar text.length)++gl (l8 l),0⟩ (by show (([]++ar text.length)++gl (l8 l)).length≤_;rw[List.nil_append,List.length_append];omega)
   rw[im] at h;exact h
  have hw4:∀v,aQ Tryz.prog 87 [.ptr 0 b7 [] 0,.s l[0].k] (kC b7 v ⟨(([]++ar text.length)++gl (l8 l))++ar l.length,0⟩) (fun r os=>r= .tup []∧∃v',os=kC b7 v' ⟨jO l text,0⟩):=fun v=>by
   have h:=g9 b7 l[0].k v ⟨(([]++ar text.length)++gl (l8 l))++ar l.length,0⟩ (by show ((([]++ar text.length)++gl (l8 l))++ar l.length).length≤_;rw[List.nil_append,List.length_append,List.length_append];omega)
   rw[nN _ _ (by omega)] at h;rw[hF];exact h
  generalize ([]++ar text.length:List UInt8)=f1 at hw1 hw2 hw3 hw4
  generalize f1++gl (l8 l)=f2 at hw2 hw3 hw4
  generalize f2++ar l.length=f3 at hw3 hw4
  clear hF
  generalize jO l text=ft at hfl hw4 htm
  have hs1:=tT b6 idx (by omega)
  have hs2:=tT b7 ft (by omega)
  have hwl1:=ek idx
  have hwl2:=ek ft
  generalize bo idx=s1 at htm hs1 hwl1
  generalize bo ft=s2 at htm hs2 hwl2
  have h3l:(three s2.length).length=3:=rfl
  refine gJ [] (S':=⟨149,[(105,.i .i64 text.length),(20,.s (l8 l)),(8,.s text),(6,.ptr 6 b6 [] 0),(7,.ptr 7 b7 [] 0),(0,.sl 3 (l.map eA))],[(6,.var b6 (.agg [.own 2 vi,.i .i64 0])),(2,.row vi 5 1 (idx.map gy)),(7,.var b7 (wV (.slice none 0 0) ⟨[],0⟩)),(1,.row (.slice none 0 0) 5 1 [])]⟩) ⟨rfl,⟨ai Z,cY Z,cY Z,af,af,ay Z,J⟩,cr.cons 6 Z (bW (bS (.cons gZ (.cons (av _) .nil)))) (az 1 Z (cr.cons 7 Z (bW (bS (.cons dz (.cons (av _) .nil)))) (.none .nil)))⟩ ?_
  repeat' (first|refine ae ?_|refine aa ?_|refine ac (ax ?_)|refine ah (ax ?_)|refine ap (bC ?_)|refine br Z ab Z Z Z (fun _=>?_)|refine aU ab (fun _=>?_)|(refine aK Z ab Z Z Z Z Z Z ?_ (aE ?_) ?_;omega;omega)|(refine dr Z ab Z Z Z ?_ (fun _=>?_);(show List.length _+List.length _≤9223372036854775807;exact dt))|refine aI ab Z Z Z Z Z Z Z Z Z Z Z eo (fun _=>?_)|refine aB Z ?_|(refine cJ Z Z Z Z Z (hs1 _) ⟨af,J⟩ (bW (bS (.cons gZ (.cons (av _) .nil)))) (ak _) Z Z ?_;rintro _ _ ⟨rfl,wv,rfl⟩;refine⟨_,_,rfl,_,rfl,?_⟩)|(refine dJ ab Z Z Z Z Z (by first|exact J|exact rfl) Z Z Z (s:=three s2.length) (Fx _) ?_)|(refine cJ Z Z Z Z Z (hw1 _) ⟨af,aP,J⟩ (ak _) (ak _) Z Z ?_;rintro _ _ ⟨rfl,wv,rfl⟩;refine⟨_,_,rfl,_,rfl,?_⟩)|(refine cJ Z Z Z Z Z (hw2 _) ⟨af,aP,J⟩ (ak _) (ak _) Z Z ?_;rintro _ _ ⟨rfl,wv,rfl⟩;refine⟨_,_,rfl,_,rfl,?_⟩)|(refine cJ Z Z Z Z Z (hw3 _) ⟨af,aP,J⟩ (ak _) (ak _) Z Z ?_;rintro _ _ ⟨rfl,wv,rfl⟩;refine⟨_,_,rfl,_,rfl,?_⟩)|(refine cJ Z Z Z Z Z (hw4 _) ⟨af,aP,J⟩ (ak _) (ak _) Z Z ?_;rintro _ _ ⟨rfl,wv,rfl⟩;refine⟨_,_,rfl,_,rfl,?_⟩)|(refine cJ Z Z Z Z Z (hs2 _) ⟨af,J⟩ (ak _) (ak _) Z Z ?_;rintro _ _ ⟨rfl,wv,rfl⟩;refine⟨_,_,rfl,_,rfl,?_⟩))
  subst htm
  exact aH [] [] (.tup [.s (((text++s1)++s2)++three s2.length),.i .i64 0]) Z (aW (av _) (av _) Z Z) .nil ⟨rfl,rfl⟩
end Go.Proofs.YtginkbjclkdglaaGreat
