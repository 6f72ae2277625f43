/- block.Check, ref09.Check by rules. -/
import Derived.Test.YtginkbjclkdglaaGreatKWZ
import Derived.Test.YtginkbjclkdglaaGreatV18Z
import Derived.Test.YtginkbjclkdglaaGreatV13Z
import Derived.Lib.SliceRun
import Derived.DeepKeys3
set_option maxHeartbeats 8000000
namespace Go.Proofs.YtginkbjclkdglaaGreat
open Go Go.RowKit
def lx(prev:Option (List UInt8))(x:aC):Int:=
 if x.k.length=0∨(x.g=true∧0<x.v.length) then 3 else if 100<x.k.length∨4000<x.v.length then 2 else match prev with
  |none=>0
  |some p=>if Op.bytesLess p x.k=true then 0 else 3
def oE:Option (List UInt8)→List aC→Int
 |_,[]=>0
 |p,x::r=>if lx p x≠0 then lx p x else oE (some x.k) r
def di(l:List aC):Int:=if 256<l.length then 2 else oE none l
def n9(l:List aC):Nat→Option (List UInt8)
 |0=>none
 |m+1=>(l[m]?).map (·.k)
theorem GE(l:List aC)(k:Nat)(h:k<l.length):oE (n9 l k) (l.drop k)=if lx (n9 l k) l[k]≠0 then lx (n9 l k) l[k] else oE (n9 l (k+1)) (l.drop (k+1)):=by
 rw[List.drop_eq_getElem_cons h]
 show (if lx _ _≠0 then _ else oE (some l[k].k) _)=_
 rw[show n9 l (k+1)=some l[k].k by show (l[k]?).map _=_;rw[List.getElem?_eq_getElem h];rfl]
theorem NX(k:List UInt8):(k==({data:=#[]}:ByteArray).data.toList)=decide (k.length=0):=by
 cases k<;>rfl
theorem L8(k:List UInt8):(!(k==({data:=#[]}:ByteArray).data.toList))=decide (0<k.length):=by
 cases k<;>rfl
theorem D8{p:Option (List UInt8)}{x:aC}(h:x.k.length=0∨(x.g=true∧0<x.v.length)):lx p x=3:=by unfold lx;rw[if_pos h]
theorem I5{p:Option (List UInt8)}{x:aC}(h:¬ (x.k.length=0∨(x.g=true∧0<x.v.length)))(h2:100<x.k.length∨4000<x.v.length):lx p x=2:=by unfold lx;rw[if_neg h,if_pos h2]
theorem I3{x:aC}(h:¬ (x.k.length=0∨(x.g=true∧0<x.v.length)))(h2:¬ (100<x.k.length∨4000<x.v.length)):lx none x=0:=by unfold lx;rw[if_neg h,if_neg h2]
theorem D7{q:List UInt8}{x:aC}(h:¬ (x.k.length=0∨(x.g=true∧0<x.v.length)))(h2:¬ (100<x.k.length∨4000<x.v.length)):lx (some q) x=if Op.bytesLess q x.k=true then 0 else 3:=by unfold lx;rw[if_neg h,if_neg h2]
theorem pE(l:List aC)(hl:l.length≤9223372036854775807)(hm:∀e∈l,e.k.length≤1000000000000∧e.v.length≤1000000000000):aQ Tryz.prog 85 [.sl 3 (l.map eA)] [] (fun v os=>v= .i .i64 (di l)∧os=[]):=by
 refine aA ab [] Tryz.func85 Z Tryz.ntmps85 aN Z Z (fun C=>?_) Z
 repeat' (first|refine ae ?_|refine aj ?_|refine aa ?_|refine ac (ax ?_)|refine ah (ax ?_)|refine ap (bC ?_)|refine br Z ab Z Z Z (fun _=>?_)|refine aU ab (fun _=>?_)|(refine ao Z (fun hc=>?_) (fun hc=>?_))<;>try omega)
 ·refine bp Z Z Z [] [] (am ?_) .nil ⟨rfl,rfl⟩ _ (.inl Z)
  unfold di;rw[if_pos (by omega)];rfl
 have hN:di l=oE none l:=by unfold di;rw[if_neg (by omega)]
 rw[hN]
 refine aO (fun k:Nat=>⟨50,[(10,.i .i64 k),(9,.i .i64 l.length),(8,.sl 3 (l.map eA)),(0,.sl 3 (l.map eA))],[]⟩) (fun k=>k≤l.length∧oE (n9 l k) (l.drop k)=oE none l) (fun k=>l.length - k) [] 0 ⟨Nat.zero_le _,rfl⟩ ?_ ?_
 ·exact⟨rfl,⟨ai Z,ai Z,ay Z,ay Z,J⟩,.nil⟩
 rintro k ⟨hk,hck⟩
 by_cases hlt:k<l.length
 ·have hst:=GE l k hlt
  have hlm:=hm _ (List.getElem_mem hlt)
  rw[hck] at hst
  generalize oE none l=R at hst hck ⊢
  rcases k with _|m
  ·have hp:n9 l 0=none:=rfl
   rw[hp] at hst
   repeat' (first|(refine dr Z ab Z Z Z ?_ (fun _=>?_);exact J;first|rw[L8]|rw[NX])|refine ae ?_|refine aj ?_|refine aa ?_|refine ac (ax ?_)|refine ac (db ?_)|refine ah (ax ?_)|refine ap (bC ?_)|refine gM Z Z Z ?_|(refine bc Z Z Z Z ?_ ?_;omega)|refine aU ab (fun _=>?_)|refine aF (d:=4) Z ab Z Z Z (fun b4=>?_)|refine aD ab Z Z Z Z Z Z Z ⟨rfl,rfl⟩ Z Z Z Z Z ?_|(refine aK Z ab Z Z Z Z Z Z ?_ (aE ?_) ?_;omega;omega)|(fail_if_success (refine aM Z cM ?_));(refine dM Z Z (fun hc=>?_) (fun hc=>?_))|refine aB Z ?_|(refine ao Z (fun hc=>?_) (fun hc=>?_))<;>try omega|refine cg 12 [] [] [] [0,1,2,3,4,5,6,7,9,8,10,11,12,13] aN aN aN Z Z Z ?_)
   all_goals first
    |(refine bp Z Z Z [] [] (am ?_) .nil ⟨rfl,rfl⟩ _ (.inl Z);rw[D8 (by first|exact .inl (by omega)|exact .inr ⟨by assumption,by omega⟩),if_pos (by decide)] at hst;rw[hst];rfl)
    |(refine bp Z Z Z [] [] (am ?_) .nil ⟨rfl,rfl⟩ _ (.inl Z);rw[I5 (by rintro(h|⟨h,h'⟩)<;>first|omega|(exact absurd h (by rw[show l[0].g=false by assumption];decide))) (by omega),if_pos (by decide)] at hst;rw[hst];rfl)
    |(rw[I3 (by rintro(h|⟨h,h'⟩)<;>first|omega|(exact absurd h (by rw[show l[0].g=false by assumption];decide))) (by omega),if_neg (by decide)] at hst;exact⟨0+1,[],⟨by omega,hst.symm⟩,by omega,rfl,⟨ai (by omega),ai Z,ay Z,ay Z,J⟩,.nil⟩)
    |skip
  ·have hm1:m<l.length:=by omega
   have hp:n9 l (m+1)=some l[m].k:=by show (l[m]?).map _=_;rw[List.getElem?_eq_getElem hm1];rfl
   have hsub:((m+1:Nat):Int) - 1=(m:Int):=by omega
   rw[hp] at hst
   repeat' (first|(refine dW Z Z Z Z ?_ ?_;omega;rw[hsub])|(refine dr Z ab Z Z Z ?_ (fun _=>?_);exact J;first|rw[L8]|rw[NX])|refine ae ?_|refine aj ?_|refine aa ?_|refine ac (ax ?_)|refine ac (db ?_)|refine ah (ax ?_)|refine ap (bC ?_)|refine gM Z Z Z ?_|(refine bc Z Z Z Z ?_ ?_;omega)|refine aU ab (fun _=>?_)|refine aF (d:=4) Z ab Z Z Z (fun b4=>?_)|refine aD ab Z Z Z Z Z Z Z ⟨rfl,rfl⟩ Z Z Z Z Z ?_|(refine aK Z ab Z Z Z Z Z Z ?_ (aE ?_) ?_;omega;omega)|(fail_if_success (refine aM Z cM ?_));(refine aV Z Z (fun hc=>?_) (fun hc=>?_)<;>try omega)|(fail_if_success (refine aM Z cM ?_));(refine dM Z Z (fun hc=>?_) (fun hc=>?_))|refine aB Z ?_|(refine ao Z (fun hc=>?_) (fun hc=>?_))<;>try omega|(refine ba Z (fun hc=>?_) (fun hc=>?_))|refine cg 12 [] [] [] [0,1,2,3,4,5,6,7,9,8,10,11,12,13] aN aN aN Z Z Z ?_)
   all_goals first
    |(refine bp Z Z Z [] [] (am ?_) .nil ⟨rfl,rfl⟩ _ (.inl Z);rw[D8 (by first|exact .inl (by omega)|exact .inr ⟨by assumption,by omega⟩),if_pos (by decide)] at hst;rw[hst];rfl)
    |(refine bp Z Z Z [] [] (am ?_) .nil ⟨rfl,rfl⟩ _ (.inl Z);rw[I5 (by rintro(h|⟨h,h'⟩)<;>first|omega|(exact absurd h (by rw[show l[m+1].g=false by assumption];decide))) (by omega),if_pos (by decide)] at hst;rw[hst];rfl)
    |(rw[D7 (by rintro(h|⟨h,h'⟩)<;>first|omega|(exact absurd h (by rw[show l[m+1].g=false by assumption];decide))) (by omega),if_pos (show Op.bytesLess _ _=true by simpa using hc),if_neg (by decide)] at hst;exact⟨m+1+1,[],⟨by omega,hst.symm⟩,by omega,rfl,⟨ai (by omega),ai Z,ay Z,ay Z,J⟩,.nil⟩)
    |(refine bp Z Z Z [] [] (am ?_) .nil ⟨rfl,rfl⟩ _ (.inl Z);rw[D7 (by rintro(h|⟨h,h'⟩)<;>first|omega|(exact absurd h (by rw[show l[m+1].g=false by assumption];decide))) (by omega),if_neg (show ¬ Op.bytesLess _ _=true by simpa using hc),if_pos (by decide)] at hst;rw[hst];rfl)
    |skip
 ·have hkl:k=l.length:=by omega
  have h0:oE none l=0:=by rw[←hck,hkl,List.drop_length];rfl
  rw[h0]
  repeat' (first|refine ae ?_|refine aa ?_|refine ac (ax ?_)|refine aw (ax ?_)|refine ap (bC ?_)|refine aU ab (fun _=>?_)|(refine ao Z (fun hc=>?_) (fun hc=>?_))<;>try omega)
  exact jh
theorem yC:∀(p:Option (List UInt8)) (l:List aC),oE p l=0→(∀q,p=some q→∀x∈l,Op.bytesLess q x.k=true)∧l.Pairwise (fun a b=>Op.bytesLess a.k b.k=true)
 |p,[],_=>⟨fun _ _ x hx=>(by cases hx),.nil⟩
 |p,y::r,h=>by
  unfold oE at h
  split at h
  ·rename_i h1;exact absurd h h1
  ·rename_i h1
   obtain⟨i1,i2⟩:=yC _ r h
   have i1:=i1 _ Z
   refine⟨fun q hq x hx=>?_,List.pairwise_cons.2 ⟨i1,i2⟩⟩
   subst hq
   have hy:Op.bytesLess q y.k=true:=by
    have h2:lx (some q) y=0:=Classical.byContradiction fun h=>h1 h
    unfold lx at h2
    split at h2
    ·exact absurd h2 (by decide)
    ·split at h2
     ·exact absurd h2 (by decide)
     ·dsimp only at h2
      split at h2
      ·assumption
      ·exact absurd h2 (by decide)
   rcases List.mem_cons.1 hx with rfl|hx
   ·exact hy
   ·exact dZ hy (i1 x hx)
theorem Cd{l:List aC}(h:di l=0):l.Pairwise (fun a b=>Op.bytesLess a.k b.k=true):=by
 unfold di at h
 split at h
 ·exact absurd h (by decide)
 ·exact(yC _ l h).2
theorem nZ{l:List aC}(h:l.Pairwise (fun a b=>Op.bytesLess a.k b.k=true))(i j:Nat)(hi:i<l.length)(hj:j<l.length)(hij:i<j):Op.bytesLess l[i].k l[j].k=true:=
 List.pairwise_iff_getElem.1 h i j hi hj hij
theorem jf{l:List aC}(h:l.Pairwise (fun a b=>Op.bytesLess a.k b.k=true))(k:List UInt8)(i j:Nat)(hi:i<l.length)(hj:j<l.length)(hij:i≤j)(hk:Op.bytesLess l[j].k k=true):Op.bytesLess l[i].k k=true:=by
 rcases Nat.lt_or_eq_of_le hij with h1|h1
 ·exact dZ (nZ h i j hi hj h1) hk
 ·subst h1;exact hk
theorem HB{l:List aC}(h:l.Pairwise (fun a b=>Op.bytesLess a.k b.k=true))(i:Nat)(hi:i<l.length):eG l l[i].k=i:=by
 refine uk _ l i (Nat.le_of_lt hi) (fun j hj hji=>nZ h j i hj hi hji) (fun j hj hij=>?_)
 rcases Nat.lt_or_eq_of_le hij with h1|h1
 ·exact du (nZ h i j hi hj h1)
 ·subst h1;exact cW _
set_option maxHeartbeats 4000000
def d6(x:aC):aC:=if x.g then ⟨x.k,[],x.g⟩ else x
def sr(l:List aC):Prop:=l.Pairwise (fun a b=>Op.bytesLess a.k b.k=true)
def ec(x:aC):List aC→List aC
 |[]=>[x]
 |y::r=>if Op.bytesLess y.k x.k=true then y::ec x r else if y.k=x.k then x::r else x::y::r
theorem rJ{x z:aC}:∀{l:List aC},z∈ec x l→z=x∨z∈l
 |[],h=>by simpa [ec] using h
 |y::r,h=>by
  unfold ec at h
  split at h
  ·rcases List.mem_cons.1 h with h|h
   ·exact .inr (by simp[h])
   ·rcases rJ h with h|h
    ·exact .inl h
    ·exact .inr (by simp[h])
  ·split at h
   ·rcases List.mem_cons.1 h with h|h
    ·exact .inl h
    ·exact .inr (by simp[h])
   ·rcases List.mem_cons.1 h with h|h
    ·exact .inl h
    ·exact .inr h
theorem Nc{a b:List UInt8}(h:¬ Op.bytesLess a b=true)(hn:¬ a=b):Op.bytesLess b a=true:=by
 rcases gt a b with k|k|k
 ·exact absurd k h
 ·exact absurd k hn
 ·exact k
theorem tm{x:aC}:∀{l:List aC},sr l→sr (ec x l)
 |[],_=>by unfold ec;exact List.pairwise_singleton _ _
 |y::r,h=>by
  obtain⟨h1,h2⟩:=List.pairwise_cons.1 h
  unfold ec
  split
  ·rename_i hl
   refine List.pairwise_cons.2 ⟨fun z hz=>?_,tm h2⟩
   rcases rJ hz with rfl|hz
   ·exact hl
   ·exact h1 z hz
  ·rename_i hl
   split
   ·rename_i he
    exact List.pairwise_cons.2 ⟨fun z hz=>he▸h1 z hz,h2⟩
   ·rename_i he
    have hg:=Nc hl he
    refine List.pairwise_cons.2 ⟨fun z hz=>?_,h⟩
    rcases List.mem_cons.1 hz with rfl|hz
    ·exact hg
    ·exact dZ hg (h1 z hz)
theorem v6{x:aC}:∀{l:List aC},(ec x l).length≤l.length+1
 |[]=>by simp[ec]
 |y::r=>by
  unfold ec
  split
  ·have:=v6 (x:=x) (l:=r);simp only[List.length_cons];omega
  ·split<;>simp
theorem vA(y:aC)(r:List aC)(k:List UInt8):eG (y::r) k=(if Op.bytesLess y.k k=true then 1 else 0)+eG r k:=by
 unfold eG;rw[List.countP_cons];omega
theorem AL{r:List aC}{k:List UInt8}(h:∀z∈r,¬ Op.bytesLess z.k k=true):eG r k=0:=by
 unfold eG;rw[List.countP_eq_zero];exact h
theorem Ag{y:aC}{r:List aC}{k:List UInt8}(h:sr (y::r))(hl:¬ Op.bytesLess y.k k=true):∀z∈r,¬ Op.bytesLess z.k k=true:=fun z hz hk=>
 hl (dZ ((List.pairwise_cons.1 h).1 z hz) hk)
def zt(l:List aC)(x:aC):List aC:=if iv l x.k (eG l x.k)=true then l.set (eG l x.k) x else l.take (eG l x.k)++x::l.drop (eG l x.k)
theorem yl(y:aC)(r:List aC)(k:List UInt8)(p:Nat):iv (y::r) k (p+1)=iv r k p:=by unfold iv;rw[List.getElem?_cons_succ]
theorem Gu(y:aC)(r:List aC)(k:List UInt8)(p:Nat):mw (y::r) k (p+1)=mw r k p:=by unfold mw;rw[List.getElem?_cons_succ]
theorem DE{x:aC}:∀{l:List aC},sr l→zt l x=ec x l
 |[],_=>rfl
 |y::r,h=>by
  have h2:=(List.pairwise_cons.1 h).2
  have ih:=DE (x:=x) h2
  unfold ec
  by_cases hl:Op.bytesLess y.k x.k=true
  ·rw[if_pos hl,←ih]
   unfold zt
   rw[vA,if_pos hl,Nat.add_comm,yl]
   split
   ·rfl
   ·rfl
  ·rw[if_neg hl]
   unfold zt
   rw[vA,if_neg hl,AL (Ag h hl)]
   by_cases he:y.k=x.k
   ·rw[if_pos he]
    have:iv (y::r) x.k (0+0)=true:=by unfold iv;simp[he]
    rw[if_pos this];rfl
   ·rw[if_neg he]
    have:¬ iv (y::r) x.k (0+0)=true:=by unfold iv;simp[he]
    rw[if_neg this];rfl
def gL(x:aC):List aC→Bool→List aC
 |[],d=>if d then [] else [x]
 |y::r,d=>(if (!d&&!Op.bytesLess y.k x.k)=true then [x] else [])++((if y.k=x.k then [] else [y])++gL x r (d||!Op.bytesLess y.k x.k))
theorem vr{x:aC}:∀{l:List aC},(∀z∈l,z.k≠x.k)→gL x l true=l
 |[],_=>rfl
 |y::r,h=>by
  unfold gL
  rw[if_neg (h y (by simp)),Bool.true_or,vr fun z hz=>h z (by simp[hz])];rfl
theorem yX{x:aC}:∀{l:List aC},sr l→gL x l false=ec x l
 |[],_=>rfl
 |y::r,h=>by
  have h2:=(List.pairwise_cons.1 h).2
  have ih:=yX (x:=x) h2
  unfold gL ec
  by_cases hl:Op.bytesLess y.k x.k=true
  ·have hne:y.k≠x.k:=fun e=>by rw[e,cW] at hl;cases hl
   rw[hl,if_neg hne,if_pos Z]
   show y::gL x r false=_
   rw[ih]
  ·have hne:∀z∈r,z.k≠x.k:=fun z hz e=>by
    have h3:=(List.pairwise_cons.1 h).1 z hz
    rw[e] at h3;exact hl h3
   rw[Bool.not_eq_true] at hl
   rw[hl,if_pos (by rfl),if_neg (show ¬ false=true by decide)]
   show [x]++((if y.k=x.k then [] else [y])++gL x r true)=_
   rw[vr hne]
   split<;>rfl
theorem sM(x:aC):∀(l:List aC) (d:Bool),(gL x l d).length≤l.length+(if d then 0 else 1)
 |[],d=>by cases d<;>simp[gL]
 |y::r,d=>by
  have:=sM x r (d||!Op.bytesLess y.k x.k)
  unfold gL
  rw[List.length_append,List.length_append,List.length_cons]
  have h2:(if y.k=x.k then ([]:List aC) else [y]).length≤1:=by split<;>simp
  cases d
  ·cases hb:Op.bytesLess y.k x.k<;>rw[hb] at this<;>simp at this ⊢<;>omega
  ·simp at this ⊢;omega
def xj(x:aC):Nat:=x.k.length+x.v.length+8
def gT:List aC→Nat
 |[]=>0
 |x::r=>xj x+gT r
theorem wu:∀(a b:List aC),gT (a++b)=gT a+gT b
 |[],b=>by simp[gT]
 |x::a,b=>by rw[List.cons_append,gT,gT,wu a b];omega
theorem B8:∀(l:List aC) (i:Nat) (h:i<l.length) (x:aC),gT (l.set i x)+xj l[i]=gT l+xj x
 |y::r,0,_,x=>by simp[gT];omega
 |y::r,i+1,h,x=>by
  have:=B8 r i (by simpa using h) x
  rw[List.set_cons_succ,gT,gT,List.getElem_cons_succ];omega
def small(x:aC):Prop:=x.k.length≤5000∧x.v.length≤5000
theorem zH{x:aC}(h:small x):xj x≤10008:=by unfold small at h;unfold xj;omega
theorem zG:∀{l:List aC},(∀x∈l,small x)→gT l≤l.length*10008
 |[],_=>by simp[gT]
 |x::r,h=>by
  have h1:=zH (h x (by simp))
  have h2:=zG (l:=r) fun y hy=>h y (by simp[hy])
  rw[gT,List.length_cons];omega
theorem sb(l:List aC)(p:Nat)(x:aC):gT (l.take p++x::l.drop p)=gT l+xj x:=by
 have h:gT l=gT (l.take p)+gT (l.drop p):=by rw[←wu,List.take_append_drop]
 rw[wu,gT,h];omega
def rp(l:List aC)(k:List UInt8):aC×Bool:=match l.find? (fun x=>x.k==k) with|some x=>(x,true)|none=>(iB,false)
theorem yY{k:List UInt8}:∀{l:List aC},sr l→rp l k=(mw l k (eG l k),iv l k (eG l k))
 |[],_=>rfl
 |y::r,h=>by
  have h2:=(List.pairwise_cons.1 h).2
  have ih:=yY (k:=k) h2
  unfold rp at ih ⊢
  rw[vA]
  by_cases hl:Op.bytesLess y.k k=true
  ·have hne:(y.k==k)=false:=beq_eq_false_iff_ne.2 fun e=>by rw[e,cW] at hl;cases hl
   rw[if_pos hl,Nat.add_comm,yl,Gu,List.find?_cons,hne]
   exact ih
  ·rw[if_neg hl,AL (Ag h hl)]
   by_cases he:y.k=k
   ·have hb:(y.k==k)=true:=by rw[he];exact beq_self_eq_true _
    rw[List.find?_cons,hb]
    unfold mw iv;simp[he]
   ·have hb:(y.k==k)=false:=beq_eq_false_iff_ne.2 he
    have hno:r.find? (fun x=>x.k==k)=none:=by
     rw[List.find?_eq_none]
     intro z hz hk
     have h3:=(List.pairwise_cons.1 h).1 z hz
     rw[show z.k=k by simpa using hk] at h3
     exact hl h3
    rw[List.find?_cons,hb,hno]
    unfold mw iv;simp[hb]
set_option maxHeartbeats 8000000
structure Fl where
 num:Int
 lev:Int
 size:Int
 first:List UInt8
 last:List UInt8
def eF(f:Fl):AV:=.agg [.i .i64 f.num,.i .i64 f.lev,.i .i64 f.size,.s f.first,.s f.last]
structure iH where
 next:Int
 log:Int
 fs:List Fl
def iA(s:iH):AV:=.agg [.i .i64 s.next,.i .i64 s.log,.sl 5 (s.fs.map eF)]
def mz(a b:Int):Int:=if a<b then -1 else if b<a then 1 else 0
def dv(a b:Fl):Bool:=if a.lev≠b.lev then decide (a.lev<b.lev) else if a.lev=0 then decide (b.num<a.num) else Op.bytesLess a.first b.first
def jK(a b:Fl):Int:=if a.lev≠b.lev∨a.lev=0 then (if mz a.lev b.lev≠0 then mz a.lev b.lev else mz b.num a.num) else qT a.first b.first
theorem wy{a b:Int}:mz a b<0↔a<b:=by unfold mz;split<;>(try split)<;>omega
theorem yB{a b:Int}:mz a b=0↔a=b:=by unfold mz;split<;>(try split)<;>omega
theorem l4(a b:Fl):jK a b<0↔dv a b=true:=by
 unfold jK dv
 by_cases h:a.lev=b.lev
 ·have g1:¬ (a.lev≠b.lev):=fun n=>n h
  by_cases h0:a.lev=0
  ·have g2:a.lev≠b.lev∨a.lev=0:=.inr h0
   have g3:¬ (mz a.lev b.lev≠0):=fun n=>n (yB.2 h)
   rw[if_pos g2,if_neg g1,if_pos h0,if_neg g3,wy];simp
  ·have g2:¬ (a.lev≠b.lev∨a.lev=0):=fun n=>n.elim g1 h0
   rw[if_neg g2,if_neg g1,if_neg h0,wx]
 ·have g2:a.lev≠b.lev∨a.lev=0:=.inl h
  have g3:mz a.lev b.lev≠0:=fun n=>h (yB.1 n)
  rw[if_pos g2,if_pos h,if_pos g3,wy];simp
def fR(s:List UInt8):Bool:=!(s==[])&&decide (s.length≤100)
def kX(next:Int)(f:Fl):Prop:=f.num<0∨next≤f.num∨f.lev<0∨4≤f.lev∨f.size<0∨1073741824<f.size
def qQ(pre:List Fl)(f:Fl):Prop:=fR f.first=false∨fR f.last=false∨Op.bytesLess f.last f.first=true∨(pre.map Fl.num).contains f.num=true
def mn(a f:Fl):Prop:=dv a f=false∨(a.lev=f.lev∧0<f.lev∧Op.bytesLess a.last f.first=false)
instance (next:Int) (f:Fl):Decidable (kX next f):=by unfold kX;infer_instance
instance (pre:List Fl) (f:Fl):Decidable (qQ pre f):=by unfold qQ;infer_instance
instance (a f:Fl):Decidable (mn a f):=by unfold mn;infer_instance
def AA(pre:List Fl)(f:Fl):Int:=match pre.getLast? with
 |none=>0
 |some a=>if mn a f then 3 else 0
def mc(next:Int)(pre:List Fl)(f:Fl):Int:=if kX next f then 1 else if qQ pre f then 3 else AA pre f
def Ct(next:Int):List Fl→List Fl→Int
 |_,[]=>0
 |pre,f::r=>if mc next pre f≠0 then mc next pre f else Ct next (pre++[f]) r
def gG(s:iH):Prop:=s.next<0∨1073741824<s.next∨s.log<0∨1073741824<s.log
instance (s:iH):Decidable (gG s):=by unfold gG;infer_instance
def bT(s:iH):Int:=if gG s then 1 else if 1000<s.fs.length then 2 else Ct s.next [] s.fs
theorem LO(next:Int)(l:List Fl)(k:Nat)(h:k<l.length):Ct next (l.take k) (l.drop k)=if mc next (l.take k) l[k]≠0 then mc next (l.take k) l[k] else Ct next (l.take (k+1)) (l.drop (k+1)):=by
 rw[List.drop_eq_getElem_cons h,Ct,List.take_succ_eq_append_getElem h]
theorem FH(l:List Fl)(k:Nat)(hk:0<k)(h:k≤l.length)(f:Fl):AA (l.take k) f=if mn (l[k - 1]'(by omega)) f then 3 else 0:=by
 unfold AA
 have:(l.take k).getLast?=some (l[k - 1]'(by omega)):=by
  rw[List.getLast?_eq_getElem?,List.length_take,Nat.min_eq_left h,List.getElem?_take,if_pos (by omega),List.getElem?_eq_getElem (by omega)]
 rw[this]
theorem x7(a:Int):aQ Tryz.prog 141 [.i .i64 a] [] (fun v os=>v= .b false∧os=[]):=by
 refine aA ab [] Tryz.func141 Z Tryz.ntmps141 aN Z Z (fun C=>?_) Z
 repeat' (first|refine ae ?_|refine aa ?_|refine ac (ax ?_)|refine ap (bC ?_)|refine aU ab (fun _=>?_))
 refine bp Z Z Z [] [] (am ?_) .nil ⟨rfl,rfl⟩ _ (.inl Z)
 show AV.b (a !=a)=AV.b false
 rw[bne_self_eq_false]
theorem mZ(a b:Int):aQ Tryz.prog 103 [.i .i64 a,.i .i64 b] [] (fun v os=>v= .i .i64 (mz a b)∧os=[]):=by
 refine aA ab [] Tryz.func103 Z Tryz.ntmps103 aN Z Z (fun C=>?_) Z
 have h1:=x7 a
 have h2:=x7 b
 have hc0:mz a b=if a<b then -1 else if b<a then 1 else 0:=rfl
 generalize mz a b=r at hc0 ⊢
 repeat' (first|refine ae ?_|refine aa ?_|refine ac (ax ?_)|refine ah (ax ?_)|refine ap (bC ?_)|refine aU ab (fun _=>?_)|refine aB Z ?_|(refine ao Z (fun hc=>?_) (fun hc=>?_))<;>try omega|refine au Z (h1) ⟨aP,J⟩ Z ?_|refine au Z (h2) ⟨aP,J⟩ Z ?_)
 all_goals refine bp Z Z Z [] [] (am ?_) .nil ⟨rfl,rfl⟩ _ (.inl Z)
 all_goals refine congrArg (AV.i .i64) ?_
 all_goals (rw[hc0];split<;>(try split)<;>omega)
theorem JC(a b:Int):aQ Tryz.prog 145 [.sl 1 ([a,b].map (AV.i .i64))] [] (fun v os=>v= .i .i64 (if a≠0 then a else b)∧os=[]):=by
 refine aA ab [] Tryz.func145 Z Tryz.ntmps145 aN Z Z (fun C=>?_) Z
 repeat' (first|refine ae ?_|refine aj ?_|refine aa ?_|refine ac (ax ?_)|refine br Z ab Z Z Z (fun _=>?_)|refine aU ab (fun _=>?_))
 refine aO (fun i:Nat=>⟨18,[(8,.i .i64 i),(7,.i .i64 2),(6,.sl 1 ([a,b].map (AV.i .i64))),(3,.i .i64 0)],[]⟩) (fun i=>i≤2∧(1≤i→a=0)∧(2≤i→b=0)) (fun i=>2 - i) [] 0 ⟨by omega,fun h=>by omega,fun h=>by omega⟩ ?_ ?_
 ·exact⟨rfl,⟨ai Z,ai Z,ay Z,ai Z,J⟩,.nil⟩
 rintro i ⟨hi,ha,hb⟩
 have hl:[a,b].length=2:=rfl
 rcases i with _|_|_|i
 ·repeat' (first|refine ae ?_|refine aj ?_|refine aa ?_|refine ac (ax ?_)|refine ac (db ?_)|refine ah (ax ?_)|refine ap (bC ?_)|(refine bc Z Z Z Z ?_ ?_;omega)|refine aU ab (fun _=>?_)|(refine aK Z ab Z Z Z Z Z Z ?_ (aE ?_) ?_;omega;omega)|refine aR Z ?_|(refine bF Z (fun hc=>?_) (fun hc=>?_))<;>try omega)
  ·have hc:¬ a=0:=hc
   rw[if_pos hc]
   exact jh
  ·exact⟨1,[],⟨by omega,fun _=>(hc:a=0),fun h=>by omega⟩,by omega,rfl,⟨ai Z,ai Z,ay Z,ai Z,J⟩,.nil⟩
 ·have ha:=ha (by omega)
  repeat' (first|refine ae ?_|refine aj ?_|refine aa ?_|refine ac (ax ?_)|refine ac (db ?_)|refine ah (ax ?_)|refine ap (bC ?_)|(refine bc Z Z Z Z ?_ ?_;omega)|refine aU ab (fun _=>?_)|(refine aK Z ab Z Z Z Z Z Z ?_ (aE ?_) ?_;omega;omega)|refine aR Z ?_|(refine bF Z (fun hc=>?_) (fun hc=>?_))<;>try omega)
  ·rw[if_neg (fun h=>h ha)]
   exact jh
  ·exact⟨2,[],⟨by omega,fun _=>ha,fun _=>(hc:b=0)⟩,by omega,rfl,⟨ai Z,ai Z,ay Z,ai Z,J⟩,.nil⟩
 ·have ha:=ha (by omega)
  have hb:=hb (by omega)
  rw[if_neg (fun h=>h ha),hb]
  repeat' (first|refine ae ?_|refine aa ?_|refine ac (ax ?_)|refine aw (ax ?_)|refine ap (bC ?_)|refine aU ab (fun _=>?_)|refine aB Z ?_)
  exact jh
 ·omega
section
variable {P:Program} {C:il} {ops:Array Oper} {l:List Oper} {K:St→Prop} {n:Nat} {sl:List (Nat×AV)} {hp:List (Nat×HO)}
theorem s7{hp':List (Nat×HO)}(k d:Nat){b:Nat}{c:AV}(hg:bU hp k=some (.var b c))(hd:ge sl d= .ptr k b [] 0)(hh:dS hp k=hp')
 (h:aq .text P C ops l ⟨n,(d,.cp c)::sl,hp'⟩ K):aq .text P C ops l ⟨n,sl,hp⟩ K:=by
 subst hh
 exact⟨fun Q E a w hs hK=>h.out Q E a w (hs.freezeV (S:=⟨n,sl,hp⟩) hg hd) hK⟩
theorem kP{fr:Fr}:∀xs:List AV,gU fr xs xs
 |[]=>J
 |_::xs=>⟨aP,kP xs⟩
end
section
variable {P:Program} {C:il} {S:St} {a:Act} {w:World} {K:Exit→St→Prop}
theorem ep.freezeR(h:ep C S a w){k d e sz:Nat}{v:Value}{xs:List AV}(hg:bU S.heap k=some (.row v e sz xs))(hd:S.slot d= .own k v):ep C ⟨S.n,(d,.sl sz xs)::S.slots,dS S.heap k⟩ a w:=by
 obtain⟨j1,j2,j3⟩:=dl hg
 have h1:=h.del hg
 have hF:∀b,Fz C S.heap w b→Fz C (dS S.heap k) w b:=fun b hb=>⟨hb.1,fun hin=>hb.2.1 (j1 b hin),hb.2.2⟩
 refine⟨h1.n,h1.df,fun i=>?_,h1.heap,h1.nd,h1.lt,h1.mod⟩
 have hslot:(⟨S.n,(d,AV.sl sz xs)::S.slots,dS S.heap k⟩:St).slot i=if d=i then .sl sz xs else S.slot i:=pY ⟨S.n,S.slots,dS S.heap k⟩ d i (.sl sz xs)
 rw[hslot]
 by_cases hi:d=i
 ·subst hi
  rw[if_pos Z]
  have hs:=h.slots d
  rw[hd,cf] at hs
  have hr:=h.getHeap hg
  have hx:=C1 (jI hF hr) (fun b hb=>⟨(h.lt b (fH hg (eY hb))).1,(j2 h.nd).2 b (eY hb),.inr (h.lt b (fH hg (eY hb))).2⟩)
  rw[hs.1]
  exact ll hx
 ·rw[if_neg hi];exact h1.slots i
end
theorem oH.small{q:Bool}{G H G':Nat→Prop}{w w':World}(hs:∀b,G b→H b)(h:oH q G w G' w'):oH q H w G' w':=
 ⟨h.size,fun b hb hc=>h.same b hb (hc.imp id (fun n g=>n (hs b g))),fun b hb hg=>hs b (h.sub b hb hg)⟩
theorem yI{P:Program}{ops:Array Oper}{qs:List Nat}{Q:Exit→Act→World→Prop}:∀(n:Nat) (listed:Array Bool) (G H:Nat→Prop) (a:Act) (w:World),(∀b,G b→H b)→hJ P ops qs Q n listed G a w→hJ P ops qs Q n listed H a w
 |0,_,_,_,_,_,_,h=>h
 |_n+1,_listed,_G,_H,_a,_w,hs,h=>⟨h.1,fun i hi=>wpOp_mono (fun _a' _w' ⟨G',h1,h2⟩=>⟨G',h1.small hs,h2⟩) (h.2 i hi)⟩
theorem OM.wp_small{m:OM}{P:Program}{ops:Array Oper}{Q:Exit→Act→World→Prop}{E:(Nat→Prop)→Act→World→Prop}{o:Oper}{l:List Oper}{H H':List (Nat×HO)}{a:Act}{w:World}(hs:∀tk b,sv H' tk b→sv H tk b)(h:m.wp P ops Q E (o::l) H' a w):m.wp P ops Q E (o::l) H a w:=by
 cases m with
 |text=>exact h
 |any tk so qs=>exact fun is listed n h1 h2 h3 h4 h5=>yI _ _ _ _ _ _ (hs tk) (h is listed n h1 h2 h3 h4 h5)
 |one tk so qs=>
  cases l with
  |nil=>exact fun i hi=>wpOp_mono (fun a' w' ⟨G',h1,h2⟩=>⟨G',h1.small (hs tk),h2⟩) (h i hi)
  |cons o' l'=>exact J
section
variable {m:OM} {P:Program} {C:il} {ops:Array Oper} {o:Oper} {l:List Oper} {K:St→Prop} {n:Nat} {sl:List (Nat×AV)} {hp:List (Nat×HO)}
theorem s8{hp':List (Nat×HO)}(k d:Nat){e sz:Nat}{v:Value}{xs:List AV}(hg:bU hp k=some (.row v e sz xs))(hd:ge sl d= .own k v)(hh:dS hp k=hp')
 (h:aq m P C ops (o::l) ⟨n,(d,.sl sz xs)::sl,hp'⟩ K):aq m P C ops (o::l) ⟨n,sl,hp⟩ K:=by
 subst hh
 refine⟨fun Q E a w hs hK=>OM.wp_small (fun tk b hb=>?_) (h.out Q E a w (hs.freezeR (S:=⟨n,sl,hp⟩) hg hd) hK)⟩
 obtain⟨p,h1,h2,h3⟩:=hb
 exact⟨p,(dl hg).2.2 p h1,h2,h3⟩
end
section
variable {m:OM} {P:Program} {T:List (Nat×TI)} {C:il} {ops:Array Oper} {l:List Oper} {K:St→Prop} {n:Nat} {sl:List (Nat×AV)} {hp:List (Nat×HO)} {d:Nat} {ty:Nat} {pos:String} {aft:Array Edge} {gd:Option (Nat×Bool)}
theorem pR(hT:cP P T)(hw:cH ops ⟨n,sl,hp⟩ gd=bE gd){t u e sz:Nat}{x y:Operand}{xs:List AV}{sz0 by0:Nat}{z0:AV}
 (hx:ev ⟨n,sl,hp⟩ x= .sl sz xs)(hy:ev ⟨n,sl,hp⟩ y= .nil)(ht:bI T t=some ⟨.slice e,sz0,by0,z0⟩)(hd:Nat.blt d n=true)
 (h:∀c:Bool,(c=true→xs=[])→aq .text P C ops l ⟨n,(d,.b c)::sl,hp⟩ K):aq .text P C ops (⟨some d,.binOp .eql t x y u,ty,pos,aft,gd⟩::l) ⟨n,sl,hp⟩ K:=by
 refine⟨fun Q E a w hs hK=>?_⟩
 have hw2:=sw (d:=some d) (op:=.binOp .eql t x y u) (ty:=ty) (pos:=pos) (aft:=aft) hs hw
 intro he
 show wpList P ops Q (_::l) a w
 have Ex:=bg hs x
 have Ey:=bg hs y
 rw[hx,iW] at Ex
 rw[hy,lW] at Ey
 obtain⟨A,cap,e1,h1,h2,h3⟩:=Ex
 have hu:=ej (aX hT ht)
 refine q6 hw2 ?_
 have hr:=Lib.run_eql_slice_nil (P:=P) w t e A xs.length cap 0 0 hu
 have hg:(eqGuard .eql t x y (.slice A xs.length cap) (.slice none 0 0)).run P w= .ok () w:=by simp[eqGuard]
 unfold Oper.wp
 simp only[execOp,e1,Ey,Sem.run_bind,hg,hr,Result.andThen_ok,Sem.run_pure]
 refine(h A.isNone (fun hA=>?_)).out Q E _ w (hs.put (pG hd) (gr.2 Z)) hK he
 rcases Classical.em (xs=[]) with h0|h0
 ·exact h0
 ·obtain⟨b,off,rfl,_⟩:=h3 h0
  cases hA
theorem w8(hT:cP P T)(hw:cH ops ⟨n,sl,hp⟩ gd=bE gd){t:Nat}{x:Operand}{lo hi:Option Operand}{k:Nat}{v:Value}{ee sz:Nat}{xs:List AV}(i j:Nat){e sz0 by_:Nat}{z:AV}{te:TI}
 (hx:ev ⟨n,sl,hp⟩ x= .own k v)(hg:bU hp k=some (.row v ee sz xs))(hlo:si ⟨n,sl,hp⟩ lo 0 i)(hhi:si ⟨n,sl,hp⟩ hi xs.length j)(ht:bI T t=some ⟨.slice e,sz0,by_,z⟩)(he:bI T e=some te)
 (hd:Nat.blt d n=true)(hij:i≤j)(hj:j≤xs.length)(h:aq m P C ops l ⟨n,(d,.any)::sl,hp⟩ K):aq m P C ops (⟨some d,.slice t x lo hi none,ty,pos,aft,gd⟩::l) ⟨n,sl,hp⟩ K:=by
 refine eI (d:=some d) hw none cT hd Z (fun a w hs=>?_) h
 have Ex:=bg hs x
 rw[hx,cf] at Ex
 obtain⟨A,cap,e1,hcap⟩:∃A cap,v= .slice A xs.length cap∧xs.length≤cap:=by
  obtain⟨cells,h1,h2⟩:=hs.getHeap hg
  rcases h2.2 with ⟨rfl,h0⟩|⟨g,cap,cur,rfl,_,_,h3,_⟩
  ·exact⟨none,0,by rw[h0],by rw[h0];exact Nat.le_refl _⟩
  ·exact⟨_,cap,rfl,h3⟩
 subst e1
 refine⟨.slice (if cap=i then A else A.map (·.add (i*te.sz))) (j - i) (cap - i),(by unfold cL;exact J),fun w' _=>?_⟩
 have hb:=go (P:=P) true xs.length cap _ _ i j (mg hs hlo) (mg hs hhi) hij (by omega) w'
 have hu:=ej (aX hT ht)
 have hsz':=(aX hT he).sizeRun w'
 simp only[execOp,Ex.1,Instr.sliceAt,Instr.slice,Sem.run_bind,run_underlying hu,Result.andThen_ok,Option.map_none,hb,hsz',Sem.run_pure]
end
section
variable {m:OM} {P:Program} {T:List (Nat×TI)} {C:il} {ops:Array Oper} {l:List Oper} {K:St→Prop} {n:Nat} {sl:List (Nat×AV)} {hp:List (Nat×HO)} {d:Nat} {ty:Nat} {pos:String} {aft:Array Edge} {gd:Option (Nat×Bool)}
theorem F3(hT:cP P T)(hw:cH ops ⟨n,sl,hp⟩ gd=bE gd){t e sz0 by0:Nat}{z0:AV}{tk:TK}{sz bs:Nat}{z:AV}{x y:Operand}{kl kc:IntKind}{a b:Int}
 (ht:bI T t=some ⟨.slice e,sz0,by0,z0⟩)(he:bI T e=some ⟨tk,sz,bs,z⟩)(hz:z.isVal=true)(hsz:gz z=sz)(hpos:Nat.blt 0 sz=true)
 (hx:ev ⟨n,sl,hp⟩ x= .i kl a)(hy:ev ⟨n,sl,hp⟩ y= .i kc b)(hd:Nat.blt d n=true)(len:Nat)(ha:a=0)(hb:b=len)(hlen:bs*len≤281474976710656)(hlen2:len≤9223372036854775807)
 (h:∀v',aq m P C ops l ⟨n,(d,.own d v')::sl,(d,.row v' e sz [])::hp⟩ K):aq m P C ops (⟨some d,.makeSlice t x y,ty,pos,aft,gd⟩::l) ⟨n,sl,hp⟩ K:=by
 subst ha;subst hb
 have hpos:=pG hpos
 refine eD hw [] eZ Z fun a w hs=>?_
 have hE:=r9 hT ht he hz hsz hpos
 have Ex:=bg hs x;have Ey:=bg hs y
 rw[hx,cq] at Ex;rw[hy,cq] at Ey
 rcases (aX hT he).zero with h0|⟨cs,h1,h2⟩
 ·have h0:z= .any:=h0
  rw[h0] at hz;cases hz
 have hrep:bw w (Fz C hp w) z cs:=iw z cs h1
 have hcs:cs.length=sz:=by rw[dF _ _ hrep,hsz]
 obtain⟨i,zv,hi,hzv,hz1,hz2,hz3⟩:=hE.info
 have hzv2:zv=ch z cs:=by rw[hi] at h2;simp only[Option.bind_some,hzv,Option.some.injEq] at h2;exact h2
 have hb:(i.bytes:Int)*(len:Int)≤281474976710656:=by
  have h:((i.bytes*len:Nat):Int)≤281474976710656:=by rw[hz2];omega
  rwa [Int.natCast_mul] at h
 have hrun:=run_make (P:=P) w t e i zv hE.ut hi hzv kl kc (0:Int) (len:Int) (by omega) (by omega) hb (by omega)
 simp only[Int.toNat_natCast] at hrun
 have hcells:zv.cells=cs.toArray:=by rw[hzv2];exact dV hrep
 rw[hcells,hz1,←hcs] at hrun
 have hrow:(w.alloc (.cells (madeCells cs.toArray (len*cs.length)) e)).ownsRow 0 e sz (.slice (some ⟨w.heap.size,0,none⟩) 0 len) 0 []:=by
  refine⟨by simp,.inr ⟨w.heap.size,len,madeCells cs.toArray (len*cs.length),rfl,Nat.zero_le _,iJ.new w e _,Nat.zero_le _,by unfold maxLen;omega,by rw[size_madeCells,hcs],by simp⟩⟩
 refine⟨_,_,_,.own d (.slice (some ⟨w.heap.size,0,none⟩) 0 len),?_,hs.newRow (S:=⟨n,sl,hp⟩) d ((cD _ w).alloc _) (xs:=[]) (cells:=[]) (by simp[dq]) hrow (fun b hb=>?_),hd,cf.2 ⟨rfl,rfl⟩,lz (S:=⟨n,sl,hp⟩) ((cD _ w).alloc _) (fun b hb=>by simp[HO.blk,Value.ownBlock] at hb;omega),h _⟩
 ·simp only[execOp,Ex,Ey,Sem.run_bind,hrun,Result.andThen_ok,Sem.run_pure]
  rfl
 ·simp[Value.ownBlock] at hb;omega
end
def N6(ps:List (Nat×AV))(zs:List AV):List AV:=ps.foldl (fun c q=>c.set q.1 q.2) zs
def Oz(sz mlen:Nat)(ps:List (Nat×AV)):Bool:=ps.all (fun q=>Nat.blt q.1 mlen&&q.2.isVal&&Nat.beq (gz q.2) sz)
section
variable {P:Program} {T:List (Nat×TI)} {w:World} {F:Nat→Prop}
end
section
variable {m:OM} {P:Program} {T:List (Nat×TI)} {C:il} {ops:Array Oper} {l:List Oper} {K:St→Prop} {n:Nat} {sl:List (Nat×AV)} {hp:List (Nat×HO)} {d:Nat} {ty:Nat} {pos:String} {aft:Array Edge} {gd:Option (Nat×Bool)}
end
section
variable {m:OM} {P:Program} {T:List (Nat×TI)} {C:il} {ops:Array Oper} {l:List Oper} {K:St→Prop} {n:Nat} {sl:List (Nat×AV)} {hp:List (Nat×HO)} {d:Nat} {ty:Nat} {pos:String} {aft:Array Edge} {gd:Option (Nat×Bool)}
end
section
variable {P:Program} {C:il} {S:St}
theorem gO.three{ops:Array Oper}{o1 o2 o3:Oper}{tk so qs:List Nat}{n:Nat}{listed:Array Bool}{S:St}{K:St→Prop}(i1 i2 i3:Nat)(hr:Region.ready .any ops listed=[i1,i2,i3])(h1:ops[i1]?=some o1)(h2:ops[i2]?=some o2)(h3:ops[i3]?=some o3)
 (k1:aq (.one tk so qs) P C ops [o1] S (fun S'=>gO P C ops tk so qs n (listed.setIfInBounds i1 true) S' K))(k2:aq (.one tk so qs) P C ops [o2] S (fun S'=>gO P C ops tk so qs n (listed.setIfInBounds i2 true) S' K))(k3:aq (.one tk so qs) P C ops [o3] S (fun S'=>gO P C ops tk so qs n (listed.setIfInBounds i3 true) S' K)):gO P C ops tk so qs (n+1) listed S K:=by
 refine⟨fun Q a w hs f2 hQ hK=>⟨fun h=>(by rw[hr] at h;cases h),fun i hi=>?_⟩⟩
 rw[hr] at hi
 simp only[List.mem_cons,List.not_mem_nil,or_false] at hi
 rcases hi with rfl|rfl|rfl
 ·exact k1.out Q (fun G a' w'=>hJ P ops qs Q n (listed.setIfInBounds i true) G a' w') a w hs (fun S' a' w' h1 h2=>h1.out Q a' w' h2 f2 hQ hK) i h1
 ·exact k2.out Q (fun G a' w'=>hJ P ops qs Q n (listed.setIfInBounds i true) G a' w') a w hs (fun S' a' w' h1 h2=>h1.out Q a' w' h2 f2 hQ hK) i h2
 ·exact k3.out Q (fun G a' w'=>hJ P ops qs Q n (listed.setIfInBounds i true) G a' w') a w hs (fun S' a' w' h1 h2=>h1.out Q a' w' h2 f2 hQ hK) i h3
end
def vL(l:List UInt8):Value:=.agg (l.map fun c=>Value.int .u8 (c.toNat:Int)).toArray
section
variable {P:Program} (w:World)
structure Ou(P:Program)(kt:TypeId)(k:Nat):Prop where
 ex:∃e ie,P.underlying kt=some (.array k e)∧P.underlying e=some (.int .u8)∧P.info? e=some ie∧P.cellsOf e=1
def NL(j:Nat)(l:List (List UInt8)):List MapEntry:=((l.map vL).zipIdx j).map (fun p=>(⟨p.1,.bool true,p.2⟩:MapEntry))
def Oq(l:List (List UInt8))(a:List UInt8):List (List UInt8):=if l.contains a=true then l else l++[a]
def Oj(l:List (List UInt8))(a:List UInt8):Obj:=if l.contains a=true then iC (l.map vL) else .map ((NL 0 l).toArray.push ⟨vL a,.bool false,l.length⟩) (l.length+1)
theorem gI{b:Nat}{es:Array MapEntry}{c:Nat}(hb:w.heap[b]?=some (.map es c)):(getObj b).run P w= .ok (.map es c) w:=by unfold getObj;simp[Sem.run,hb]
theorem iZ{b:Nat}{es es':Array MapEntry}{c c':Nat}(hb:w.heap[b]?=some (.map es c)):(setObj b (.map es' c')).run P w= .ok () (iE w b (.map es' c')):=by
 simp only[setObj,Sem.run,hb]
 rfl
variable {b:Nat} {t kt et:TypeId} {k:Nat}
end
section
variable {m:OM} {P:Program} {T:List (Nat×TI)} {C:il} {ops:Array Oper} {l:List Oper} {K:St→Prop} {n:Nat} {sl:List (Nat×AV)} {hp:List (Nat×HO)} {d:Nat} {ty:Nat} {pos:String} {aft:Array Edge} {gd:Option (Nat×Bool)}
end
section
variable {P:Program} {C:il} {S:St} {a:Act} {w:World} {K:Exit→St→Prop}
theorem ep.regroup(h:ep C S a w)(H:List (Nat×HO))(hp:(cC H).Perm (cC S.heap))(hk:∀w F,(∀p∈S.heap,oG w F p.2)→∀p∈H,oG w F p.2):ep C ⟨S.n,S.slots,H⟩ a w:=by
 have hF:∀b,Fz C S.heap w b→Fz C H w b:=fun b hb=>⟨hb.1,fun hin=>hb.2.1 (hp.mem_iff.1 hin),hb.2.2⟩
 exact⟨h.n,h.df,fun i=>fN hF (fun _ _=>rfl) _ _ (h.slots i),fun p hp2=>jI hF (hk w _ h.heap p hp2),hp.nodup_iff.2 h.nd,fun b hb=>h.lt b (hp.mem_iff.1 hb),h.mod⟩
theorem ag.regroup{c:Code}(H:List (Nat×HO))(hp:(cC H).Perm (cC S.heap))(hk:∀w F,(∀p∈S.heap,oG w F p.2)→∀p∈H,oG w F p.2)(h:ag P C c ⟨S.n,S.slots,H⟩ K):ag P C c S K:=⟨fun a w hs=>h.out a w (hs.regroup H hp hk)⟩
theorem je(k:Nat)(x:HO)(H:List (Nat×HO)):cC ((k,x)::H)=x.blk++cC H:=cI _ _
theorem ET{w:World}{F:Nat→Prop}{os:List HO}(hn:(ct os).Nodup)(h:∀o∈os,oG w F o):oG w F (bL os):=⟨hn,fun b hb=>by
 obtain⟨o,ho,hbo⟩:=List.mem_flatMap.1 hb
 exact zZ (h o ho) b hbo,h⟩
theorem ep.pull{n:Nat}{sl:List (Nat×AV)}{hp hp':List (Nat×HO)}(k k1:Nat){os:List HO}{o:HO}{rest:List HO}(hg:bU hp k=some (bL os))(hos:os.Perm (o::rest))(hs:ep C ⟨n,sl,hp⟩ a w)(hh:(k1,o)::(k,bL rest)::dS hp k=hp'):ep C ⟨n,sl,hp'⟩ a w:=by
 subst hh
 have hpm:(cC ((k1,o)::(k,bL rest)::dS hp k)).Perm (cC hp):=by
  rw[je,je,←List.append_assoc]
  refine List.Perm.trans (List.Perm.append_right _ ?_) (lJ hg).symm
  have:=qI hos
  rw[fa] at this
  exact this.symm
 have hn:(ct rest).Nodup:=by
  have h1:=hpm.nodup_iff.2 hs.nd
  rw[je,je] at h1
  exact(List.nodup_append.1 (List.nodup_append.1 h1).2.1).1
 refine ep.regroup (S:=⟨n,sl,hp⟩) hs _ hpm (fun w F hall p hp2=>?_)
 obtain⟨pre,post,e1⟩:=ij hg
 have hgo:=zz (hall (k,bL os) (by show (k,bL os)∈hp;rw[e1];simp))
 rcases List.mem_cons.1 hp2 with rfl|hp2
 ·exact hgo o (hos.mem_iff.2 (List.mem_cons_self ..))
 rcases List.mem_cons.1 hp2 with rfl|hp2
 ·exact ET hn (fun x hx=>hgo x (hos.mem_iff.2 (List.mem_cons_of_mem _ hx)))
 ·exact hall p ((dl hg).2.2 p hp2)
theorem ep.push{n:Nat}{sl:List (Nat×AV)}{hp hp':List (Nat×HO)}(k k1:Nat){os:List HO}{o:HO}{rest:List HO}(h1:bU hp k1=some o)(hg:bU (dS hp k1) k=some (bL rest))(hos:os.Perm (o::rest))(hs:ep C ⟨n,sl,hp⟩ a w)(hh:(k,bL os)::dS (dS hp k1) k=hp'):ep C ⟨n,sl,hp'⟩ a w:=by
 subst hh
 have hpm:(cC ((k,bL os)::dS (dS hp k1) k)).Perm (cC hp):=by
  rw[je]
  refine List.Perm.trans ?_ (lJ h1).symm
  refine List.Perm.trans ?_ (List.Perm.append_left _ (lJ hg).symm)
  rw[←List.append_assoc]
  refine List.Perm.append_right _ ?_
  have:=qI hos
  rw[fa] at this
  exact this
 have hn:(ct os).Nodup:=by
  have h2:=hpm.nodup_iff.2 hs.nd
  rw[je] at h2
  exact(List.nodup_append.1 h2).1
 refine ep.regroup (S:=⟨n,sl,hp⟩) hs _ hpm (fun w F hall p hp2=>?_)
 obtain⟨pre,post,e1⟩:=ij h1
 obtain⟨pre2,post2,e2⟩:=ij hg
 have hgo:=zz (hall (k,bL rest) ((dl h1).2.2 _ (by rw[e2];simp)))
 rcases List.mem_cons.1 hp2 with rfl|hp2
 ·refine ET hn (fun x hx=>?_)
  rcases List.mem_cons.1 (hos.mem_iff.1 hx) with rfl|hx
  ·exact hall (k1,x) (by show (k1,x)∈hp;rw[e1];simp)
  ·exact hgo x hx
 ·exact hall p ((dl h1).2.2 p ((dl hg).2.2 p hp2))
theorem ag.pull{c:Code}{n:Nat}{sl:List (Nat×AV)}{hp hp':List (Nat×HO)}(k k1:Nat){os:List HO}{o:HO}{rest:List HO}(hg:bU hp k=some (bL os))(hos:os.Perm (o::rest))(hh:(k1,o)::(k,bL rest)::dS hp k=hp')(h:ag P C c ⟨n,sl,hp'⟩ K):ag P C c ⟨n,sl,hp⟩ K:=
 ⟨fun a w hs=>h.out a w (ep.pull k k1 hg hos hs hh)⟩
theorem ag.push{c:Code}{n:Nat}{sl:List (Nat×AV)}{hp hp':List (Nat×HO)}(k k1:Nat){os:List HO}{o:HO}{rest:List HO}(h1:bU hp k1=some o)(hg:bU (dS hp k1) k=some (bL rest))(hos:os.Perm (o::rest))(hh:(k,bL os)::dS (dS hp k1) k=hp')(h:ag P C c ⟨n,sl,hp'⟩ K):ag P C c ⟨n,sl,hp⟩ K:=
 ⟨fun a w hs=>h.out a w (ep.push k k1 h1 hg hos hs hh)⟩
theorem aq.pull{ops:Array Oper}{l:List Oper}{K:St→Prop}{n:Nat}{sl:List (Nat×AV)}{hp hp':List (Nat×HO)}(k k1:Nat){os:List HO}{o:HO}{rest:List HO}(hg:bU hp k=some (bL os))(hos:os.Perm (o::rest))(hh:(k1,o)::(k,bL rest)::dS hp k=hp')(h:aq .text P C ops l ⟨n,sl,hp'⟩ K):aq .text P C ops l ⟨n,sl,hp⟩ K:=
 ⟨fun Q E a w hs hK=>h.out Q E a w (ep.pull k k1 hg hos hs hh) hK⟩
theorem aq.push{ops:Array Oper}{l:List Oper}{K:St→Prop}{n:Nat}{sl:List (Nat×AV)}{hp hp':List (Nat×HO)}(k k1:Nat){os:List HO}{o:HO}{rest:List HO}(h1:bU hp k1=some o)(hg:bU (dS hp k1) k=some (bL rest))(hos:os.Perm (o::rest))(hh:(k,bL os)::dS (dS hp k1) k=hp')(h:aq .text P C ops l ⟨n,sl,hp'⟩ K):aq .text P C ops l ⟨n,sl,hp⟩ K:=
 ⟨fun Q E a w hs hK=>h.out Q E a w (ep.push k k1 h1 hg hos hs hh) hK⟩
end
end Go.Proofs.YtginkbjclkdglaaGreat
