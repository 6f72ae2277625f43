/- table.Table.Range, slices.Clip by rules. -/
import Derived.Test.YtginkbjclkdglaaGreatKIZ
import Derived.Test.YtginkbjclkdglaaGreatBPZ
import Derived.Test.YtginkbjclkdglaaGreatB2Z
import Derived.Test.YtginkbjclkdglaaGreatV18Z
set_option maxHeartbeats 16000000
set_option maxRecDepth 100000
namespace Go.Proofs.YtginkbjclkdglaaGreat
open Go Go.RowKit
def iV:List (List aC)→List UInt8→List UInt8→List aC
 |[],_,_=>[]
 |g::r,f,t=>if Op.bytesLess (np g) f=true then iV r f t
  else if t.length=0 then g.drop (eG g f)++iV r f t
  else if eG (g.drop (eG g f)) t<(g.drop (eG g f)).length then (g.drop (eG g f)).take (eG (g.drop (eG g f)) t)
  else (g.drop (eG g f)).take (eG (g.drop (eG g f)) t)++iV r f t
theorem yQ(G:List (List aC))(i:Nat)(h:i<G.length)(f t:List UInt8):iV (G.drop i) f t=if Op.bytesLess (np G[i]) f=true then iV (G.drop (i+1)) f t
 else if t.length=0 then G[i].drop (eG G[i] f)++iV (G.drop (i+1)) f t
 else if eG (G[i].drop (eG G[i] f)) t<(G[i].drop (eG G[i] f)).length then (G[i].drop (eG G[i] f)).take (eG (G[i].drop (eG G[i] f)) t)
 else (G[i].drop (eG G[i] f)).take (eG (G[i].drop (eG G[i] f)) t)++iV (G.drop (i+1)) f t:=by
 rw[List.drop_eq_getElem_cons h];rfl
theorem GD(l:List aC):aQ Tryz.prog 81 [.sl 3 (l.map eA)] [] (fun v os=>v= .sl 3 (l.map eA)∧os=[]):=by
 refine aA ab [] Tryz.func81 Z Tryz.ntmps81 aN Z Z (fun C=>?_) Z
 repeat' (first|refine ae ?_|refine aa ?_|refine ac (ax ?_)|refine ap (bC ?_)|refine br Z ab Z Z Z (fun _=>?_)|refine aU ab (fun _=>?_)|(refine De ab Z 0 l.length l.length Z Z Z Z Z da Z Z Z Z (Nat.zero_le _) (Nat.le_refl _) (Nat.le_refl _) ?_;rw[List.drop_zero,List.take_length]))
 exact jh
theorem z9{t:Jg}{G:List (List aC)}(h:Fq t G)(fr to:List UInt8):aQ Tryz.prog 38 [.cp (iY t),.s fr,.s to] [] (fun v os=>v= .tup [.sl 3 ((iV G fr to).map eA),.i .i64 0]∧os=[]):=by
 refine aA ab [] Tryz.func38 Z Tryz.ntmps38 aN Z Z (fun C=>?_) Z
 obtain⟨q,hq⟩:∃q,iV G fr to=q:=⟨_,rfl⟩
 rw[hq]
 have hlen:=h.len
 have hfew:=h.few
 have hcl:=GD q
 repeat' (first|refine ae ?_|refine aj ?_|refine aa ?_|refine ac (ax ?_)|refine br Z ab Z Z Z (fun _=>?_)|refine aU ab (fun _=>?_))
 refine aO (fun z:Nat×List aC×Value=>⟨62,[(19,.i .i64 z.1),(18,.i .i64 t.parts.length),(17,.sl 2 (t.parts.map oz)),(8,.own 8 z.2.2),(0,.cp (iY t)),(1,.s fr),(2,.s to)],[(8,.row z.2.2 47 3 (z.2.1.map eA))]⟩) (fun z=>z.1≤G.length∧z.2.1.length≤256*z.1∧z.2.1++iV (G.drop z.1) fr to=q) (fun z=>G.length - z.1) [] (0,[],.slice none 0 0) ⟨Nat.zero_le _,Nat.zero_le _,hq⟩ ?_ ?_
 ·exact⟨rfl,⟨ai Z,ai Z,ay Z,dp,aP,cY Z,cY Z,J⟩,.none .nil⟩
 rintro⟨i,out,v⟩ ⟨hi,hol,hst⟩
 dsimp only at hi hol hst ⊢
 by_cases hlt:i<G.length
 ·rw[yQ G i hlt] at hst
  have hlt2:i<t.parts.length:=by omega
  obtain⟨_,_,hls⟩:=h.rd i hlt hlt2
  have hld:=Ai h i hlt
  obtain⟨hg0,hg1,hg2⟩:=h.grp _ (List.getElem_mem hlt)
  have hbs:=jd G[i] fr (by omega) (fun a b ha hb hab=>jf hg2 fr a b ha hb hab)
  have hpl:=qH G[i] fr
  rw[hls] at hst
  generalize eG G[i] fr=p at hbs hst hpl
  have hg3:=hg2.sublist (List.drop_sublist p G[i])
  have hdl:(G[i].drop p).length≤256:=by rw[List.length_drop];omega
  have hbs2:=jd (G[i].drop p) to (by omega) (fun a b ha hb hab=>jf hg3 to a b ha hb hab)
  have hpl2:=qH (G[i].drop p) to
  generalize eG (G[i].drop p) to=p2 at hbs2 hst hpl2
  cases hbl:Op.bytesLess t.parts[i].l fr
  ·rw[hbl,if_neg (by decide)] at hst
   by_cases hto:to.length=0
   ·have hne:=(L8 to).trans (decide_eq_false (by omega))
    rw[if_pos hto] at hst
    repeat' (first|(exact absurd (hc.symm.trans hne) (by decide))|(exact absurd (hc.symm.trans hbl) (by decide))|refine ae ?_|refine aj ?_|refine aa ?_|refine ac (ax ?_)|refine ac (db ?_)|refine ah (ax ?_)|(refine bc Z Z Z Z ?_ ?_;omega)|refine aU ab (fun _=>?_)|refine aF Z ab Z Z Z (fun bA=>?_)|refine aD ab Z Z Z Z Z Z Z ⟨rfl,rfl⟩ Z Z Z Z Z ?_|(refine aK Z ab Z Z Z Z Z Z ?_ (aE ?_) ?_;omega;omega)|(refine bH ab Z Z Z Z Z Z Z Z Z (by first|exact J|exact rfl) Z Z (fun _=>rfl) ?_ ?_ (fun _=>?_);(exact dt);(exact dt))|refine aB Z ?_|(refine ao Z (fun hc=>?_) (fun hc=>?_))<;>try omega|(refine ba Z (fun hc=>?_) (fun hc=>?_))|(refine d5 ab Z p G[i].length Z Z Z Z Z (cn Z Z) da hpl (Nat.le_refl _) ?_;rw[List.take_length])|refine au Z (hld) ⟨aP,aP,J⟩ Z ?_|refine au Z (hbs) ⟨aP,aP,J⟩ Z ?_)
    refine⟨(i+1,out++G[i].drop p,_),[],⟨hlt,?_,?_⟩,by show G.length - (i+1)<G.length - i;omega,rfl,⟨ai (by omega),ai Z,ay Z,aJ,aP,cY Z,cY Z,J⟩,cr.cons 8 Z (aZ ?_) .nil⟩
    ·show (out++G[i].drop p).length≤256*(i+1);rw[List.length_append];omega
    ·show (out++G[i].drop p)++_=q;rw[List.append_assoc];exact hst
    ·rw[List.map_append]
   ·have hne:=(L8 to).trans (decide_eq_true (by omega))
    rw[if_neg hto] at hst
    by_cases hp2:p2<(G[i].drop p).length
    ·rw[if_pos hp2] at hst
     have hcl2:aQ Tryz.prog 81 [.sl 3 (out.map eA++(((G[i].drop p).take p2).drop 0).map eA)] [] (fun v os=>v= .sl 3 (q.map eA)∧os=[]):=by
      rw[←List.map_append,List.drop_zero,hst];exact hcl
     repeat' (first|(refine s8 8 60 Z Z Z ?_)|(exact absurd (hc.symm.trans hne) (by decide))|(exact absurd (hc.symm.trans hbl) (by decide))|refine ae ?_|refine aj ?_|refine aa ?_|refine ac (ax ?_)|refine ah (ax ?_)|refine aw (ax ?_)|refine ap (bC ?_)|refine br Z ab Z Z Z (fun _=>?_)|refine aU ab (fun _=>?_)|refine aF Z ab Z Z Z (fun bA=>?_)|refine aD ab Z Z Z Z Z Z Z ⟨rfl,rfl⟩ Z Z Z Z Z ?_|(refine aK Z ab Z Z Z Z Z Z ?_ (aE ?_) ?_;omega;omega)|(refine bH ab Z Z Z Z Z Z Z Z Z (by first|exact J|exact rfl) Z Z (fun _=>rfl) ?_ ?_ (fun _=>?_);(exact dt);(exact dt))|refine aB Z ?_|(refine ao Z (fun hc=>?_) (fun hc=>?_))<;>try omega|(refine ba Z (fun hc=>?_) (fun hc=>?_))|(refine d5 ab Z p G[i].length Z Z Z Z Z (cn Z Z) da hpl (Nat.le_refl _) ?_;rw[List.take_length])|(refine d5 ab Z 0 p2 Z Z Z Z Z da (cn Z Z) (Nat.zero_le _) hpl2 ?_)|refine au Z (hld) ⟨aP,aP,J⟩ Z ?_|refine au Z (hbs) ⟨aP,aP,J⟩ Z ?_|refine au Z (hbs2) ⟨aP,aP,J⟩ Z ?_|refine au Z (hcl2) ⟨aP,J⟩ Z ?_)
     exact aH [] [] (.tup [.sl 3 (q.map eA),.i .i64 0]) Z (aW (av _) (av _) Z Z) .nil ⟨rfl,rfl⟩
    ·rw[if_neg hp2] at hst
     repeat' (first|(exact absurd (hc.symm.trans hne) (by decide))|(exact absurd (hc.symm.trans hbl) (by decide))|refine ae ?_|refine aj ?_|refine aa ?_|refine ac (ax ?_)|refine ac (db ?_)|refine ah (ax ?_)|refine aw (ax ?_)|(refine bc Z Z Z Z ?_ ?_;omega)|refine br Z ab Z Z Z (fun _=>?_)|refine aU ab (fun _=>?_)|refine aF Z ab Z Z Z (fun bA=>?_)|refine aD ab Z Z Z Z Z Z Z ⟨rfl,rfl⟩ Z Z Z Z Z ?_|(refine aK Z ab Z Z Z Z Z Z ?_ (aE ?_) ?_;omega;omega)|(refine bH ab Z Z Z Z Z Z Z Z Z (by first|exact J|exact rfl) Z Z (fun _=>rfl) ?_ ?_ (fun _=>?_);(exact dt);(exact dt))|refine aB Z ?_|(refine ao Z (fun hc=>?_) (fun hc=>?_))<;>try omega|(refine ba Z (fun hc=>?_) (fun hc=>?_))|(refine d5 ab Z p G[i].length Z Z Z Z Z (cn Z Z) da hpl (Nat.le_refl _) ?_;rw[List.take_length])|(refine d5 ab Z 0 p2 Z Z Z Z Z da (cn Z Z) (Nat.zero_le _) hpl2 ?_)|refine au Z (hld) ⟨aP,aP,J⟩ Z ?_|refine au Z (hbs) ⟨aP,aP,J⟩ Z ?_|refine au Z (hbs2) ⟨aP,aP,J⟩ Z ?_)
     refine⟨(i+1,out++(G[i].drop p).take p2,_),[],⟨hlt,?_,?_⟩,by show G.length - (i+1)<G.length - i;omega,rfl,⟨ai (by omega),ai Z,ay Z,aJ,aP,cY Z,cY Z,J⟩,cr.cons 8 Z (aZ ?_) .nil⟩
     ·show (out++(G[i].drop p).take p2).length≤256*(i+1);rw[List.length_append,List.length_take];omega
     ·show (out++(G[i].drop p).take p2)++_=q;rw[List.append_assoc];exact hst
     ·rw[List.map_append,List.drop_zero]
  ·rw[hbl,if_pos Z] at hst
   repeat' (first|(exact absurd (hc.symm.trans hbl) (by decide))|refine ae ?_|refine aj ?_|refine aa ?_|refine ac (ax ?_)|refine ac (db ?_)|refine ah (ax ?_)|refine aw (ax ?_)|(refine bc Z Z Z Z ?_ ?_;omega)|refine aU ab (fun _=>?_)|refine aF Z ab Z Z Z (fun bA=>?_)|refine aD ab Z Z Z Z Z Z Z ⟨rfl,rfl⟩ Z Z Z Z Z ?_|(refine aK Z ab Z Z Z Z Z Z ?_ (aE ?_) ?_;omega;omega)|(refine ao Z (fun hc=>?_) (fun hc=>?_))<;>try omega|(refine ba Z (fun hc=>?_) (fun hc=>?_)))
   exact⟨(i+1,out,v),[],⟨hlt,by show out.length≤256*(i+1);omega,hst⟩,by show G.length - (i+1)<G.length - i;omega,rfl,⟨ai (by omega),ai Z,ay Z,aJ,aP,cY Z,cY Z,J⟩,az 8 Z .nil⟩
 ·have hil:i=G.length:=by omega
  subst hil
  rw[List.drop_length] at hst
  have hst:out++[]=q:=hst
  rw[List.append_nil] at hst
  subst hst
  repeat' (first|(refine s8 8 60 Z Z Z ?_)|refine ae ?_|refine aa ?_|refine ac (ax ?_)|refine aw (ax ?_)|refine ap (bC ?_)|refine aU ab (fun _=>?_)|(refine ao Z (fun hc=>?_) (fun hc=>?_))<;>try omega|refine au Z (hcl) ⟨aP,J⟩ Z ?_)
  exact aH [] [] (.tup [.sl 3 (out.map eA),.i .i64 0]) Z (aW (av _) (av _) Z Z) .nil ⟨rfl,rfl⟩
set_option maxHeartbeats 4000000
def Up(l:List aC):Prop:=l.Pairwise (fun a b=>Op.bytesLess a.k b.k=true)
theorem sA{l:List aC}(h:Up l)(k:List UInt8):l.take (eG l k)=l.filter (fun x=>Op.bytesLess x.k k)∧l.drop (eG l k)=l.filter (fun x=>!Op.bytesLess x.k k):=by
 induction l with
 |nil=>exact⟨rfl,rfl⟩
 |cons x l ih=>
  obtain⟨h1,h2⟩:=List.pairwise_cons.1 h
  obtain⟨i1,i2⟩:=ih h2
  have hp:eG (x::l) k=eG l k+if Op.bytesLess x.k k=true then 1 else 0:=List.countP_cons
  rw[hp]
  cases hx:Op.bytesLess x.k k
  ·have h0:∀y∈l,Op.bytesLess y.k k=false:=fun y hy=>by
    cases hy2:Op.bytesLess y.k k
    ·rfl
    ·rw[dZ (h1 y hy) hy2] at hx;exact absurd hx (by decide)
   have h00:eG l k=0:=by
    unfold eG;rw[List.countP_eq_zero]
    intro y hy hyk;rw[h0 y hy] at hyk;exact absurd hyk (by decide)
   rw[if_neg (by decide),h00,Nat.add_zero,List.take_zero,List.drop_zero,List.filter_cons_of_neg (by rw[hx];decide),List.filter_cons_of_pos (by rw[hx];rfl)]
   rw[h00] at i1 i2
   rw[←i1,←i2];exact⟨rfl,rfl⟩
  ·rw[if_pos Z,List.take_succ_cons,List.drop_succ_cons,i1,i2,List.filter_cons_of_pos (by exact hx),List.filter_cons_of_neg (by rw[hx];decide)]
   exact⟨rfl,rfl⟩
theorem oO{l:List aC}(h:Up l)(hl:0<l.length):∀x∈l,Op.bytesLess x.k (qo l)=false:=by
 intro x hx
 obtain⟨i,hi,rfl⟩:=List.mem_iff_getElem.1 hx
 rw[qP hl]
 rcases Nat.lt_or_eq_of_le (Nat.zero_le i) with h1|h1
 ·exact du (nZ h 0 i hl hi h1)
 ·subst h1;exact cW _
theorem q9{l:List aC}(h:Up l)(hl:0<l.length):∀x∈l,Op.bytesLess (np l) x.k=false:=by
 intro x hx
 obtain⟨i,hi,rfl⟩:=List.mem_iff_getElem.1 hx
 have h2:l.length - 1<l.length:=by omega
 rw[th h2]
 rcases Nat.lt_or_ge i (l.length - 1) with h1|h1
 ·exact du (nZ h i _ hi h2 h1)
 ·have:i=l.length - 1:=by omega
  subst this;exact cW _
theorem zn{a b c:List UInt8}(h:Op.bytesLess b a=false)(k:Op.bytesLess b c=true):Op.bytesLess a c=true:=by
 rcases gt a b with h1|rfl|h1
 ·exact dZ h1 k
 ·exact k
 ·rw[h] at h1;exact absurd h1 (by decide)
theorem zl{a b c:List UInt8}(h:Op.bytesLess a b=true)(k:Op.bytesLess c b=false):Op.bytesLess a c=true:=zm h k
def Jm:List UInt8→List (List aC)→Prop
 |_,[]=>True
 |a,g::r=>Op.bytesLess a (qo g)=true∧Jm (np g) r
theorem zO:∀(G:List (List aC)) (a:List UInt8),(∀g∈G,0<g.length∧Up g)→Jm a G→Up G.flatten∧∀x∈G.flatten,Op.bytesLess a x.k=true
 |[],_,_,_=>⟨.nil,fun x hx=>by cases hx⟩
 |g::r,a,hg,hc=>by
  obtain⟨c1,c2⟩:=hc
  obtain⟨g1,g2⟩:=hg g (List.mem_cons_self ..)
  obtain⟨i1,i2⟩:=zO r (np g) (fun h hh=>hg h (List.mem_cons_of_mem _ hh)) c2
  rw[List.flatten_cons]
  have hlt:∀x∈g,∀y∈r.flatten,Op.bytesLess x.k y.k=true:=fun x hx y hy=>zn (q9 g2 g1 x hx) (i2 y hy)
  refine⟨List.pairwise_append.2 ⟨g2,i1,hlt⟩,fun x hx=>?_⟩
  rcases List.mem_append.1 hx with hx|hx
  ·exact zl c1 (oO g2 g1 x hx)
  ·have hm:g[0]∈g:=List.getElem_mem g1
   exact dZ (zl c1 (oO g2 g1 _ hm)) (hlt _ hm x hx)
def eS(l:List aC)(k:List UInt8):Option aC:=l.find? (fun x=>x.k==k)
theorem nq{l:List aC}{k:List UInt8}(h:∀x∈l,x.k≠k):eS l k=none:=List.find?_eq_none.2 (fun x hx hk=>h x hx (eq_of_beq hk))
theorem uK{l:List aC}(h:Up l)(i:Nat)(hi:i<l.length):eS l l[i].k=some l[i]:=by
 cases hf:eS l l[i].k with
 |none=>exact absurd (List.find?_eq_none.1 hf l[i] (List.getElem_mem hi)) (by simp)
 |some y=>
  have hy:=List.mem_of_find?_eq_some hf
  have hk:y.k=l[i].k:=eq_of_beq (List.find?_some (p:=fun x:aC=>x.k==l[i].k) hf)
  obtain⟨j,hj,rfl⟩:=List.mem_iff_getElem.1 hy
  rcases Nat.lt_trichotomy i j with h1|h1|h1
  ·have:=nZ h i j hi hj h1
   rw[hk,cW] at this;exact absurd this (by decide)
  ·subst h1;rfl
  ·have:=nZ h j i hj hi h1
   rw[hk,cW] at this;exact absurd this (by decide)
theorem BL{g:List aC}(h:Up g)(k:List UInt8):(mw g k (eG g k),iv g k (eG g k))=((eS g k).getD iB,(eS g k).isSome):=by
 by_cases he:∃i,∃hi:i<g.length,g[i].k=k
 ·obtain⟨i,hi,rfl⟩:=he
  rw[uK h i hi,HB h i hi]
  have hE:mw g g[i].k i=if g[i].k==g[i].k then g[i] else iB:=by unfold mw;rw[List.getElem?_eq_getElem hi]
  have hB:iv g g[i].k i=(g[i].k==g[i].k):=by unfold iv;rw[List.getElem?_eq_getElem hi]
  rw[hE,hB,if_pos (beq_self_eq_true _),beq_self_eq_true];rfl
 ·have hn:∀x∈g,x.k≠k:=fun x hx hk=>by
   obtain⟨i,hi,rfl⟩:=List.mem_iff_getElem.1 hx
   exact he ⟨i,hi,hk⟩
  rw[nq hn]
  by_cases hp:eG g k<g.length
  ·have hne:=hn _ (List.getElem_mem hp)
   have hb:(g[eG g k].k==k)=false:=by
    cases hb:g[eG g k].k==k
    ·rfl
    ·exact absurd (eq_of_beq hb) hne
   have hE:mw g k (eG g k)=if g[eG g k].k==k then g[eG g k] else iB:=by unfold mw;rw[List.getElem?_eq_getElem hp]
   have hB:iv g k (eG g k)=(g[eG g k].k==k):=by unfold iv;rw[List.getElem?_eq_getElem hp]
   rw[hE,hB,hb];rfl
  ·have hE:mw g k (eG g k)=iB:=by unfold mw;rw[List.getElem?_eq_none (by omega)]
   have hB:iv g k (eG g k)=false:=by unfold iv;rw[List.getElem?_eq_none (by omega)]
   rw[hE,hB];rfl
theorem uL{a b:List UInt8}:GR a b=true↔Op.bytesLess b a=false:=by
 unfold GR
 rcases gt a b with h|rfl|h
 ·rw[h,du h];simp
 ·rw[cW];simp
 ·rw[h,du h]
  constructor
  ·intro h2
   have h2:(a==b)=true:=h2
   have:=eq_of_beq h2
   subst this
   rw[cW] at h;exact absurd h (by decide)
  ·intro h2;exact absurd h2 (by decide)
theorem qx:∀(G:List (List aC)) (a k:List UInt8),(∀g∈G,0<g.length∧Up g)→Jm a G→tL G k=((eS G.flatten k).getD iB,(eS G.flatten k).isSome)
 |[],_,_,_,_=>rfl
 |g::r,a,k,hg,hc=>by
  obtain⟨c1,c2⟩:=hc
  obtain⟨g1,g2⟩:=hg g (List.mem_cons_self ..)
  have hr:=fun h hh=>hg h (List.mem_cons_of_mem g hh)
  obtain⟨i1,i2⟩:=zO r (np g) hr c2
  have ha:eS (g::r).flatten k=(eS g k).or (eS r.flatten k):=by unfold eS;rw[List.flatten_cons,List.find?_append]
  rw[ha]
  unfold tL
  cases hl:GR k (np g)
  ·rw[if_neg (by decide),qx r (np g) k hr c2]
   have hn:eS g k=none:=nq (fun x hx hk=>by
    have h1:=q9 g2 g1 x hx
    rw[hk] at h1
    rw[uL.2 h1] at hl;exact absurd hl (by decide))
   rw[hn];rfl
  ·rw[if_pos Z,BL g2 k]
   have hn:eS r.flatten k=none:=nq (fun x hx hk=>by
    have h1:=i2 x hx
    rw[hk,uL.1 hl] at h1;exact absurd h1 (by decide))
   rw[hn,Option.or_none]
def bJ(f t:List UInt8)(x:aC):Bool:=!Op.bytesLess x.k f&&(decide (t.length=0)||Op.bytesLess x.k t)
theorem uh{l:List aC}{p:aC→Bool}(h:∀x∈l,p x=false):l.filter p=[]:=List.filter_eq_nil_iff.2 (fun x hx hp=>by rw[h x hx] at hp;exact absurd hp (by decide))
theorem oP:∀(G:List (List aC)) (a f t:List UInt8),(∀g∈G,0<g.length∧Up g)→Jm a G→iV G f t=G.flatten.filter (bJ f t)
 |[],_,_,_,_,_=>rfl
 |g::r,a,f,t,hg,hc=>by
  obtain⟨c1,c2⟩:=hc
  obtain⟨g1,g2⟩:=hg g (List.mem_cons_self ..)
  have hr:=fun h hh=>hg h (List.mem_cons_of_mem g hh)
  obtain⟨i1,i2⟩:=zO r (np g) hr c2
  have ih:=oP r (np g) f t hr c2
  rw[List.flatten_cons,List.filter_append]
  unfold iV
  cases hl:Op.bytesLess (np g) f
  ·rw[if_neg (by decide),ih]
   have hd:=(sA g2 f).2
   have hup:Up (g.drop (eG g f)):=g2.sublist (List.drop_sublist _ _)
   rw[hd] at hup ⊢
   by_cases ht:t.length=0
   ·rw[if_pos ht]
    have:g.filter (fun x=>!Op.bytesLess x.k f)=g.filter (bJ f t):=List.filter_congr (fun x _=>by unfold bJ;rw[decide_eq_true ht];simp)
    rw[this]
   ·rw[if_neg ht]
    have h3:=(sA hup t).1
    have h4:=(sA hup t).2
    rw[h3,List.filter_filter]
    have h5:g.filter (fun x=>Op.bytesLess x.k t&&!Op.bytesLess x.k f)=g.filter (bJ f t):=List.filter_congr (fun x _=>by unfold bJ;rw[decide_eq_false ht,Bool.false_or,Bool.and_comm])
    rw[h5]
    split
    ·rename_i hp
     have hm:=List.getElem_mem (l:=(g.filter (fun x=>!Op.bytesLess x.k f)).drop (eG (g.filter (fun x=>!Op.bytesLess x.k f)) t)) (n:=0) (by rw[List.length_drop];omega)
     generalize ((g.filter (fun x=>!Op.bytesLess x.k f)).drop (eG (g.filter (fun x=>!Op.bytesLess x.k f)) t))[0]'(by rw[List.length_drop];omega)=y at hm
     rw[h4] at hm
     obtain⟨hm1,hm2⟩:=List.mem_filter.1 hm
     have hm3:=(List.mem_filter.1 hm1).1
     have hyt:Op.bytesLess y.k t=false:=by simpa using hm2
     have hn:r.flatten.filter (bJ f t)=[]:=uh (fun x hx=>by
      have h6:Op.bytesLess y.k x.k=true:=zn (q9 g2 g1 y hm3) (i2 x hx)
      have h7:Op.bytesLess x.k t=false:=by
       cases h8:Op.bytesLess x.k t
       ·rfl
       ·rw[dZ h6 h8] at hyt;exact absurd hyt (by decide)
      unfold bJ;rw[h7,decide_eq_false ht];simp)
     rw[hn,List.append_nil]
    ·rfl
  ·rw[if_pos Z,ih]
   have hn:g.filter (bJ f t)=[]:=uh (fun x hx=>by
    have:=zn (q9 g2 g1 x hx) hl
    unfold bJ;rw[this];rfl)
   rw[hn];rfl
theorem i9(l:List aC):l.filter (bJ [] [])=l:=by
 refine List.filter_eq_self.2 (fun x _=>?_)
 unfold bJ
 have:Op.bytesLess x.k []=false:=by cases x.k<;>rfl
 rw[this];rfl
def sj(g:List aC):List UInt8:=bo (dw g g.length)
def iT(G:List (List aC)):List UInt8:=(G.map sj).flatten
def lY:List (List aC)→Nat→List tJ
 |[],_=>[]
 |g::r,o=>⟨o,np g⟩::lY r (o+(sj g).length)
theorem Cg(g:List aC):0<(sj g).length:=by unfold sj;rw[ek];omega
theorem HW{g:List aC}(h:(jj g).2=0):di g=0∧(dw g g.length).length≤65536∧(jj g).1=sj g:=by
 unfold jj at h ⊢
 split at h
 ·rename_i h1;exact absurd h h1
 ·rename_i h1
  split at h
  ·exact absurd h (by decide)
  ·rename_i h2
   rw[if_neg h1,if_neg h2]
   exact⟨Classical.byContradiction h1,by omega,rfl⟩
theorem lL(g:List aC)(r:List (List aC)):iT (g::r)=sj g++iT r:=rfl
theorem wG(a b:List (List aC)):iT (a++b)=iT a++iT b:=by unfold iT;rw[List.map_append,List.flatten_append]
theorem HA(p:tJ)(r:List tJ):rz (p::r)=pB p++rz r:=rfl
theorem Af:∀(G:List (List aC)) (idx text last:List UInt8),(nS G idx text last).2=0→(nS G idx text last).1.1=idx++rz (lY G text.length)∧(nS G idx text last).1.2=text++iT G∧(∀g∈G,di g=0∧(dw g g.length).length≤65536)∧Jm last G
 |[],idx,text,last,_=>⟨(List.append_nil _).symm,(List.append_nil _).symm,fun g hg=>(by cases hg),trivial⟩
 |g::r,idx,text,last,h=>by
  unfold nS at h ⊢
  by_cases h1:(jj g).2≠0
  ·rw[if_pos h1] at h;exact absurd h h1
  ·rw[if_neg h1] at h ⊢
   by_cases h2:GR (qo g) last=true
   ·rw[if_pos h2] at h;exact absurd h (by decide)
   ·rw[if_neg h2] at h ⊢
    obtain⟨c1,c2,c3⟩:=HW (Classical.byContradiction h1)
    obtain⟨i1,i2,i3,i4⟩:=Af r _ _ _ h
    refine⟨?_,?_,fun x hx=>?_,?_,i4⟩
    ·rw[i1,c3]
     show _=idx++(pB ⟨text.length,np g⟩++rz (lY r (text.length+(sj g).length)))
     rw[List.length_append,List.append_assoc];rfl
    ·rw[i2,c3,lL,List.append_assoc]
    ·rcases List.mem_cons.1 hx with rfl|hx
     ·exact⟨c1,c2⟩
     ·exact i3 x hx
    ·cases hb:Op.bytesLess last (qo g)
     ·exact absurd (uL.2 hb) h2
     ·rfl
structure Cr(l:List aC)(s:List UInt8)(G:List (List aC)):Prop where
 flat:G.flatten=l
 pos:0<l.length
 few:G.length≤l.length
 hs:s=wW l (ar G.length++rz (lY G 0)) (iT G)
 ok:∀g∈G,di g=0∧(dw g g.length).length≤65536
 sz:∀g∈G,0<g.length∧g.length≤256
 chn:Jm [] G
theorem rb(l:List aC)(size:Int)(h:(mt l size).2=0):Cr l (mt l size).1 (grp size l [] 0):=by
 unfold mt at h ⊢
 by_cases h1:size<1∨16384<size
 ·rw[if_pos h1] at h;exact absurd h (by decide)
 rw[if_neg h1] at h ⊢
 by_cases h2:l.length=0
 ·rw[if_pos h2] at h;exact absurd h (by decide)
 rw[if_neg h2] at h ⊢
 by_cases h3:(nS (grp size l [] 0) (ar (grp size l [] 0).length) [] []).2≠0
 ·rw[if_pos h3] at h;exact absurd h h3
 rw[if_neg h3]
 obtain⟨i1,i2,i3,i4⟩:=Af _ _ _ _ (Classical.byContradiction h3)
 refine⟨nA size l [] 0 (by omega),by omega,uP size l [] 0,?_,i3,fun g hg=>?_,i4⟩
 ·rw[i1,i2];rfl
 ·obtain⟨a,b,_⟩:=rU size l [] 0 (by decide) g hg
  exact⟨a,b⟩
theorem ng:∀(G:List (List aC)) (o:Nat),(lY G o).length=G.length
 |[],_=>rfl
 |g::r,o=>by unfold lY;rw[List.length_cons,List.length_cons,ng r]
theorem pP:∀(G:List (List aC)) (o i:Nat) (h:i<G.length) (h2:i<(lY G o).length),(lY G o)[i]=⟨o+(iT (G.take i)).length,np G[i]⟩
 |g::r,o,0,_,_=>rfl
 |g::r,o,i+1,h,h2=>by
  have e:(lY (g::r) o)[i+1]=(lY r (o+(sj g).length))[i]'(by rw[ng];exact Nat.lt_of_succ_lt_succ h):=rfl
  rw[e,pP r _ i (Nat.lt_of_succ_lt_succ h)]
  rw[List.take_succ_cons,lL,List.length_append,Nat.add_assoc];rfl
theorem pW{l:List aC}{s:List UInt8}{G:List (List aC)}(h:Cr l s G):∀g∈G,0<g.length∧Up g:=fun g hg=>⟨(h.sz g hg).1,Cd (h.ok g hg).1⟩
theorem I1:∀(G:List (List aC)) (a:List UInt8),Jm a G→∀i (h:i+1<G.length),Op.bytesLess (np G[i]) (qo G[i+1])=true
 |_g::_g2::_r,_a,hc,0,_h=>hc.2.1
 |g::r,_a,hc,i+1,h=>I1 r (np g) hc.2 i (Nat.lt_of_succ_lt_succ h)
theorem rK{g:List aC}(h:0<g.length):∃x∈g,x.k=np g:=by
 have h2:g.length - 1<g.length:=by omega
 exact⟨_,List.getElem_mem h2,(th h2).symm⟩
theorem Ja(G:List (List aC))(h:∀g∈G,(dw g g.length).length≤65536):(iT G).length≤65544*G.length:=by
 induction G with
 |nil=>exact Nat.le_refl _
 |cons g r ih=>
  have h1:=h g (List.mem_cons_self ..)
  have h2:=ih (fun x hx=>h x (List.mem_cons_of_mem _ hx))
  have h3:(sj g).length=8+(dw g g.length).length:=ek _
  rw[lL,List.length_append,List.length_cons];omega
theorem ER(ps:List tJ)(h:∀p∈ps,p.a<9223372036854775808∧p.l.length≤110):(rz ps).length≤128*ps.length:=by
 induction ps with
 |nil=>exact Nat.le_refl _
 |cons p r ih=>
  obtain⟨h1,h1'⟩:=h p (List.mem_cons_self ..)
  have h2:=ih (fun x hx=>h x (List.mem_cons_of_mem _ hx))
  have h3:=bz p.a h1
  have h4:=eL p.l (by omega)
  rw[HA,List.length_append,List.length_cons]
  unfold pB
  rw[List.length_append];omega
theorem Kb(G:List (List aC))(i:Nat)(h:i<G.length):(iT (G.take i)).length<(iT G).length:=by
 have e:G=G.take i++(G[i]::G.drop (i+1)):=by rw[←List.drop_eq_getElem_cons h,List.take_append_drop]
 have:=Cg G[i]
 have e2:iT G=iT (G.take i)++(sj G[i]++iT (G.drop (i+1))):=by
  conv=>lhs;rw[e]
  rw[wG,lL]
 rw[e2,List.length_append,List.length_append];omega
theorem zj{l:List aC}{s:List UInt8}{G:List (List aC)}(h:Cr l s G)(hl:l.length≤300)(hm:∀e∈l,e.k.length≤110∧e.v.length≤4010):Ki (lY G 0) (iT G).length∧(∀p∈lY G 0,p.a<(iT G).length∧p.l.length≤110):=by
 have hlen:=ng G 0
 have hup:=pW h
 have hpos:0<G.length:=by
  rcases Nat.eq_zero_or_pos G.length with h0|h0
  ·have hG:=List.length_eq_zero_iff.1 h0
   have:=h.flat
   have hp:=h.pos
   rw[←this,hG] at hp;cases hp
  ·exact h0
 have hmg:∀g∈G,∀e∈g,e.k.length≤110∧e.v.length≤4010:=fun g hg e he=>hm e (by rw[←h.flat];exact List.mem_flatten.2 ⟨g,hg,he⟩)
 have hlt:∀p∈lY G 0,p.a<(iT G).length∧p.l.length≤110:=fun p hp=>by
  obtain⟨i,hi,rfl⟩:=List.mem_iff_getElem.1 hp
  have hi2:i<G.length:=by omega
  rw[pP G 0 i hi2 hi]
  have:=Kb G i hi2
  exact⟨by show 0+_<_;omega,EZ _ (hmg _ (List.getElem_mem hi2))⟩
 refine⟨⟨by omega,by have:=h.few;omega,fun h0=>?_,fun i hi h0=>?_,fun p hp=>?_⟩,hlt⟩
 ·rw[pP G 0 0 hpos h0];rfl
 ·have hi2:i<G.length:=by omega
  rw[pP G 0 i hi2 hi,pP G 0 (i - 1) (by omega) (by omega)]
  have hi3:i - 1+1<G.length:=by omega
  have hc:=I1 G [] h.chn (i - 1) hi3
  have e:G[i - 1+1]=G[i]:=by congr 1;omega
  rw[e] at hc
  obtain⟨g1,g2⟩:=hup _ (List.getElem_mem hi2)
  refine⟨?_,?_⟩
  ·have e2:G.take i=G.take (i - 1)++[G[i - 1]]:=by
    have:=List.take_succ_eq_append_getElem (l:=G) (i:=i - 1) (by omega)
    rw[←this];congr 1;omega
   show 0+(iT (G.take (i - 1))).length<0+(iT (G.take i)).length
   rw[e2,wG,List.length_append]
   have:=Cg G[i - 1]
   show _<0+(_+(sj G[i - 1]++[]).length)
   rw[List.append_nil];omega
  ·obtain⟨x,hx,hxk⟩:=rK g1
   have:=oO g2 g1 x hx
   rw[hxk] at this
   exact zl hc this
 ·obtain⟨a,b⟩:=hlt p hp
  exact⟨a,by omega⟩
def pf(l:List aC)(G:List (List aC))(s:List UInt8):Jg:=NB l (lY G 0) s
theorem pe{l:List aC}{s:List UInt8}{G:List (List aC)}(h:Cr l s G)(hl:l.length≤300)(hm:∀e∈l,e.k.length≤110∧e.v.length≤4010):
 Fq (pf l G s) G∧(iT G).length≤90000000∧(ar (lY G 0).length++rz (lY G 0)).length≤65536∧s.length≤100000000:=by
 obtain⟨hps,hlt⟩:=zj h hl hm
 have hlen:=ng G 0
 have hfew:=h.few
 have hmg:∀g∈G,∀e∈g,e.k.length≤110∧e.v.length≤4010:=fun g hg e he=>hm e (by rw[←h.flat];exact List.mem_flatten.2 ⟨g,hg,he⟩)
 have hbl:=Ja G (fun g hg=>(h.ok g hg).2)
 have hpl:=ER (lY G 0) (fun p hp=>⟨by have:=(hlt p hp).1;omega,(hlt p hp).2⟩)
 have hnl:=bz (lY G 0).length (by omega)
 have hil:(ar (lY G 0).length++rz (lY G 0)).length≤65536:=by rw[List.length_append];omega
 have hfl:=nB l (iT G) hl hm (by omega)
 have hsl:s.length≤100000000:=by
  have e:=congrArg List.length h.hs
  unfold wW at e
  rw[←hlen] at e
  rw[List.length_append,List.length_append,List.length_append,ek,ek,show (three _).length=3 from rfl] at e
  omega
 refine⟨⟨hlen,by omega,hsl,?_,fun i hi hi2=>?_,fun g hg=>⟨(h.sz g hg).1,(h.sz g hg).2,(pW h g hg).2⟩,hmg⟩,by omega,hil,hsl⟩
 ·show (vO (ig l) 10).length≤1000000000
  rw[rH]
  have:(ig l).length=l.length:=List.length_map ..
  unfold kU;omega
 ·have hp:(pf l G s).parts[i]=⟨0+(iT (G.take i)).length,np G[i]⟩:=pP G 0 i hi hi2
  rw[hp]
  have e:G=G.take i++(G[i]::G.drop (i+1)):=by rw[←List.drop_eq_getElem_cons hi,List.take_append_drop]
  have e2:iT G=iT (G.take i)++(sj G[i]++iT (G.drop (i+1))):=by
   conv=>lhs;rw[e]
   rw[wG,lL]
  obtain⟨o1,o2⟩:=h.ok _ (List.getElem_mem hi)
  have hsd:∃more,s=iT (G.take i)++(sj G[i]++more):=by
   have h3:=h.hs
   unfold wW at h3
   rw[e2] at h3
   simp only[List.append_assoc] at h3
   exact⟨_,h3⟩
  obtain⟨more,hsd⟩:=hsd
  refine⟨?_,⟨8+(dw G[i] G[i].length).length,?_⟩,rfl⟩
  ·show 0+(iT (G.take i)).length≤s.length
   rw[hsd,List.length_append];omega
  ·show qr (s.drop (0+(iT (G.take i)).length))=_
   rw[hsd,Nat.zero_add,List.drop_left]
   exact Ed G[i] o1 o2 more
set_option maxHeartbeats 8000000
theorem vD(a b:Fl):aQ Tryz.prog 112 [eF a,eF b] [] (fun v os=>v= .i .i64 (jK a b)∧os=[]):=by
 refine aA ab [] Tryz.func112 Z Tryz.ntmps112 aN Z Z (fun C=>?_) Z
 have h1:=mZ a.lev b.lev
 have h2:=mZ b.num a.num
 have h3:=sd a.first b.first
 have h4:=JC (mz a.lev b.lev) (mz b.num a.num)
 have ho:jK a b=if a.lev≠b.lev∨a.lev=0 then (if mz a.lev b.lev≠0 then mz a.lev b.lev else mz b.num a.num) else qT a.first b.first:=rfl
 generalize jK a b=r at ho ⊢
 generalize mz a.lev b.lev=x at h1 h4 ho
 generalize mz b.num a.num=y at h2 h4 ho
 generalize (if x≠0 then x else y)=q at h4 ho
 generalize qT a.first b.first=z at h3 ho
 unfold eF
 repeat' (first|refine ae ?_|refine aa ?_|refine ac (ax ?_)|refine ah (ax ?_)|refine ap (bC ?_)|refine ib Z Z Z cM ?_|refine aU ab (fun _=>?_)|refine c9 Z Z Z Z (fun _=>?_)|refine aI ab Z Z Z Z Z Z Z Z Z Z Z eo (fun _=>?_)|(fail_if_success (refine aM Z cM ?_));(refine eO Z Z (fun hc=>?_) (fun hc=>?_)<;>try omega)|refine aR Z ?_|(refine ao Z (fun hc=>?_) (fun hc=>?_))<;>try omega|refine cg 2 [] [] [] [0,2,5,7,1,3,6,8,4,9,10,11,12] aN aN aN Z Z Z ?_|refine au Z (h1) ⟨aP,aP,J⟩ Z ?_|refine au Z (h2) ⟨aP,aP,J⟩ Z ?_|refine au Z (h3) ⟨aP,aP,J⟩ Z ?_|(refine jz Z (h4) Z ⟨bu (bP (.head _)) Z,J⟩ Z ?_;rintro _ _ ⟨rfl,rfl⟩;refine⟨rfl,rfl,?_⟩))
 ·rw[if_pos (.inl hc)] at ho;subst ho
  exact jh
 ·rename_i hc2
  rw[if_pos (.inr (by assumption))] at ho;subst ho
  exact jh
 ·rw[if_neg (fun h=>h.elim (fun h=>h (by assumption)) (by assumption))] at ho;subst ho
  exact jh
theorem Bn(s:List UInt8):aQ Tryz.prog 111 [.s s] [] (fun v os=>v= .b (fR s)∧os=[]):=by
 refine aA ab [] Tryz.func111 Z Tryz.ntmps111 aN Z Z (fun C=>?_) Z
 have ho:fR s=(!(s==[])&&decide (s.length≤100)):=rfl
 have hd:decide ((s.length:Int)≤100)=decide (s.length≤100):=by
  by_cases h:s.length≤100
  ·rw[decide_eq_true h,decide_eq_true (by omega)]
  ·rw[decide_eq_false h,decide_eq_false (by omega)]
 generalize fR s=r at ho ⊢
 repeat' (first|refine ae ?_|refine aa ?_|refine ac (ax ?_)|refine ap (bC ?_)|refine d9 Z Z Z cM ?_|refine aU ab (fun _=>?_)|(fail_if_success (refine aM Z cM ?_));(refine dM Z Z (fun hc=>?_) (fun hc=>?_)))
 ·subst ho
  refine bp Z Z Z [] [] (am ?_) .nil ⟨rfl,rfl⟩ _ (.inl Z)
  have hc:(!s==[])=true:=hc
  rw[hc,Bool.true_and,←hd];rfl
 ·have hc:(!s==[])=false:=hc
  rw[hc,Bool.false_and] at ho
  subst ho
  exact jh
theorem Io(a b:List UInt8):(!(Op.bytesLess a b||a==b))=Op.bytesLess b a:=by
 rcases gt a b with h|rfl|h
 ·rw[h,du h];rfl
 ·rw[cW,beq_self_eq_true];rfl
 ·rw[h,du h]
  cases hb:(a==b) with
  |false=>rfl
  |true=>
   have:a=b:=by simpa using hb
   subst this
   rw[cW] at h;cases h
theorem nC{next:Int}{pre:List Fl}{f:Fl}(h:kX next f):mc next pre f=1:=if_pos h
theorem p7{next:Int}{pre:List Fl}{f:Fl}(h:¬ kX next f)(h2:qQ pre f):mc next pre f=3:=by unfold mc;rw[if_neg h,if_pos h2]
theorem yq{next:Int}{pre:List Fl}{f:Fl}(h:¬ kX next f)(h2:¬ qQ pre f):mc next pre f=AA pre f:=by unfold mc;rw[if_neg h,if_neg h2]
theorem jk(s:iH):aQ Tryz.prog 63 [iA s] [] (fun v os=>v= .i .i64 (bT s)∧os=[]):=by
 refine aA ab [] Tryz.func63 Z Tryz.ntmps63 aN Z Z (fun C=>?_) Z
 have hck:bT s=if gG s then 1 else if 1000<s.fs.length then 2 else Ct s.next [] s.fs:=rfl
 generalize bT s=r at hck ⊢
 unfold iA
 by_cases hh:gG s
 ·rw[if_pos hh] at hck;subst hck;unfold gG at hh
  repeat' (first|refine ae ?_|refine aa ?_|refine ac (ax ?_)|refine ap (bC ?_)|refine ib Z Z Z cM ?_|refine aU ab (fun _=>?_)|refine c9 (d:=1) Z Z Z Z (fun b1=>?_)|(fail_if_success (refine aM Z cM ?_));(refine aV Z Z (fun hc=>?_) (fun hc=>?_)<;>try omega)|refine aR Z ?_|(refine ao Z (fun hc=>?_) (fun hc=>?_))<;>try omega)
  all_goals exact jh
 rw[if_neg hh] at hck
 unfold gG at hh
 by_cases hl:1000<s.fs.length
 ·rw[if_pos hl] at hck;subst hck
  repeat' (first|refine ae ?_|refine aa ?_|refine ac (ax ?_)|refine ah (ax ?_)|refine ap (bC ?_)|refine br Z ab Z Z Z (fun _=>?_)|refine aU ab (fun _=>?_)|refine c9 (d:=1) Z Z Z Z (fun b1=>?_)|(fail_if_success (refine aM Z cM ?_));(refine aV Z Z (fun hc=>?_) (fun hc=>?_)<;>try omega)|(refine ao Z (fun hc=>?_) (fun hc=>?_))<;>try omega)
  all_goals exact jh
 rw[if_neg hl] at hck
 repeat' (first|refine ae ?_|refine aj ?_|refine aa ?_|refine ac (ax ?_)|refine ah (ax ?_)|refine br Z ab Z Z Z (fun _=>?_)|refine aU ab (fun _=>?_)|refine c9 (d:=1) Z Z Z Z (fun b1=>?_)|(fail_if_success (refine aM Z cM ?_));(refine aV Z Z (fun hc=>?_) (fun hc=>?_)<;>try omega)|(refine ao Z (fun hc=>?_) (fun hc=>?_))<;>try omega|(refine lH Z Z (fun bm=>?_)))
 refine aO (fun q:Nat=>⟨126,[(33,.i .i64 q),(32,.i .i64 s.fs.length),(31,.sl 5 (s.fs.map eF)),(3,.own 29 (.map (some bm))),(1,.ptr 1 b1 [] 0)],[(29,.obj bm (iC (((s.fs.take q).map Fl.num).map vI))),(1,.var b1 (.agg [.i .i64 s.next,.i .i64 s.log,.sl 5 (s.fs.map eF)]))]⟩) (fun q=>q≤s.fs.length∧r=Ct s.next (s.fs.take q) (s.fs.drop q)) (fun q=>s.fs.length - q) [] 0 ⟨Nat.zero_le _,hck⟩ ?_ ?_
 ·exact⟨rfl,⟨ai Z,ai Z,ay Z,aJ,af,J⟩,az 29 Z (az 1 Z .nil)⟩
 rintro k ⟨hk,hr⟩
 by_cases hlt:k<s.fs.length
 ·rw[LO _ _ _ hlt] at hr
  have hgt:=Io s.fs[k].first s.fs[k].last
  have hk1:=Bn s.fs[k].first
  have hk2:=Bn s.fs[k].last
  by_cases hA:kX s.next s.fs[k]
  ·rw[nC hA,if_pos (by decide)] at hr
   subst hr
   unfold kX at hA
   repeat' (first|refine ae ?_|refine aj ?_|refine aa ?_|refine ac (ax ?_)|refine ah (ax ?_)|refine ap (bC ?_)|refine ib Z Z Z cM ?_|refine aU ab (fun _=>?_)|refine aF (d:=5) Z ab Z Z Z (fun b5=>?_)|refine aD ab Z Z Z Z Z Z Z ⟨rfl,rfl⟩ Z Z Z Z Z ?_|(refine aK Z ab Z Z Z Z Z Z ?_ (aE ?_) ?_;omega;omega)|(fail_if_success (refine aM Z cM ?_));(refine aV Z Z (fun hc=>?_) (fun hc=>?_)<;>try omega)|refine aR Z ?_|(refine ao Z (fun hc=>?_) (fun hc=>?_))<;>try omega)
   all_goals exact jh
  have hA':=hA
  unfold kX at hA'
  by_cases hB:qQ (s.fs.take k) s.fs[k]
  ·rw[p7 hA hB,if_pos (by decide)] at hr
   subst hr
   unfold qQ at hB
   cases hf:fR s.fs[k].first with
   |false=>
    rw[hf] at hk1
    repeat' (first|refine ae ?_|refine aj ?_|refine aa ?_|refine ac (ax ?_)|refine ah (ax ?_)|refine ap (bC ?_)|refine ib Z Z Z cM ?_|refine aU ab (fun _=>?_)|refine aF (d:=5) Z ab Z Z Z (fun b5=>?_)|refine aD ab Z Z Z Z Z Z Z ⟨rfl,rfl⟩ Z Z Z Z Z ?_|(refine aK Z ab Z Z Z Z Z Z ?_ (aE ?_) ?_;omega;omega)|(fail_if_success (refine aM Z cM ?_));(refine aV Z Z (fun hc=>?_) (fun hc=>?_)<;>try omega)|refine aR Z ?_|(refine ao Z (fun hc=>?_) (fun hc=>?_))<;>try omega|refine au Z (hk1) ⟨aP,J⟩ Z ?_)
    all_goals exact jh
   |true=>
    rw[hf] at hk1
    cases hg:fR s.fs[k].last with
    |false=>
     rw[hg] at hk2
     repeat' (first|refine ae ?_|refine aj ?_|refine aa ?_|refine ac (ax ?_)|refine ah (ax ?_)|refine ap (bC ?_)|refine ib Z Z Z cM ?_|refine aU ab (fun _=>?_)|refine aF (d:=5) Z ab Z Z Z (fun b5=>?_)|refine aD ab Z Z Z Z Z Z Z ⟨rfl,rfl⟩ Z Z Z Z Z ?_|(refine aK Z ab Z Z Z Z Z Z ?_ (aE ?_) ?_;omega;omega)|(fail_if_success (refine aM Z cM ?_));(refine aV Z Z (fun hc=>?_) (fun hc=>?_)<;>try omega)|refine aR Z ?_|(refine ao Z (fun hc=>?_) (fun hc=>?_))<;>try omega|refine au Z (hk1) ⟨aP,J⟩ Z ?_|refine au Z (hk2) ⟨aP,J⟩ Z ?_)
     all_goals exact jh
    |true=>
     rw[hg] at hk2
     cases hq:Op.bytesLess s.fs[k].last s.fs[k].first with
     |true=>
      rw[hq] at hgt
      repeat' (first|(exact absurd (hc.symm.trans hgt) (by decide))|refine ae ?_|refine aj ?_|refine aa ?_|refine ac (ax ?_)|refine ah (ax ?_)|refine ap (bC ?_)|refine ib Z Z Z cM ?_|refine aU ab (fun _=>?_)|refine aF (d:=5) Z ab Z Z Z (fun b5=>?_)|refine aD ab Z Z Z Z Z Z Z ⟨rfl,rfl⟩ Z Z Z Z Z ?_|(refine aK Z ab Z Z Z Z Z Z ?_ (aE ?_) ?_;omega;omega)|(fail_if_success (refine aM Z cM ?_));(refine aV Z Z (fun hc=>?_) (fun hc=>?_)<;>try omega)|(fail_if_success (refine aM Z cM ?_));(refine dM Z Z (fun hc=>?_) (fun hc=>?_))|refine aR Z ?_|(refine ao Z (fun hc=>?_) (fun hc=>?_))<;>try omega|refine au Z (hk1) ⟨aP,J⟩ Z ?_|refine au Z (hk2) ⟨aP,J⟩ Z ?_)
      all_goals exact jh
     |false=>
      rw[hq] at hgt
      have hcn:((s.fs.take k).map Fl.num).contains s.fs[k].num=true:=by
       rcases hB with h|h|h|h
       ·rw[hf] at h;cases h
       ·rw[hg] at h;cases h
       ·rw[hq] at h;cases h
       ·exact h
      repeat' (first|(exact absurd (hc.symm.trans hcn) (by decide))|(exact absurd (hc.symm.trans hgt) (by decide))|refine ae ?_|refine aj ?_|refine aa ?_|refine ac (ax ?_)|refine ah (ax ?_)|refine ap (bC ?_)|refine aU ab (fun _=>?_)|refine aF (d:=5) Z ab Z Z Z (fun b5=>?_)|refine aD ab Z Z Z Z Z Z Z ⟨rfl,rfl⟩ Z Z Z Z Z ?_|(refine aK Z ab Z Z Z Z Z Z ?_ (aE ?_) ?_;omega;omega)|(fail_if_success (refine aM Z cM ?_));(refine aV Z Z (fun hc=>?_) (fun hc=>?_)<;>try omega)|(fail_if_success (refine aM Z cM ?_));(refine dM Z Z (fun hc=>?_) (fun hc=>?_))|(refine ao Z (fun hc=>?_) (fun hc=>?_))<;>try omega|(refine ba Z (fun hc=>?_) (fun hc=>?_))|(refine fP ab pi Z ((s.fs.take k).map Fl.num) s.fs[k].num Z aN Z Z Z (fun w F u hu=>?_) Z ?_;exact cq.1 hu)|refine au Z (hk1) ⟨aP,J⟩ Z ?_|refine au Z (hk2) ⟨aP,J⟩ Z ?_)
      all_goals exact jh
  ·rw[yq hA hB] at hr
   unfold qQ at hB
   have hf:fR s.fs[k].first=true:=by
    cases h:fR s.fs[k].first
    ·exact absurd (.inl h) hB
    ·rfl
   have hg:fR s.fs[k].last=true:=by
    cases h:fR s.fs[k].last
    ·exact absurd (.inr (.inl h)) hB
    ·rfl
   have hq:Op.bytesLess s.fs[k].last s.fs[k].first=false:=by
    cases h:Op.bytesLess s.fs[k].last s.fs[k].first
    ·rfl
    ·exact absurd (.inr (.inr (.inl h))) hB
   have hcn:((s.fs.take k).map Fl.num).contains s.fs[k].num=false:=by
    cases h:((s.fs.take k).map Fl.num).contains s.fs[k].num
    ·rfl
    ·exact absurd (.inr (.inr (.inr h))) hB
   rw[hf] at hk1
   rw[hg] at hk2
   rw[hq] at hgt
   have hst:(s.fs.take (k+1)).map Fl.num=(s.fs.take k).map Fl.num++[s.fs[k].num]:=by rw[List.take_succ_eq_append_getElem hlt,List.map_append];rfl
   by_cases hk0:k=0
   ·have h0:AA (s.fs.take k) s.fs[k]=0:=by
     have:s.fs.take k=[]:=by rw[hk0];rfl
     rw[this];rfl
    rw[h0,if_neg (fun h=>h Z)] at hr
    repeat' (first|(exact absurd (hc.symm.trans hcn) (by decide))|(exact absurd (hc.symm.trans hgt) (by decide))|refine ae ?_|refine aj ?_|refine aa ?_|refine ac (ax ?_)|refine ac (db ?_)|refine ah (ax ?_)|refine aw (ax ?_)|(refine bc Z Z Z Z ?_ ?_;omega)|refine aU ab (fun _=>?_)|refine aF (d:=5) Z ab Z Z Z (fun b5=>?_)|refine aD ab Z Z Z Z Z Z Z ⟨rfl,rfl⟩ Z Z Z Z Z ?_|(refine aK Z ab Z Z Z Z Z Z ?_ (aE ?_) ?_;omega;omega)|(fail_if_success (refine aM Z cM ?_));(refine aV Z Z (fun hc=>?_) (fun hc=>?_)<;>try omega)|(fail_if_success (refine aM Z cM ?_));(refine dM Z Z (fun hc=>?_) (fun hc=>?_))|(refine ao Z (fun hc=>?_) (fun hc=>?_))<;>try omega|(refine ba Z (fun hc=>?_) (fun hc=>?_))|(refine fP ab pi Z ((s.fs.take k).map Fl.num) s.fs[k].num Z aN Z Z Z (fun w F u hu=>?_) Z ?_;exact cq.1 hu)|(refine ia ab pi Z ((s.fs.take k).map Fl.num) s.fs[k].num Z aN Z Z (fun w F u hu=>?_) Z Z Z hcn ?_;exact cq.1 hu)|refine au Z (hk1) ⟨aP,J⟩ Z ?_|refine au Z (hk2) ⟨aP,J⟩ Z ?_)
    all_goals exact⟨k+1,[],⟨hlt,hr⟩,by show s.fs.length - (k+1)<s.fs.length - k;omega,rfl,⟨ai Z,ai Z,ay Z,aJ,af,J⟩,cr.cons 29 Z (by rw[hst];exact ak _) (az 1 Z .nil)⟩
   ·have hlt1:k - 1<s.fs.length:=by omega
    rw[FH s.fs k (by omega) hk] at hr
    have hor:=vD (s.fs[k - 1]'hlt1) s.fs[k]
    have hoa:=l4 (s.fs[k - 1]'hlt1) s.fs[k]
    generalize jK (s.fs[k - 1]'hlt1) s.fs[k]=o at hor hoa
    by_cases hP:mn (s.fs[k - 1]'hlt1) s.fs[k]
    ·rw[if_pos hP,if_pos (by decide)] at hr
     subst hr
     unfold mn at hP
     by_cases ho:0≤o
     ·repeat' (first|(exact absurd (hc.symm.trans hcn) (by decide))|(exact absurd (hc.symm.trans hgt) (by decide))|refine ae ?_|refine aj ?_|refine aa ?_|refine ac (ax ?_)|refine ah (ax ?_)|refine ap (bC ?_)|refine vG Z Z Z cM ?_|refine ib Z Z Z cM ?_|(refine dW Z Z Z Z ?_ ?_;omega)|refine aU ab (fun _=>?_)|refine aF (d:=5) Z ab Z Z Z (fun b5=>?_)|refine aF (d:=6) Z ab Z Z Z (fun b6=>?_)|refine aD ab Z Z Z Z Z Z Z ⟨rfl,rfl⟩ Z Z Z Z Z ?_|(refine aK Z ab Z Z Z Z Z Z ?_ (aE ?_) ?_;omega;omega)|(fail_if_success (refine aM Z cM ?_));(refine aV Z Z (fun hc=>?_) (fun hc=>?_)<;>try omega)|(fail_if_success (refine aM Z cM ?_));(refine dM Z Z (fun hc=>?_) (fun hc=>?_))|refine aR Z ?_|(refine ao Z (fun hc=>?_) (fun hc=>?_))<;>try omega|(refine ba Z (fun hc=>?_) (fun hc=>?_))|(refine fP ab pi Z ((s.fs.take k).map Fl.num) s.fs[k].num Z aN Z Z Z (fun w F u hu=>?_) Z ?_;exact cq.1 hu)|(refine ia ab pi Z ((s.fs.take k).map Fl.num) s.fs[k].num Z aN Z Z (fun w F u hu=>?_) Z Z Z hcn ?_;exact cq.1 hu)|(refine aK Z ab Z Z Z Z Z Z ?_ (ol (k-1) ?_ hlt1) ?_;omega;omega)|refine au Z (hk1) ⟨aP,J⟩ Z ?_|refine au Z (hk2) ⟨aP,J⟩ Z ?_|refine au Z (hor) ⟨aP,aP,J⟩ Z ?_)
      all_goals exact jh
     ·have hP:(s.fs[k - 1]'hlt1).lev=s.fs[k].lev∧0<s.fs[k].lev∧Op.bytesLess (s.fs[k - 1]'hlt1).last s.fs[k].first=false:=by
       rcases hP with h|h
       ·rw[hoa.1 (by omega)] at h;cases h
       ·exact h
      obtain⟨p1,p2,p3⟩:=hP
      have hne:(!Op.bytesLess (s.fs[k - 1]'hlt1).last s.fs[k].first)=true:=by rw[p3];rfl
      repeat' (first|(exact absurd (hc.symm.trans hne) (by decide))|(exact absurd (hc.symm.trans hcn) (by decide))|(exact absurd (hc.symm.trans hgt) (by decide))|refine ae ?_|refine aj ?_|refine aa ?_|refine ac (ax ?_)|refine ah (ax ?_)|refine ap (bC ?_)|(refine dW Z Z Z Z ?_ ?_;omega)|refine aU ab (fun _=>?_)|refine aF (d:=5) Z ab Z Z Z (fun b5=>?_)|refine aF (d:=6) Z ab Z Z Z (fun b6=>?_)|refine aD ab Z Z Z Z Z Z Z ⟨rfl,rfl⟩ Z Z Z Z Z ?_|(refine aK Z ab Z Z Z Z Z Z ?_ (aE ?_) ?_;omega;omega)|(fail_if_success (refine aM Z cM ?_));(refine aV Z Z (fun hc=>?_) (fun hc=>?_)<;>try omega)|(fail_if_success (refine aM Z cM ?_));(refine dM Z Z (fun hc=>?_) (fun hc=>?_))|(refine ao Z (fun hc=>?_) (fun hc=>?_))<;>try omega|(refine ba Z (fun hc=>?_) (fun hc=>?_))|(refine fP ab pi Z ((s.fs.take k).map Fl.num) s.fs[k].num Z aN Z Z Z (fun w F u hu=>?_) Z ?_;exact cq.1 hu)|(refine ia ab pi Z ((s.fs.take k).map Fl.num) s.fs[k].num Z aN Z Z (fun w F u hu=>?_) Z Z Z hcn ?_;exact cq.1 hu)|(refine aK Z ab Z Z Z Z Z Z ?_ (ol (k-1) ?_ hlt1) ?_;omega;omega)|refine au Z (hk1) ⟨aP,J⟩ Z ?_|refine au Z (hk2) ⟨aP,J⟩ Z ?_|refine au Z (hor) ⟨aP,aP,J⟩ Z ?_)
      all_goals exact jh
    ·rw[if_neg hP,if_neg (fun h=>h Z)] at hr
     unfold mn at hP
     have ho:o<0:=by
      rcases Int.lt_or_le o 0 with h|h
      ·exact h
      ·exact absurd (.inl (by cases hq2:dv (s.fs[k - 1]'hlt1) s.fs[k];rfl;exact absurd (hoa.2 hq2) (by omega))) hP
     by_cases p12:(s.fs[k - 1]'hlt1).lev=s.fs[k].lev∧0<s.fs[k].lev
     ·obtain⟨p1,p2⟩:=p12
      have hne:(!Op.bytesLess (s.fs[k - 1]'hlt1).last s.fs[k].first)=false:=by
       cases h:Op.bytesLess (s.fs[k - 1]'hlt1).last s.fs[k].first
       ·exact absurd (.inr ⟨p1,p2,h⟩) hP
       ·rfl
      repeat' (first|(exact absurd (hc.symm.trans hne) (by decide))|(exact absurd (hc.symm.trans hcn) (by decide))|(exact absurd (hc.symm.trans hgt) (by decide))|refine ae ?_|refine aj ?_|refine aa ?_|refine ac (ax ?_)|refine ac (db ?_)|refine ah (ax ?_)|(refine bc Z Z Z Z ?_ ?_;omega)|(refine dW Z Z Z Z ?_ ?_;omega)|refine aU ab (fun _=>?_)|refine aF (d:=5) Z ab Z Z Z (fun b5=>?_)|refine aF (d:=6) Z ab Z Z Z (fun b6=>?_)|refine aD ab Z Z Z Z Z Z Z ⟨rfl,rfl⟩ Z Z Z Z Z ?_|(refine aK Z ab Z Z Z Z Z Z ?_ (aE ?_) ?_;omega;omega)|(fail_if_success (refine aM Z cM ?_));(refine aV Z Z (fun hc=>?_) (fun hc=>?_)<;>try omega)|(fail_if_success (refine aM Z cM ?_));(refine dM Z Z (fun hc=>?_) (fun hc=>?_))|(refine ao Z (fun hc=>?_) (fun hc=>?_))<;>try omega|(refine ba Z (fun hc=>?_) (fun hc=>?_))|(refine fP ab pi Z ((s.fs.take k).map Fl.num) s.fs[k].num Z aN Z Z Z (fun w F u hu=>?_) Z ?_;exact cq.1 hu)|(refine ia ab pi Z ((s.fs.take k).map Fl.num) s.fs[k].num Z aN Z Z (fun w F u hu=>?_) Z Z Z hcn ?_;exact cq.1 hu)|(refine aK Z ab Z Z Z Z Z Z ?_ (ol (k-1) ?_ hlt1) ?_;omega;omega)|refine au Z (hk1) ⟨aP,J⟩ Z ?_|refine au Z (hk2) ⟨aP,J⟩ Z ?_|refine au Z (hor) ⟨aP,aP,J⟩ Z ?_)
      all_goals exact⟨k+1,[],⟨hlt,hr⟩,by show s.fs.length - (k+1)<s.fs.length - k;omega,rfl,⟨ai Z,ai Z,ay Z,aJ,af,J⟩,cr.cons 29 Z (by rw[hst];exact ak _) (az 1 Z .nil)⟩
     ·repeat' (first|(exact absurd (hc.symm.trans hcn) (by decide))|(exact absurd (hc.symm.trans hgt) (by decide))|refine ae ?_|refine aj ?_|refine aa ?_|refine ac (ax ?_)|refine ac (db ?_)|refine ah (ax ?_)|refine d9 Z Z Z cM ?_|(refine bc Z Z Z Z ?_ ?_;omega)|(refine dW Z Z Z Z ?_ ?_;omega)|refine aU ab (fun _=>?_)|refine aF (d:=5) Z ab Z Z Z (fun b5=>?_)|refine aF (d:=6) Z ab Z Z Z (fun b6=>?_)|refine aD ab Z Z Z Z Z Z Z ⟨rfl,rfl⟩ Z Z Z Z Z ?_|(refine aK Z ab Z Z Z Z Z Z ?_ (aE ?_) ?_;omega;omega)|(fail_if_success (refine aM Z cM ?_));(refine aV Z Z (fun hc=>?_) (fun hc=>?_)<;>try omega)|(fail_if_success (refine aM Z cM ?_));(refine dM Z Z (fun hc=>?_) (fun hc=>?_))|refine aB Z ?_|(refine ao Z (fun hc=>?_) (fun hc=>?_))<;>try omega|(refine ba Z (fun hc=>?_) (fun hc=>?_))|(refine fP ab pi Z ((s.fs.take k).map Fl.num) s.fs[k].num Z aN Z Z Z (fun w F u hu=>?_) Z ?_;exact cq.1 hu)|(refine ia ab pi Z ((s.fs.take k).map Fl.num) s.fs[k].num Z aN Z Z (fun w F u hu=>?_) Z Z Z hcn ?_;exact cq.1 hu)|(refine aK Z ab Z Z Z Z Z Z ?_ (ol (k-1) ?_ hlt1) ?_;omega;omega)|refine au Z (hk1) ⟨aP,J⟩ Z ?_|refine au Z (hk2) ⟨aP,J⟩ Z ?_|refine au Z (hor) ⟨aP,aP,J⟩ Z ?_)
      all_goals exact⟨k+1,[],⟨hlt,hr⟩,by show s.fs.length - (k+1)<s.fs.length - k;omega,rfl,⟨ai Z,ai Z,ay Z,aJ,af,J⟩,cr.cons 29 Z (by rw[hst];exact ak _) (az 1 Z .nil)⟩
 ·have hkl:k=s.fs.length:=by omega
  subst hkl
  rw[List.drop_length,Ct] at hr
  subst hr
  repeat' (first|refine ae ?_|refine aa ?_|refine ac (ax ?_)|refine aw (ax ?_)|refine ap (bC ?_)|refine aU ab (fun _=>?_)|(refine ao Z (fun hc=>?_) (fun hc=>?_))<;>try omega)
  all_goals exact jh
end Go.Proofs.YtginkbjclkdglaaGreat
