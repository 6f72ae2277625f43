/- A job leaves what is there on top. No program in sight. -/
import Derived.Test.YtginkbjclkdglaaGreatAP1Z
import Derived.Test.YtginkbjclkdglaaGreatMM2Z
import Derived.Test.YtginkbjclkdglaaGreatST9Z
import Derived.Test.YtginkbjclkdglaaGreatL3Z
import Derived.Test.YtginkbjclkdglaaGreatV49Z
import Derived.Test.YtginkbjclkdglaaGreatIN2Z
import Derived.Test.YtginkbjclkdglaaGreatDK9Z
set_option maxHeartbeats 4000000
namespace Go.Proofs.YtginkbjclkdglaaGreat
open Go Go.RowKit Mg
theorem vz:∀{ls:List (List aC)},dG ls→∀{l:List aC},l∈ls→∀{y:aC},y∈l→∃z∈cZ ls,z.k=y.k
 |[],_,l,h,_,_=>by cases h
 |l0::r,hs,l,h,y,hy=>by
  have hl0:=hs l0 (List.mem_cons_self ..)
  have hr:dG r:=fun x hx=>hs x (List.mem_cons_of_mem _ hx)
  rcases List.mem_cons.1 h with rfl|h
  ·exact⟨y,(cj _ _ hl0 y).2 (.inl hy),rfl⟩
  ·obtain⟨z,hz,hzk⟩:=vz hr h hy
   by_cases hc:∃y0∈l0,z.k=y0.k
   ·obtain⟨y0,hy0,he⟩:=hc
    exact⟨y0,(cj _ _ hl0 y0).2 (.inl hy0),by rw[←he,hzk]⟩
   ·exact⟨z,(cj _ _ hl0 z).2 (.inr ⟨hz,fun y0 hy0 he=>hc ⟨y0,hy0,he⟩⟩),hzk⟩
theorem jH{a b:Fl}(h:a.lev<b.lev):dv a b=true:=by
 unfold dv
 rw[if_pos (by omega)]
 exact decide_eq_true h
theorem rl{p q:Fl×List aC}(hp:Kj p)(hq:Kj q)(h:Op.bytesLess q.1.last p.1.first=true∨Op.bytesLess p.1.last q.1.first=true){y z:aC}(hy:y∈p.2)(hz:z∈q.2):y.k≠z.k:=fun e=>by
 have h1:=hp.cov hy
 have h2:=hq.cov hz
 rw[e] at h1
 rcases h with h|h
 ·exact kE (gB (ic h2.2 h) h1.1)
 ·exact kE (gB (ic h1.2 h) h2.1)
theorem JT{fe:List (Fl×List aC)}{j:Jb}(hr:(fe.map (·.1)).Pairwise sX)(hk:∀p∈fe,Kj p)(hx:Kx fe j)(hn:0≤j.lev)(_hnum:∀p∈fe,∀q∈fe,p.1.num=q.1.num→p=q)(la:Bool)
 (hla:la=true→∀q∈fe,j.lev+1<q.1.lev→∀p∈oA fe j,∀y∈p.2,∀z∈q.2,y.k≠z.k)(gs:List (List aC))(hgs:gs.flatten=cU ((oA fe j).map (·.2)) la)(base blk:Int)(e:aC)(hg:e.g=false):
 Em fe e↔Em (uM fe j++ff base (j.lev+1) blk gs 0) e:=by
 have hgr:((oA fe j).map (·.1)).Pairwise sX:=hr.sublist (List.filter_sublist.map _)
 have hgk:∀p∈oA fe j,Kj p:=fun p hp=>hk p (f9.1 hp).1
 have hkk:∀p∈uM fe j,Kj p:=fun p hp=>hk p (gF.1 hp).1
 have hga:dG ((oA fe j).map (·.2)):=fun l hl=>by
  obtain⟨p,hp,rfl⟩:=List.mem_map.1 hl
  exact(hgk p hp).up
 have htop:=fun e=>yN hgr (fun p hp=>(hgk p hp).up) e
 have hup:Up gs.flatten:=by rw[hgs];exact dx _ _
 have hmem:∀y,y∈gs.flatten↔Em (oA fe j) y∧(!la||!y.g)=true:=fun y=>by rw[hgs,lq,htop]
 have hhas:∀p∈oA fe j,∀y∈p.2,∃z,Em (oA fe j) z∧z.k=y.k:=fun p hp y hy=>by
  obtain⟨z,h1,h2⟩:=vz hga (List.mem_map.2 ⟨p,hp,rfl⟩) hy
  exact⟨z,(htop z).1 h1,h2⟩
 have hne:∀p∈oA fe j,∀q∈uM fe j,p.1.num≠q.1.num:=fun p hp q hq he=>by
  have h1:=(f9.1 hp).2
  have h2:=(gF.1 hq).2
  unfold jG at h1 h2
  rw[he,h2] at h1;cases h1
 have hs1:∀p∈oA fe j,∀q∈uM fe j,q.1.lev=j.lev+1→∀y∈p.2,∀z∈q.2,y.k≠z.k:=fun p hp q hq hl y hy z hz=>by
  refine rl (hgk p hp) (hkk q hq) ?_ hy hz
  rcases hx.side q hq hl with h|h
  ·exact .inl (h p hp)
  ·exact .inr (h p hp)
 have hs2:∀p∈oA fe j,∀q∈uM fe j,p.1.lev=q.1.lev→∀y∈p.2,∀z∈q.2,y.k≠z.k:=fun p hp q hq hl y hy z hz=>by
  rcases hx.lev p hp with h|h
  ·by_cases h0:j.lev=0
   ·exact absurd (by omega) (hx.zero h0 q hq)
   ·refine rl (hgk p hp) (hkk q hq) ?_ hy hz
    exact(hx.dis p (f9.1 hp).1 q (gF.1 hq).1 (hne p hp q hq) hl (by omega)).symm
  ·exact hs1 p hp q hq (by omega) y hy z hz
 have hlayk:∀i g,gs[i]?=some g→∀y∈g,∃p∈oA fe j,y∈p.2:=fun i g hi y hy=>by
  obtain⟨⟨p,hp,hyp,_⟩,_⟩:=(hmem y).1 (List.mem_flatten.2 ⟨g,List.mem_of_getElem? hi,hy⟩)
  exact⟨p,hp,hyp⟩
 constructor
 ·rintro⟨p,hp,he,hb⟩
  cases hc:jG j p with
  |true=>
   have hpg:=f9.2 ⟨hp,hc⟩
   have htg:Em (oA fe j) e:=⟨p,hpg,he,fun q hq=>hb q (f9.1 hq).1⟩
   have hef:=(hmem e).2 ⟨htg,by rw[hg];cases la<;>rfl⟩
   obtain⟨g,hgm,heg⟩:=List.mem_flatten.1 hef
   obtain⟨i,hi,hie⟩:=List.mem_iff_getElem.1 hgm
   have hgi:gs[i]?=some g:=by rw[List.getElem?_eq_getElem hi,hie]
   refine⟨_,List.mem_append_right _ (rI hgi),heg,fun q hq ha y hy hyk=>?_⟩
   rcases List.mem_append.1 hq with hq|hq
   ·have hql:=lM ha
    have hql:q.1.lev≤j.lev+1:=hql
    by_cases h1:q.1.lev=j.lev+1
    ·exact hs1 p hpg q hq h1 e he y hy hyk.symm
    ·rcases hx.lev p hpg with h2|h2
     ·by_cases h3:q.1.lev=p.1.lev
      ·exact hs2 p hpg q hq h3.symm e he y hy hyk.symm
      ·exact hb q (gF.1 hq).1 (jH (by omega)) y hy hyk
     ·exact hb q (gF.1 hq).1 (jH (by omega)) y hy hyk
   ·obtain⟨k,hk2,hqe⟩:=fE hq
    have:=ym hup hk2 hgi hy heg hyk
    subst this
    have:q.2=g:=by rw[hk2] at hgi;exact Option.some.inj hgi
    rw[hqe,this,nL] at ha
    cases ha
  |false=>
   have hpk:=gF.2 ⟨hp,hc⟩
   refine⟨p,List.mem_append_left _ hpk,he,fun q hq ha y hy hyk=>?_⟩
   rcases List.mem_append.1 hq with hq|hq
   ·exact hb q (gF.1 hq).1 ha y hy hyk
   ·obtain⟨i,hi,hqe⟩:=fE hq
    obtain⟨c,hcg,hyc⟩:=hlayk i q.2 hi y hy
    have hpl:j.lev+1≤p.1.lev:=by
     have:=lM ha
     rw[hqe] at this;exact this
    by_cases h1:p.1.lev=j.lev+1
    ·exact hs1 c hcg p hpk h1 y hyc e he hyk
    ·have hcl:c.1.lev<p.1.lev:=by rcases hx.lev c hcg with h|h<;>omega
     exact hb c (f9.1 hcg).1 (jH hcl) y hyc hyk
 ·rintro⟨p,hp,he,hb⟩
  rcases List.mem_append.1 hp with hp|hp
  ·refine⟨p,(gF.1 hp).1,he,fun q hq ha y hy hyk=>?_⟩
   cases hc:jG j q with
   |false=>exact hb q (List.mem_append_left _ (gF.2 ⟨hq,hc⟩)) ha y hy hyk
   |true=>
    have hqg:=f9.2 ⟨hq,hc⟩
    have hql:=lM ha
    by_cases h1:p.1.lev=q.1.lev
    ·exact hs2 q hqg p hp h1.symm y hy e he hyk
    by_cases h2:p.1.lev=j.lev+1
    ·exact hs1 q hqg p hp h2 y hy e he hyk
    have h3:j.lev+1<p.1.lev:=by rcases hx.lev q hqg with h|h<;>omega
    cases hl:la with
    |true=>exact hla hl p (gF.1 hp).1 h3 q hqg y hy e he hyk
    |false=>
     obtain⟨z,hz,hzk⟩:=hhas q hqg y hy
     have hzf:=(hmem z).2 ⟨hz,by rw[hl];rfl⟩
     obtain⟨g,hgm,hzg⟩:=List.mem_flatten.1 hzf
     obtain⟨i,hi,hie⟩:=List.mem_iff_getElem.1 hgm
     have hgi:gs[i]?=some g:=by rw[List.getElem?_eq_getElem hi,hie]
     exact hb _ (List.mem_append_right _ (rI hgi)) (jH h3) z hzg (by rw[hzk,hyk])
  ·obtain⟨i,hi,hpe⟩:=fE hp
   obtain⟨⟨c,hcg,hec,hcb⟩,_⟩:=(hmem e).1 (List.mem_flatten.2 ⟨p.2,List.mem_of_getElem? hi,he⟩)
   refine⟨c,(f9.1 hcg).1,hec,fun q hq ha y hy hyk=>?_⟩
   cases hc:jG j q with
   |true=>exact hcb q (f9.2 ⟨hq,hc⟩) ha y hy hyk
   |false=>
    have hqk:=gF.2 ⟨hq,hc⟩
    have hql:=lM ha
    by_cases h1:q.1.lev=j.lev+1
    ·exact hs1 c hcg q hqk h1 e hec y hy hyk.symm
    ·have h2:q.1.lev<j.lev+1:=by rcases hx.lev c hcg with h|h<;>omega
     refine hb q (List.mem_append_left _ hqk) ?_ y hy hyk
     rw[hpe]
     exact jH h2
theorem JR{s:iH}{fe:List (Fl×List aC)}{j:Jb}(hfs:s.fs=fe.map (·.1))(hk:∀p∈fe,Kj p)(h:iQ s.fs j=true):∀q∈fe,j.lev+1<q.1.lev→∀p∈oA fe j,∀y∈p.2,∀z∈q.2,y.k≠z.k:=fun q hq hl p hp y hy z hz=>by
 have hin:∀p∈fe,p.1∈s.fs:=fun p hp=>by rw[hfs];exact List.mem_map.2 ⟨p,hp,rfl⟩
 have hp1:=(f9.1 hp).1
 have hmine:p.1∈jM s.fs j:=by
  refine List.mem_filter.2 ⟨hin p hp1,?_⟩
  have:=ke.1 (f9.1 hp).2
  unfold Nq
  rw[Bool.or_eq_true,List.contains_iff_mem,List.contains_iff_mem]
  exact this
 have hcov:=xI (jM s.fs j) p.1 hmine
 unfold iQ at h
 split at h
 ·cases h
 ·have h1:(gx s.fs (j.lev+1)).any (fi (mE (jM s.fs j)))=false:=by simpa using h
  have h2:fi (mE (jM s.fs j)) q.1=false:=by
   cases hm:fi (mE (jM s.fs j)) q.1 with
   |false=>rfl
   |true=>
    have:=List.any_eq_true.2 ⟨q.1,qW.2 ⟨hin q hq,hl⟩,hm⟩
    rw[h1] at this;cases this
  refine rl (hk p hp1) (hk q hq) ?_ hy hz
  rcases ya h2 with h3|h3
  ·exact .inr (ic hcov.2 h3)
  ·exact .inl (gB h3 hcov.1)
theorem rG:∀(l:List Fl) (n:Int),n≤iO n l∧(∀f∈l,f.num<iO n l)
 |[],n=>⟨Int.le_refl _,fun f hf=>by cases hf⟩
 |f::r,n=>by
  have e:iO n (f::r)=iO (if f.num+1>n then f.num+1 else n) r:=rfl
  obtain⟨h1,h2⟩:=rG r (if f.num+1>n then f.num+1 else n)
  rw[←e] at h1 h2
  have h3:n≤(if f.num+1>n then f.num+1 else n)∧f.num<(if f.num+1>n then f.num+1 else n):=by split<;>omega
  refine⟨by omega,fun g hg=>?_⟩
  rcases List.mem_cons.1 hg with rfl|hg
  ·omega
  ·exact h2 g hg
theorem rF:∀(l:List Fl) (n M:Int),n≤M→(∀f∈l,f.num<M)→iO n l≤M
 |[],n,M,h,_=>h
 |f::r,n,M,h,hf=>by
  have h1:=hf f (List.mem_cons_self ..)
  have e:iO n (f::r)=iO (if f.num+1>n then f.num+1 else n) r:=rfl
  rw[e]
  exact rF r _ M (by split<;>omega) (fun g hg=>hf g (List.mem_cons_of_mem _ hg))
theorem wN{s:iH}{gone:List Int}{fresh:List Fl}{log:Int}(h0:bT s=0)(hlog:0≤log∧log≤1073741824)(hgone:∀n∈gone,BC s.fs n=true)(hM:s.next≤1073741824)
 (hfr:∀f∈fresh,s.next≤f.num∧f.num<1073741824∧0≤f.lev∧f.lev<4∧0≤f.size∧f.size≤1073741824∧fR f.first=true∧fR f.last=true∧qf f.first f.last)
 (hnd:fresh.Pairwise (fun a b=>a.num≠b.num))(hdf:fresh.Pairwise wr)(hdk:∀q∈iR s.fs gone,∀f∈fresh,wr q f)(hlen:(iR s.fs gone).length+fresh.length≤1000):
 ox s gone fresh log=(mV s gone fresh log,0)∧bT (mV s gone fresh log)=0:=by
 obtain⟨hh,hl,hgs⟩:=fZ.1 h0
 have hnx:=rG fresh s.next
 have hnm:=rF fresh s.next 1073741824 hM (fun f hf=>(hfr f hf).2.1)
 have hks:∀q∈iR s.fs gone,q∈s.fs:=fun q hq=>(List.mem_filter.1 hq).1
 have hsub:(iR s.fs gone).Sublist s.fs:=List.filter_sublist
 have hgd:∀f∈iR s.fs gone++fresh,LU (iO s.next fresh) f:=fun f hf=>by
  rcases List.mem_append.1 hf with hf|hf
  ·obtain⟨h1,h2⟩:=hgs.good f (hks f hf)
   refine⟨fun h=>h1 ?_,h2⟩
   unfold kX at h ⊢
   omega
  ·obtain⟨a1,a2,a3,a4,a5,a6,a7,a8,a9⟩:=hfr f hf
   have:=hnx.2 f hf
   unfold gG at hh
   refine⟨fun h=>?_,a7,a8,a9⟩
   unfold kX at h
   omega
 have hpn:(iR s.fs gone++fresh).Pairwise (fun a b=>a.num≠b.num):=by
  refine List.pairwise_append.2 ⟨hgs.nums.sublist hsub,hnd,fun a ha b hb he=>?_⟩
  have h1:=(hgs.good a (hks a ha)).1
  have h2:=(hfr b hb).1
  unfold kX at h1
  omega
 have hpd:(iR s.fs gone++fresh).Pairwise wr:=List.pairwise_append.2 ⟨(hgs.rel.imp BX).sublist hsub,hdf,fun a ha b hb=>hdk a ha b hb⟩
 have hg2:=GS.sort hgd hpn hpd
 have hc:bT (mV s gone fresh log)=0:=by
  refine fZ.2 ⟨?_,?_,hg2⟩
  ·unfold gG at hh ⊢
   show ¬ (iO s.next fresh<0∨1073741824<iO s.next fresh∨log<0∨1073741824<log)
   omega
  ·show (cE (eu jK) (iR s.fs gone++fresh)).length≤1000
   rw[(nX _).length_eq,List.length_append];exact hlen
 refine⟨?_,hc⟩
 unfold ox
 rw[if_neg (by rw[h0];exact fun h=>h Z),if_neg (fun h=>h hgone),if_neg,if_neg (by rw[hc];exact fun h=>h Z)]
 rintro⟨f,hf,hb⟩
 have:=hfr f hf
 unfold gG at hh
 unfold wM at hb
 omega
theorem Bo{x:aC}(h:mL x):fR x.k=true:=by
 unfold fR
 have h1:=h.1
 have h2:=h.2.1
 have:x.k≠[]:=fun e=>by rw[e] at h1;cases h1
 simp[this,h2]
theorem tC{g:List aC}(h:0<g.length):∃x∈g,x.k=qo g:=⟨g[0],List.getElem_mem h,(qP h).symm⟩
theorem yf{base lev blk:Int}{gs:List (List aC)}(hgk:∀g∈gs,L7 blk g)(hok:∀g∈gs,∀x∈g,mL x)(_hb:0≤base)(hM:base+gs.length<1073741824)(hl:0≤lev∧lev<4):
 ∀f∈(ff base lev blk gs 0).map (·.1),base≤f.num∧f.num<1073741824∧0≤f.lev∧f.lev<4∧0≤f.size∧f.size≤1073741824∧fR f.first=true∧fR f.last=true∧qf f.first f.last:=fun f hf=>by
 obtain⟨p,hp,rfl⟩:=List.mem_map.1 hf
 have hn:=rM base lev blk gs 0 p hp
 obtain⟨i,hi,hpe⟩:=fE hp
 have hgm:=List.mem_of_getElem? hi
 have hG:=hgk _ hgm
 have hO:=hok _ hgm
 obtain⟨x,hx,hxk⟩:=tC hG.pos
 obtain⟨y,hy,hyk⟩:=rK hG.pos
 have hsz:=(pe (rb p.2 blk hG.mke) hG.few (fun e he=>by have:=hG.ok e he;exact⟨by have:=this.1;omega,by have:=this.2.1;omega⟩)).2.2.2
 rw[hpe]
 refine⟨by rw[hpe] at hn;omega,by rw[hpe] at hn;omega,hl.1,hl.2,?_,?_,?_,?_,?_⟩
 ·show (0:Int)≤((mt p.2 blk).1.length:Nat);omega
 ·show (((mt p.2 blk).1.length:Nat):Int)≤_;omega
 ·show fR (qo p.2)=true;rw[←hxk];exact Bo (hO x hx)
 ·show fR (np p.2)=true;rw[←hyk];exact Bo (hO y hy)
 ·show qf (qo p.2) (np p.2);rw[←hyk];exact oO hG.up hG.pos y hy
theorem tj{base lev blk:Int}{R:Fl→Fl→Prop}:∀(gs:List (List aC)) (i:Nat),(∀a b:Nat,∀g h,i≤a→a<b→gs[a - i]?=some g→gs[b - i]?=some h→R (mX base lev blk a g).1 (mX base lev blk b h).1)→((ff base lev blk gs i).map (·.1)).Pairwise R
 |[],_,_=>.nil
 |g::r,i,hR=>by
  show ((mX base lev blk i g::ff base lev blk r (i+1)).map (·.1)).Pairwise R
  rw[List.map_cons]
  refine List.pairwise_cons.2 ⟨fun f hf=>?_,tj r (i+1) (fun a b g' h' hia hab ha hb=>hR a b g' h' (by omega) hab (by rw[show a - i=(a - (i+1))+1 by omega,List.getElem?_cons_succ];exact ha) (by rw[show b - i=(b - (i+1))+1 by omega,List.getElem?_cons_succ];exact hb))⟩
  obtain⟨p,hp,rfl⟩:=List.mem_map.1 hf
  obtain⟨k,hk,hpk⟩:=List.mem_iff_getElem.1 hp
  have hl:=iP base lev blk r (i+1)
  have:=rN base lev blk r (i+1) k (by omega) hk
  rw[←hpk,this]
  exact hR i (i+1+k) g _ (Nat.le_refl _) (by omega) (by rw[Nat.sub_self];rfl) (by rw[show i+1+k - i=k+1 by omega,List.getElem?_cons_succ,List.getElem?_eq_getElem])
theorem Bl{base lev blk:Int}{gs:List (List aC)}(hgp:∀g∈gs,0<g.length)(hup:Up gs.flatten):((ff base lev blk gs 0).map (·.1)).Pairwise (fun a b=>a.num≠b.num)∧((ff base lev blk gs 0).map (·.1)).Pairwise wr:=by
 refine⟨tj gs 0 (fun a b g h _ hab ha hb he=>?_),tj gs 0 (fun a b g h _ hab ha hb=>?_)⟩
 ·have he:base+(a:Int)=base+b:=he
  omega
 ·intro _ _
  refine .inl ?_
  show Op.bytesLess (np g) (qo h)=true
  rw[Nat.sub_zero] at ha hb
  obtain⟨x,hx,hxk⟩:=rK (hgp g (List.mem_of_getElem? ha))
  obtain⟨y,hy,hyk⟩:=tC (hgp h (List.mem_of_getElem? hb))
  rw[←hxk,←hyk]
  obtain⟨hal,hae⟩:=List.getElem?_eq_some_iff.1 ha
  obtain⟨hbl,hbe⟩:=List.getElem?_eq_some_iff.1 hb
  have e:gs=gs.take b++(gs[b]::gs.drop (b+1)):=by rw[←List.drop_eq_getElem_cons hbl,List.take_append_drop]
  rw[e,List.flatten_append,List.flatten_cons] at hup
  refine(List.pairwise_append.1 hup).2.2 x (List.mem_flatten.2 ⟨g,?_,hx⟩) y (List.mem_append_left _ (by rw[hbe];exact hy))
  exact List.mem_iff_getElem.2 ⟨a,by rw[List.length_take];omega,by rw[List.getElem_take];exact hae⟩
end Go.Proofs.YtginkbjclkdglaaGreat
set_option maxHeartbeats 16000000
namespace Go.Proofs.YtginkbjclkdglaaGreat
open Go Go.RowKit
open Mg
def L9(l:List aC):List (List aC):=l.foldl (fun acc x=>[d6 x]::acc) []
def qm(l:List aC):List aC:=l.foldl (fun m x=>ec (d6 x) m) []
theorem LG(l:List aC):∀(m:List aC) (a:List (List aC)),sr m→dG a→cZ a=m→
 sr (l.foldl (fun m x=>ec (d6 x) m) m)∧dG (l.foldl (fun acc x=>[d6 x]::acc) a)∧cZ (l.foldl (fun acc x=>[d6 x]::acc) a)=l.foldl (fun m x=>ec (d6 x) m) m∧
 (l.foldl (fun m x=>ec (d6 x) m) m).length≤m.length+l.length∧cF (l.foldl (fun acc x=>[d6 x]::acc) a)=cF a+l.length∧(l.foldl (fun acc x=>[d6 x]::acc) a).length=a.length+l.length:=by
 induction l with
 |nil=>intro m a h1 h2 h3;exact⟨h1,h2,h3,Nat.le_refl _,rfl,rfl⟩
 |cons x l ih=>
  intro m a h1 h2 h3
  obtain⟨i1,i2,i3,i4,i5,i6⟩:=ih (ec (d6 x) m) ([d6 x]::a) (tm h1) (fun z hz=>by
   rcases List.mem_cons.1 hz with rfl|hz
   ·exact List.pairwise_singleton _ _
   ·exact h2 z hz) (by
   show put (cZ a) (d6 x)=_
   rw[h3];exact yX h1)
  have hl:=v6 (x:=d6 x) (l:=m)
  refine⟨i1,i2,i3,Nat.le_trans i4 (by rw[List.length_cons];omega),?_,?_⟩
  ·refine i5.trans ?_
   have:cF ([d6 x]::a)=1+cF a:=by simp[cF]
   rw[this,List.length_cons];omega
  ·refine i6.trans ?_
   rw[List.length_cons,List.length_cons];omega
theorem A8(l:List aC):sr (qm l)∧pg (L9 l) false=qm l∧(qm l).length≤l.length∧cF (L9 l)=l.length∧(L9 l).length=l.length:=by
 obtain⟨h1,h2,h3,h4,h5,h6⟩:=LG l [] [] .nil (fun _ h=>by cases h) rfl
 refine⟨h1,?_,Nat.le_trans h4 (by simp),h5.trans (by simp[cF]),h6.trans (by simp)⟩
 have:pg (L9 l) false=cU (L9 l) false:=pX _ _ h2
 rw[this]
 unfold cU
 have h3:cZ (L9 l)=qm l:=h3
 rw[h3]
 simp
set_option maxRecDepth 100000
theorem qy(B:gV)(o:eW)(S:ei)(jl:List (Nat×List (List aC)))(m:Option (List UInt8))(fx fr:List (Fl×List aC))(X:dH o S jl m (fx++fr))(e:Int)(he:0≤e∧e<10)(hl:fr.length≤1000):
 aQ Tryz.prog 48 [.ptr 104 B.bs [] 0,.sl 5 (fr.map (fun p=>eF p.1)),.i .i64 e] (dY B o S) (fun r os=>∃S',dH o S' jl m fx∧Kg S S'∧r= .i .i64 e∧os=dY B o S'):=by
 refine aA ab [(100,.var B.bd (cO B.bm S.D)),(101,.obj B.bm (cV S.D.es S.D.clk)),(102,bL (S.D.fs.map bZ.O)),(103,eC B.bd B.bj S.now),(104,.var B.bs (dm B o S.mem S.msz S.st)),(105,io B.bt S.ts S.c)] Tryz.func48 Z Tryz.ntmps48 aN Z Z (fun C=>?_) Z
 unfold dm e8 el iA
 repeat' (first|refine ae ?_|refine aj ?_|refine aa ?_|refine ac (ax ?_)|refine br Z ab Z Z Z (fun _=>?_)|refine aU ab (fun _=>?_))
 refine aO (fun q:Nat×ez×List (Int×AV×Nat)×Nat=>⟨35,[(11,.i .i64 q.1),(10,.i .i64 fr.length),(9,.sl 5 (fr.map (fun p=>eF p.1))),(0,.ptr 104 B.bs [] 0),(2,.i .i64 e)],[(100,.var B.bd (cO B.bm q.2.1)),(101,.obj B.bm (cV q.2.1.es q.2.1.clk)),(102,bL (q.2.1.fs.map bZ.O)),(103,eC B.bd B.bj S.now),(104,.var B.bs (dm B o S.mem S.msz S.st)),(105,io B.bt q.2.2.1 q.2.2.2)]⟩)
  (fun q=>q.1≤fr.length∧dH o ⟨q.2.1,S.now,S.mem,S.msz,S.st,q.2.2.1,q.2.2.2⟩ jl m (fx++fr.drop q.1)) (fun q=>fr.length - q.1) [] (0,S.D,S.ts,S.c) ⟨Nat.zero_le _,X⟩ ?_ ?_
 ·exact⟨rfl,⟨ai Z,ai (by simp),ay Z,af,ai Z,J⟩,az 100 Z (az 101 Z (az 102 Z (az 103 Z (az 104 Z (az 105 Z .nil)))))⟩
 rintro⟨k,D,ts,c⟩ ⟨hk,Xk⟩
 dsimp only at hk Xk ⊢
 clear X
 by_cases hlt:k<fr.length
 ·rw[List.drop_eq_getElem_cons hlt] at Xk
  have Xp:=Xk.perm List.perm_middle
  have hnm0:=(Xp.tok fr[k] (List.mem_cons_self ..)).num
  have hnm:=jS fr[k].1.num.toNat (by omega)
  rw[Int.toNat_of_nonneg hnm0.1] at hnm
  have hlk:=Xp.lk (List.mem_cons_self ..)
  have hrm:=sW B.bd B.bm (D:=D) Xp.vw hlk
  have dS:∀D',Vw D' (jc (de (iz jl)++dR o.blk m (fr[k]::(fx++fr.drop (k+1)))) (eM fr[k].1.num.toNat))→D'.room=D.room→dH o ⟨D',S.now,S.mem,S.msz,S.st,qE fr[k].1.num ts,c⟩ jl m (fx++fr.drop (k+1)):=fun D' hv hr=>Xp.del hv hr Z
  have hnd:=Xp.ts_nd
  dsimp only at hnd
  have hL:∀D:ez,dk B.bd B.bm D=[.var B.bd (cO B.bm D),.obj B.bm (cV D.es D.clk),bL (D.fs.map bZ.O)]:=fun _=>rfl
  simp only[hL] at hrm
  generalize eM fr[k].1.num.toNat=nm at hnm hrm dS
  have heF:eF fr[k].1= .agg [.i .i64 fr[k].1.num,.i .i64 fr[k].1.lev,.i .i64 fr[k].1.size,.s fr[k].1.first,.s fr[k].1.last]:=rfl
  repeat' (first|refine ae ?_|refine aj ?_|refine aa ?_|refine ac (ax ?_)|refine ac (db ?_)|refine ah (ax ?_)|(refine bc Z Z Z Z ?_ ?_;omega)|refine aU ab (fun _=>?_)|refine aF (d:=8) Z ab Z Z Z (fun b8=>?_)|refine aD ab Z Z Z Z Z Z Z ⟨rfl,rfl⟩ Z Z Z Z Z ?_|(refine aK Z ab Z Z Z Z Z Z ?_ (aE ?_) ?_;omega;omega)|(refine ao Z (fun hc=>?_) (fun hc=>?_))<;>try omega|(refine bF Z (fun hc=>?_) (fun hc=>?_))<;>try omega|refine cg 4 [105] [18,20] [] [0,1,2,4,3,5,6] aN aN aN Z Z Z ?_|refine cg 6 [100,101,102] [29] [] [0,1,2,3,5,4,6,7,8,9,10] aN aN aN Z Z Z ?_|(refine xZ ab Z Z aN Z Z Z hnd Z Z ?_)|(refine bx [] [100,101,102] [100,101,102] Z hrm ⟨af,aP,J⟩ Z dD Z Z ?_;rintro _ _ ⟨D2,hv2,hr2,rfl,rfl⟩;refine⟨_,rfl,rfl,?_⟩)|refine au Z (hnm) ⟨aP,J⟩ Z ?_)
  all_goals exact⟨(k+1,D2,qE fr[k].1.num ts,c),[],⟨hlt,dS D2 hv2 hr2⟩,by show fr.length - (k+1)<fr.length - k;omega,rfl,⟨ai (by show (k:Int)+1=((k+1:Nat):Int);omega),ai Z,ay Z,af,ai (if_neg (by omega)),J⟩,az 100 Z (az 101 Z (az 102 Z (az 103 Z (az 104 Z (az 105 Z .nil)))))⟩
 ·have hkl:k=fr.length:=by omega
  subst hkl
  rw[List.drop_length,List.append_nil] at Xk
  repeat' (first|refine ae ?_|refine aa ?_|refine ac (ax ?_)|refine aw (ax ?_)|refine ap (bC ?_)|refine aU ab (fun _=>?_)|(refine ao Z (fun hc=>?_) (fun hc=>?_))<;>try omega)
  all_goals
   exact aH [] [(100,_),(101,_),(102,_),(103,_),(104,_),(105,_)] (.i .i64 e) Z (bX (am Z) Z) (az 100 Z (az 101 Z (az 102 Z (az 103 Z (az 104 Z (az 105 Z .nil)))))) ⟨⟨D,S.now,S.mem,S.msz,S.st,ts,c⟩,Xk,⟨rfl,rfl,rfl,rfl⟩,rfl,rfl⟩
theorem dH.no_tmp{o:eW}{S:ei}{jl:List (Nat×List (List aC))}{m:Option (List UInt8)}{fx:List (Fl×List aC)}(h:dH o S jl m fx):mS∉eN (de (iz jl)++dR o.blk m fx):=fun hk=>by
 unfold eN at hk
 rw[List.map_append,List.mem_append] at hk
 rcases hk with hk|hk
 ·exact vU _ h.jlt Js hk
 ·unfold dR at hk
  rw[List.map_append,List.mem_append] at hk
  rcases hk with hk|hk
  ·cases m with
   |none=>cases hk
   |some b=>
    have:mS=mu:=List.mem_singleton.1 hk
    cases this
  ·rw[List.map_map] at hk
   obtain⟨p,_,he⟩:=List.mem_map.1 hk
   exact EC _ he
theorem dH.lk_tmp{o:eW}{S:ei}{jl:List (Nat×List (List aC))}{m:Option (List UInt8)}{fx:List (Fl×List aC)}(h:dH o S jl m fx)(b:List UInt8):l5 (gD (de (iz jl)++dR o.blk m fx) mS b) mS=some b:=by
 rw[zk,if_pos Z,ph.2 h.no_tmp];rfl
theorem dH.man{o:eW}{S S':ei}{jl:List (Nat×List (List aC))}{m:Option (List UInt8)}{fx:List (Fl×List aC)}(h:dH o S jl m fx){b:List UInt8}{D1 D2:ez}{st:iH}(v1:Vw D1 (gD (de (iz jl)++dR o.blk m fx) mS b))(u1:(D1.used:Int)≤D1.room)(l1:D1.fs.length≤4096)(r1:D1.room=S.D.room)
 (v2:Vw D2 ((mu,b)::jc (jc (gD (de (iz jl)++dR o.blk m fx) mS b) mS) mu))(r2:D2.room=D1.room)(hS:S'=⟨D2,S.now,S.mem,S.msz,st,S.ts,S.c⟩):dH o S' jl (some b) fx:=by
 subst hS
 have hp:gD (de (iz jl)++dR o.blk m fx) mS b=(de (iz jl)++dR o.blk m fx)++[(mS,b)]:=o8 h.no_tmp
 have hd:jc (gD (de (iz jl)++dR o.blk m fx) mS b) mS=de (iz jl)++dR o.blk m fx:=by
  rw[hp,pz,j9 h.no_tmp]
  show _++List.filter _ [(mS,b)]=_
  rw[List.filter_cons_of_neg (by simp),List.filter_nil,List.append_nil]
 have hm:jc (de (iz jl)++dR o.blk m fx) mu=de (iz jl)++fx.map (Ac o.blk):=by
  unfold dR
  rw[pz,pz,j9 (vU _ h.jlt zi)]
  have h1:jc (Dm m) mu=[]:=by cases m<;>rfl
  have h2:jc (fx.map (Ac o.blk)) mu=fx.map (Ac o.blk):=j9 (fun hk=>by
   unfold eN at hk
   rw[List.map_map] at hk
   obtain⟨p,_,he⟩:=List.mem_map.1 hk
   exact yR _ he)
  rw[h1,h2];rfl
 rw[hd,hm] at v2
 have hu:D2.used≤D1.used∧D2.fs.length≤D1.fs.length:=by
  rw[v2.used,v1.used,v2.len,v1.len,hp]
  unfold dR
  rw[dN,eH,eH,eH,eH,dN]
  simp only[List.length_append,List.length_cons,List.length_nil]
  omega
 refine⟨v2.perm ?_,h.jo,h.nd,h.tok,h.tsp,h.tsb,h.tbn,⟨by rw[r2,r1];exact h.room.1,by show (D2.used:Int)≤D2.room;rw[r2];omega,by show D2.fs.length≤4096;omega⟩,by show D2.room=o.rm;rw[r2,r1];exact h.rm⟩
 exact(List.perm_middle (l₁:=de (iz jl)) (a:=(mu,b)) (l₂:=fx.map (Ac o.blk))).symm
theorem rn(B:gV)(o:eW)(S:ei)(jl:List (Nat×List (List aC)))(m:Option (List UInt8))(gn keep fr:List (Fl×List aC))(X:dH o S jl m ((gn++keep)++fr))(log:Int)(st':iH)
 (hap:ox S.st (gn.map (fun p=>p.1.num)) (fr.map (fun p=>p.1)) log=(st',0))(hck:bT st'=0)(hfs:S.st.fs.length≤1000)(hgl:gn.length≤1000)(hfl:fr.length≤1000)(hsl:st'.fs.length≤250):
 aQ Tryz.prog 49 [.ptr 104 B.bs [] 0,.sl 1 (gn.map (fun p=>.i .i64 p.1.num)),.sl 5 (fr.map (fun p=>eF p.1)),.i .i64 log] (dY B o S) (fun r os=>∃S' e,
  ((e=(9:Int)∧kQ o.rm ((mS,(dP st').1)::(de (iz jl)++dR o.blk m ((gn++keep)++fr)))∧dH o S' jl m (gn++keep)∧Kg S S')∨(e=0∧dH o S' jl (some (dP st').1) (keep++fr)∧S'.now=S.now∧S'.mem=S.mem∧S'.msz=S.msz∧S'.st=st'))∧r= .i .i64 e∧os=dY B o S'):=by
 have h1:=Ej S.st (gn.map (fun p=>p.1.num)) (fr.map (fun p=>p.1)) log hfs (by rw[List.length_map];exact hgl) (by rw[List.length_map];exact hfl)
 rw[hap,List.map_map,List.map_map] at h1
 have h2:=Bj st' hsl
 have hby:dP st'=((dP st').1,0):=by unfold dP;rw[if_neg (by rw[hck];exact fun h=>h Z)]
 have hbl:(dP st').1.length≤70000:=by
  have h3:=jT hck hsl st'.fs.length (Nat.le_refl _)
  unfold dP
  rw[if_neg (by rw[hck];exact fun h=>h Z)]
  show (bo _).length≤_
  rw[mD];omega
 rw[hby] at h2
 dsimp only at h2
 have h3:=vl B o S.mem S.msz S.st X.vw mS (dP st').1 (by decide) X.room.2.1 X.room.1 X.room.2.2 (by omega)
 have h4:=fun D' (hv:Vw D' (gD (de (iz jl)++dR o.blk m ((gn++keep)++fr)) mS (dP st').1))=>FR B.bd B.bm hv (X.lk_tmp _) (show fg mu=true by decide) (by decide)
 have h5:=fun S1 (X1:dH o S1 jl m ((gn++keep)++fr))=>qy B o S1 jl m (gn++keep) fr X1 9 (by decide) hfl
 have hman:=fun D1 D2 v1 u1 l1 r1 v2 r2=>X.man (b:=(dP st').1) (D1:=D1) (D2:=D2) (st:=st') (S':=⟨D2,S.now,S.mem,S.msz,st',S.ts,S.c⟩) v1 u1 l1 r1 v2 r2 Z
 have hL:∀D:ez,dk B.bd B.bm D=[.var B.bd (cO B.bm D),.obj B.bm (cV D.es D.clk),bL (D.fs.map bZ.O)]:=fun _=>rfl
 simp only[hL] at h4
 generalize (dP st').1=b at h2 h3 h4 hman ⊢
 refine aA ab [(100,.var B.bd (cO B.bm S.D)),(101,.obj B.bm (cV S.D.es S.D.clk)),(102,bL (S.D.fs.map bZ.O)),(103,eC B.bd B.bj S.now),(104,.var B.bs (dm B o S.mem S.msz S.st)),(105,io B.bt S.ts S.c)] Tryz.func49 Z Tryz.ntmps49 aN Z Z (fun C=>?_) Z
 unfold dm e8 el
 repeat' (first|refine ae ?_|refine aj ?_|refine aa ?_|refine ac (ax ?_)|refine ah (ax ?_)|refine ap (bC ?_)|refine br Z ab Z Z Z (fun _=>?_)|refine aU ab (fun _=>?_)|refine aF (d:=9) Z ab Z Z Z (fun b9=>?_)|refine aD ab Z Z Z Z Z Z Z ⟨rfl,rfl⟩ Z Z Z Z Z ?_|refine aR Z ?_|refine aB Z ?_|(refine bx [] [100,101,102,104] [100,101,102,104] Z h3 ⟨af,aP,aP,J⟩ Z dD Z Z ?_;rintro _ _ ⟨D2,e,⟨rfl,rfl,htt⟩|⟨rfl,hv2,hr2,hu2,hl2⟩,rfl,rfl⟩<;>refine⟨_,rfl,rfl,?_⟩)|(refine bx [] [100,101,102,103,104,105] [100,101,102,103,104,105] Z (h5 S X) ⟨af,aP,aP,J⟩ Z dD Z Z ?_;rintro _ _ ⟨S2,hX2,hS2,rfl,rfl⟩;refine⟨_,rfl,rfl,?_⟩)|(refine bx [] [100,101,102] [100,101,102] Z (h4 D2 hv2) ⟨af,aP,aP,J⟩ Z dD Z Z ?_;rintro _ _ ⟨D3,rfl,rfl,hv3,hr3⟩;refine⟨_,rfl,rfl,?_⟩)|refine au Z (h1) ⟨aP,aP,aP,aP,J⟩ Z ?_|refine au Z (h2) ⟨aP,J⟩ Z ?_)
 ·exact aH [] [(100,_),(101,_),(102,_),(103,_),(104,_),(105,_)] (.i .i64 9) Z (bX (am Z) Z) (az 100 Z (az 101 Z (az 102 Z (az 103 Z (az 104 Z (az 105 Z .nil)))))) ⟨S2,9,.inl ⟨rfl,X.rm▸htt,hX2,hS2⟩,rfl,rfl⟩
 have X3:=hman D2 D3 hv2 hu2 hl2 hr2 hv3 hr3
 clear h1 h2 h3 h4 h5 hman
 refine aO (fun q:Nat×ez×List (Int×AV×Nat)×Nat=>⟨77,[(57,.i .i64 q.1),(56,.i .i64 gn.length),(55,.sl 1 (gn.map (fun p=>.i .i64 p.1.num))),(0,.ptr 104 B.bs [] 0)],[(100,.var B.bd (cO B.bm q.2.1)),(101,.obj B.bm (cV q.2.1.es q.2.1.clk)),(102,bL (q.2.1.fs.map bZ.O)),(103,eC B.bd B.bj S.now),(104,.var B.bs (dm B o S.mem S.msz st')),(105,io B.bt q.2.2.1 q.2.2.2)]⟩)
  (fun q=>q.1≤gn.length∧dH o ⟨q.2.1,S.now,S.mem,S.msz,st',q.2.2.1,q.2.2.2⟩ jl (some b) (gn.drop q.1++(keep++fr))) (fun q=>gn.length - q.1) [] (0,D3,S.ts,S.c) ⟨Nat.zero_le _,by rw[List.append_assoc] at X3;exact X3⟩ ?_ ?_
 ·exact⟨rfl,⟨ai Z,ai (by simp),ay Z,af,J⟩,az 100 Z (az 101 Z (az 102 Z (az 103 Z (az 104 Z (az 105 Z .nil)))))⟩
 rintro⟨k,D,ts,c⟩ ⟨hk,Xk⟩
 dsimp only at hk Xk ⊢
 clear X X3
 by_cases hlt:k<gn.length
 ·rw[List.drop_eq_getElem_cons hlt] at Xk
  have Xp:dH o ⟨D,S.now,S.mem,S.msz,st',ts,c⟩ jl (some b) (gn[k]::(gn.drop (k+1)++(keep++fr))):=Xk
  have hnm0:=(Xp.tok gn[k] (List.mem_cons_self ..)).num
  have hnm:=jS gn[k].1.num.toNat (by omega)
  rw[Int.toNat_of_nonneg hnm0.1] at hnm
  have hlk:=Xp.lk (List.mem_cons_self ..)
  have hrm:=sW B.bd B.bm (D:=D) Xp.vw hlk
  have dS:∀D',Vw D' (jc (de (iz jl)++dR o.blk (some b) (gn[k]::(gn.drop (k+1)++(keep++fr)))) (eM gn[k].1.num.toNat))→D'.room=D.room→dH o ⟨D',S.now,S.mem,S.msz,st',qE gn[k].1.num ts,c⟩ jl (some b) (gn.drop (k+1)++(keep++fr)):=fun D' hv hr=>Xp.del hv hr Z
  have hnd:=Xp.ts_nd
  dsimp only at hnd
  simp only[hL] at hrm
  generalize eM gn[k].1.num.toNat=nm at hnm hrm dS
  repeat' (first|refine ae ?_|refine aj ?_|refine aa ?_|refine ac (ax ?_)|refine ac (db ?_)|refine ah (ax ?_)|(refine bc Z Z Z Z ?_ ?_;omega)|refine aU ab (fun _=>?_)|(refine aK Z ab Z Z Z Z Z Z ?_ (aE ?_) ?_;omega;omega)|refine aB Z ?_|(refine ao Z (fun hc=>?_) (fun hc=>?_))<;>try omega|refine cg 16 [100,101,102] [] [] [0,1,2,4,3,5,6,7] aN aN aN Z Z Z ?_|(refine xZ ab Z Z aN Z Z Z hnd Z Z ?_)|(refine bx [] [100,101,102] [100,101,102] Z hrm ⟨af,aP,J⟩ Z dD Z Z ?_;rintro _ _ ⟨D4,hv4,hr4,rfl,rfl⟩;refine⟨_,rfl,rfl,?_⟩)|refine au Z (hnm) ⟨aP,J⟩ Z ?_)
  all_goals exact⟨(k+1,D4,qE gn[k].1.num ts,c),[],⟨hlt,dS D4 hv4 hr4⟩,by show gn.length - (k+1)<gn.length - k;omega,rfl,⟨ai (by show (k:Int)+1=((k+1:Nat):Int);omega),ai Z,ay Z,af,J⟩,az 100 Z (az 101 Z (az 102 Z (az 103 Z (az 104 Z (az 105 Z .nil)))))⟩
 ·rw[List.drop_of_length_le (by omega),List.nil_append] at Xk
  repeat' (first|refine ae ?_|refine aa ?_|refine ac (ax ?_)|refine aw (ax ?_)|refine ap (bC ?_)|refine aU ab (fun _=>?_)|(refine ao Z (fun hc=>?_) (fun hc=>?_))<;>try omega)
  all_goals
   exact aH [] [(100,_),(101,_),(102,_),(103,_),(104,_),(105,_)] (.i .i64 0) Z (bX (am Z) Z) (az 100 Z (az 101 Z (az 102 Z (az 103 Z (az 104 Z (az 105 Z .nil)))))) ⟨⟨D,S.now,S.mem,S.msz,st',ts,c⟩,0,.inr ⟨rfl,Xk,rfl,rfl,rfl,rfl⟩,rfl,rfl⟩
theorem CO(B:gV)(o:eW)(st:iH)(l:List aC)(s:Int):aQ Tryz.prog 45 [.ptr 104 B.bs [3] 7] [.var B.bs (dm B o l s st)] (fun r os=>r= .i .i64 s∧os=[.var B.bs (dm B o l s st)]):=by
 refine aA ab [(104,.var B.bs (dm B o l s st))] Tryz.func45 Z Tryz.ntmps45 aN Z Z (fun C=>?_) Z
 unfold dm e8 el iA
 repeat' (first|refine ae ?_|refine aa ?_|refine ac (ax ?_)|refine ap (bC ?_)|refine aU ab (fun _=>?_))
 exact bp Z Z Z [] [(104,_)] (am Z) (bq Z (ak _) .nil) ⟨rfl,rfl⟩ _ (.inl Z)
theorem tU(B:gV)(o:eW)(st:iH)(l:List aC)(s:Int):aQ Tryz.prog 50 [.ptr 104 B.bs [3] 7] [.var B.bs (dm B o l s st)] (fun r os=>r= .tup []∧os=[.var B.bs (dm B o [] 0 st)]):=by
 refine aA ab [(104,.var B.bs (dm B o l s st))] Tryz.func50 Z Tryz.ntmps50 aN Z Z (fun C=>?_) Z
 unfold dm e8 el iA
 repeat' (first|refine aa ?_|refine ac (bC ?_)|refine aU ab (fun _=>?_)|refine aD ab Z Z Z Z Z Z Z ⟨rfl,rfl⟩ Z Z Z Z Z ?_|refine cd ab Z Z Z Z Z Z eo ?_)
 exact dC Z [] [(104,_)] (bq Z (bW (bS (.cons (av _) (.cons (av _) (.cons (av _) (.cons (bS (.cons cQ (.cons (av _) .nil))) (.cons (av _) (.cons (av _) .nil)))))))) .nil) ⟨rfl,rfl⟩ _ (.inr Z)
theorem qC(B:gV)(o:eW)(st:iH)(l:List aC)(s:Int)(hl:l.length≤1000000):aQ Tryz.prog 36 [.ptr 104 B.bs [3] 7] [.var B.bs (dm B o l s st)] (fun r os=>r= .sl 3 (l.map eA)∧os=[.var B.bs (dm B o l s st)]):=by
 refine aA ab [(104,.var B.bs (dm B o l s st))] Tryz.func36 Z Tryz.ntmps36 aN Z Z (fun C=>?_) Z
 unfold dm e8 el iA
 have hc:=wz (l.map eA) (by rw[List.length_map];exact hl)
 repeat' (first|refine ae ?_|refine aa ?_|refine ac (ax ?_)|refine ap (bC ?_)|refine aU ab (fun _=>?_)|(refine jy Z hc ⟨aP,J⟩ Z (fun vR=>?_)))
 refine bp Z Z Z [7] [(104,_)] (bP ?_) (az 104 Z .nil) ⟨rfl,rfl⟩ _ (.inl Z)
 exact .head _
theorem FG(B:gV)(o:eW)(st:iH)(l:List aC)(s:Int)(k:List UInt8)(hl:l.length≤400000)(hr:sr l):
 aQ Tryz.prog 40 [.ptr 104 B.bs [3] 7,.s k] [.var B.bs (dm B o l s st)] (fun r os=>r= .tup [eA (rp l k).1,.b (rp l k).2]∧os=[.var B.bs (dm B o l s st)]):=by
 refine aA ab [(104,.var B.bs (dm B o l s st))] Tryz.func40 Z Tryz.ntmps40 aN Z Z (fun C=>?_) Z
 rw[yY hr]
 have h1:=wI l k hl (jf hr k)
 generalize mw l k (eG l k)=E at h1 ⊢
 generalize iv l k (eG l k)=q at h1 ⊢
 unfold dm e8 el iA
 unfold eA at h1 ⊢
 repeat' (first|refine ae ?_|refine aa ?_|refine ac (ax ?_)|refine ap (bC ?_)|refine aU ab (fun _=>?_)|refine aF Z ab Z Z Z (fun bA=>?_)|refine aD ab Z Z Z Z Z Z Z ⟨rfl,rfl⟩ Z Z Z Z Z ?_|refine au Z (h1) ⟨aP,aP,J⟩ Z ?_)
 refine cS [] [(104,_)] (.tup [.agg [.s E.k,.s E.v,.b E.g],.b q]) Z ?_ ?_ (aW (am Z) (am Z) Z Z) (az 104 Z .nil) ⟨rfl,rfl⟩ _ (.inl Z)
 all_goals first|exact⟨trivial,trivial⟩|trivial|exact⟨trivial,trivial,trivial⟩
theorem dH.turn{o:eW}{S:ei}{jl:List (Nat×List (List aC))}{m:Option (List UInt8)}{fx:List (Fl×List aC)}(h:dH o S jl m fx)(hw:S.now<1073741824):dH o ⟨S.D,S.now+1,S.mem,S.msz,S.st,S.ts,S.c⟩ jl m fx:=
 ⟨h.vw,⟨h.jo.rise,fun p hp=>Nat.le_succ_of_le (h.jo.le p hp),h.jo.tx,by show S.now+1<10000000000;omega⟩,h.nd,h.tok,h.tsp,h.tsb,h.tbn,h.room,h.rm⟩
theorem dH.drop{o:eW}{S:ei}{jl:List (Nat×List (List aC))}{m:Option (List UInt8)}{fx:List (Fl×List aC)}(h:dH o S jl m fx){D':ez}(hv:Vw D' (dR o.blk m fx))(hr:D'.room=S.D.room)(mem:List aC)(msz:Int):dH o ⟨D',S.now,mem,msz,S.st,S.ts,S.c⟩ [] m fx:=by
 have hu:D'.used≤S.D.used∧D'.fs.length≤S.D.fs.length:=by
  rw[hv.used,h.vw.used,hv.len,h.vw.len,eH,List.length_append];omega
 have hrm:=h.room
 exact⟨hv,⟨List.Pairwise.nil,fun p hp=>(by cases hp),fun p hp=>(by cases hp),h.jo.lim⟩,h.nd,h.tok,h.tsp,h.tsb,h.tbn,⟨by show D'.room≤_;omega,by show (D'.used:Int)≤D'.room;omega,by show D'.fs.length≤4096;omega⟩,hr.trans h.rm⟩
theorem Ay(B:gV)(o:eW)(S:ei)(jl:List (Nat×List (List aC)))(m:Option (List UInt8))(fx:List (Fl×List aC))(X:dH o S jl m fx)(hg:kO o)(hl:S.mem.length≤300)(hm:∀e∈S.mem,e.k.length≤110∧e.v.length≤4010)
 (gs:List (List aC))(hgs:wY o.tab S.mem [] 0=gs)(hgk:∀g∈gs,L7 o.blk g)(hgl:gs.length≤300)(hn0:0≤S.st.next)(hn1:S.st.next+gs.length<1073741824)(hfx:∀p∈fx,p.1.num<S.st.next)(hfs:S.st.fs.length≤1000)(hw:S.now<1073741824)
 (st':iH)(hap:S.mem≠[]→ox S.st [] ((ff S.st.next 0 o.blk gs 0).map (fun p=>p.1)) ((S.now+1:Nat):Int)=(st',0))(hck:S.mem≠[]→bT st'=0)(hsl:S.mem≠[]→st'.fs.length≤250):
 aQ Tryz.prog 18 [.ptr 104 B.bs [] 0] (dY B o S) (fun r os=>∃S' e,
  ((e=(9:Int)∧kQ o.rm ((mS,(dP st').1)::(de (iz jl)++dR o.blk m (fx++ff S.st.next 0 o.blk gs 0)))∧dH o S' jl m fx∧Kg ⟨S.D,S.now+1,S.mem,S.msz,S.st,S.ts,S.c⟩ S')∨(e=0∧S.mem=[]∧S'=S)∨
    (e=0∧dH o S' [] (some (dP st').1) (fx++ff S.st.next 0 o.blk gs 0)∧S'.now=S.now+1∧S'.mem=[]∧S'.msz=0∧S'.st=st'))∧r= .i .i64 e∧os=dY B o S'):=by
 have k1:=lK B.bd S.D.room S.D.fuse (.map (some B.bm)) S.D.dead
 have k1:aQ Tryz.prog 35 [.ptr 0 B.bd [] 0] [.var B.bd (cO B.bm S.D)] (fun r os=>r= .b S.D.dead∧os=[.var B.bd (cO B.bm S.D)]):=k1
 rw[X.vw.dead] at k1
 have k2:=qC B o S.st S.mem S.msz (by omega)
 have k3:=Dx B.bd B.bj S.now (by omega)
 have X1:=X.turn hw
 have k4:=xK B o ⟨S.D,S.now+1,S.mem,S.msz,S.st,S.ts,S.c⟩ jl m fx X1 S.mem 0 hg hl hm gs hgs hgk hgl hn0 hn1 hfx
 have hPl:=iP S.st.next 0 o.blk gs 0
 dsimp only at k4
 generalize ff S.st.next 0 o.blk gs 0=P at k4 hap hPl ⊢
 have k5:=fun S2 k (X2:dH o S2 jl m (fx++P.take k))=>qy B o S2 jl m fx (P.take k) X2 9 (by decide) (by rw[List.length_take];omega)
 have k6:=fun S2 (X2:dH o S2 jl m (fx++P)) (h2:S2.st=S.st) hne=>rn B o S2 jl m [] fx P (by rw[List.nil_append];exact X2) ((S.now+1:Nat):Int) st' (by rw[h2];exact hap hne) (hck hne) (by rw[h2];exact hfs) (Nat.zero_le _) (by omega) (hsl hne)
 have hPt:P.take gs.length=P:=List.take_of_length_le (by omega)
 have k7:=fun mem msz=>tU B o st' mem msz
 have k8:=fun S2 (X2:dH o S2 jl (some (dP st').1) (fx++P)) (h2:S2.now=S.now+1)=>DA B.bd B.bm B.bj S2.D (iz jl) (dR o.blk (some (dP st').1) (fx++P)) (S.now+1) X2.vw X2.jo.rise (fun p hp=>by
  have:=X.jo.le p hp;omega) (by omega) (uI _ _ _) (by have:=X2.room.2.2;omega)
 have hL4:∀D:ez,dk B.bd B.bm D++[eC B.bd B.bj (S.now+1)]=[.var B.bd (cO B.bm D),.obj B.bm (cV D.es D.clk),bL (D.fs.map bZ.O),eC B.bd B.bj (S.now+1)]:=fun _=>rfl
 simp only[hL4] at k8
 generalize (dP st').1=b at k6 k8 ⊢
 refine aA ab [(100,.var B.bd (cO B.bm S.D)),(101,.obj B.bm (cV S.D.es S.D.clk)),(102,bL (S.D.fs.map bZ.O)),(103,eC B.bd B.bj S.now),(104,.var B.bs (dm B o S.mem S.msz S.st)),(105,io B.bt S.ts S.c)] Tryz.func18 Z Tryz.ntmps18 aN Z Z (fun C=>?_) Z
 by_cases hmm:S.mem=[]
 ·have k2:aQ Tryz.prog 36 [.ptr 104 B.bs [3] 7] [.var B.bs (dm B o S.mem S.msz S.st)] (fun r os=>r= .sl 3 []∧os=[.var B.bs (dm B o S.mem S.msz S.st)]):=by
   rw[show (AV.sl 3 (S.mem.map eA))= .sl 3 [] by rw[hmm];rfl] at k2;exact k2
  repeat' (first|refine ae ?_|refine aa ?_|refine ac (ax ?_)|refine ah (ax ?_)|refine ap (bC ?_)|refine aU ab (fun _=>?_)|refine aR Z ?_|refine aB Z ?_|refine bk [] [100] [100] Z k1 ⟨af,J⟩ Z dD Z Z ?_|refine bk [] [104] [104] Z k2 ⟨af,J⟩ Z dD Z Z ?_)
  all_goals
   exact aH [] [(100,_),(101,_),(102,_),(103,_),(104,_),(105,_)] (.i .i64 0) Z (bX (am Z) Z) (az 100 Z (az 101 Z (az 102 Z (az 103 Z (az 104 Z (az 105 Z .nil)))))) ⟨S,0,.inr (.inl ⟨rfl,hmm,rfl⟩),rfl,rfl⟩
 have hml:0<S.mem.length:=List.length_pos_iff.2 hmm
 repeat' (first|refine ae ?_|refine aa ?_|refine ac (ax ?_)|refine ah (ax ?_)|refine br Z ab Z Z Z (fun _=>?_)|refine aU ab (fun _=>?_)|refine aR Z ?_|refine aB Z ?_|(refine ao Z (fun hc=>?_) (fun hc=>?_))<;>try omega|refine bk [] [100] [100] Z k1 ⟨af,J⟩ Z dD Z Z ?_|refine bk [] [104] [104] Z k2 ⟨af,J⟩ Z dD Z Z ?_|refine bk [] [103] [103] Z k3 ⟨af,J⟩ Z dD Z Z ?_|(refine bx [] [100,101,102,103,104,105] [100,101,102,103,104,105] Z k4 ⟨af,aP,aP,J⟩ Z dD Z Z ?_;rintro _ _ ⟨S2,kk,e,⟨rfl,rfl⟩|⟨rfl,htt⟩,hX2,hS2,rfl,rfl⟩<;>refine⟨_,rfl,rfl,?_⟩))
 rotate_left
 ·repeat' (first|refine ac (ax ?_)|refine ap (bC ?_)|refine aU ab (fun _=>?_)|(refine bx [] [100,101,102,103,104,105] [100,101,102,103,104,105] Z (k5 S2 kk hX2) ⟨af,aP,aP,J⟩ Z dD Z Z ?_;rintro _ _ ⟨S3,hX3,hS3,rfl,rfl⟩;refine⟨_,rfl,rfl,?_⟩))
  all_goals
   exact aH [] [(100,_),(101,_),(102,_),(103,_),(104,_),(105,_)] (.i .i64 9) Z (bX (am Z) Z) (az 100 Z (az 101 Z (az 102 Z (az 103 Z (az 104 Z (az 105 Z .nil)))))) ⟨S3,9,.inl ⟨rfl,htt.of (by rw[dN];omega) (by rw[List.length_cons];omega),hX3,hS2.trans hS3⟩,rfl,rfl⟩
 rw[hPt]
 rw[hPt] at hX2
 repeat' (first|refine ae ?_|refine aa ?_|refine ac (ax ?_)|refine ah (ax ?_)|refine ap (bC ?_)|refine aU ab (fun _=>?_)|refine aR Z ?_|refine aB Z ?_|(refine bx [] [100,101,102,103,104,105] [100,101,102,103,104,105] Z (k6 S2 hX2 hS2.st hmm) ⟨af,sJ,aP,aP,J⟩ Z dD Z Z ?_;rintro _ _ ⟨S3,e,⟨rfl,htt,hX3,hS3⟩|⟨rfl,hX3,h3n,h3m,h3z,h3s⟩,rfl,rfl⟩<;>refine⟨_,rfl,rfl,?_⟩)|refine bk [] [104] [104] Z (tU B o S3.st S3.mem S3.msz) ⟨af,J⟩ Z dD Z Z ?_)
 ·exact aH [] [(100,_),(101,_),(102,_),(103,_),(104,_),(105,_)] (.i .i64 9) Z (bX (am Z) Z) (az 100 Z (az 101 Z (az 102 Z (az 103 Z (az 104 Z (az 105 Z .nil)))))) ⟨S3,9,.inl ⟨rfl,htt,hX3,hS2.trans hS3⟩,rfl,rfl⟩
 have hn3:S3.now=S.now+1:=h3n.trans hS2.now
 have k9:=k8 S3 hX3 hn3
 have hdr:=fun D' hv hr=>hX3.drop (D':=D') hv hr [] 0
 rw[hn3] at hdr ⊢
 rw[h3s] at hdr ⊢
 repeat' (first|refine ac (ax ?_)|refine ap (bC ?_)|refine aU ab (fun _=>?_)|(refine bx [] [100,101,102,103] [100,101,102,103] Z k9 ⟨af,aP,J⟩ Z dD Z Z ?_;rintro _ _ ⟨D4,hv4,hr4,rfl,rfl⟩;refine⟨_,rfl,rfl,?_⟩))
 all_goals
  exact aH [] [(100,_),(101,_),(102,_),(103,_),(104,_),(105,_)] (.i .i64 0) Z (bX (am Z) Z) (az 100 Z (az 101 Z (az 102 Z (az 103 Z (az 104 Z (az 105 Z .nil)))))) ⟨⟨D4,S.now+1,[],0,st',S3.ts,S3.c⟩,0,.inr (.inr ⟨rfl,hdr D4 hv4 hr4,rfl,rfl,rfl,rfl⟩),rfl,rfl⟩
end Go.Proofs.YtginkbjclkdglaaGreat
