/- What lies on a disk that lives and is sure of all its bytes: names and bytes, in any order. No program in sight. -/
import Derived.Test.YtginkbjclkdglaaGreatLB7Z
import Derived.Test.YtginkbjclkdglaaGreatKH4Z
set_option maxHeartbeats 4000000
namespace Go.Proofs.YtginkbjclkdglaaGreat
open Go Go.RowKit
def eN(L:List (List UInt8×List UInt8)):List (List UInt8):=L.map (·.1)
def fq(L:List (List UInt8×List UInt8)):Nat:=(L.map (·.2.length)).sum
def l5:List (List UInt8×List UInt8)→List UInt8→Option (List UInt8)
 |[],_=>none
 |x::r,nm=>if x.1=nm then some x.2 else l5 r nm
def gD:List (List UInt8×List UInt8)→List UInt8→List UInt8→List (List UInt8×List UInt8)
 |[],nm,b=>[(nm,b)]
 |x::r,nm,b=>if x.1=nm then (x.1,x.2++b)::r else x::gD r nm b
theorem x6{L L':List (List UInt8×List UInt8)}(h:L.Perm L'):(eN L).Perm (eN L'):=h.map _
theorem H7{L L':List (List UInt8×List UInt8)}(h:L.Perm L')(nd:(eN L).Nodup)(nm:List UInt8):l5 L nm=l5 L' nm:=by
 induction h with
 |nil=>rfl
 |cons x p ih=>
  unfold l5
  rw[ih (List.nodup_cons.1 nd).2]
 |swap x y l=>
  have h1:y.1≠x.1:=fun e=>(List.nodup_cons.1 nd).1 (by show y.1∈x.1::List.map (·.1) l;rw[e];exact List.mem_cons_self ..)
  simp only[l5]
  by_cases a:y.1=nm
  ·by_cases b:x.1=nm
   ·exact absurd (a.trans b.symm) h1
   ·rw[if_pos a,if_neg b,if_pos a]
  ·by_cases b:x.1=nm
   ·rw[if_neg a,if_pos b,if_pos b]
   ·rw[if_neg a,if_neg b,if_neg b,if_neg a]
 |trans p q ih1 ih2=>exact(ih1 nd).trans (ih2 ((x6 p).nodup_iff.1 nd))
theorem FX{L L':List (List UInt8×List UInt8)}(h:L.Perm L')(nd:(eN L).Nodup)(nm b:List UInt8):(gD L nm b).Perm (gD L' nm b):=by
 induction h with
 |nil=>exact List.Perm.refl _
 |cons x p ih=>
  unfold gD
  by_cases a:x.1=nm
  ·rw[if_pos a,if_pos a];exact p.cons _
  ·rw[if_neg a,if_neg a];exact(ih (List.nodup_cons.1 nd).2).cons _
 |swap x y l=>
  have h1:y.1≠x.1:=fun e=>(List.nodup_cons.1 nd).1 (by show y.1∈x.1::List.map (·.1) l;rw[e];exact List.mem_cons_self ..)
  simp only[gD]
  by_cases a:y.1=nm
  ·by_cases b:x.1=nm
   ·exact absurd (a.trans b.symm) h1
   ·rw[if_pos a,if_neg b,if_pos a];exact List.Perm.swap ..
  ·by_cases b:x.1=nm
   ·rw[if_neg a,if_pos b,if_pos b];exact List.Perm.swap ..
   ·rw[if_neg a,if_neg b,if_neg b,if_neg a];exact List.Perm.swap ..
 |trans p q ih1 ih2=>exact(ih1 nd).trans (ih2 ((x6 p).nodup_iff.1 nd))
theorem ph{nm:List UInt8}:∀{L:List (List UInt8×List UInt8)},l5 L nm=none↔nm∉eN L
 |[]=>⟨fun _ h=>(by cases h),fun _=>rfl⟩
 |x::r=>by
  unfold l5
  by_cases a:x.1=nm
  ·rw[if_pos a];exact⟨fun h=>(by cases h),fun h=>absurd (List.mem_cons.2 (.inl a.symm)) h⟩
  ·rw[if_neg a,ph]
   exact⟨fun h hm=>(List.mem_cons.1 hm).elim (fun e=>a e.symm) h,fun h hm=>h (List.mem_cons_of_mem _ hm)⟩
theorem o8{nm b:List UInt8}:∀{L:List (List UInt8×List UInt8)},nm∉eN L→gD L nm b=L++[(nm,b)]
 |[],_=>rfl
 |x::r,h=>by
  unfold gD
  rw[if_neg (fun e=>h (List.mem_cons.2 (.inl e.symm))),o8 (fun hm=>h (List.mem_cons_of_mem _ hm))];rfl
theorem AI{nm b v:List UInt8}{r:List (List UInt8×List UInt8)}:∀{s:List (List UInt8×List UInt8)},nm∉eN s→gD (s++(nm,v)::r) nm b=s++(nm,v++b)::r
 |[],_=>by show gD ((nm,v)::r) nm b=_;unfold gD;rw[if_pos Z];rfl
 |x::s,h=>by
  show gD (x::(s++(nm,v)::r)) nm b=_
  unfold gD
  rw[if_neg (fun e=>h (List.mem_cons.2 (.inl e.symm))),AI (fun hm=>h (List.mem_cons_of_mem _ hm))];rfl
theorem dN(x:List UInt8×List UInt8)(L:List (List UInt8×List UInt8)):fq (x::L)=x.2.length+fq L:=by unfold fq;rw[List.map_cons,List.sum_cons]
theorem sx{nm b:List UInt8}:∀{L:List (List UInt8×List UInt8)},fq (gD L nm b)=fq L+b.length
 |[]=>by unfold gD;rw[dN];show b.length+0=0+b.length;omega
 |x::r=>by
  unfold gD
  by_cases a:x.1=nm
  ·rw[if_pos a,dN,dN]
   show (x.2++b).length+fq r=_
   rw[List.length_append];omega
  ·rw[if_neg a,dN,dN,sx];omega
theorem uX{L L':List (List UInt8×List UInt8)}(h:L.Perm L'):fq L=fq L':=(h.map _).sum_nat
theorem eH(a b:List (List UInt8×List UInt8)):fq (a++b)=fq a+fq b:=by unfold fq;rw[List.map_append,List.sum_append]
theorem zk{nm b k:List UInt8}:∀{L:List (List UInt8×List UInt8)},l5 (gD L nm b) k=if k=nm then some ((l5 L nm).getD []++b) else l5 L k
 |[]=>by
  unfold gD l5
  by_cases a:k=nm
  ·subst a;rw[if_pos Z,if_pos Z];rfl
  ·rw[if_neg a,if_neg (fun e=>a e.symm)];rfl
 |x::r=>by
  unfold gD
  by_cases a:x.1=nm
  ·rw[if_pos a]
   unfold l5
   dsimp only
   by_cases c:k=nm
   ·subst c;rw[if_pos a,if_pos Z,if_pos a];rfl
   ·rw[if_neg c,if_neg (fun e=>c (by rw[←e,a])),if_neg (fun e=>c (by rw[←e,a]))]
  ·rw[if_neg a]
   unfold l5
   rw[zk,if_neg a]
   by_cases c:k=nm
   ·subst c;rw[if_neg a,if_pos Z,if_pos Z]
   ·rw[if_neg c,if_neg c]
def LX(D:ez):List (List UInt8×List UInt8):=D.fs.map (fun f=>(f.nm,f.b))
structure Vw(D:ez)(L:List (List UInt8×List UInt8)):Prop where
 ok:D.ok
 dead:D.dead=false
 fuse:D.fuse= -1
 sure:∀f∈D.fs,f.sure=f.b.length
 pm:(LX D).Perm L
theorem rO(D:ez):eN (LX D)=D.fs.map (·.nm):=by unfold eN LX;rw[List.map_map];rfl
theorem Vw.keys{D:ez}{L:List (List UInt8×List UInt8)}(v:Vw D L):(D.fs.map (·.nm)).Perm (eN L):=by rw[←rO];exact v.pm.map _
theorem Vw.nd{D:ez}{L:List (List UInt8×List UInt8)}(v:Vw D L):(eN L).Nodup:=v.keys.nodup_iff.1 v.ok.nd
theorem Vw.perm{D:ez}{L L':List (List UInt8×List UInt8)}(v:Vw D L)(h:L.Perm L'):Vw D L':=⟨v.ok,v.dead,v.fuse,v.sure,v.pm.trans h⟩
theorem Fa(nm:List UInt8):∀l:List bZ,(l.find? (fun f=>f.nm==nm)).map (·.b)=l5 (l.map (fun f=>(f.nm,f.b))) nm
 |[]=>rfl
 |f::r=>by
  rw[List.find?_cons,List.map_cons]
  unfold l5
  by_cases h:f.nm=nm
  ·rw[beq_iff_eq.2 h,if_pos h];rfl
  ·rw[beq_eq_false_iff_ne.2 h,if_neg h];exact Fa nm r
theorem Vw.get{D:ez}{L:List (List UInt8×List UInt8)}(v:Vw D L)(nm:List UInt8):(D.get nm).map (·.b)=l5 L nm:=
 (Fa nm D.fs).trans (H7 v.pm (by rw[rO];exact v.ok.nd) nm)
theorem Vw.get_none{D:ez}{L:List (List UInt8×List UInt8)}(v:Vw D L)(nm:List UInt8):D.get nm=none↔l5 L nm=none:=by
 rw[←v.get nm]
 cases D.get nm with
 |none=>exact⟨fun _=>rfl,fun _=>rfl⟩
 |some f=>exact⟨fun h=>(by cases h),fun h=>(by cases h)⟩
theorem xy:∀l:List bZ,fJ l=fq (l.map (fun f=>(f.nm,f.b)))
 |[]=>rfl
 |f::r=>by rw[iX,List.map_cons,dN,xy r]
theorem Vw.used{D:ez}{L:List (List UInt8×List UInt8)}(v:Vw D L):D.used=fq L:=(xy D.fs).trans (uX v.pm)
theorem Vw.len{D:ez}{L:List (List UInt8×List UInt8)}(v:Vw D L):D.fs.length=L.length:=by
 have:=v.pm.length_eq
 unfold LX at this
 rw[List.length_map] at this;exact this
theorem Vw.rd{D:ez}{L:List (List UInt8×List UInt8)}(v:Vw D L)(nm:List UInt8):GP D nm=match l5 L nm with|some b=>(b,0)|none=>([],7):=by
 unfold GP
 rw[if_neg (by rw[v.dead];decide),←v.get nm]
 cases D.get nm<;>rfl
theorem Vw.byt{D:ez}{L:List (List UInt8×List UInt8)}(v:Vw D L)(nm:List UInt8):D.byt nm=(l5 L nm).getD []:=by
 unfold ez.byt
 rw[←v.get nm]
 cases D.get nm<;>rfl
theorem FF{l l':List (List UInt8)}(h:l.Perm l'):jv l=jv l':=by
 have tot:∀a b:List UInt8,(decide (a≤b)||decide (b≤a))=true:=fun a b=>by
  rw[Bool.or_eq_true,decide_eq_true_eq,decide_eq_true_eq];exact List.le_total a b
 have tr:∀a b c:List UInt8,decide (a≤b)=true→decide (b≤c)=true→decide (a≤c)=true:=fun a b c h1 h2=>decide_eq_true (List.le_trans (of_decide_eq_true h1) (of_decide_eq_true h2))
 have h1:=List.pairwise_mergeSort tr tot l
 have h2:=List.pairwise_mergeSort tr tot l'
 have hp:(jv l).Perm (jv l'):=(List.mergeSort_perm ..).trans (h.trans (List.mergeSort_perm ..).symm)
 exact List.Perm.eq_of_pairwise (fun a b _ _ h3 h4=>List.le_antisymm (of_decide_eq_true h3) (of_decide_eq_true h4)) h1 h2 hp
theorem Vw.list{D:ez}{L:List (List UInt8×List UInt8)}(v:Vw D L):gX D=jv (eN L):=by
 unfold gX
 rw[if_neg (by rw[v.dead];decide)]
 exact FF v.keys
theorem Vw.appE{D:ez}{L:List (List UInt8×List UInt8)}(v:Vw D L){nm b:List UInt8}(hn:fg nm=true):appE D nm b=if D.room - (fq L:Int)<b.length∨(l5 L nm=none∧4096≤L.length) then 9 else 0:=by
 unfold Go.Proofs.YtginkbjclkdglaaGreat.appE
 rw[if_neg (by rw[v.dead];decide),if_neg (by rw[hn];decide),v.used,v.len,v.fuse,v.dead]
 have:=v.get_none nm
 simp only[this]
 rfl
theorem Vw.put{D:ez}{L:List (List UInt8×List UInt8)}(v:Vw D L){nm b:List UInt8}(q:Nat)(hn:fg nm=true)(hE:Go.Proofs.YtginkbjclkdglaaGreat.appE D nm b=0):
 Ak (fI D nm b q) nm=0∧Vw (oC (fI D nm b q) nm) (gD L nm b)∧(oC (fI D nm b q) nm).room=D.room:=by
 have hc:¬ (D.dead=true∨fg nm=false∨D.room - (D.used:Int)<b.length∨(D.get nm=none∧4096≤D.fs.length)):=by
  unfold Go.Proofs.YtginkbjclkdglaaGreat.appE at hE
  rintro(h|h|h)
  ·rw[v.dead] at h;cases h
  ·rw[hn] at h;cases h
  ·rw[if_neg (by rw[v.dead];decide),if_neg (by rw[hn];decide),if_pos h] at hE;cases hE
 have hok:=(sq (nm:=nm) (b:=b) (q:=q) v.ok).1
 have hrm:=(sq (nm:=nm) (b:=b) (q:=q) v.ok).2.2.1
 have hA:fI D nm b q=⟨D.room, -1,false,uw D.fs D.clk q nm b,if D.get nm=none then D.clk+1 else D.clk⟩:=by
  unfold fI
  rw[if_neg hc,v.fuse,v.dead];rfl
 have hfs:(fI D nm b q).fs.map (fun f=>(f.nm,f.b))=gD (LX D) nm b∧nm∈(fI D nm b q).fs.map (·.nm)∧∀f∈(fI D nm b q).fs,f.nm≠nm→f.sure=f.b.length:=by
  rw[hA]
  dsimp only
  rcases yH (q:=q) v.ok (.inr v.dead) hc with ⟨hg,hf⟩|⟨s,f,r,hg,hn2,hst,hf⟩
  ·rw[hf]
   have hk:nm∉eN (LX D):=by rw[rO];exact Go.Proofs.YtginkbjclkdglaaGreat.get_none hg
   refine⟨by rw[o8 hk,List.map_append];rfl,by rw[List.map_append];exact List.mem_append_right _ (List.mem_cons_self ..),fun g hgm hne=>?_⟩
   rcases List.mem_append.1 hgm with h|h
   ·exact v.sure g h
   ·rw[List.mem_singleton.1 h] at hne;exact absurd Z hne
  ·rw[hf]
   have hk:nm∉eN (s.map (fun f=>(f.nm,f.b))):=by
    intro hm
    unfold eN at hm
    rw[List.map_map] at hm
    obtain⟨g,hgm,hge⟩:=List.mem_map.1 hm
    exact(A4 hst v.ok.nd).1 g hgm (by rw[hn2];exact hge)
   refine⟨?_,?_,fun g hgm hne=>?_⟩
   ·unfold LX
    rw[hst,List.map_append,List.map_cons,List.map_append,List.map_cons,hn2,AI hk]
   ·rw[List.map_append,List.map_cons,hn2];exact List.mem_append_right _ (List.mem_cons_self ..)
   ·have hall:=v.sure
    rw[hst] at hall
    rcases List.mem_append.1 hgm with h|h
    ·exact hall g (List.mem_append_left _ h)
    rcases List.mem_cons.1 h with h|h
    ·subst h;exact absurd hn2 hne
    ·exact hall g (List.mem_append_right _ (List.mem_cons_of_mem _ h))
 have hAd:(fI D nm b q).dead=false:=by rw[hA]
 have hAf:(fI D nm b q).fuse= -1:=by rw[hA]
 generalize fI D nm b q=A at hok hrm hfs hAd hAf ⊢
 have hgt:¬ (A.dead=false∧A.get nm=none):=fun h=>Go.Proofs.YtginkbjclkdglaaGreat.get_none h.2 hfs.2.1
 have hS:oC A nm=⟨A.room, -1,false,re A.fs nm,A.clk⟩:=by
  unfold oC
  rw[if_neg hgt,hAf,hAd];rfl
 have hmap:∀{β:Type} (g:bZ→β),(∀f:bZ,g ⟨f.nm,f.blk,f.born,f.b,f.b.length⟩=g f)→(re A.fs nm).map g=A.fs.map g:=fun g hg=>by
  unfold re
  rw[List.map_map]
  refine List.map_congr_left (fun f _=>?_)
  show g (if f.nm=nm then _ else f)=g f
  split
  ·exact hg f
  ·rfl
 have hmem:∀g∈re A.fs nm,∃f∈A.fs,g.nm=f.nm∧g.born=f.born∧g.b=f.b∧(f.nm=nm→g.sure=g.b.length)∧(f.nm≠nm→g=f):=fun g hg=>by
  unfold re at hg
  obtain⟨f,hf,rfl⟩:=List.mem_map.1 hg
  refine⟨f,hf,?_⟩
  by_cases h:f.nm=nm
  ·rw[if_pos h];exact⟨rfl,rfl,rfl,fun _=>rfl,fun h2=>absurd h h2⟩
  ·rw[if_neg h];exact⟨rfl,rfl,rfl,fun h2=>absurd h2 h,fun _=>rfl⟩
 have hsure:∀g∈re A.fs nm,g.sure=g.b.length:=fun g hg=>by
  obtain⟨f,hf,_,_,_,h1,h2⟩:=hmem g hg
  by_cases h:f.nm=nm
  ·exact h1 h
  ·rw[h2 h];exact hfs.2.2 f hf h
 refine⟨?_,?_,by rw[hS];exact hrm⟩
 ·unfold Ak
  rw[if_neg hgt,hAf,hAd];rfl
 ·rw[hS]
  refine⟨⟨?_,?_,?_,?_,?_,hok.room⟩,rfl,rfl,hsure,?_⟩
  ·show ((re A.fs nm).map (·.nm)).Nodup
   rw[hmap _ (fun _=>rfl)];exact hok.nd
  ·show ((re A.fs nm).map (·.born)).Nodup
   rw[hmap _ (fun _=>rfl)];exact hok.bn
  ·intro g hg
   obtain⟨f,hf,_,hb,_⟩:=hmem g hg
   rw[hb];exact hok.lt f hf
  ·intro g hg
   obtain⟨f,hf,hb,_⟩:=hmem g hg
   rw[hb];exact hok.nl f hf
  ·intro g hg
   rw[hsure g hg];exact Nat.le_refl _
  ·show ((re A.fs nm).map (fun f=>(f.nm,f.b))).Perm _
   rw[hmap _ (fun _=>rfl),hfs.1]
   exact FX v.pm (by rw[rO];exact v.ok.nd) nm b
theorem Vw.full{D:ez}{L:List (List UInt8×List UInt8)}(v:Vw D L){nm b:List UInt8}(q:Nat)(_hn:fg nm=true)(hE:Go.Proofs.YtginkbjclkdglaaGreat.appE D nm b≠0):fI D nm b q=D:=by
 unfold fI
 by_cases hc:D.dead=true∨fg nm=false∨D.room - (D.used:Int)<b.length∨(D.get nm=none∧4096≤D.fs.length)
 ·rw[if_pos hc]
 ·refine absurd ?_ hE
  unfold Go.Proofs.YtginkbjclkdglaaGreat.appE
  rw[if_neg (fun h=>hc (.inl h)),if_neg (fun h=>hc (.inr (.inl h))),if_neg (fun h=>hc (.inr (.inr h))),v.fuse,v.dead];rfl
theorem LF(r:Int)(hr:r≤1099511627776):Vw (fc r) []:=by
 refine⟨⟨List.nodup_nil,List.nodup_nil,fun _ h=>(by cases h),fun _ h=>(by cases h),fun _ h=>(by cases h),?_⟩,rfl,rfl,fun _ h=>(by cases h),List.Perm.refl _⟩
 unfold fc
 dsimp only
 omega
def fj(l:List (List UInt8)):List UInt8:=(l.map bo).flatten
def de(l:List (Nat×List (List UInt8))):List (List UInt8×List UInt8):=l.map (fun p=>(ci p.1,fj p.2))
def nM:List (Nat×List (List UInt8))→Nat→List UInt8→List (Nat×List (List UInt8))
 |[],now,s=>[(now,[s])]
 |p::r,now,s=>if p.1=now then (p.1,p.2++[s])::r else p::nM r now s
def uY(l:List (Nat×List (List UInt8))):List (List UInt8):=l.flatMap (·.2)
structure Nn(l:List (Nat×List (List UInt8)))(now:Nat):Prop where
 rise:(l.map (·.1)).Pairwise (·<·)
 le:∀p∈l,p.1≤now
 tx:∀p∈l,∀t∈p.2,t.length≤65536
 lim:now<10000000000
theorem pU{n m:Nat}(hn:n<10000000000)(hm:m<10000000000)(h:ci n=ci m):n=m:=by
 have h1:=kM hn
 rw[h,kM hm] at h1
 exact(Option.some.inj h1).symm
theorem y7{now:Nat}(hw:now<10000000000)(s:List UInt8):∀{l:List (Nat×List (List UInt8))},(∀p∈l,p.1<10000000000)→gD (de l) (ci now) (bo s)=de (nM l now s)
 |[],_=>by
  show [(ci now,bo s)]=[(ci now,fj [s])]
  unfold fj;simp
 |p::r,h=>by
  have hp:=h p (List.mem_cons_self ..)
  show gD ((ci p.1,fj p.2)::de r) _ _=_
  unfold gD nM
  by_cases a:p.1=now
  ·rw[if_pos a,if_pos (by rw[a])]
   show (ci p.1,fj p.2++bo s)::de r=(ci p.1,fj (p.2++[s]))::de r
   unfold fj
   rw[List.map_append,List.flatten_append];simp
  ·rw[if_neg a,if_neg (fun e=>a (pU hp hw e)),y7 hw s (fun q hq=>h q (List.mem_cons_of_mem _ hq))];rfl
theorem xV{nm b:List UInt8}{O:List (List UInt8×List UInt8)}(h:nm∉eN O):∀{A:List (List UInt8×List UInt8)},(gD (A++O) nm b).Perm (gD A nm b++O)
 |[]=>by
  show (gD O nm b).Perm ((nm,b)::O)
  rw[o8 h]
  exact List.perm_append_comm
 |x::r=>by
  show (gD (x::(r++O)) nm b).Perm _
  unfold gD
  by_cases a:x.1=nm
  ·rw[if_pos a,if_pos a];exact List.Perm.refl _
  ·rw[if_neg a,if_neg a];exact(xV h).cons x
theorem tI{now:Nat}{s:List UInt8}:∀{l:List (Nat×List (List UInt8))},(nM l now s).map (·.1)=if now∈l.map (·.1) then l.map (·.1) else l.map (·.1)++[now]
 |[]=>rfl
 |p::r=>by
  unfold nM
  by_cases a:p.1=now
  ·rw[if_pos a]
   show p.1::r.map (·.1)=if now∈p.1::r.map (·.1) then p.1::r.map (·.1) else p.1::r.map (·.1)++[now]
   rw[if_pos (List.mem_cons.2 (.inl a.symm))]
  ·rw[if_neg a]
   show p.1::(nM r now s).map (·.1)=if now∈p.1::r.map (·.1) then p.1::r.map (·.1) else p.1::r.map (·.1)++[now]
   rw[tI]
   by_cases c:now∈r.map (·.1)
   ·rw[if_pos c,if_pos (List.mem_cons_of_mem _ c)]
   ·rw[if_neg c,if_neg (fun hm=>(List.mem_cons.1 hm).elim (fun e=>a e.symm) c)];rfl
theorem wQ{now:Nat}{s:List UInt8}:∀{l:List (Nat×List (List UInt8))},∀p∈nM l now s,p∈l∨(p.1=now∧∀t∈p.2,t=s∨∃q∈l,t∈q.2)
 |[],p,h=>by
  rw[List.mem_singleton.1 h]
  exact .inr ⟨rfl,fun t ht=>.inl (List.mem_singleton.1 ht)⟩
 |q::r,p,h=>by
  unfold nM at h
  by_cases a:q.1=now
  ·rw[if_pos a] at h
   rcases List.mem_cons.1 h with h|h
   ·subst h
    refine .inr ⟨a,fun t ht=>?_⟩
    rcases List.mem_append.1 ht with h|h
    ·exact .inr ⟨q,List.mem_cons_self ..,h⟩
    ·exact .inl (List.mem_singleton.1 h)
   ·exact .inl (List.mem_cons_of_mem _ h)
  ·rw[if_neg a] at h
   rcases List.mem_cons.1 h with h|h
   ·subst h;exact .inl (List.mem_cons_self ..)
   ·rcases wQ p h with h|⟨h1,h2⟩
    ·exact .inl (List.mem_cons_of_mem _ h)
    ·exact .inr ⟨h1,fun t ht=>(h2 t ht).imp id (fun ⟨u,hu,hut⟩=>⟨u,List.mem_cons_of_mem _ hu,hut⟩)⟩
theorem Co{now:Nat}{s:List UInt8}:∀{l:List (Nat×List (List UInt8))},(l.map (·.1)).Pairwise (·<·)→(∀p∈l,p.1≤now)→uY (nM l now s)=uY l++[s]
 |[],_,_=>rfl
 |p::r,hr,hl=>by
  rw[List.map_cons] at hr
  have h1:=List.pairwise_cons.1 hr
  unfold nM
  by_cases a:p.1=now
  ·have hnil:r=[]:=by
    cases r with
    |nil=>rfl
    |cons q r=>
     have h2:=h1.1 q.1 (List.mem_cons_self ..)
     have h3:=hl q (List.mem_cons_of_mem _ (List.mem_cons_self ..))
     omega
   subst hnil
   rw[if_pos a]
   unfold uY;simp
  ·rw[if_neg a]
   have ih:=Co (s:=s) h1.2 (fun q hq=>hl q (List.mem_cons_of_mem _ hq))
   unfold uY at ih ⊢
   rw[List.flatMap_cons,ih,List.flatMap_cons,List.append_assoc]
theorem Nn.add{l:List (Nat×List (List UInt8))}{now:Nat}(k:Nn l now){s:List UInt8}(hs:s.length≤65536):Nn (nM l now s) now∧uY (nM l now s)=uY l++[s]:=by
 refine⟨⟨?_,?_,?_,k.lim⟩,Co k.rise k.le⟩
 ·rw[tI]
  by_cases c:now∈l.map (·.1)
  ·rw[if_pos c];exact k.rise
  ·rw[if_neg c]
   refine List.pairwise_append.2 ⟨k.rise,List.pairwise_singleton ..,fun a ha b hb=>?_⟩
   rw[List.mem_singleton.1 hb]
   obtain⟨p,hp,rfl⟩:=List.mem_map.1 ha
   have h1:=k.le p hp
   have h2:p.1≠now:=fun e=>c (by rw[←e];exact List.mem_map.2 ⟨p,hp,rfl⟩)
   show p.1<now
   omega
 ·intro p hp
  rcases wQ p hp with h|⟨h,_⟩
  ·exact k.le p h
  ·omega
 ·intro p hp t ht
  rcases wQ p hp with h|⟨_,h⟩
  ·exact k.tx p h t ht
  ·rcases h t ht with h|⟨q,hq,h⟩
   ·subst h;exact hs
   ·exact k.tx q hq t h
theorem tV:∀(l:List (List UInt8)) (k:Nat),(∀t∈l,t.length≤65536)→l.length<k→(lU k (fj l)).1=l
 |[],k+1,_,_=>by
  unfold lU
  rw[if_neg (by rw[show fj []=[] from rfl,mF (by decide)];decide)]
 |t::r,k+1,h,hk=>by
  have hf:fj (t::r)=bo t++fj r:=by unfold fj;rw[List.map_cons,List.flatten_cons]
  have ho:=lR t (fj r) (h t (List.mem_cons_self ..))
  have hw:=mD t
  have ih:=tV r k (fun u hu=>h u (List.mem_cons_of_mem _ hu)) (by rw[List.length_cons] at hk;omega)
  unfold lU
  rw[hf,ho,if_pos Z]
  have hd:(bo t++fj r).drop (8+t.length)=fj r:=by rw[show 8+t.length=(bo t).length by omega,List.drop_left]
  dsimp only
  rw[hd,ih]
theorem we:∀l:List (List UInt8),l.length≤(fj l).length
 |[]=>Nat.le_refl _
 |t::r=>by
  have hf:fj (t::r)=bo t++fj r:=by unfold fj;rw[List.map_cons,List.flatten_cons]
  have hw:=mD t
  have:=we r
  rw[hf,List.length_append,List.length_cons];omega
theorem Hq(l:List (List UInt8))(h:∀t∈l,t.length≤65536):(vq (fj l)).1=l:=tV l _ h (by have:=we l;omega)
theorem Bg{O:List (List UInt8×List UInt8)}{nm:List UInt8}:∀{A:List (List UInt8×List UInt8)},nm∈eN A→l5 (A++O) nm=l5 A nm
 |[],h=>by cases h
 |x::r,h=>by
  show l5 (x::(r++O)) nm=_
  unfold l5
  by_cases a:x.1=nm
  ·rw[if_pos a,if_pos a]
  ·rw[if_neg a,if_neg a,Bg ((List.mem_cons.1 h).resolve_left (fun e=>a e.symm))]
theorem yd{O:List (List UInt8×List UInt8)}{nm:List UInt8}:∀{A:List (List UInt8×List UInt8)},nm∉eN A→l5 (A++O) nm=l5 O nm
 |[],_=>rfl
 |x::r,h=>by
  show (if x.1=nm then some x.2 else l5 (r++O) nm)=_
  rw[if_neg (fun e=>h (List.mem_cons.2 (.inl e.symm))),yd (fun hm=>h (List.mem_cons_of_mem _ hm))]
theorem H6:∀{l:List (Nat×List (List UInt8))},(l.map (·.1)).Pairwise (·<·)→(∀p∈l,p.1<10000000000)→∀p∈l,l5 (de l) (ci p.1)=some (fj p.2)
 |[],_,_,p,h=>by cases h
 |q::r,hr,hl,p,h=>by
  rw[List.map_cons] at hr
  have h1:=List.pairwise_cons.1 hr
  show l5 ((ci q.1,fj q.2)::de r) _=_
  unfold l5
  rcases List.mem_cons.1 h with h|h
  ·subst h;rw[if_pos Z]
  ·have h2:=h1.1 p.1 (List.mem_map.2 ⟨p,h,rfl⟩)
   rw[if_neg (fun e=>by have:=pU (hl q (List.mem_cons_self ..)) (hl p (List.mem_cons_of_mem _ h)) e;omega)]
   exact H6 h1.2 (fun u hu=>hl u (List.mem_cons_of_mem _ hu)) p h
theorem rP(l:List (Nat×List (List UInt8))):eN (de l)=(l.map (·.1)).map ci:=by
 unfold eN de
 rw[List.map_map,List.map_map];rfl
theorem HN{s t:List UInt8}{n m:Nat}(h:s≤t)(hs:kT s=some n)(ht:kT t=some m):n≤m:=by
 obtain⟨rfl,hn⟩:=vM hs
 obtain⟨rfl,hm⟩:=vM ht
 refine Classical.byContradiction fun hc=>?_
 have h1:=HR (show m<n by omega) hn
 exact absurd h (List.not_le.2 h1)
theorem FI(S:List (List UInt8))(h:S.Pairwise (·≤·)):(jp S).Pairwise (·≤·):=by
 unfold jp
 rw[List.pairwise_filterMap]
 refine h.imp ?_
 intro a b hab n hn m hm
 exact HN hab hn hm
theorem Hj(l:List (List UInt8)):(jv l).Pairwise (·≤·):=by
 have tot:∀a b:List UInt8,(decide (a≤b)||decide (b≤a))=true:=fun a b=>by
  rw[Bool.or_eq_true,decide_eq_true_eq,decide_eq_true_eq];exact List.le_total a b
 have tr:∀a b c:List UInt8,decide (a≤b)=true→decide (b≤c)=true→decide (a≤c)=true:=fun a b c h1 h2=>decide_eq_true (List.le_trans (of_decide_eq_true h1) (of_decide_eq_true h2))
 exact(List.pairwise_mergeSort tr tot l).imp (fun h=>of_decide_eq_true h)
theorem CY{D:ez}{l:List (Nat×List (List UInt8))}{O:List (List UInt8×List UInt8)}(v:Vw D (de l++O))(hr:(l.map (·.1)).Pairwise (·<·))(hl:∀p∈l,p.1<10000000000)(hO:∀k∈eN O,kT k=none):jp (gX D)=l.map (·.1):=by
 rw[v.list]
 have hp:(jp (jv (eN (de l++O)))).Perm (l.map (·.1)):=by
  refine((List.mergeSort_perm ..).filterMap _).trans ?_
  have e:eN (de l++O)=(l.map (·.1)).map ci++eN O:=by rw[←rP];unfold eN;rw[List.map_append]
  rw[e,List.filterMap_append]
  have h1:=xM (l.map (·.1)) (fun n hn=>by obtain⟨p,hp,rfl⟩:=List.mem_map.1 hn;exact hl p hp)
  unfold jp at h1
  have h2:List.filterMap kT (eN O)=[]:=List.filterMap_eq_nil_iff.2 hO
  rw[h1,h2,List.append_nil]
 exact List.Perm.eq_of_pairwise (fun a b _ _ h3 h4=>Nat.le_antisymm h3 h4) (FI _ (Hj _)) (hr.imp Nat.le_of_lt) hp
def w9(fm:Nat)(l:List (Nat×List (List UInt8))):Nat:=l.foldl (fun _ p=>p.1+1) fm
theorem AP(D:ez)(fm:Nat):∀(l:List (Nat×List (List UInt8))) (a:List (List UInt8)) (n:Nat),(∀p∈l,fm≤p.1∧(vq (D.byt (ci p.1))).1=p.2)→
 (l.map (·.1)).foldl (fun a n=>if n<fm then a else (a.1++(vq (D.byt (ci n))).1,n+1)) (a,n)=(a++uY l,w9 n l)
 |[],a,n,_=>by show (a,n)=(a++[],n);rw[List.append_nil]
 |p::r,a,n,h=>by
  obtain⟨h1,h2⟩:=h p (List.mem_cons_self ..)
  rw[List.map_cons,List.foldl_cons,if_neg (by omega),h2,AP D fm r _ _ (fun q hq=>h q (List.mem_cons_of_mem _ hq))]
  unfold uY w9
  rw[List.flatMap_cons,List.append_assoc,List.foldl_cons]
theorem Ly{D:ez}{l:List (Nat×List (List UInt8))}{O:List (List UInt8×List UInt8)}{fm:Nat}(v:Vw D (de l++O))(hr:(l.map (·.1)).Pairwise (·<·))(hl:∀p∈l,p.1<10000000000)(hO:∀k∈eN O,kT k=none)
 (tx:∀p∈l,∀t∈p.2,t.length≤65536)(hf:∀p∈l,fm≤p.1):qd D fm (jp (gX D))=(uY l,w9 fm l):=by
 rw[CY v hr hl hO]
 unfold qd
 rw[AP D fm l [] fm (fun p hp=>⟨hf p hp,?_⟩),List.nil_append]
 have hm:ci p.1∈eN (de l):=by rw[rP];exact List.mem_map.2 ⟨p.1,List.mem_map.2 ⟨p,hp,rfl⟩,rfl⟩
 rw[v.byt,Bg hm,H6 hr hl p hp]
 exact Hq _ (tx p hp)
theorem EX:∀{l:List (Nat×List (List UInt8))} {fm:Nat},(l.map (·.1)).Pairwise (·<·)→(∀p∈l,fm≤p.1)→fm≤w9 fm l∧∀p∈l,p.1<w9 fm l
 |[],fm,_,_=>⟨Nat.le_refl _,fun p h=>(by cases h)⟩
 |q::r,fm,hr,hf=>by
  rw[List.map_cons] at hr
  have h1:=List.pairwise_cons.1 hr
  have ih:=@EX r (q.1+1) h1.2 (fun p hp=>h1.1 p.1 (List.mem_map.2 ⟨p,hp,rfl⟩))
  have hq:=hf q (List.mem_cons_self ..)
  have e:w9 fm (q::r)=w9 (q.1+1) r:=rfl
  rw[e]
  refine⟨by omega,fun p hp=>?_⟩
  rcases List.mem_cons.1 hp with h|h
  ·subst h;omega
  ·exact ih.2 p h
theorem DK(n:Nat):fg (ci n)=true:=by
 unfold fg
 rw[ji]
 have:ci n≠[]:=fun h=>by have:=ji n;rw[h] at this;cases this
 simp[this]
theorem L5{D:ez}{l:List (Nat×List (List UInt8))}{O:List (List UInt8×List UInt8)}{now:Nat}{s:List UInt8}(v:Vw D (de l++O))(hw:now<10000000000)(hl:∀p∈l,p.1<10000000000)(hO:∀k∈eN O,kT k=none)(q:Nat)(hs:s.length≤65536):
 if D.room - (fq (de l++O):Int)<(s.length:Int)+8∨(now∉l.map (·.1)∧4096≤l.length+O.length) then GM D now s q=9∧El D now s q=D
 else GM D now s q=0∧Vw (El D now s q) (de (nM l now s)++O)∧(El D now s q).room=D.room:=by
 have hgn:=DK now
 have hap:=v.appE (nm:=ci now) (b:=bo s) hgn
 have hwl:=mD s
 have hnO:ci now∉eN O:=fun h=>by have h1:=hO _ h;rw[kM hw] at h1;cases h1
 have hlen:(de l++O).length=l.length+O.length:=by rw[List.length_append];unfold de;rw[List.length_map]
 have hnone:l5 (de l++O) (ci now)=none↔now∉l.map (·.1):=by
  rw[ph]
  have e:eN (de l++O)=(l.map (·.1)).map ci++eN O:=by rw[←rP];unfold eN;rw[List.map_append]
  rw[e,List.mem_append]
  refine⟨fun h hm=>h (.inl (List.mem_map.2 ⟨_,hm,rfl⟩)),fun h hm=>?_⟩
  rcases hm with hm|hm
  ·obtain⟨n,hn,he⟩:=List.mem_map.1 hm
   obtain⟨p,hp,rfl⟩:=List.mem_map.1 hn
   exact h (by rw[←pU (hl p hp) hw he];exact hn)
  ·exact hnO hm
 have hcond:(D.room - (fq (de l++O):Int)<((bo s).length:Nat)∨(l5 (de l++O) (ci now)=none∧4096≤(de l++O).length))↔(D.room - (fq (de l++O):Int)<(s.length:Int)+8∨(now∉l.map (·.1)∧4096≤l.length+O.length)):=by
  rw[hnone,hlen,hwl,show ((s.length+8:Nat):Int)=(s.length:Int)+8 by omega]
 by_cases hc:D.room - (fq (de l++O):Int)<(s.length:Int)+8∨(now∉l.map (·.1)∧4096≤l.length+O.length)
 ·rw[if_pos hc]
  rw[if_pos (hcond.2 hc)] at hap
  have hne:appE D (ci now) (bo s)≠0:=by rw[hap];decide
  unfold GM El
  rw[if_neg (by omega),if_pos hne,if_neg (by omega),if_pos hne]
  exact⟨hap,v.full q hgn hne⟩
 ·rw[if_neg hc]
  rw[if_neg (fun h=>hc (hcond.1 h))] at hap
  have hp:=v.put q hgn hap
  unfold GM El
  rw[if_neg (by omega),if_neg (by rw[hap];exact fun h=>h Z),if_neg (by omega),if_neg (by rw[hap];exact fun h=>h Z)]
  refine⟨hp.1,?_,hp.2.2⟩
  refine hp.2.1.perm ?_
  rw[←y7 hw s hl]
  exact xV hnO
end Go.Proofs.YtginkbjclkdglaaGreat
