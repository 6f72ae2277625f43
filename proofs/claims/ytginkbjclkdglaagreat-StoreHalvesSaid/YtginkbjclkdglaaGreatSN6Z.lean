/- What a store tells is what it has (plain). -/
import Derived.Test.YtginkbjclkdglaaGreatSTIZ
import Derived.Test.YtginkbjclkdglaaGreatSTHZ
import Derived.Test.YtginkbjclkdglaaGreatST2Z
import Derived.Test.YtginkbjclkdglaaGreatKFZ
set_option maxHeartbeats 4000000
namespace Go.Proofs.YtginkbjclkdglaaGreat
open Go Go.RowKit Mg
theorem kN{l:List aC}(h:Up l){k:List UInt8}{e:aC}:eS l k=some e↔e∈l∧e.k=k:=by
 refine⟨fun hl=>?_,fun ⟨he,hk⟩=>?_⟩
 ·have hl':List.find? (fun x=>x.k==k) l=some e:=hl
  exact⟨List.mem_of_find?_eq_some hl',eq_of_beq (List.find?_some (p:=fun x:aC=>x.k==k) hl')⟩
 ·obtain⟨i,hi,rfl⟩:=List.getElem_of_mem he
  rw[←hk];exact uK h i hi
theorem gQ{l:List aC}(h:Up l){k:List UInt8}:eS l k=none↔∀e∈l,e.k≠k:=by
 refine⟨fun hl e he hk=>?_,nq⟩
 rw[(kN h).2 ⟨he,hk⟩] at hl;cases hl
theorem ua:∀(ls:List (List aC)),dG ls→∀k,eS (cZ ls) k=ls.findSome? (fun l=>eS l k)
 |[],_,k=>rfl
 |l::ls,h,k=>by
  have hl:Up l:=h l (List.mem_cons_self ..)
  have hr:dG ls:=fun x hx=>h x (List.mem_cons_of_mem _ hx)
  have ih:=ua ls hr k
  have hA:Up (cZ (l::ls)):=fv _
  have hB:Up (cZ ls):=fv _
  rw[List.findSome?_cons]
  cases hk:eS l k with
  |some e=>
   obtain⟨h1,h2⟩:=(kN hl).1 hk
   exact(kN hA).2 ⟨(cj l ls hl e).2 (.inl h1),h2⟩
  |none=>
   have h3:=(gQ hl).1 hk
   show eS (cZ (l::ls)) k=ls.findSome? (fun l=>eS l k)
   rw[←ih]
   cases hq:eS (cZ ls) k with
   |some e=>
    obtain⟨h1,h2⟩:=(kN hB).1 hq
    exact(kN hA).2 ⟨(cj l ls hl e).2 (.inr ⟨h1,fun y hy he=>h3 y hy (by rw[←he,h2])⟩),h2⟩
   |none=>
    have h4:=(gQ hB).1 hq
    refine(gQ hA).2 (fun e he=>?_)
    rcases (cj l ls hl e).1 he with h1|h1
    ·exact h3 e h1
    ·exact h4 e h1.1
theorem Dl(ls:List (List aC))(h:dG ls)(fr to:List UInt8)(e:aC):e∈cZ (ls.map (fun l=>l.filter (bJ fr to)))↔e∈cZ ls∧bJ fr to e=true:=by
 induction ls with
 |nil=>simp[cZ]
 |cons l ls ih=>
  have hl:Up l:=h l (List.mem_cons_self ..)
  have ih:=ih (fun x hx=>h x (List.mem_cons_of_mem _ hx))
  have hf:Up (l.filter (bJ fr to)):=hl.sublist List.filter_sublist
  rw[List.map_cons,cj _ _ hf,cj _ _ hl,ih,List.mem_filter]
  refine⟨fun hh=>?_,fun ⟨hh,hw⟩=>?_⟩
  ·rcases hh with ⟨h1,h2⟩|⟨⟨h1,h2⟩,h3⟩
   ·exact⟨.inl h1,h2⟩
   ·refine⟨.inr ⟨h1,fun y hy he=>?_⟩,h2⟩
    exact h3 y (List.mem_filter.2 ⟨hy,by unfold bJ at h2 ⊢;rw[←he];exact h2⟩) he
  ·rcases hh with h1|⟨h1,h3⟩
   ·exact .inl ⟨h1,hw⟩
   ·exact .inr ⟨⟨h1,hw⟩,fun y hy=>h3 y (List.mem_filter.1 hy).1⟩
theorem cK.sorted{o:eW}{S:ei}{jl:List (Nat×List (List aC))}{m:Option (List UInt8)}{fe:List (Fl×List aC)}(h:cK o S jl m fe):dG (S.mem::fe.map (·.2)):=by
 have:=qh h [] []
 rw[i9] at this
 have e:fe.map (fun p=>p.2.filter (bJ [] []))=fe.map (·.2):=List.map_congr_left (fun p _=>i9 _)
 rw[e] at this
 exact this
theorem vn{o:eW}{S:ei}{jl:List (Nat×List (List aC))}{m:Option (List UInt8)}{fe:List (Fl×List aC)}(h:cK o S jl m fe)(fr to:List UInt8):M2 S fe fr to=(dL S fe).filter (bJ fr to):=by
 have hs:=h.sorted
 have e:S.mem.filter (bJ fr to)::fe.map (fun p=>p.2.filter (bJ fr to))=(S.mem::fe.map (·.2)).map (fun l=>l.filter (bJ fr to)):=by rw[List.map_cons,List.map_map];rfl
 unfold M2 dL
 rw[e]
 have h1:iI ((cU (S.mem::fe.map (·.2)) true).filter (bJ fr to)):=(dx _ _).sublist List.filter_sublist
 refine nW (dx _ _) h1 (fun x=>?_)
 unfold cU
 rw[List.mem_filter,List.mem_filter,List.mem_filter,Dl _ hs]
 exact⟨fun ⟨⟨a,b⟩,c⟩=>⟨⟨a,c⟩,b⟩,fun ⟨⟨a,c⟩,b⟩=>⟨⟨a,b⟩,c⟩⟩
theorem wb{o:eW}{S:ei}{jl:List (Nat×List (List aC))}{m:Option (List UInt8)}{fe:List (Fl×List aC)}(h:cK o S jl m fe)(k:List UInt8):
 ((((eS S.mem k).or (BE fe k)).getD iB).v=((eS (dL S fe) k).getD iB).v)∧(((eS S.mem k).or (BE fe k)).isSome&&!(((eS S.mem k).or (BE fe k)).getD iB).g)=(eS (dL S fe) k).isSome:=by
 have hs:=h.sorted
 have e:(eS S.mem k).or (BE fe k)=eS (cZ (S.mem::fe.map (·.2))) k:=by
  rw[ua _ hs,List.findSome?_cons]
  unfold BE
  rw[List.findSome?_map]
  cases eS S.mem k<;>rfl
 have hA:Up (cZ (S.mem::fe.map (·.2))):=fv _
 have hC:Up (dL S fe):=dx _ _
 have hK:∀x∈cZ (S.mem::fe.map (·.2)),mL x:=fun x hx=>by
  obtain⟨l,hl,hx⟩:=kW _ hs x hx
  rcases List.mem_cons.1 hl with rfl|hl
  ·exact h.memK.2 x hx
  ·obtain⟨p,hp,rfl⟩:=List.mem_map.1 hl
   exact h.ent p hp x hx
 rw[e]
 cases hq:eS (cZ (S.mem::fe.map (·.2))) k with
 |none=>
  have h1:=(gQ hA).1 hq
  have h2:eS (dL S fe) k=none:=(gQ hC).2 (fun x hx=>h1 x (List.mem_filter.1 hx).1)
  rw[h2];exact⟨rfl,rfl⟩
 |some x=>
  obtain⟨h1,h2⟩:=(kN hA).1 hq
  cases hg:x.g with
  |false=>
   have h3:eS (dL S fe) k=some x:=(kN hC).2 ⟨List.mem_filter.2 ⟨h1,by rw[hg];rfl⟩,h2⟩
   rw[h3]
   exact⟨rfl,by show (true&&!x.g)=true;rw[hg];rfl⟩
  |true=>
   have h3:eS (dL S fe) k=none:=(gQ hC).2 (fun y hy hyk=>by
    obtain⟨h4,h5⟩:=List.mem_filter.1 hy
    have h6:=(kN hA).2 ⟨h4,hyk⟩
    rw[hq] at h6
    cases h6
    rw[hg] at h5;cases h5)
   rw[h3]
   exact⟨(hK x h1).2.2.2 hg,by show (true&&!x.g)=false;rw[hg];rfl⟩
def Cv:List (Nat×List (List aC))→Nat→List aC→List (Nat×List (List aC))
 |[],now,s=>[(now,[s])]
 |p::r,now,s=>if p.1=now then (p.1,p.2++[s])::r else p::Cv r now s
theorem uA(now:Nat)(l:List aC):∀jl:List (Nat×List (List aC)),iz (Cv jl now l)=nM (iz jl) now (ey l)
 |[]=>rfl
 |p::r=>by
  have ih:=uA now l r
  unfold Cv
  show _=nM ((p.1,p.2.map ey)::iz r) now (ey l)
  unfold nM
  by_cases a:p.1=now
  ·rw[if_pos a,if_pos a]
   show (p.1,(p.2++[l]).map ey)::iz r=_
   rw[List.map_append];rfl
  ·rw[if_neg a,if_neg a,←ih];rfl
theorem zW{now:Nat}{l:List aC}:∀{jl:List (Nat×List (List aC))},∀p∈Cv jl now l,p∈jl∨(p.1=now∧∀t∈p.2,t=l∨∃q∈jl,t∈q.2)
 |[],p,h=>by
  rw[List.mem_singleton.1 h]
  exact .inr ⟨rfl,fun t ht=>.inl (List.mem_singleton.1 ht)⟩
 |q::r,p,h=>by
  unfold Cv at h
  split at h
  ·next a=>
   rcases List.mem_cons.1 h with rfl|h
   ·refine .inr ⟨a,fun t ht=>?_⟩
    rcases List.mem_append.1 ht with ht|ht
    ·exact .inr ⟨q,List.mem_cons_self ..,ht⟩
    ·exact .inl (List.mem_singleton.1 ht)
   ·exact .inl (List.mem_cons_of_mem _ h)
  ·rcases List.mem_cons.1 h with rfl|h
   ·exact .inl (List.mem_cons_self ..)
   ·rcases zW p h with h|⟨h,k⟩
    ·exact .inl (List.mem_cons_of_mem _ h)
    ·refine .inr ⟨h,fun t ht=>?_⟩
     rcases k t ht with h1|⟨x,hx,h2⟩
     ·exact .inl h1
     ·exact .inr ⟨x,List.mem_cons_of_mem _ hx,h2⟩
theorem Fp{now:Nat}{l:List aC}:∀{jl:List (Nat×List (List aC))},(jl.map (·.1)).Pairwise (·<·)→(∀p∈jl,p.1≤now)→ux (Cv jl now l)=ux jl++l
 |[],_,_=>by show ux [(now,[l])]=[]++l;unfold ux;simp
 |p::r,hr,hl=>by
  rw[List.map_cons] at hr
  have h1:=List.pairwise_cons.1 hr
  unfold Cv
  by_cases a:p.1=now
  ·have hnil:r=[]:=by
    cases r with
    |nil=>rfl
    |cons q r=>
     have h2:=h1.1 q.1 (List.mem_cons_self ..)
     have h3:=hl q (List.mem_cons_of_mem _ (List.mem_cons_self ..))
     omega
   subst hnil
   rw[if_pos a]
   unfold ux;simp
  ·rw[if_neg a]
   have ih:=Fp (now:=now) (l:=l) h1.2 (fun q hq=>hl q (List.mem_cons_of_mem _ hq))
   unfold ux at ih ⊢
   rw[List.flatMap_cons,List.flatMap_cons,ih,List.append_assoc]
theorem JK(a b:List aC):qm (a++b)=b.foldl (fun m x=>ec (d6 x) m) (qm a):=by unfold qm;rw[List.foldl_append]
theorem F2{x:aC}(h:mL x):(rC x).length≤eh x+19:=by
 have h1:=eL x.k (by have:=h.2.1;omega)
 have h2:=eL x.v (by have:=h.2.2.1;omega)
 unfold rC eh
 simp only[List.length_append,List.length_singleton]
 omega
theorem tH{l:List aC}(hl:l.length≤256)(hm:∀e∈l,mL e):(ey l).length≤9+kR l+19*l.length:=by
 have h1:=bz l.length (by omega)
 have:∀l:List aC,(∀e∈l,mL e)→((l.map rC).flatten).length≤kR l+19*l.length:=fun l=>by
  induction l with
  |nil=>intro _;exact Nat.zero_le _
  |cons x r ih=>
   intro hx
   have h2:=ih (fun e he=>hx e (List.mem_cons_of_mem _ he))
   have h3:=F2 (hx x (List.mem_cons_self ..))
   rw[List.map_cons,List.flatten_cons,List.length_append,fD,List.length_cons]
   omega
 have h2:=this l hm
 unfold ey batK
 rw[List.take_length,List.length_append]
 omega
theorem Jq{l:List aC}(hm:∀e∈l,mL e):kR l≤4108*l.length:=by
 induction l with
 |nil=>exact Nat.zero_le _
 |cons x r ih=>
  have h2:=ih (fun e he=>hm e (List.mem_cons_of_mem _ he))
  have h3:=BR (hm x (List.mem_cons_self ..))
  rw[fD,List.length_cons];omega
theorem mj{l:List aC}(hl:l.length≤5)(hk:∀x∈l,mL x):(ey l).length≤65536:=by
 have h1:=tH (by omega) hk
 have h2:=Jq hk
 omega
theorem zw{x:aC}:∀{m:List aC},Up m→ec x m=put m x:=fun {_m} hm=>(yX hm).symm
theorem zu{x:aC}{m:List aC}(hm:Up m):Up (ec x m):=by rw[zw hm];exact nV x m hm
theorem pj{x:aC}{m:List aC}(hm:Up m){e:aC}:e∈ec x m↔e=x∨e∈m∧e.k≠x.k:=by rw[zw hm];exact zh x m e
def Kl(c l:List aC):List aC:=(l.foldl put c).filter (fun e=>!e.g)
theorem IU{o:eW}{S S':ei}{jl:List (Nat×List (List aC))}{m:Option (List UInt8)}{fe:List (Fl×List aC)}(h:cK o S jl m fe){l:List aC}(hk:∀x∈l,mL x)(hm:S'.mem=l.foldl (fun m x=>ec (d6 x) m) S.mem):dL S' fe=Kl (dL S fe) l:=by
 have step:∀(l mem C:List aC),(∀x∈l,mL x)→Up mem→iI C→(cU (mem::fe.map (·.2)) true)=C.filter (fun e=>!e.g)→(cU (l.foldl (fun m x=>ec (d6 x) m) mem::fe.map (·.2)) true)=(l.foldl put C).filter (fun e=>!e.g):=by
  intro l
  induction l with
  |nil=>intro mem C _ _ _ he;exact he
  |cons x r ih=>
   intro mem C hx hu hC he
   have hxk:=hx x (List.mem_cons_self ..)
   refine ih (ec (d6 x) mem) (put C x) (fun y hy=>hx y (List.mem_cons_of_mem _ hy)) ?_ (nV x C hC) ?_
   ·rw[A3 hxk];exact zu hu
   ·rw[A3 hxk]
    have hru:dG (mem::fe.map (·.2)):=fun q hq=>by
     rcases List.mem_cons.1 hq with rfl|hq
     ·exact hu
     ·exact h.sorted q (List.mem_cons_of_mem _ hq)
    refine nW (dx _ _) ((nV x C hC).sublist List.filter_sublist) (fun e=>?_)
    have hi:Up (ec x mem):=zu hu
    have h2:∀z,z∈cZ (mem::fe.map (·.2))∧z.g=false↔z∈C∧z.g=false:=fun z=>by
     have h3:z∈cU (mem::fe.map (·.2)) true↔z∈C.filter (fun e=>!e.g):=by rw[he]
     unfold cU at h3
     rw[List.mem_filter,List.mem_filter] at h3
     simpa using h3
    have h4:=h2 e
    rw[cj _ _ hu] at h4
    unfold cU
    rw[List.mem_filter,List.mem_filter,cj _ _ hi,zh,pj hu]
    have hg:((!true||!e.g)=true)↔e.g=false:=by simp
    have hg2:((!e.g)=true)↔e.g=false:=by simp
    rw[hg,hg2]
    constructor
    ·rintro⟨h5,h6⟩
     refine⟨?_,h6⟩
     rcases h5 with (h5|⟨h5,h7⟩)|⟨h5,h7⟩
     ·exact .inl h5
     ·exact .inr ⟨(h4.1 ⟨.inl h5,h6⟩).1,h7⟩
     ·refine .inr ⟨(h4.1 ⟨.inr ⟨h5,fun y hy=>?_⟩,h6⟩).1,h7 x ((pj hu).2 (.inl Z))⟩
      intro hyk
      by_cases hyx:y.k=x.k
      ·exact h7 x ((pj hu).2 (.inl Z)) (hyk.trans hyx)
      ·exact h7 y ((pj hu).2 (.inr ⟨hy,hyx⟩)) hyk
    ·rintro⟨h5,h6⟩
     refine⟨?_,h6⟩
     rcases h5 with h5|⟨h5,h7⟩
     ·exact .inl (.inl h5)
     ·rcases (h4.2 ⟨h5,h6⟩).1 with h8|⟨h8,h9⟩
      ·exact .inl (.inr ⟨h8,h7⟩)
      ·refine .inr ⟨h8,fun y hy=>?_⟩
       rcases (pj hu).1 hy with rfl|⟨hy,_⟩
       ·exact h7
       ·exact h9 y hy
 have h1:=step l S.mem (dL S fe) hk h.memK.1 (dx _ _) (by
  show cU (S.mem::fe.map (·.2)) true=(cU (S.mem::fe.map (·.2)) true).filter (fun e=>!e.g)
  refine(List.filter_eq_self.2 (fun e he=>?_)).symm
  unfold cU at he
  simpa using (List.mem_filter.1 he).2)
 unfold dL Kl
 rw[hm]
 exact h1
theorem xw(jl:List (Nat×List (List UInt8)))(now:Nat)(s:List UInt8)(hl:∀p∈jl,p.1<10000000000)(hw:now<10000000000):fq (de (nM jl now s))=fq (de jl)+s.length+8:=by
 rw[←y7 hw s hl,sx,mD];omega
theorem GL{now:Nat}{s:List UInt8}:∀{l:List (Nat×List (List UInt8))},(nM l now s).length=if now∈l.map (·.1) then l.length else l.length+1:=fun {l}=>by
 have:=congrArg List.length (tI (now:=now) (s:=s) (l:=l))
 rw[List.length_map] at this
 rw[this]
 split
 ·rw[List.length_map]
 ·rw[List.length_append,List.length_map];rfl
theorem cK.put{o:eW}{S:ei}{jl:List (Nat×List (List aC))}{m:Option (List UInt8)}{fe:List (Fl×List aC)}(h:cK o S jl m fe){l:List aC}(hb:js l=0)(hl:l.length≤5){D':ez}
 (hc:¬ (S.D.room - (fq (de (iz jl)++dR o.blk m fe):Int)<((ey l).length:Int)+8∨(S.now∉(iz jl).map (·.1)∧4096≤(iz jl).length+(dR o.blk m fe).length)))
 (hv:Vw D' (de (nM (iz jl) S.now (ey l))++dR o.blk m fe))(hr:D'.room=S.D.room){mem':List aC}(hm:mem'=l.foldl (fun m x=>ec (d6 x) m) S.mem):
 cK o ⟨D',S.now,mem',(gT mem':Nat),S.st,S.ts,S.c⟩ (Cv jl S.now l) m fe:=by
 have hk:=(kI hb).2
 have hrm:=h.x.room
 have hus:=xw (iz jl) S.now (ey l) h.x.jlt h.x.jo.lim
 have hln:=GL (now:=S.now) (s:=ey l) (l:=iz jl)
 refine⟨⟨?_,?_,h.x.nd,h.x.tok,h.x.tsp,h.x.tsb,h.x.tbn,⟨by show D'.room≤_;rw[hr];exact hrm.1,?_,?_⟩,hr.trans h.x.rm⟩,h.fs,h.chk,h.man,?_,?_,?_,rfl,h.ent,h.lo⟩
 ·show Vw D' (de (iz (Cv jl S.now l))++_)
  rw[uA];exact hv
 ·rw[uA];exact(h.x.jo.add (mj hl hk)).1
 ·show (D'.used:Int)≤D'.room
  rw[hv.used,hr,eH,hus]
  rw[eH] at hc
  omega
 ·show D'.fs.length≤4096
  have h1:=hrm.2.2
  rw[h.x.vw.len,List.length_append] at h1
  rw[hv.len,List.length_append]
  have e:∀q:List (Nat×List (List UInt8)),(de q).length=q.length:=fun q=>by unfold de;rw[List.length_map]
  rw[e] at h1 ⊢
  rw[hln]
  split
  ·exact h1
  ·next hn=>
   have h2:¬ 4096≤(iz jl).length+(dR o.blk m fe).length:=fun g=>hc (.inr ⟨hn,g⟩)
   omega
 ·intro p hp
  rcases zW p hp with h1|⟨h1,_⟩
  ·exact h.jlog p h1
  ·rw[h1];exact h.lo
 ·intro p hp b hb2
  rcases zW p hp with h1|⟨_,h1⟩
  ·exact h.bat p h1 b hb2
  ·rcases h1 b hb2 with rfl|⟨q,hq,h2⟩
   ·exact hb
   ·exact h.bat q hq b h2
 ·show mem'=_
  have hjr:(jl.map (·.1)).Pairwise (·<·):=by
   have:=h.x.jo.rise
   unfold iz at this
   rw[List.map_map] at this
   exact this
  have hjle:∀p∈jl,p.1≤S.now:=fun p hp=>h.x.jo.le (p.1,p.2.map ey) (List.mem_map.2 ⟨p,hp,rfl⟩)
  rw[hm,Fp hjr hjle,JK,←h.mem]
theorem rY:∀(l mem:List aC),(∀x∈l,mL x)→Up mem→(∀x∈mem,mL x)→Up (l.foldl (fun m x=>ec (d6 x) m) mem)∧(∀x∈l.foldl (fun m x=>ec (d6 x) m) mem,mL x)∧(l.foldl (fun m x=>ec (d6 x) m) mem).length≤mem.length+l.length∧kR (l.foldl (fun m x=>ec (d6 x) m) mem)≤kR mem+kR l
 |[],mem,_,hu,hk=>⟨hu,hk,Nat.le_refl _,Nat.le_refl _⟩
 |x::r,mem,hx,hu,hk=>by
  have hxk:=hx x (List.mem_cons_self ..)
  have h1:Up (ec (d6 x) mem):=zu hu
  have h2:∀y∈ec (d6 x) mem,mL y:=fun y hy=>by
   rcases rJ hy with rfl|hy
   ·rw[A3 hxk];exact hxk
   ·exact hk y hy
  have ih:=rY r (ec (d6 x) mem) (fun y hy=>hx y (List.mem_cons_of_mem _ hy)) h1 h2
  have h3:=v6 (x:=d6 x) (l:=mem)
  have h4:kR (ec (d6 x) mem)≤kR mem+eh x:=by
   rw[A3 hxk,zw hu]
   have:=uZ x mem false
   rw[if_neg (by decide)] at this
   exact this
  rw[fD,List.length_cons,List.foldl_cons]
  exact⟨ih.1,ih.2.1,by omega,by omega⟩
set_option maxHeartbeats 16000000
set_option maxRecDepth 100000
structure Cp(o:eW)(S:ei)(jl:List (Nat×List (List aC)))(fe:List (Fl×List aC))(l:List aC)(S':ei)(jl':List (Nat×List (List aC)))(m':Option (List UInt8))(fe':List (Fl×List aC))(e:Int):Prop where
 ok:cK o S' jl' m' fe'
 bad:js l≠0→e=js l∧dL S' fe'=dL S fe
 good:js l=0→(e=0∧dL S' fe'=Kl (dL S fe) l)∨(e=9∧dL S' fe'=dL S fe)
 room:js l=0→(S.D.used:Int)+(ey l).length+8≤S.D.room→S.D.fs.length<4096→e=0
 ne:nE S' fe'≤nE S fe+l.length
 te:tE S' fe'≤tE S fe+kR l
 jb:jB jl'≤jB jl+kR l+19*l.length+18
 nx:S.st.next≤S'.st.next∧S'.st.next≤S.st.next+500
 nw:S'.now≤S.now+500
 jn:jl'.length≤jl.length+1
 kp:S.msz+(kR l:Int)<o.mem→S'.st=S.st∧fe'=fe
theorem Cp.same{o:eW}{S:ei}{jl:List (Nat×List (List aC))}{m:Option (List UInt8)}{fe:List (Fl×List aC)}(h:cK o S jl m fe){l:List aC}{e:Int}(bad:js l≠0→e=js l)(good:js l=0→e=9∨e=0∧l=[])(room:js l=0→(S.D.used:Int)+(ey l).length+8≤S.D.room→S.D.fs.length<4096→e=0):Cp o S jl fe l S jl m fe e:=
 ⟨h,fun hb=>⟨bad hb,rfl⟩,fun hb=>by
   rcases good hb with h1|⟨h1,rfl⟩
   ·exact .inr ⟨h1,rfl⟩
   ·refine .inl ⟨h1,?_⟩
    show _=(dL S fe).filter _
    refine(List.filter_eq_self.2 (fun e he=>?_)).symm
    unfold dL cU at he
    simpa using (List.mem_filter.1 he).2,room,by omega,by omega,by omega,by omega,by omega,by omega,fun _=>⟨rfl,rfl⟩⟩
theorem uR:∀l:List aC,gT l=kR l
 |[]=>rfl
 |x::r=>by rw[fD,gT,uR r];rfl
theorem zX(now:Nat)(l:List aC):∀jl:List (Nat×List (List aC)),(Cv jl now l).length≤jl.length+1
 |[]=>Nat.le_refl _
 |p::r=>by
  have ih:=zX now l r
  unfold Cv
  split
  ·simp
  ·simp only[List.length_cons];omega
theorem H5(q:List (Nat×List (List UInt8))):(de q).length=q.length:=by unfold de;rw[List.length_map]
theorem Cp.put{o:eW}{S:ei}{jl:List (Nat×List (List aC))}{m:Option (List UInt8)}{fe:List (Fl×List aC)}(h:cK o S jl m fe){l:List aC}(hb:js l=0)(hl:l.length≤5){S2:ei}(_h2:cK o S2 (Cv jl S.now l) m fe)(hm2:S2.mem=l.foldl (fun m x=>ec (d6 x) m) S.mem)(hst:S2.st=S.st)(hnow:S2.now=S.now)
 {S4:ei}{jl4:List (Nat×List (List aC))}{m4:Option (List UInt8)}{fe4:List (Fl×List aC)}(hR:mC 500 o S2 (Cv jl S.now l) fe S4 jl4 m4 fe4)(hkp:S.msz+(kR l:Int)<o.mem→S4.st=S.st∧fe4=fe):Cp o S jl fe l S4 jl4 m4 fe4 0:=by
 have hk:=(kI hb).2
 obtain⟨f1,f2,f3,f4⟩:=rY l S.mem hk h.memK.1 h.memK.2
 rw[←hm2] at f3 f4
 have h3:=hR.le.ne
 have h4:=hR.le.te
 have h5:=hR.le.jb
 have h6:=hR.le.nx
 have h7:=hR.le.nw
 rw[hst] at h6
 rw[hnow] at h7
 have h8:jB (Cv jl S.now l)≤jB jl+(ey l).length+9:=by
  have e1:=xw (iz jl) S.now (ey l) h.x.jlt h.x.jo.lim
  have e2:=zX S.now l jl
  unfold jB;rw[uA,e1];omega
 have h9:=tH (by omega) hk
 refine⟨hR.ok,fun h0=>absurd hb h0,fun _=>.inl ⟨rfl,?_⟩,fun _ _ _=>rfl,?_,?_,by omega,h6,h7,by have e2:=zX S.now l jl;have:=hR.le.jn;omega,hkp⟩
 ·rw[hR.co];exact IU h hk hm2
 ·unfold nE at h3 ⊢;omega
 ·unfold tE at h4 ⊢;omega
theorem ju(B:gV)(o:eW)(S:ei)(jl:List (Nat×List (List aC)))(m:Option (List UInt8))(fe:List (Fl×List aC))(h:cK o S jl m fe)(hg:kO o)(l:List aC)(hl:l.length≤5)(hm:∀e∈l,e.k.length≤110∧e.v.length≤4010)(hn:nE S fe+l.length≤250)(hx:S.st.next≤1073730000)(hw:S.now<1073730000):
 aQ Tryz.prog 17 [.ptr 104 B.bs [] 0,.sl 3 (l.map eA)] (dY B o S) (fun r os=>∃S' jl' m' fe' e,Cp o S jl fe l S' jl' m' fe' e∧r= .i .i64 e∧os=dY B o S'):=by
 have k1:=yE l (by omega) (fun e he=>by have:=hm e he;omega)
 have k2:=CM l (by omega) (fun e he=>by have:=hm e he;omega)
 obtain⟨hmu,hmk⟩:=h.memK
 obtain⟨hl1,hl2,hl3⟩:=h.lens (by omega)
 have hrm:=h.x.room
 by_cases hb:js l=0
 rotate_left
 ·refine aA ab [(100,.var B.bd (cO B.bm S.D)),(101,.obj B.bm (cV S.D.es S.D.clk)),(102,bL (S.D.fs.map bZ.O)),(103,eC B.bd B.bj S.now),(104,.var B.bs (dm B o S.mem S.msz S.st)),(105,io B.bt S.ts S.c)] Tryz.func17 Z Tryz.ntmps17 aN Z Z (fun C=>?_) Z
  have hS:∃S' jl' m' fe' e,Cp o S jl fe l S' jl' m' fe' e∧AV.i .i64 (js l)= .i .i64 e∧dY B o S=dY B o S':=⟨S,jl,m,fe,js l,Cp.same h (fun _=>rfl) (fun h0=>absurd h0 hb) (fun h0=>absurd h0 hb),rfl,rfl⟩
  generalize js l=b at k1 hb hS
  repeat' (first|refine ae ?_|refine aa ?_|refine ac (ax ?_)|refine ap (bC ?_)|refine aU ab (fun _=>?_)|(refine bF Z (fun hc=>?_) (fun hc=>?_))<;>try omega|refine au Z (k1) ⟨aP,J⟩ Z ?_)
  all_goals
   exact aH [] [(100,_),(101,_),(102,_),(103,_),(104,_),(105,_)] (.i .i64 b) Z (bX (am Z) Z) (az 100 Z (az 101 Z (az 102 Z (az 103 Z (az 104 Z (az 105 Z .nil)))))) hS
 rw[hb] at k1
 have hk:=(kI hb).2
 rw[if_neg (by have:=mj hl hk;omega),if_neg (by have:=mj hl hk;omega)] at k2
 have hbl:=mj hl hk
 by_cases hle:l=[]
 ·subst hle
  refine aA ab [(100,.var B.bd (cO B.bm S.D)),(101,.obj B.bm (cV S.D.es S.D.clk)),(102,bL (S.D.fs.map bZ.O)),(103,eC B.bd B.bj S.now),(104,.var B.bs (dm B o S.mem S.msz S.st)),(105,io B.bt S.ts S.c)] Tryz.func17 Z Tryz.ntmps17 aN Z Z (fun C=>?_) Z
  repeat' (first|refine ae ?_|refine aa ?_|refine ac (ax ?_)|refine ah (ax ?_)|refine ap (bC ?_)|refine br Z ab Z Z Z (fun _=>?_)|refine aU ab (fun _=>?_)|refine aR Z ?_|refine aB Z ?_|refine au Z (k1) ⟨aP,J⟩ Z ?_)
  all_goals
   exact aH [] [(100,_),(101,_),(102,_),(103,_),(104,_),(105,_)] (.i .i64 0) Z (bX (am Z) Z) (az 100 Z (az 101 Z (az 102 Z (az 103 Z (az 104 Z (az 105 Z .nil)))))) ⟨S,jl,m,fe,0,Cp.same h (fun h0=>absurd hb h0) (fun _=>.inr ⟨rfl,rfl⟩) (fun _ _ _=>rfl),rfl,rfl⟩
 have hl0:0<l.length:=List.length_pos_iff.2 hle
 have kj:=Gm B.bd B.bm B.bj S.D S.now (ey l) h.x.vw.ok (by omega) (by rw[h.x.vw.fuse];decide) (by omega) (by omega)
 have hav:=fun q=>L5 h.x.vw h.x.jo.lim h.x.jlt (uI o.blk m fe) q hbl
 by_cases hc0:S.D.room - (fq (de (iz jl)++dR o.blk m fe):Int)<((ey l).length:Int)+8∨(S.now∉(iz jl).map (·.1)∧4096≤(iz jl).length+(dR o.blk m fe).length)
 ·have kj1:aQ Tryz.prog 44 [.ptr 3 B.bj [] 0,.s (ey l)] (dk B.bd B.bm S.D++[eC B.bd B.bj S.now]) (fun v os=>v= .i .i64 9∧os=dk B.bd B.bm S.D++[eC B.bd B.bj S.now]):=kj.mono (by
   rintro v os ⟨q,rfl,rfl⟩
   have:=hav q
   rw[if_pos hc0] at this
   exact⟨by rw[this.1],by rw[this.2]⟩)
  refine aA ab [(100,.var B.bd (cO B.bm S.D)),(101,.obj B.bm (cV S.D.es S.D.clk)),(102,bL (S.D.fs.map bZ.O)),(103,eC B.bd B.bj S.now),(104,.var B.bs (dm B o S.mem S.msz S.st)),(105,io B.bt S.ts S.c)] Tryz.func17 Z Tryz.ntmps17 aN Z Z (fun C=>?_) Z
  repeat' (first|refine ae ?_|refine aa ?_|refine ac (ax ?_)|refine ah (ax ?_)|refine ap (bC ?_)|refine br Z ab Z Z Z (fun _=>?_)|refine aU ab (fun _=>?_)|refine aR Z ?_|refine aB Z ?_|(refine ao Z (fun hc=>?_) (fun hc=>?_))<;>try omega|refine bk [] [100,101,102,103] [100,101,102,103] Z kj1 ⟨af,aP,J⟩ Z dD Z Z ?_|refine au Z (k1) ⟨aP,J⟩ Z ?_|refine au Z (k2) ⟨aP,J⟩ Z ?_)
  all_goals
   exact aH [] [(100,_),(101,_),(102,_),(103,_),(104,_),(105,_)] (.i .i64 9) Z (bX (am Z) Z) (az 100 Z (az 101 Z (az 102 Z (az 103 Z (az 104 Z (az 105 Z .nil)))))) ⟨S,jl,m,fe,9,Cp.same h (fun h0=>absurd hb h0) (fun _=>.inl Z) (fun _ h1 h2=>by rw[h.x.vw.used] at h1;rw[h.x.vw.len,List.length_append,H5] at h2;exfalso;omega),rfl,rfl⟩
 have kj2:aQ Tryz.prog 44 [.ptr 3 B.bj [] 0,.s (ey l)] (dk B.bd B.bm S.D++[eC B.bd B.bj S.now]) (fun v os=>∃D',(Vw D' (de (nM (iz jl) S.now (ey l))++dR o.blk m fe)∧D'.room=S.D.room)∧v= .i .i64 0∧os=dk B.bd B.bm D'++[eC B.bd B.bj S.now]):=kj.mono (by
  rintro v os ⟨q,rfl,rfl⟩
  have:=hav q
  rw[if_neg hc0] at this
  exact⟨_,this.2,by rw[this.1],rfl⟩)
 refine aA ab [(100,.var B.bd (cO B.bm S.D)),(101,.obj B.bm (cV S.D.es S.D.clk)),(102,bL (S.D.fs.map bZ.O)),(103,eC B.bd B.bj S.now),(104,.var B.bs (dm B o S.mem S.msz S.st)),(105,io B.bt S.ts S.c)] Tryz.func17 Z Tryz.ntmps17 aN Z Z (fun C=>?_) Z
 repeat' (first|refine ae ?_|refine aj ?_|refine aa ?_|refine ac (ax ?_)|refine ah (ax ?_)|refine br Z ab Z Z Z (fun _=>?_)|refine aU ab (fun _=>?_)|refine aB Z ?_|(refine ao Z (fun hc=>?_) (fun hc=>?_))<;>try omega|(refine bx [] [100,101,102,103] [100,101,102,103] Z kj2 ⟨af,aP,J⟩ Z dD Z Z ?_;rintro _ _ ⟨D',⟨hv',hr'⟩,rfl,rfl⟩;refine⟨_,rfl,rfl,?_⟩)|refine au Z (k1) ⟨aP,J⟩ Z ?_|refine au Z (k2) ⟨aP,J⟩ Z ?_)
 refine aO (fun k:Nat=>⟨74,[(41,.i .i64 k),(40,.i .i64 l.length),(39,.sl 3 (l.map eA)),(0,.ptr 104 B.bs [] 0)],[(100,.var B.bd (cO B.bm D')),(101,.obj B.bm (cV D'.es D'.clk)),(102,bL (D'.fs.map bZ.O)),(103,eC B.bd B.bj S.now),(104,.var B.bs (dm B o ((l.take k).foldl (fun m x=>ec (d6 x) m) S.mem) (gT ((l.take k).foldl (fun m x=>ec (d6 x) m) S.mem):Nat) S.st)),(105,io B.bt S.ts S.c)]⟩) (fun k=>k≤l.length) (fun k=>l.length - k) [] 0 (Nat.zero_le _) ?_ ?_
 ·exact⟨rfl,⟨ai Z,ai (by simp),ay Z,af,J⟩,az 100 Z (az 101 Z (az 102 Z (az 103 Z (cr.cons 104 Z (bW (am (by rw[h.msz];rfl))) (az 105 Z .nil)))))⟩
 rintro k hk0
 by_cases hlt:k<l.length
 ·obtain⟨f1,f2,f3,_⟩:=rY (l.take k) S.mem (fun x hx2=>hk x (List.mem_of_mem_take hx2)) hmu hmk
  have hsm:ND ((l.take k).foldl (fun m x=>ec (d6 x) m) S.mem):=fun x hx2=>by have:=(f2 x hx2).sz;unfold small;omega
  have hx3:small (d6 l[k]):=Hm (by have:=hm l[k] (List.getElem_mem hlt);unfold small;omega)
  have hlk:((l.take k).foldl (fun m x=>ec (d6 x) m) S.mem).length≤300:=by rw[List.length_take] at f3;omega
  have hsp:=xG B o S.st ((l.take k).foldl (fun m x=>ec (d6 x) m) S.mem) (gT ((l.take k).foldl (fun m x=>ec (d6 x) m) S.mem):Nat) l[k] (by omega) f1
  rw[A6 f1 hlk hsm hx3] at hsp
  have hnx:ec (d6 l[k]) ((l.take k).foldl (fun m x=>ec (d6 x) m) S.mem)=(l.take (k+1)).foldl (fun m x=>ec (d6 x) m) S.mem:=by rw[List.take_succ_eq_append_getElem hlt,List.foldl_append];rfl
  rw[hnx] at hsp
  generalize (l.take k).foldl (fun m x=>ec (d6 x) m) S.mem=mk at hsp ⊢
  repeat' (first|refine ae ?_|refine aj ?_|refine aa ?_|refine ac (ax ?_)|refine ac (db ?_)|refine ah (ax ?_)|(refine bc Z Z Z Z ?_ ?_;omega)|refine aU ab (fun _=>?_)|refine aF (d:=10) Z ab Z Z Z (fun b10=>?_)|refine aD ab Z Z Z Z Z Z Z ⟨rfl,rfl⟩ Z Z Z Z Z ?_|(refine aK Z ab Z Z Z Z Z Z ?_ (aE ?_) ?_;omega;omega)|(refine ao Z (fun hc=>?_) (fun hc=>?_))<;>try omega|refine cg 15 [104] [48] [] [0,1,2,3,4] aN aN aN Z Z Z ?_|refine bk [] [104] [104] Z hsp ⟨af,aP,J⟩ Z dD Z Z ?_)
  all_goals exact⟨k+1,[],hlt,by show l.length - (k+1)<l.length - k;omega,rfl,⟨ai (by show (k:Int)+1=((k+1:Nat):Int);omega),ai Z,ay Z,af,J⟩,az 100 Z (az 101 Z (az 102 Z (az 103 Z (az 104 Z (az 105 Z .nil)))))⟩
 ·rw[List.take_of_length_le (by omega)]
  have h2:=h.put hb hl hc0 hv' hr' Z
  have hwp:=fun S4 jl4 m4 fe4=>Cp.put (S4:=S4) (jl4:=jl4) (m4:=m4) (fe4:=fe4) h hb hl h2 Z Z Z
  obtain⟨f1,f2,f3,f4⟩:=rY l S.mem hk hmu hmk
  have hne2:nE ⟨D',S.now,l.foldl (fun m x=>ec (d6 x) m) S.mem,(gT (l.foldl (fun m x=>ec (d6 x) m) S.mem):Nat),S.st,S.ts,S.c⟩ fe≤250:=by
   unfold nE at hn ⊢
   dsimp only
   omega
  have hcs:=h.msz
  rw[uR] at hcs
  have hcf:=uR (l.foldl (fun m x=>ec (d6 x) m) S.mem)
  generalize l.foldl (fun m x=>ec (d6 x) m) S.mem=mf at hcf h2 hwp f1 f2 f3 f4 hne2 ⊢
  have kz:=CO B o S.st mf (gT mf:Nat)
  have kf:=jE B o _ _ m fe h2 hg hne2 (by dsimp only;omega) (by dsimp only;omega)
  have kst:=fun S3 jl3 m3 fe3 (hR:mC 250 o ⟨D',S.now,mf,(gT mf:Nat),S.st,S.ts,S.c⟩ (Cv jl S.now l) fe S3 jl3 m3 fe3)=>oT B o S3 jl3 m3 fe3 hR.ok hg (Nat.le_trans hR.le.ne hne2) (by have:=hR.le.nx;dsimp only at this;omega) (by have:=hR.le.nw;dsimp only at this;omega)
  repeat' (first|refine ae ?_|refine aa ?_|refine ac (ax ?_)|refine ah (ax ?_)|refine aw (ax ?_)|refine ap (bC ?_)|refine aU ab (fun _=>?_)|refine aB Z ?_|(refine ao Z (fun hc=>?_) (fun hc=>?_))<;>try omega|(refine ac ?_;show gO _ _ _ _ _ _ _ _ _ _)|refine kv 17 [104] [59] [] aN aN (n:=10) (listed:=[O9,O9,O9,O9,O9,O9,O9,O9,O9,O9].toArray) Z aN ?_|refine dh (n:=10) (listed:=[O9,O9,O9,O9,O9,O9,O9,O9,O9,O9].toArray) [0,1,2,4,5,6,7] 3 [O8,O8,O8,O9,O8,O8,O8,O8,O9,O9] aN Z Z Z aN ?_|refine lO (n:=3) (listed:=[O8,O8,O8,O9,O8,O8,O8,O8,O9,O9].toArray) 3 8 [O8,O8,O8,O8,O8,O8,O8,O8,O9,O9] [O8,O8,O8,O9,O8,O8,O8,O8,O8,O9] Z aN Z Z aN aN ?_ ?_|refine dh (n:=2) (listed:=[O8,O8,O8,O8,O8,O8,O8,O8,O9,O9].toArray) [8,9] 0 [O8,O8,O8,O8,O8,O8,O8,O8,O8,O8] aN Z Z Z aN ?_|refine na (n:=0) (listed:=[O8,O8,O8,O8,O8,O8,O8,O8,O8,O8].toArray) aN ?_|refine dh (n:=2) (listed:=[O8,O8,O8,O9,O8,O8,O8,O8,O8,O9].toArray) [3,9] 0 [O8,O8,O8,O8,O8,O8,O8,O8,O8,O8] aN Z Z Z aN ?_|refine bk [] [104] [104] Z kz ⟨af,J⟩ Z dD Z Z ?_|(refine bx [] [100,101,102,103,104,105] [100,101,102,103,104,105] Z kf ⟨af,J⟩ Z dD Z Z ?_;rintro _ _ ⟨S3,jl3,m3,fe3,e3,rfl|rfl,hm3,hR3,rfl,rfl⟩<;>refine⟨_,rfl,rfl,?_⟩)|(refine bx [] [100,101,102,103,104,105] [100,101,102,103,104,105] Z (kst _ _ _ _ hR3) ⟨af,J⟩ Z dD Z Z ?_;rintro _ _ ⟨S4,jl4,m4,fe4,e4,b4,rfl|rfl,hR4,rfl,rfl⟩<;>refine⟨_,rfl,rfl,?_⟩))
  all_goals
   first
    |refine cS [] [(100,_),(101,_),(102,_),(103,_),(104,_),(105,_)] (.i .i64 0) Z ?_ ?_ (bX (am Z) Z) (az 100 Z (az 101 Z (az 102 Z (az 103 Z (az 104 Z (az 105 Z .nil)))))) ⟨_,Cv jl S.now l,m,fe,0,hwp _ _ _ _ ((mC.refl h2).weak (by decide)) (fun _=>⟨rfl,rfl⟩),rfl,rfl⟩ _ (.inl Z)
    |refine cS [] [(100,_),(101,_),(102,_),(103,_),(104,_),(105,_)] (.i .i64 0) Z ?_ ?_ (bX (am Z) Z) (az 100 Z (az 101 Z (az 102 Z (az 103 Z (az 104 Z (az 105 Z .nil)))))) ⟨S4,jl4,m4,fe4,0,hwp _ _ _ _ (hR3.trans hR4) (fun hk2=>by exfalso;omega),rfl,rfl⟩ _ (.inl Z)
   ·exact eo
   ·exact⟨trivial,trivial⟩
end Go.Proofs.YtginkbjclkdglaaGreat
