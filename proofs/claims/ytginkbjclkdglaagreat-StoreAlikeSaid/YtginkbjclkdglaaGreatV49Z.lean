/- Maps from numbers to things that are only read. No program in sight. -/
import Derived.Test.YtginkbjclkdglaaGreatV44Z
import Derived.Test.YtginkbjclkdglaaGreatB2Z
import Derived.Test.YtginkbjclkdglaaGreatV13Z
namespace Go.Proofs.YtginkbjclkdglaaGreat
open Go Go.RowKit
def oI:List (Int×AV×Nat)→List Value→List MapEntry
 |t::r,u::us=>⟨vI t.1,u,t.2.2⟩::oI r us
 |_,_=>[]
def qD(w:World)(F:Nat→Prop):List (Int×AV×Nat)→List Value→Prop
 |[],us=>us=[]
 |t::r,us=>∃u us',us=u::us'∧cL w F t.2.1 u∧qD w F r us'
theorem sP{w w':World}{F F':Nat→Prop}(hF:∀b,F b→F' b)(hw:∀b,F b→w'.heap[b]?=w.heap[b]?):∀(ts:List (Int×AV×Nat)) (us:List Value),qD w F ts us→qD w' F' ts us
 |[],_,h=>h
 |t::r,us,h=>by
  obtain⟨u,us',h1,h2,h3⟩:=h
  exact⟨u,us',h1,fN hF hw _ _ h2,sP hF hw r us' h3⟩
def M0(b:Nat)(ts:List (Int×AV×Nat))(c:Nat):GX [b] where
 P w F:=∃us,qD w F ts us∧w.heap[b]?=some (.map (oI ts us).toArray c)
 mono:=fun hF hw hb h=>by
  obtain⟨us,h1,h2⟩:=h
  exact⟨us,sP hF hw _ _ h1,(hb _ (List.mem_singleton.2 Z)).trans h2⟩
def io(b:Nat)(ts:List (Int×AV×Nat))(c:Nat):HO:=.grp [b] (M0 b ts c)
theorem nf{w:World}{F:Nat→Prop}:∀(a b:List (Int×AV×Nat)) (us:List Value),qD w F (a++b) us↔∃u1 u2,us=u1++u2∧qD w F a u1∧qD w F b u2
 |[],b,us=>⟨fun h=>⟨[],us,rfl,rfl,h⟩,fun ⟨u1,u2,h,h1,h2⟩=>by
    have h1:u1=[]:=h1
    subst h1;subst h;exact h2⟩
 |t::a,b,us=>by
  constructor
  ·rintro⟨u,us',rfl,h2,h3⟩
   obtain⟨u1,u2,rfl,h4,h5⟩:=(nf a b us').1 h3
   exact⟨u::u1,u2,rfl,⟨u,u1,rfl,h2,h4⟩,h5⟩
  ·rintro⟨u1,u2,rfl,⟨u,u1',rfl,h2,h4⟩,h5⟩
   exact⟨u,u1'++u2,rfl,h2,(nf a b _).2 ⟨u1',u2,rfl,h4,h5⟩⟩
theorem rt{w:World}{F:Nat→Prop}:∀{a:List (Int×AV×Nat)} {us:List Value},qD w F a us→us.length=a.length
 |[],us,h=>by
  have h:us=[]:=h
  subst h;rfl
 |t::a,us,h=>by
  obtain⟨u,us',rfl,_,h3⟩:=h
  rw[List.length_cons,List.length_cons,rt h3]
theorem uC:∀(a b:List (Int×AV×Nat)) (u1 u2:List Value),u1.length=a.length→oI (a++b) (u1++u2)=oI a u1++oI b u2
 |[],b,u1,u2,h=>by
  have:u1=[]:=List.length_eq_zero_iff.1 h
  subst this;rfl
 |t::a,b,[],u2,h=>by cases h
 |t::a,b,u::u1,u2,h=>by
  show _::oI (a++b) (u1++u2)=_::(oI a u1++oI b u2)
  rw[uC a b u1 u2 (by simpa using h)]
theorem uB:∀{a:List (Int×AV×Nat)} {us:List Value} {w:World} {F:Nat→Prop},qD w F a us→∀x∈oI a us,∃t∈a,∃u,x=⟨vI t.1,u,t.2.2⟩∧cL w F t.2.1 u
 |[],us,w,F,h,x,hx=>by cases hx
 |t::a,us,w,F,h,x,hx=>by
  obtain⟨u,us',rfl,h2,h3⟩:=h
  rcases List.mem_cons.1 hx with rfl|hx
  ·exact⟨t,List.mem_cons_self ..,u,rfl,h2⟩
  ·obtain⟨t',ht,r⟩:=uB h3 x hx
   exact⟨t',List.mem_cons_of_mem _ ht,r⟩
theorem zg:∀{a:List (Int×AV×Nat)} {us:List Value} {w:World} {F:Nat→Prop},qD w F a us→∀t∈a,∃u,(⟨vI t.1,u,t.2.2⟩:MapEntry)∈oI a us
 |t::a,us,w,F,h,x,hx=>by
  obtain⟨u,us',rfl,h2,h3⟩:=h
  rcases List.mem_cons.1 hx with rfl|hx
  ·exact⟨u,List.mem_cons_self ..⟩
  ·obtain⟨v,hv⟩:=zg h3 x hx
   exact⟨v,List.mem_cons_of_mem _ hv⟩
theorem Aa:∀{a:List (Int×AV×Nat)} {us:List Value},us.length=a.length→(oI a us).map (·.born)=a.map (·.2.2)
 |[],[],_=>rfl
 |t::a,u::us,h=>by
  show _::(oI a us).map _=_
  rw[Aa (by simpa using h)];rfl
theorem oo{k:Int}:∀{a:List (Int×AV×Nat)} {us:List Value} (i:Nat),(∀t∈a,t.1≠k)→Instr.findNow (.int .i64) (vI k) (oI a us) i=some none
 |[],us,i,_=>by cases us<;>rfl
 |t::a,[],i,_=>rfl
 |t::a,u::us,i,h=>by
  show (match Instr.sameNow (.int .i64) (vI k) (vI t.1) with|some true=>some (some (i,u))|some false=>Instr.findNow (.int .i64) (vI k) (oI a us) (i+1)|none=>none)=_
  rw[pi.now,beq_eq_false_iff_ne.2 (fun e=>h t (List.mem_cons_self ..) e.symm)]
  exact oo (i+1) (fun x hx=>h x (List.mem_cons_of_mem _ hx))
theorem pu{k:Int}{t:Int×AV×Nat}{r:List (Int×AV×Nat)}{u:Value}{u2:List Value}(ht:t.1=k):∀{s:List (Int×AV×Nat)} {u1:List Value} (i:Nat),u1.length=s.length→(∀t∈s,t.1≠k)→Instr.findNow (.int .i64) (vI k) (oI (s++t::r) (u1++u::u2)) i=some (some (i+s.length,u))
 |[],[],i,_,_=>by
  show (match Instr.sameNow (.int .i64) (vI k) (vI t.1) with|some true=>some (some (i,u))|some false=>_|none=>none)=_
  rw[pi.now,ht,beq_self_eq_true];rfl
 |x::s,y::u1,i,hl,h=>by
  show (match Instr.sameNow (.int .i64) (vI k) (vI x.1) with|some true=>some (some (i,y))|some false=>Instr.findNow (.int .i64) (vI k) (oI (s++t::r) (u1++u::u2)) (i+1)|none=>none)=_
  rw[pi.now,beq_eq_false_iff_ne.2 (fun e=>h x (List.mem_cons_self ..) e.symm)]
  show Instr.findNow _ _ _ (i+1)=_
  rw[pu ht (i+1) (by simpa using hl) (fun z hz=>h z (List.mem_cons_of_mem _ hz)),List.length_cons]
  congr 3;omega
def getT(k:Int)(ts:List (Int×AV×Nat)):Option AV:=(ts.find? (fun t=>t.1==k)).map (·.2.1)
def qE(k:Int)(ts:List (Int×AV×Nat)):List (Int×AV×Nat):=ts.filter (fun t=>t.1!=k)
theorem yT{k:Int}:∀{ts:List (Int×AV×Nat)},(∀t∈ts,t.1≠k)∨∃s t r,ts=s++t::r∧t.1=k∧∀x∈s,x.1≠k
 |[]=>.inl (fun t h=>by cases h)
 |t::r=>by
  by_cases h:t.1=k
  ·exact .inr ⟨[],t,r,rfl,h,fun x hx=>(by cases hx)⟩
  ·rcases @yT k r with h1|⟨s,t',r',rfl,h1,h2⟩
   ·exact .inl (fun x hx=>(List.mem_cons.1 hx).elim (fun e=>e▸h) (h1 x))
   ·exact .inr ⟨t::s,t',r',rfl,h1,fun x hx=>(List.mem_cons.1 hx).elim (fun e=>e▸h) (h2 x)⟩
theorem tv{k:Int}{ts:List (Int×AV×Nat)}(h:∀t∈ts,t.1≠k):getT k ts=none:=by
 unfold getT
 rw[List.find?_eq_none.2 (fun x hx=>by simpa using h x hx)];rfl
theorem BG{k:Int}{s r:List (Int×AV×Nat)}{t:Int×AV×Nat}(ht:t.1=k)(h:∀x∈s,x.1≠k):getT k (s++t::r)=some t.2.1:=by
 unfold getT
 rw[List.find?_append,List.find?_eq_none.2 (fun x hx=>by simpa using h x hx),List.find?_cons,beq_iff_eq.2 ht];rfl
section
variable {P:Program} {w:World} {F:Nat→Prop} {b c:Nat} {t kt et:TypeId} {ts:List (Int×AV×Nat)}
theorem pZ(k:Int){us:List Value}(hkt:P.underlying kt=some (.int .i64)){o:Option (Nat×Value)}(h:Instr.findNow (.int .i64) (vI k) (oI ts us) 0=some o):(Instr.findKey kt (vI k) (oI ts us).toArray.toList).run P w= .ok o w:=by
 unfold Instr.findKey
 simp only[Sem.run_bind,run_underlying hkt,Result.andThen_ok]
 rw[h]
 rfl
theorem H0(k:Int){x:AV}(hX:(M0 b ts c).P w F)(hg:getT k ts=some x)(ht:P.underlying t=some (.map kt et))(hkt:P.underlying kt=some (.int .i64)):∃u,cL w F x u∧(Instr.lookup t (.map (some b)) (vI k) false).run P w= .ok u w:=by
 obtain⟨us,h1,hb⟩:=hX
 have hck:∀e,(Instr.checkKey e 10000 kt (vI k)).run P w= .ok () w:=fun e=>pi.plain P w e kt k hkt
 rcases @yT k ts with hn|⟨s,q,r,rfl,hq,hs⟩
 ·rw[tv hn] at hg;cases hg
 rw[BG hq hs] at hg
 cases hg
 obtain⟨u1,u2,rfl,h2,h3⟩:=(nf _ _ _).1 h1
 obtain⟨u,u2,rfl,h4,h5⟩:=h3
 refine⟨u,h4,?_⟩
 have hf:=pu (r:=r) (u:=u) (u2:=u2) hq 0 (rt h2) hs
 unfold Instr.lookup
 simp only[Sem.run_bind,run_underlying ht,Result.andThen_ok,Sem.run_pure,gI w hb,hck,pZ k hkt hf]
 rfl
theorem GZ(k:Int){x:AV}{u:Value}(hX:(M0 b ts c).P w F)(hu:cL w F x u)(hn:getT k ts=none)(ht:P.underlying t=some (.map kt et))(hkt:P.underlying kt=some (.int .i64)):
 ∃us,qD w F (ts++[(k,x,c)]) us∧(Instr.mapUpdate t (.map (some b)) (vI k) u).run P w= .ok () (iE w b (.map (oI (ts++[(k,x,c)]) us).toArray (c+1))):=by
 obtain⟨us,h1,hb⟩:=hX
 have hck:∀e,(Instr.checkKey e 10000 kt (vI k)).run P w= .ok () w:=fun e=>pi.plain P w e kt k hkt
 have ha:∀t∈ts,t.1≠k:=by
  rcases @yT k ts with hn2|⟨s,q,r,rfl,hq,hs⟩
  ·exact hn2
  ·rw[BG hq hs] at hn;cases hn
 refine⟨us++[u],(nf _ _ _).2 ⟨us,[u],rfl,h1,u,[],rfl,hu,rfl⟩,?_⟩
 have hf:=oo (us:=us) 0 ha
 unfold Instr.mapUpdate
 simp only[Sem.run_bind,run_underlying ht,Result.andThen_ok,gI w hb,hck,pZ k hkt hf,iZ w hb]
 congr 2
 rw[uC _ _ _ _ (rt h1)]
 simp[oI]
theorem IL(k:Int)(t2 ty:Nat)(hX:(M0 b ts c).P w F)(hnd:(ts.map (·.1)).Nodup)(ht:P.underlying t=some (.map kt et))(hkt:P.underlying kt=some (.int .i64)):
 ∃us,qD w F (qE k ts) us∧(Builtin.delete_ #[t,t2] ty #[.map (some b),vI k]).run P w= .ok (.tuple #[]) (iE w b (.map (oI (qE k ts) us).toArray c)):=by
 obtain⟨us,h1,hb⟩:=hX
 have hck:∀e,(Instr.checkKey e 10000 kt (vI k)).run P w= .ok () w:=fun e=>pi.plain P w e kt k hkt
 have e1:(#[t,t2]:Array Nat)[0]?=some t:=rfl
 have e2:(#[.map (some b),vI k]:Array Value)[0]?=some (.map (some b)):=rfl
 have e3:(#[.map (some b),vI k]:Array Value)[1]?=some (vI k):=rfl
 rcases @yT k ts with hn|⟨s,q,r,rfl,hq,hs⟩
 ·have hr:qE k ts=ts:=List.filter_eq_self.2 (fun x hx=>by simpa using hn x hx)
  rw[hr]
  refine⟨us,h1,?_⟩
  have hf:=oo (us:=us) 0 hn
  unfold Builtin.delete_
  simp only[e1,e2,e3,Sem.run_bind,run_underlying ht,Result.andThen_ok,gI w hb,hck,pZ k hkt hf]
  simp only[iZ w hb,Result.andThen_ok,Sem.run_pure]
 ·have hr:qE k (s++q::r)=s++r:=by
   unfold qE
   rw[List.map_append,List.map_cons] at hnd
   have h2:=(List.nodup_append.1 hnd).2.1
   rw[List.filter_append,List.filter_cons_of_neg (by simpa using hq),List.filter_eq_self.2 (fun x hx=>by simpa using hs x hx),List.filter_eq_self.2 (fun x hx=>?_)]
   have:x.1≠q.1:=fun e=>(List.nodup_cons.1 h2).1 (by rw[←e];exact List.mem_map.2 ⟨x,hx,rfl⟩)
   simpa [←hq] using this
  rw[hr]
  obtain⟨u1,u2,rfl,h2,h3⟩:=(nf _ _ _).1 h1
  obtain⟨u,u2,rfl,h4,h5⟩:=h3
  refine⟨u1++u2,(nf _ _ _).2 ⟨u1,u2,rfl,h2,h5⟩,?_⟩
  have hl:=rt h2
  have hf:=pu (r:=r) (u:=u) (u2:=u2) hq 0 hl hs
  unfold Builtin.delete_
  simp only[e1,e2,e3,Sem.run_bind,run_underlying ht,Result.andThen_ok,gI w hb,hck,pZ k hkt hf]
  simp only[iZ w hb,Result.andThen_ok,Sem.run_pure]
  congr 3
  have hll:(oI s u1).length=s.length:=by
   have:=congrArg List.length (Aa hl)
   simpa using this
  have e5:oI (s++q::r) (u1++u::u2)=oI s u1++⟨vI q.1,u,q.2.2⟩::oI r u2:=uC _ _ _ _ hl
  have hlt:0+s.length<((oI (s++q::r) (u1++u::u2)).toArray).size:=by rw[e5];simp;omega
  rw[Array.eraseIdxIfInBounds,dif_pos hlt,List.eraseIdx_toArray,e5,Nat.zero_add,←hll,nD,uC _ _ _ _ hl]
end
section
variable {m:OM} {P:Program} {T:List (Nat×TI)} {C:il} {ops:Array Oper} {l:List Oper} {K:St→Prop} {n:Nat} {sl:List (Nat×AV)} {hp:List (Nat×HO)} {d:Nat} {ty:Nat} {pos:String} {aft:Array Edge} {gd:Option (Nat×Bool)}
theorem zr{w:World}{F:Nat→Prop}{x:Int}{u:Value}(h:cL w F (.i .i64 x) u):u=vI x:=by
 rw[cq] at h;exact h
theorem u5{w:World}{F:Nat→Prop}{b c:Nat}{ts:List (Int×AV×Nat)}(h:oG w F (io b ts c)):(M0 b ts c).P w F:=h.2.2
theorem G7{w:World}{F:Nat→Prop}{b c:Nat}{ts:List (Int×AV×Nat)}{us:List Value}(h:qD w F ts us)(hb:w.heap[b]?=some (.map (oI ts us).toArray c)):oG w F (io b ts c):=
 ⟨by simp,fun b' hb'=>by rw[List.mem_singleton.1 hb'];exact(Array.getElem?_eq_some_iff.1 hb).1,us,h,hb⟩
theorem ag.toTab{c:Code}{KK:Exit→St→Prop}(k:Nat){b:Nat}(hg:bU hp k=some (.obj b (iC []))){hp':List (Nat×HO)}(hh:(k,io b [] 0)::dS hp k=hp')(h:ag P C c ⟨n,sl,hp'⟩ KK):ag P C c ⟨n,sl,hp⟩ KK:=by
 subst hh
 refine ag.regroup (S:=⟨n,sl,hp⟩) _ ?_ (fun w F hall p hp2=>?_) h
 ·rw[je]
  exact(lJ hg).symm
 ·obtain⟨pre,post,e1⟩:=ij hg
  rcases List.mem_cons.1 hp2 with rfl|hp2
  ·have hb:w.heap[b]?=some (iC []):=hall (k,.obj b (iC [])) (by rw[e1];simp)
   exact G7 (us:=[]) Z hb
  ·exact hall p ((dl hg).2.2 p hp2)
theorem pQ(hT:cP P T)(hw:cH ops ⟨n,sl,hp⟩ gd=bE gd){t kt et sz by_ k b c:Nat}{z:AV}{x ix:Operand}{ts:List (Int×AV×Nat)}{y:Int}{r:AV}
 (ht:bI T t=some ⟨.map kt et,sz,by_,z⟩)(hkt:P.underlying kt=some (.int .i64))
 (hx:ev ⟨n,sl,hp⟩ x= .own k (.map (some b)))(hg:bU hp k=some (io b ts c))(hy:ev ⟨n,sl,hp⟩ ix= .i .i64 y)(hr:getT y ts=some r)
 (hd:Nat.blt d n=true)(h:aq m P C ops l ⟨n,(d,r)::sl,hp⟩ K):aq m P C ops (⟨some d,.lookup t x ix false,ty,pos,aft,gd⟩::l) ⟨n,sl,hp⟩ K:=by
 refine eD hw [] eZ Z fun a w hs=>?_
 have Ex:=bg hs x
 rw[hx,cf] at Ex
 have Ey:=bg hs ix
 rw[hy] at Ey
 have Ey:=zr Ey
 obtain⟨u,hu,hrun⟩:=H0 y (u5 (hs.getHeap hg)) hr (gN hT ht) hkt
 refine⟨u,w,⟨n,sl,hp⟩,r,?_,hs,hd,hu,m6.same (cD _ w),h⟩
 simp only[execOp,Ex.1,Ey,Sem.run_bind,hrun,Result.andThen_ok,Sem.run_pure]
theorem dE.tabSet{w:World}{b c:Nat}{ts:List (Int×AV×Nat)}(o:Obj):dE (fun b'=>b'∈HO.blk (io b ts c)) w (iE w b o):=ky (S:=fun b'=>b'∈HO.blk (io b ts c)) (List.mem_singleton.2 rfl) _
theorem Ah{a:Act}{w:World}(hs:ep C ⟨n,sl,hp⟩ a w){k b c c':Nat}{ts ts':List (Int×AV×Nat)}(hg:bU hp k=some (io b ts c)){us:List Value}(hr:qD w (Fz C hp w) ts' us):
 ep C ⟨n,sl,eT hp k (io b ts' c')⟩ a (iE w b (.map (oI ts' us).toArray c')):=by
 have hX:=u5 (hs.getHeap hg)
 obtain⟨us0,_,hb⟩:=hX
 have hlt:=(Array.getElem?_eq_some_iff.1 hb).1
 have hm0:dE (fun b'=>b'∈HO.blk (io b ts c)) w (iE w b (.map (oI ts' us).toArray c')):=dE.tabSet _
 have hbl:cC (eT hp k (io b ts' c'))=cC hp:=qa hg _ Z
 have hsz:(iE w b (.map (oI ts' us).toArray c')).heap.size=w.heap.size:=by simp[iE]
 refine hs.swap hg (io b ts' c') hm0 (G7 (us:=us) ?_ ?_) (fun b' hb'=>?_)
 ·refine sP (fun q hq=>⟨by rw[hsz];exact hq.1,by rw[hbl];exact hq.2.1,hq.2.2⟩) (fun q hq=>?_) _ _ hr
  refine hm0.block q hq.1 (fun hin=>hq.2.1 ?_)
  exact fH hg hin
 ·show (w.heap.setIfInBounds b _)[b]?=_
  rw[Array.getElem?_setIfInBounds_self_of_lt hlt]
 ·have:b'=b:=List.mem_singleton.1 hb'
  subst this
  exact⟨by rw[hsz];exact hlt,.inl (List.mem_singleton.2 Z)⟩
theorem xX(hT:cP P T)(hw:cH ops ⟨n,sl,hp⟩ gd=bE gd){t kt et sz by_ k b c:Nat}{z:AV}{x ix y:Operand}{ts:List (Int×AV×Nat)}{s:Int}{r:AV}
 (ht:bI T t=some ⟨.map kt et,sz,by_,z⟩)(hkt:P.underlying kt=some (.int .i64))
 (hx:ev ⟨n,sl,hp⟩ x= .own k (.map (some b)))(hg:bU hp k=some (io b ts c))(hi:ev ⟨n,sl,hp⟩ ix= .i .i64 s)(hy:ev ⟨n,sl,hp⟩ y=r)(hn:getT s ts=none)
 {hp':List (Nat×HO)}(hm:m.oke none [k]=true)(hh:fG (eT hp k (io b (ts++[(s,r,c)]) (c+1)))=some hp')(h:aq m P C ops l ⟨n,sl,hp'⟩ K):aq m P C ops (⟨none,.mapUpdate t x ix y,ty,pos,aft,gd⟩::l) ⟨n,sl,hp⟩ K:=by
 have hh:=ew _ _ hh
 subst hh
 refine mq hw [k] hm Z fun a w hs=>?_
 have Ex:=bg hs x
 rw[hx,cf] at Ex
 have Ei:=bg hs ix
 rw[hi] at Ei
 have Ei:=zr Ei
 have Ey:=bg hs y
 rw[hy] at Ey
 obtain⟨us,hr,hrun⟩:=GZ s (u5 (hs.getHeap hg)) Ey hn (gN hT ht) hkt
 refine⟨_,⟨n,sl,eT hp k (io b (ts++[(s,r,c)]) (c+1))⟩,?_,Ah hs hg hr,fV hg (dE.tabSet _) (fun _ h=>.inl h),h⟩
 simp only[execOp,Ex.1,Ei,Sem.run_bind,hrun,Result.andThen_ok,Sem.run_pure]
theorem xZ(hT:cP P T)(hw:cH ops ⟨n,sl,hp⟩ gd=bE gd){t t2 kt et sz by_ k b c:Nat}{z:AV}{x ix:Operand}{ts:List (Int×AV×Nat)}{s:Int}
 (ht:bI T t=some ⟨.map kt et,sz,by_,z⟩)(hkt:P.underlying kt=some (.int .i64))
 (hx:ev ⟨n,sl,hp⟩ x= .own k (.map (some b)))(hg:bU hp k=some (io b ts c))(hi:ev ⟨n,sl,hp⟩ ix= .i .i64 s)(hnd:(ts.map (·.1)).Nodup)
 {hp':List (Nat×HO)}(hm:m.oke none [k]=true)(hh:fG (eT hp k (io b (qE s ts) c))=some hp')(h:aq m P C ops l ⟨n,sl,hp'⟩ K):aq m P C ops (⟨none,.call ⟨.builtin .delete,#[x,ix],#[t,t2]⟩,ty,pos,aft,gd⟩::l) ⟨n,sl,hp⟩ K:=by
 have hh:=ew _ _ hh
 subst hh
 refine eD (d:=none) hw [k] hm Z fun a w hs=>?_
 have Ex:=bg hs x
 rw[hx,cf] at Ex
 have Ei:=bg hs ix
 rw[hi] at Ei
 have Ei:=zr Ei
 obtain⟨us,hr,hrun⟩:=IL s t2 ty (u5 (hs.getHeap hg)) hnd (gN hT ht) hkt
 refine⟨.tuple #[],_,⟨n,sl,eT hp k (io b (qE s ts) c)⟩,.any,?_,Ah hs hg hr,rfl,J,fV hg (dE.tabSet _) (fun _ h=>.inl h),h⟩
 simp[execOp,resolve,invoke,builtin,Ex.1,Ei,hrun]
def tl(b c:Nat)(vis:List Nat):Obj:=.mapIter (some b) c vis.toArray c
theorem AW(hT:cP P T)(hw:cH ops ⟨n,sl,hp⟩ gd=bE gd){t kt et sz by_ k b c:Nat}{z:AV}{x:Operand}{ts:List (Int×AV×Nat)}
 (ht:bI T t=some ⟨.map kt et,sz,by_,z⟩)(hx:ev ⟨n,sl,hp⟩ x= .own k (.map (some b)))(hg:bU hp k=some (io b ts c))(hd:Nat.blt d n=true)
 (h:∀r,aq m P C ops l ⟨n,(d,.ptr d r [] 0)::sl,(d,.obj r (tl b c []))::hp⟩ K):aq m P C ops (⟨some d,.range t x,ty,pos,aft,gd⟩::l) ⟨n,sl,hp⟩ K:=by
 refine eD hw [] eZ Z fun a w hs=>?_
 have Ex:=bg hs x
 rw[hx,cf] at Ex
 obtain⟨us,_,hb⟩:=u5 (hs.getHeap hg)
 have hrun:=run_range_map (P:=P) w t kt et b _ c (gN hT ht) hb
 have hm:dE lh w (w.alloc (tl b c [])):=(cD _ w).alloc _
 refine⟨.pointer (some ⟨w.heap.size,0,none⟩),w.alloc (tl b c []),⟨n,sl,(d,.obj w.heap.size (tl b c []))::hp⟩,.ptr d w.heap.size [] 0,?_,?_,hd,dg.2 Z,lz hm (fun b hb=>Nat.le_of_eq (List.mem_singleton.1 hb).symm),h _⟩
 ·simp only[execOp,Ex.1,Sem.run_bind,hrun,Result.andThen_ok,Sem.run_pure]
  rfl
 ·refine hs.new d _ hm ?_ (fun b hb=>?_)
  ·show (w.alloc (tl b c [])).heap[w.heap.size]?=_
   exact(MapKept.heap_alloc w _).1
  ·have:w.heap.size=b:=(List.mem_singleton.1 hb).symm
   subst this
   simp
theorem EU(hw:cH ops ⟨n,sl,hp⟩ gd=bE gd){ki km r b c:Nat}{it:Operand}{ts:List (Int×AV×Nat)}{vis:List Nat}{hp':Nat→List (Nat×HO)}
 (hx:ev ⟨n,sl,hp⟩ it= .ptr ki r [] 0)(hg:bU hp ki=some (.obj r (tl b c vis)))(hgm:bU hp km=some (io b ts c))(hold:∀e∈ts,e.2.2<c)(hone:∀e∈ts,jN e.2.1=true∧e.2.1.isVal=true)(hd:Nat.blt d n=true)(hm:m.oke (some d) [ki]=true)
 (hh:∀e,fG (eT hp ki (.obj r (tl b c (vis++[e]))))=some (hp' e))
 (h0:(∀e∈ts,e.2.2∈vis)→aq m P C ops l ⟨n,(d,.tup [.b false])::sl,hp⟩ K)
 (h1:∀e∈ts,e.2.2∉vis→aq m P C ops l ⟨n,(d,.tup [.b true,.i .i64 e.1,e.2.1])::sl,hp' e.2.2⟩ K):aq m P C ops (⟨some d,.next it false,ty,pos,aft,gd⟩::l) ⟨n,sl,hp⟩ K:=by
 refine eD hw [ki] hm Z fun a w hs=>?_
 have Ex:=bg hs it
 rw[hx,dg] at Ex
 have hr:w.heap[r]?=some (tl b c vis):=hs.getHeap hg
 obtain⟨us,hrep,hb⟩:=u5 (hs.getHeap hgm)
 have hlt:=(Array.getElem?_eq_some_iff.1 hr).1
 unfold tl at hr
 rcases run_next_at (P:=P) w ty r b c c _ _ c hr hb (fun x hx=>by
  obtain⟨e,he,u,rfl,_⟩:=uB hrep x (by simpa using hx)
  exact hold e he) (Nat.le_refl _) with ⟨hz,hrun⟩|⟨x,hxe,w1,hal,hrun⟩
 ·refine⟨.tuple #[.bool false],w,⟨n,sl,hp⟩,.tup [.b false],?_,hs,hd,?_,⟨cD _ w,fun _ _ _ _ h=>h⟩,h0 (fun e he=>?_)⟩
  ·simp only[execOp,Ex,Sem.run_bind,hrun,Result.andThen_ok,Sem.run_pure]
  ·refine⟨[.bool false],rfl,rfl,fun i x v hx hv=>?_⟩
   rcases i with _|i
   ·simp only[List.getElem?_cons_zero,Option.some.injEq] at hx hv
    subst hx;subst hv
    exact .inr ⟨[.bool false],by simp[bw],rfl⟩
   ·simp at hx
  ·obtain⟨u,hu⟩:=zg hrep e he
   refine Decidable.byContradiction (fun hn=>?_)
   have hm2:(⟨vI e.1,u,e.2.2⟩:MapEntry)∈(leftOf (oI ts us).toArray vis.toArray).toList:=by
    unfold leftOf
    simp only[Array.toList_filter,List.mem_filter]
    refine⟨hu,?_⟩
    have:vis.toArray.contains e.2.2=false:=by
     rw[Bool.eq_false_iff]
     intro hc
     exact hn (by simpa [Array.contains_iff_mem] using hc)
    show (!vis.toArray.contains e.2.2)=true
    rw[this];rfl
   have:(leftOf (oI ts us).toArray vis.toArray).toList=[]:=List.eq_nil_of_length_eq_zero (by simpa using hz)
   rw[this] at hm2
   cases hm2
 ·unfold leftOf at hxe
  simp only[Array.toList_filter,List.mem_filter] at hxe
  obtain⟨e,he,u,rfl,hu⟩:=uB hrep x hxe.1
  have hnv:e.2.2∉vis:=fun hin=>by
   have h2:=hxe.2
   have:vis.toArray.contains e.2.2=true:=by simpa [Array.contains_iff_mem] using hin
   have h2:(!vis.toArray.contains e.2.2)=true:=h2
   rw[this] at h2
   cases h2
  have hseen:(vis.toArray.push e.2.2)=(vis++[e.2.2]).toArray:=by simp
  have hrun:_:=hrun
  rw[show (⟨vI e.1,u,e.2.2⟩:MapEntry).born=e.2.2 from rfl,hseen] at hrun
  have hm0:dE (fun b'=>b'∈HO.blk (.obj r (tl b c vis))) w (iE w1 r (tl b c (vis++[e.2.2]))):=by
   have h2:dE (fun b'=>b'∈HO.blk (.obj r (tl b c vis))) w w1:=by
    rcases hal with rfl|rfl
    ·exact cD _ _
    ·exact(cD _ w).drew
   exact h2.trans (ky (S:=fun b'=>b'∈HO.blk (.obj r (tl b c vis))) (List.mem_singleton.2 Z) _)
  have hlt1:r<w1.heap.size:=by rcases hal with rfl|rfl<;>exact hlt
  have hsat:ep C ⟨n,sl,eT hp ki (.obj r (tl b c (vis++[e.2.2])))⟩ a (iE w1 r (tl b c (vis++[e.2.2]))):=hs.swap hg (.obj r (tl b c (vis++[e.2.2]))) hm0 (by
   show (w1.heap.setIfInBounds r _)[r]?=_
   rw[Array.getElem?_setIfInBounds_self_of_lt hlt1]) (fun b' hb'=>by
   have:r=b':=(List.mem_singleton.1 hb').symm
   subst this
   exact⟨by simpa [iE] using hlt1,.inl (List.mem_singleton.2 Z)⟩)
  have hbl:cC (eT hp ki (.obj r (tl b c (vis++[e.2.2]))))=cC hp:=qa hg _ Z
  have hu2:cL (iE w1 r (tl b c (vis++[e.2.2]))) (Fz C (eT hp ki (.obj r (tl b c (vis++[e.2.2])))) (iE w1 r (tl b c (vis++[e.2.2])))) e.2.1 u:=by
   refine fN (fun q hq=>⟨Nat.lt_of_lt_of_le hq.1 hm0.size,by rw[hbl];exact hq.2.1,hq.2.2⟩) (fun q hq=>?_) _ _ hu
   exact hm0.block q hq.1 (fun hin=>hq.2.1 (fH hg hin))
  refine⟨.tuple #[.bool true,vI e.1,u],iE w1 r (tl b c (vis++[e.2.2])),⟨n,sl,eT hp ki (.obj r (tl b c (vis++[e.2.2])))⟩,.tup [.b true,.i .i64 e.1,e.2.1],?_,hsat,hd,?_,fV hg hm0 (fun _ h=>.inl h),?_⟩
  ·simp only[execOp,Ex,Sem.run_bind,hrun,Result.andThen_ok,Sem.run_pure]
   rfl
  ·refine⟨[.bool true,vI e.1,u],rfl,rfl,fun i x v hx hv=>?_⟩
   rcases i with _|_|_|i
   ·simp only[List.getElem?_cons_zero,Option.some.injEq] at hx hv
    subst hx;subst hv
    exact .inr ⟨[.bool true],by simp[bw],rfl⟩
   ·simp only[List.getElem?_cons_succ,List.getElem?_cons_zero,Option.some.injEq] at hx hv
    subst hx;subst hv
    exact .inr ⟨[vI e.1],by simp only[bw];rfl,rfl⟩
   ·simp only[List.getElem?_cons_succ,List.getElem?_cons_zero,Option.some.injEq] at hx hv
    subst hx;subst hv
    exact .inr ⟨[u],zc (hone e he).1 (hone e he).2 hu2,by
     have:=(hone e he).1
     cases hq:e.2.1<;>rw[hq] at this<;>first|rfl|cases this⟩
   ·simp at hx
  ·have:=h1 e he hnv
   rw[←ew _ _ (hh e.2.2)] at this
   exact this
end
set_option maxHeartbeats 4000000
def e8(l:List aC)(s:Int):AV:=.agg [.sl 3 (l.map eA),.i .i64 s]
structure eW where
 mem:Int
 blk:Int
 tab:Int
 cnt:Int
 size:Int
 rm:Int
def el(o:eW):AV:=.agg [.i .i64 o.mem,.i .i64 o.blk,.i .i64 o.tab,.agg [.i .i64 o.cnt,.i .i64 o.size]]
structure gV where
 bd:Nat
 bm:Nat
 bj:Nat
 bs:Nat
 bt:Nat
def dm(B:gV)(o:eW)(l:List aC)(s:Int)(st:iH):AV:=.agg [.ptr 0 B.bd [] 0,el o,.ptr 3 B.bj [] 0,e8 l s,iA st,.own 105 (.map (some B.bt))]
structure bZ where
 nm:List UInt8
 blk:Nat
 born:Nat
 b:List UInt8
 sure:Nat
structure ez where
 room:Int
 fuse:Int
 dead:Bool
 fs:List bZ
 clk:Nat
def bZ.e(f:bZ):PE:=(f.nm,f.blk,f.born)
def ez.es(D:ez):List PE:=D.fs.map bZ.e
def bZ.O(f:bZ):HO:=.var f.blk (.agg [.sl 1 (f.b.map gy),.i .i64 f.sure])
def cO(bm:Nat)(D:ez):AV:=.agg [.i .i64 D.room,.own 1 (.map (some bm)),.i .i64 D.fuse,.b D.dead]
def dk(bd bm:Nat)(D:ez):List HO:=[.var bd (cO bm D),.obj bm (cV D.es D.clk),bL (D.fs.map bZ.O)]
structure ez.ok(D:ez):Prop where
 nd:(D.fs.map (·.nm)).Nodup
 bn:(D.fs.map (·.born)).Nodup
 lt:∀f∈D.fs,f.born<D.clk
 nl:∀f∈D.fs,f.nm.length≤100
 su:∀f∈D.fs,f.sure≤f.b.length
 room:0≤D.room∧D.room≤1099511627776
def fJ(l:List bZ):Nat:=(l.map (·.b.length)).sum
def ez.used(D:ez):Nat:=fJ D.fs
def ez.get(D:ez)(nm:List UInt8):Option bZ:=D.fs.find? (fun f=>f.nm==nm)
theorem BM(nm:List UInt8):∀(l:List bZ) (i:Nat),(mv nm (l.map bZ.e) i).map (·.2)=(l.find? (fun f=>f.nm==nm)).map (·.blk)
 |[],_=>rfl
 |f::r,i=>by
  rw[List.map_cons,List.find?_cons]
  unfold mv
  show ((if nm=f.nm then some (i,f.blk) else mv nm (r.map bZ.e) (i+1)).map (·.2))=_
  by_cases h:nm=f.nm
  ·rw[if_pos h,beq_iff_eq.2 h.symm];rfl
  ·rw[if_neg h,beq_eq_false_iff_ne.2 (fun e=>h e.symm)]
   exact BM nm r (i+1)
theorem mi(D:ez)(nm:List UInt8):jr nm D.es=(D.get nm).map (·.blk):=BM nm D.fs 0
theorem kF{D:ez}{nm:List UInt8}{f:bZ}(h:D.get nm=some f):f∈D.fs∧f.nm=nm:=by
 have h1:=List.mem_of_find?_eq_some h
 have h2:=List.find?_some h
 exact⟨h1,beq_iff_eq.1 h2⟩
def N7(l:List bZ)(nm:List UInt8)(g:bZ→bZ):List bZ:=l.map (fun f=>if f.nm=nm then g f else f)
theorem nQ{l l':List bZ}(h:l.Perm l'):fJ l=fJ l':=(h.map _).sum_nat
theorem iX(f:bZ)(l:List bZ):fJ (f::l)=f.b.length+fJ l:=by unfold fJ;rw[List.map_cons,List.sum_cons]
theorem JX{D:ez}{q l:List bZ}(hq:(q++l).Perm D.fs)(_bn:(D.fs.map (·.born)).Nodup){e:PE}(he:e∈D.es)(hv:e.2.2∉(q.map bZ.e).map (·.2.2)):∃f l',f.e=e∧l.Perm (f::l')∧D.fs.Perm (f::(q++l')):=by
 obtain⟨f,hf,rfl⟩:=List.mem_map.1 he
 have hnq:f∉q:=fun h=>hv (by rw[List.map_map];exact List.mem_map.2 ⟨f,h,rfl⟩)
 have hl:f∈l:=by
  rcases List.mem_append.1 (hq.mem_iff.2 hf) with h|h
  ·exact absurd h hnq
  ·exact h
 obtain⟨s,t,rfl⟩:=List.append_of_mem hl
 have h1:(s++f::t).Perm (f::(s++t)):=List.perm_middle
 refine⟨f,s++t,rfl,h1,hq.symm.trans ?_⟩
 refine((List.Perm.refl q).append h1).trans ?_
 exact List.perm_middle
theorem LW{D:ez}{q l:List bZ}(hq:(q++l).Perm D.fs)(bn:(D.fs.map (·.born)).Nodup)(h:∀e∈D.es,e.2.2∈(q.map bZ.e).map (·.2.2)):l=[]:=by
 cases l with
 |nil=>rfl
 |cons f l=>
  exfalso
  have hf:f∈D.fs:=hq.mem_iff.1 (List.mem_append_right _ (List.mem_cons_self ..))
  have h1:=h f.e (List.mem_map.2 ⟨f,hf,rfl⟩)
  rw[List.map_map] at h1
  obtain⟨g,hg,he⟩:=List.mem_map.1 h1
  have hnd:=(hq.map (·.born)).nodup_iff.2 bn
  rw[List.map_append,List.map_cons] at hnd
  have he:g.born=f.born:=he
  exact(List.nodup_append.1 hnd).2.2 g.born (List.mem_map.2 ⟨g,hg,rfl⟩) f.born (List.mem_cons_self ..) he
set_option maxHeartbeats 8000000
set_option maxRecDepth 100000
def fg(s:List UInt8):Bool:=s !=[]&&decide (s.length≤100)
theorem qS(s:List UInt8)(hs:s.length≤9223372036854775807):aQ Tryz.prog 127 [.s s] [] (fun v os=>v= .b (fg s)∧os=[]):=by
 refine aA ab [] Tryz.func127 Z Tryz.ntmps127 aN Z Z (fun C=>?_) Z
 by_cases h0:s=[]
 ·have hq:(!(s==(⟨#[]⟩:ByteArray).data.toList))=false:=by rw[h0];rfl
  have hg:fg s=false:=by rw[h0];rfl
  rw[hg]
  repeat' (first|(rw[hq])|refine ae ?_|refine aa ?_|refine ac (ax ?_)|refine ap (bC ?_)|refine gM Z Z Z ?_|refine aU ab (fun _=>?_))
  all_goals exact jh
 ·have hq:(!(s==(⟨#[]⟩:ByteArray).data.toList))=true:=by
   rw[show (⟨#[]⟩:ByteArray).data.toList=([]:List UInt8) from rfl,beq_eq_false_iff_ne.2 h0];rfl
  have hg:fg s=decide ((s.length:Int)≤100):=by
   unfold fg
   rw[bne_iff_ne.2 h0,Bool.true_and]
   by_cases h1:s.length≤100
   ·rw[decide_eq_true h1,decide_eq_true (by omega)]
   ·rw[decide_eq_false h1,decide_eq_false (by omega)]
  rw[hg]
  repeat' (first|(rw[hq])|refine ae ?_|refine aa ?_|refine ac (ax ?_)|refine ap (bC ?_)|refine aU ab (fun _=>?_))
  all_goals exact jh
def fw(fuse:Int)(dead:Bool):Bool×Int×Int×Bool:=
 if dead=true then (false,10,fuse,dead) else if fuse=0 then (true,10,fuse,true) else if 0<fuse then (true,0,fuse - 1,dead) else (true,0,fuse,dead)
theorem nI(b:Nat)(room fuse:Int)(u:Value)(dead:Bool)(hf:fuse<9223372036854775808):aQ Tryz.prog 118 [.ptr 0 b [] 0] [.var b (.agg [.i .i64 room,.own 1 u,.i .i64 fuse,.b dead])] (fun v os=>v= .tup [.b (fw fuse dead).1,.i .i64 (fw fuse dead).2.1]∧os=[.var b (.agg [.i .i64 room,.own 1 u,.i .i64 (fw fuse dead).2.2.1,.b (fw fuse dead).2.2.2])]):=by
 refine aA ab [(0,.var b (.agg [.i .i64 room,.own 1 u,.i .i64 fuse,.b dead]))] Tryz.func118 Z Tryz.ntmps118 aN Z Z (fun C=>?_) Z
 unfold fw
 cases dead
 case true=>
  rw[if_pos Z]
  repeat' (first|refine ae ?_|refine aj ?_|refine aa ?_|refine ac (ax ?_)|refine ap (bC ?_)|refine aU ab (fun _=>?_)|refine aR Z ?_)
  all_goals
   exact aH [] [(0,_)] (.tup [.b false,.i .i64 10]) Z (aW (am Z) (am Z) Z Z) (az 0 Z .nil) ⟨rfl,rfl⟩
 rw[if_neg (by decide)]
 by_cases h0:fuse=0
 ·rw[if_pos h0]
  repeat' (first|refine ae ?_|refine aj ?_|refine aa ?_|refine ac (ax ?_)|refine ap (bC ?_)|refine aU ab (fun _=>?_)|refine aD ab Z Z Z Z Z Z Z ⟨rfl,rfl⟩ Z Z Z Z Z ?_|refine aB Z ?_|(refine ao Z (fun hc=>?_) (fun hc=>?_))<;>try omega)
  all_goals
   exact aH [] [(0,_)] (.tup [.b true,.i .i64 10]) Z (aW (am Z) (am Z) Z Z) (az 0 Z .nil) ⟨rfl,rfl⟩
 rw[if_neg h0]
 by_cases h1:0<fuse
 ·rw[if_pos h1]
  repeat' (first|refine ae ?_|refine aj ?_|refine aa ?_|refine ac (ax ?_)|refine ap (bC ?_)|(refine dW Z Z Z Z ?_ ?_;omega)|refine aU ab (fun _=>?_)|refine aD ab Z Z Z Z Z Z Z ⟨rfl,rfl⟩ Z Z Z Z Z ?_|refine aB Z ?_|(refine ao Z (fun hc=>?_) (fun hc=>?_))<;>try omega)
  all_goals
   exact aH [] [(0,_)] (.tup [.b true,.i .i64 0]) Z (aW (am Z) (am Z) Z Z) (az 0 Z .nil) ⟨rfl,rfl⟩
 ·rw[if_neg h1]
  repeat' (first|refine ae ?_|refine aj ?_|refine aa ?_|refine ac (ax ?_)|refine ah (ax ?_)|refine ap (bC ?_)|refine aU ab (fun _=>?_)|refine aB Z ?_|(refine ao Z (fun hc=>?_) (fun hc=>?_))<;>try omega)
  all_goals
   exact aH [] [(0,_)] (.tup [.b true,.i .i64 0]) Z (aW (am Z) (am Z) Z Z) (az 0 Z .nil) ⟨rfl,rfl⟩
theorem Kt{D:ez}(h:D.ok):∀e∈D.es,e.2.2<D.clk:=fun e he=>by
 obtain⟨f,hf,rfl⟩:=List.mem_map.1 he
 exact h.lt f hf
theorem Ks{D:ez}(h:D.ok):∀e∈D.es,e.1.length≤maxLen:=fun e he=>by
 obtain⟨f,hf,rfl⟩:=List.mem_map.1 he
 exact Nat.le_trans (h.nl f hf) (by decide)
theorem Ku{D:ez}(h:D.ok):(D.es.map (·.2.2)).Nodup:=by
 have:=h.bn
 unfold ez.es
 rw[List.map_map]
 exact this
theorem Fu(bd bm:Nat)(D:ez)(ok:D.ok)(hu:D.used≤4398046511104):aQ Tryz.prog 128 [.ptr 0 bd [] 0] (dk bd bm D) (fun v os=>v= .i .i64 (D.used:Nat)∧os=dk bd bm D):=by
 have hold:=Kt ok
 have hkl:=Ks ok
 have hnd:=Ku ok
 show aQ Tryz.prog 128 [.ptr 0 bd [] 0] [.var bd (.agg [.i .i64 D.room,.own 1 (.map (some bm)),.i .i64 D.fuse,.b D.dead]),.obj bm (cV D.es D.clk),bL (D.fs.map bZ.O)] _
 refine aA ab [(0,.var bd (.agg [.i .i64 D.room,.own 1 (.map (some bm)),.i .i64 D.fuse,.b D.dead])),(1,.obj bm (cV D.es D.clk)),(2,bL (D.fs.map bZ.O))] Tryz.func128 Z Tryz.ntmps128 aN Z Z (fun C=>?_) Z
 repeat' (first|refine ae ?_|refine aj ?_|refine aa ?_|refine ac (ax ?_)|refine aU ab (fun _=>?_)|(refine HH ab Z Z Z Z Z (fun r=>?_)))
 refine aO (fun q:List bZ=>⟨23,[(3,.i .i64 (fJ q:Nat)),(10,.ptr 10 r [] 0)],[(0,.var bd (.agg [.i .i64 D.room,.own 1 (.map (some bm)),.i .i64 D.fuse,.b D.dead])),(1,.obj bm (cV D.es D.clk)),(2,bL (D.fs.map bZ.O)),(10,.obj r (xe bm D.clk (q.map bZ.e)))]⟩) (fun q=>∃l,(q++l).Perm D.fs) (fun q=>D.fs.length - q.length) [] [] ⟨D.fs,List.Perm.refl _⟩ ?_ ?_
 ·exact⟨rfl,⟨ai Z,af,J⟩,az 0 Z (az 1 Z (az 2 Z (az 10 Z .nil)))⟩
 rintro q ⟨l,hq⟩
 repeat' (first|refine ae ?_|refine aj ?_|refine aa ?_|refine ac (ax ?_)|refine ah (ax ?_)|refine aw (ax ?_)|refine ap (bC ?_)|refine aU ab (fun _=>?_)|refine aR Z ?_|refine aB Z ?_|(refine JG 3 (km:=1) Z Z Z Z hold hkl Z Z (fun e=>rfl) (fun hnone=>?_) (fun e he hnv=>?_))|(refine HK 3 (km:=1) Z Z Z Z he hnd hkl Z ?_))
 ·have hl:=LW hq ok.bn hnone
  subst hl
  rw[List.append_nil] at hq
  have hus:fJ q=D.used:=nQ hq
  rw[hus]
  exact aH [] [(0,_),(1,_),(2,_)] (.i .i64 (D.used:Nat)) Z (bX (am Z) Z) (az 0 Z (az 1 Z (az 2 Z .nil))) ⟨rfl,rfl⟩
 obtain⟨f,l',rfl,hl,hfs⟩:=JX hq ok.bn he hnv
 have hos:(D.fs.map bZ.O).Perm (HO.var f.blk (.agg [.sl 1 (f.b.map gy),.i .i64 f.sure])::(q++l').map bZ.O):=hfs.map bZ.O
 have hus:D.used=f.b.length+fJ (q++l'):=by
  have:=nQ hfs
  rw[iX] at this
  exact this
 have hq2:fJ (q++l')=fJ q+fJ l':=by unfold fJ;rw[List.map_append,List.sum_append]
 have hu1:fJ (q++[f])=fJ q+f.b.length:=by unfold fJ;rw[List.map_append,List.sum_append];rfl
 have hme:(q++[f]).map bZ.e=q.map bZ.e++[f.e]:=by rw[List.map_append];rfl
 have hlen:D.fs.length=(q++l').length+1:=hfs.length_eq
 rw[List.length_append] at hlen
 refine aq.pull 2 3 Z hos Z ?_
 refine dr Z ab Z Z Z ?_ (fun _=>?_)
 ·first|exact J|exact⟨rfl,rfl,rfl,rfl⟩|exact⟨rfl,rfl,rfl⟩|exact⟨rfl,rfl⟩|exact⟨rfl,J⟩
 refine aq.push 2 3 Z Z hos Z ?_
 repeat' (first|refine ac (db ?_)|(refine bc Z Z Z Z ?_ ?_;omega)|refine br Z ab Z Z Z (fun _=>?_)|refine aU ab (fun _=>?_))
 exact⟨q++[f],[],⟨l',by
  rw[List.append_assoc]
  exact(List.perm_middle (l₁:=q) (l₂:=l') (a:=f)).trans hfs.symm⟩,by show D.fs.length - (q++[f]).length<D.fs.length - q.length;rw[List.length_append,List.length_singleton];omega,rfl,⟨ai (by rw[hu1];omega),af,J⟩,az 0 Z (az 1 Z (az 2 Z (cr.cons 10 Z (by show aG _ _ (.obj r (xe bm D.clk ((q++[f]).map bZ.e)));rw[hme];exact ak _) .nil)))⟩
section
variable {m:OM} {P:Program} {T:List (Nat×TI)} {C:il} {ops:Array Oper} {l:List Oper} {K:St→Prop} {n:Nat} {sl:List (Nat×AV)} {hp:List (Nat×HO)} {d:Nat} {ty:Nat} {pos:String} {aft:Array Edge} {gd:Option (Nat×Bool)}
theorem AK(hT:cP P T){t e sz0 by0:Nat}{z0:AV}(ht:bI T t=some ⟨.ptr e,sz0,by0,z0⟩):P.underlying t=some (.pointer (P.pointee t)):=by
 have hu:P.underlying t=some (.pointer e):=by
  obtain⟨ds,hds,hk⟩:=(aX hT ht).desc
  cases ds<;>simp[Cu] at hk;subst hk;exact hds
 rw[hu];simp[Program.pointee,hu]
theorem vK{w:World}{F:Nat→Prop}{v:Value}(h:cL w F .nilp v):v= .pointer none:=by
 obtain⟨c2,hc2,h⟩:=h
 simp only[bw] at hc2
 subst hc2;exact h
def Mc:AV→Option Value
 |.ptr _ b _ off=>some (.pointer (some ⟨b,off,none⟩))
 |.nilp=>some (.pointer none)
 |_=>none
def v5:AV→Bool
 |.nilp=>true
 |_=>false
theorem Hz{w:World}{F:Nat→Prop}{x:AV}{v u:Value}(h:cL w F x v)(hx:Mc x=some u):v=u:=by
 cases x<;>simp only[Mc,Option.some.injEq] at hx<;>try cases hx
 ·rw[dg] at h;exact h
 ·exact vK h
theorem EP{x:AV}{o:Option Addr}(hx:Mc x=some (.pointer o)):v5 x=o.isNone:=by
 cases x<;>simp only[Mc,Option.some.injEq,Value.pointer.injEq] at hx<;>try cases hx
 ·rfl
 ·rfl
theorem vJ(hT:cP P T)(hw:cH ops ⟨n,sl,hp⟩ gd=bE gd){t u e:Nat}{x y:Operand}{a0:AV}{o:Option Addr}{sz0 by0:Nat}{z0:AV}
 (hx:ev ⟨n,sl,hp⟩ x=a0)(hp0:Mc a0=some (.pointer o))(hy:ev ⟨n,sl,hp⟩ y= .nilp)(ht:bI T t=some ⟨.ptr e,sz0,by0,z0⟩)(hd:Nat.blt d n=true)
 (h:aq m P C ops l ⟨n,(d,.b (v5 a0))::sl,hp⟩ K):aq m P C ops (⟨some d,.binOp .eql t x y u,ty,pos,aft,gd⟩::l) ⟨n,sl,hp⟩ K:=by
 refine eI (d:=some d) hw none cT hd Z (fun a w hs=>?_) h
 have Ex:=bg hs x
 have Ey:=bg hs y
 rw[hx] at Ex
 rw[hy] at Ey
 have Ex:=Hz Ex hp0
 have Ey:=vK Ey
 refine⟨.bool (v5 a0),gr.2 Z,fun w' _=>?_⟩
 have hr:=run_eql_pointer_nil (P:=P) (w:=w') t o (AK hT ht)
 have hg:(eqGuard .eql t x y (.pointer o) (.pointer none)).run P w'= .ok () w':=by simp[eqGuard]
 simp only[execOp,Ex,Ey,Sem.run_bind,hg,hr,Result.andThen_ok,Sem.run_pure]
 rw[EP hp0]
theorem rD(hT:cP P T)(hw:cH ops ⟨n,sl,hp⟩ gd=bE gd){t u e:Nat}{x y:Operand}{a0:AV}{o:Option Addr}{sz0 by0:Nat}{z0:AV}
 (hx:ev ⟨n,sl,hp⟩ x=a0)(hp0:Mc a0=some (.pointer o))(hy:ev ⟨n,sl,hp⟩ y= .nilp)(ht:bI T t=some ⟨.ptr e,sz0,by0,z0⟩)(hd:Nat.blt d n=true)
 (h:aq m P C ops l ⟨n,(d,.b (!v5 a0))::sl,hp⟩ K):aq m P C ops (⟨some d,.binOp .neq t x y u,ty,pos,aft,gd⟩::l) ⟨n,sl,hp⟩ K:=by
 refine eI (d:=some d) hw none cT hd Z (fun a w hs=>?_) h
 have Ex:=bg hs x
 have Ey:=bg hs y
 rw[hx] at Ex
 rw[hy] at Ey
 have Ex:=Hz Ex hp0
 have Ey:=vK Ey
 refine⟨.bool (!v5 a0),gr.2 Z,fun w' _=>?_⟩
 have hr:=run_neq_pointer_nil (P:=P) (w:=w') t o (AK hT ht)
 have hg:(eqGuard .neq t x y (.pointer o) (.pointer none)).run P w'= .ok () w':=by simp[eqGuard]
 simp only[execOp,Ex,Ey,Sem.run_bind,hg,hr,Result.andThen_ok,Sem.run_pure]
 rw[EP hp0]
end
end Go.Proofs.YtginkbjclkdglaaGreat
