/- Maps from texts to pointers. No program in sight. -/
import Derived.Test.YtginkbjclkdglaaGreatB2Z
import Derived.Maps.RangeRun
namespace Go.Proofs.YtginkbjclkdglaaGreat
open Go Go.RowKit
abbrev PE:=List UInt8×Nat×Nat
def pV(b:Nat):Value:=.pointer (some ⟨b,0,none⟩)
def fS(e:PE):MapEntry:=⟨vS e.1,pV e.2.1,e.2.2⟩
def cV(es:List PE)(c:Nat):Obj:=.map (es.map fS).toArray c
def mv(k:List UInt8):List PE→Nat→Option (Nat×Nat)
 |[],_=>none
 |e::r,i=>if k=e.1 then some (i,e.2.1) else mv k r (i+1)
def jr(k:List UInt8)(es:List PE):Option Nat:=(mv k es 0).map (·.2)
theorem yo(k:List UInt8):∀(es:List PE) (i:Nat),Instr.findNow .string (vS k) (es.map fS) i=some ((mv k es i).map (fun q=>(q.1,pV q.2)))
 |[],_=>rfl
 |e::r,i=>by
  have h:=xd.now k e.1
  rw[List.map_cons]
  unfold Instr.findNow mv
  show (match Instr.sameNow .string (vS k) (vS e.1) with|some true=>some (some (i,pV e.2.1))|some false=>Instr.findNow .string (vS k) (r.map fS) (i+1)|none=>none)=_
  rw[h]
  by_cases hk:k=e.1
  ·rw[if_pos hk,beq_iff_eq.2 hk];rfl
  ·rw[if_neg hk,beq_eq_false_iff_ne.2 hk]
   exact yo k r (i+1)
section
variable {P:Program} {w:World} {b c:Nat} {t kt et:TypeId} {es:List PE}
theorem p6(k:List UInt8)(hkt:P.underlying kt=some .string):(Instr.findKey kt (vS k) (es.map fS).toArray.toList).run P w= .ok ((mv k es 0).map (fun q=>(q.1,pV q.2))) w:=by
 unfold Instr.findKey
 simp only[Sem.run_bind,run_underlying hkt,Result.andThen_ok]
 rw[yo]
 rfl
theorem H3(k:List UInt8)(hb:w.heap[b]?=some (cV es c))(ht:P.underlying t=some (.map kt et))(hkt:P.underlying kt=some .string)(hz:(zeroValue et).run P w= .ok (.pointer none) w):
 (Instr.lookup t (.map (some b)) (vS k) false).run P w= .ok (match jr k es with|some q=>pV q|none=>.pointer none) w:=by
 have hck:∀e,(Instr.checkKey e 10000 kt (vS k)).run P w= .ok () w:=fun e=>xd.plain P w e kt k hkt
 unfold Instr.lookup
 unfold cV at hb
 simp only[Sem.run_bind,run_underlying ht,Result.andThen_ok,Sem.run_pure,gI w hb,hck,p6 k hkt]
 unfold jr
 cases mv k es 0 with
 |none=>simp[hz]
 |some q=>simp[Sem.run_pure]
theorem G0(k:List UInt8)(q:Nat)(hb:w.heap[b]?=some (cV es c))(ht:P.underlying t=some (.map kt et))(hkt:P.underlying kt=some .string)(hn:jr k es=none):
 (Instr.mapUpdate t (.map (some b)) (vS k) (pV q)).run P w= .ok () (iE w b (cV (es++[(k,q,c)]) (c+1))):=by
 have hck:∀e,(Instr.checkKey e 10000 kt (vS k)).run P w= .ok () w:=fun e=>xd.plain P w e kt k hkt
 have hf:mv k es 0=none:=by
  unfold jr at hn
  cases h:mv k es 0 with
  |none=>rfl
  |some q=>rw[h] at hn;cases hn
 unfold Instr.mapUpdate
 unfold cV at hb
 simp only[Sem.run_bind,run_underlying ht,Result.andThen_ok,gI w hb,hck,p6 k hkt,hf,Option.map_none,iZ w hb]
 congr 2
 unfold cV
 rw[List.map_append]
 simp[fS]
theorem Hy{T:List (Nat×TI)}(hT:cP P T){t sz by_:Nat}{e:Nat}(ht:bI T t=some ⟨.ptr e,sz,by_,.nilp⟩)(w:World):(zeroValue t).run P w= .ok (.pointer none) w:=by
 rcases (aX hT ht).zero with h0|⟨cs,h1,h2⟩
 ·cases h0
 ·have h1:cs=[.pointer none]:=by simpa [gw] using h1.symm
  subst h1
  cases hi:P.info? t with
  |none=>rw[hi] at h2;cases h2
  |some i=>
   rw[hi] at h2
   have h2:i.zero=some (.pointer none):=by simpa [ch,AV.isAgg] using h2
   simp[zeroValue,typeInfo,hi,h2]
end
section
variable {m:OM} {P:Program} {T:List (Nat×TI)} {C:il} {ops:Array Oper} {l:List Oper} {K:St→Prop} {n:Nat} {sl:List (Nat×AV)} {hp:List (Nat×HO)} {d:Nat} {ty:Nat} {pos:String} {aft:Array Edge} {gd:Option (Nat×Bool)}
theorem lj{w:World}{F:Nat→Prop}{s:List UInt8}{u:Value}(h:cL w F (.s s) u):u=vS s:=by
 rw[gS] at h;exact h.1
def C8(kf:Nat):Option Nat→AV
 |some q=>.ptr kf q [] 0
 |none=>.nilp
theorem e7(kf:Nat)(hT:cP P T)(hw:cH ops ⟨n,sl,hp⟩ gd=bE gd){t kt et e sz by_ sz1 by1 sz2 by2 k b c:Nat}{z z2:AV}{x ix:Operand}{es:List PE}{s:List UInt8}{r:AV}
 (ht:bI T t=some ⟨.map kt et,sz,by_,z⟩)(hkt:bI T kt=some ⟨.string,sz2,by2,z2⟩)(het:bI T et=some ⟨.ptr e,sz1,by1,.nilp⟩)
 (hx:ev ⟨n,sl,hp⟩ x= .own k (.map (some b)))(hg:bU hp k=some (.obj b (cV es c)))(hy:ev ⟨n,sl,hp⟩ ix= .s s)(hr:C8 kf (jr s es)=r)
 (hd:Nat.blt d n=true)(h:aq m P C ops l ⟨n,(d,r)::sl,hp⟩ K):aq m P C ops (⟨some d,.lookup t x ix false,ty,pos,aft,gd⟩::l) ⟨n,sl,hp⟩ K:=by
 subst hr
 refine eD hw [] eZ Z fun a w hs=>⟨(match jr s es with|some q=>pV q|none=>.pointer none),w,_,C8 kf (jr s es),?_,hs,hd,?_,m6.same (cD _ w),h⟩
 ·have Ex:=bg hs x
  rw[hx,cf] at Ex
  have Ey:=bg hs ix
  rw[hy] at Ey
  have Ey:=lj Ey
  have hb:w.heap[b]?=some (cV es c):=hs.getHeap hg
  have:=H3 s hb (gN hT ht) (eX (aX hT hkt)) (Hy hT het w)
  simp only[execOp,Ex.1,Ey,Sem.run_bind,this,Result.andThen_ok,Sem.run_pure]
 ·cases jr s es with
  |none=>exact xP.2 Z
  |some q=>exact dg.2 Z
theorem xY(hT:cP P T)(hw:cH ops ⟨n,sl,hp⟩ gd=bE gd){t kt et sz by_ sz2 by2 k b c kf q:Nat}{z z2:AV}{x ix y:Operand}{es:List PE}{s:List UInt8}
 (ht:bI T t=some ⟨.map kt et,sz,by_,z⟩)(hkt:bI T kt=some ⟨.string,sz2,by2,z2⟩)
 (hx:ev ⟨n,sl,hp⟩ x= .own k (.map (some b)))(hg:bU hp k=some (.obj b (cV es c)))(hi:ev ⟨n,sl,hp⟩ ix= .s s)(hy:ev ⟨n,sl,hp⟩ y= .ptr kf q [] 0)(hn:jr s es=none)
 {hp':List (Nat×HO)}(hm:m.oke none [k]=true)(hh:fG (eT hp k (.obj b (cV (es++[(s,q,c)]) (c+1))))=some hp')(h:aq m P C ops l ⟨n,sl,hp'⟩ K):aq m P C ops (⟨none,.mapUpdate t x ix y,ty,pos,aft,gd⟩::l) ⟨n,sl,hp⟩ K:=by
 have hh:=ew _ _ hh
 subst hh
 refine mq hw [k] hm Z fun a w hs=>?_
 have Ex:=bg hs x
 rw[hx,cf] at Ex
 have Ei:=bg hs ix
 rw[hi] at Ei
 have Ei:=lj Ei
 have Ey:=bg hs y
 rw[hy,dg] at Ey
 have hb:w.heap[b]?=some (cV es c):=hs.getHeap hg
 have hlt:=(Array.getElem?_eq_some_iff.1 hb).1
 have hrun:=G0 s q hb (gN hT ht) (eX (aX hT hkt)) hn
 have hm0:dE (fun b'=>b'∈HO.blk (.obj b (cV es c))) w (iE w b (cV (es++[(s,q,c)]) (c+1))):=ky (S:=fun b'=>b'∈HO.blk (.obj b (cV es c))) (List.mem_singleton.2 Z) _
 refine⟨_,⟨n,sl,eT hp k (.obj b (cV (es++[(s,q,c)]) (c+1)))⟩,?_,hs.swap hg (.obj b (cV (es++[(s,q,c)]) (c+1))) hm0 ?_ (fun b' hb'=>?_),fV hg hm0 (fun _ h=>.inl h),h⟩
 ·have hrun:(Instr.mapUpdate t (.map (some b)) (vS s) (.pointer (some ⟨q,0,none⟩))).run P w= .ok () (iE w b (cV (es++[(s,q,c)]) (c+1))):=hrun
  simp only[execOp,Ex.1,Ei,Ey,Sem.run_bind,hrun,Result.andThen_ok,Sem.run_pure]
 ·show (w.heap.setIfInBounds b _)[b]?=_
  rw[Array.getElem?_setIfInBounds_self_of_lt hlt]
 ·have:b=b':=(List.mem_singleton.1 hb').symm
  subst this
  exact⟨by simpa [iE] using hlt,.inl (List.mem_singleton.2 Z)⟩
theorem HI(hT:cP P T)(hw:cH ops ⟨n,sl,hp⟩ gd=bE gd){t kt et sz by_ k b c:Nat}{z:AV}{x:Operand}{es:List PE}
 (ht:bI T t=some ⟨.map kt et,sz,by_,z⟩)(hx:ev ⟨n,sl,hp⟩ x= .own k (.map (some b)))(hg:bU hp k=some (.obj b (cV es c)))(hm:m.okc (some d) (some (some k))=true)
 (hd:Nat.blt d n=true)(h:aq m P C ops l ⟨n,(d,.i .i64 es.length)::sl,hp⟩ K):aq m P C ops (⟨some d,.call ⟨.builtin .len,#[x],#[t]⟩,ty,pos,aft,gd⟩::l) ⟨n,sl,hp⟩ K:=by
 refine eI (d:=some d) hw (some (some k)) hm hd Z (fun a w hs=>?_) h
 have Ex:=bg hs x
 rw[hx,cf] at Ex
 have hb:w.heap[b]?=some (cV es c):=hs.getHeap hg
 refine⟨.int .i64 es.length,cq.2 Z,fun w' hr=>?_⟩
 have hb':w'.heap[b]?=some (cV es c):=(hr _ b hg (List.mem_singleton.2 Z)).trans hb
 unfold cV at hb'
 simp[execOp,resolve,invoke,builtin,Sem.run_bind,Sem.run_pure,Ex.1,Builtin.len_,run_underlying (gN hT ht),gI w' hb',goInt]
end
def xe(b c:Nat)(vis:List PE):Obj:=.mapIter (some b) c (vis.map (·.2.2)).toArray c
section
variable {m:OM} {P:Program} {T:List (Nat×TI)} {C:il} {ops:Array Oper} {l:List Oper} {K:St→Prop} {n:Nat} {sl:List (Nat×AV)} {hp:List (Nat×HO)} {d:Nat} {ty:Nat} {pos:String} {aft:Array Edge} {gd:Option (Nat×Bool)}
theorem HH(hT:cP P T)(hw:cH ops ⟨n,sl,hp⟩ gd=bE gd){t kt et sz by_ k b c:Nat}{z:AV}{x:Operand}{es:List PE}
 (ht:bI T t=some ⟨.map kt et,sz,by_,z⟩)(hx:ev ⟨n,sl,hp⟩ x= .own k (.map (some b)))(hg:bU hp k=some (.obj b (cV es c)))(hd:Nat.blt d n=true)
 (h:∀r,aq m P C ops l ⟨n,(d,.ptr d r [] 0)::sl,(d,.obj r (xe b c []))::hp⟩ K):aq m P C ops (⟨some d,.range t x,ty,pos,aft,gd⟩::l) ⟨n,sl,hp⟩ K:=by
 refine eD hw [] eZ Z fun a w hs=>?_
 have Ex:=bg hs x
 rw[hx,cf] at Ex
 have hb:w.heap[b]?=some (cV es c):=hs.getHeap hg
 unfold cV at hb
 have hrun:=run_range_map (P:=P) w t kt et b _ c (gN hT ht) hb
 have hm:dE lh w (w.alloc (xe b c [])):=(cD _ w).alloc _
 refine⟨.pointer (some ⟨w.heap.size,0,none⟩),w.alloc (xe b c []),⟨n,sl,(d,.obj w.heap.size (xe b c []))::hp⟩,.ptr d w.heap.size [] 0,?_,?_,hd,dg.2 Z,lz hm (fun b hb=>Nat.le_of_eq (List.mem_singleton.1 hb).symm),h _⟩
 ·simp only[execOp,Ex.1,Sem.run_bind,hrun,Result.andThen_ok,Sem.run_pure]
  rfl
 ·refine hs.new d _ hm ?_ (fun b hb=>?_)
  ·show (w.alloc (xe b c [])).heap[w.heap.size]?=_
   exact(MapKept.heap_alloc w _).1
  ·have:w.heap.size=b:=(List.mem_singleton.1 hb).symm
   subst this
   simp
theorem LP{es vis:List PE}{x:MapEntry}(h:x∈(leftOf (es.map fS).toArray (vis.map (·.2.2)).toArray).toList):∃e∈es,fS e=x∧e.2.2∉vis.map (·.2.2):=by
 unfold leftOf at h
 simp only[Array.toList_filter,List.mem_filter,List.mem_map] at h
 obtain⟨⟨e,he,rfl⟩,h2⟩:=h
 refine⟨e,he,rfl,fun hin=>?_⟩
 have:(vis.map (·.2.2)).toArray.contains (fS e).born=true:=by
  simpa [Array.contains_iff_mem,fS] using hin
 rw[this] at h2
 cases h2
theorem LD{es vis:List PE}(h:(leftOf (es.map fS).toArray (vis.map (·.2.2)).toArray).size=0):∀e∈es,e.2.2∈vis.map (·.2.2):=fun e he=>by
 refine Decidable.byContradiction (fun hn=>?_)
 have hm:fS e∈(leftOf (es.map fS).toArray (vis.map (·.2.2)).toArray).toList:=by
  unfold leftOf
  simp only[Array.toList_filter,List.mem_filter,List.mem_map]
  refine⟨⟨e,he,rfl⟩,?_⟩
  have:(vis.map (·.2.2)).toArray.contains (fS e).born=false:=by
   rw[Bool.eq_false_iff]
   intro hc
   exact hn (by simpa [Array.contains_iff_mem,fS] using hc)
  rw[this];rfl
 have:(leftOf (es.map fS).toArray (vis.map (·.2.2)).toArray).toList=[]:=List.eq_nil_of_length_eq_zero (by simpa using h)
 rw[this] at hm
 cases hm
theorem JG(kf:Nat)(hw:cH ops ⟨n,sl,hp⟩ gd=bE gd){ki km r b c:Nat}{it:Operand}{es vis:List PE}{hp':PE→List (Nat×HO)}
 (hx:ev ⟨n,sl,hp⟩ it= .ptr ki r [] 0)(hg:bU hp ki=some (.obj r (xe b c vis)))(hgm:bU hp km=some (.obj b (cV es c)))(hold:∀e∈es,e.2.2<c)(hkl:∀e∈es,e.1.length≤maxLen)(hd:Nat.blt d n=true)(hm:m.oke (some d) [ki]=true)
 (hh:∀e,fG (eT hp ki (.obj r (xe b c (vis++[e]))))=some (hp' e))
 (h0:(∀e∈es,e.2.2∈vis.map (·.2.2))→aq m P C ops l ⟨n,(d,.tup [.b false])::sl,hp⟩ K)
 (h1:∀e∈es,e.2.2∉vis.map (·.2.2)→aq m P C ops l ⟨n,(d,.tup [.b true,.s e.1,.ptr kf e.2.1 [] 0])::sl,hp' e⟩ K):aq m P C ops (⟨some d,.next it false,ty,pos,aft,gd⟩::l) ⟨n,sl,hp⟩ K:=by
 refine eD hw [ki] hm Z fun a w hs=>?_
 have Ex:=bg hs it
 rw[hx,dg] at Ex
 have hr:w.heap[r]?=some (xe b c vis):=hs.getHeap hg
 have hb:w.heap[b]?=some (cV es c):=hs.getHeap hgm
 have hlt:=(Array.getElem?_eq_some_iff.1 hr).1
 unfold xe at hr
 unfold cV at hb
 rcases run_next_at (P:=P) w ty r b c c _ _ c hr hb (fun x hx=>by
  simp only[List.mem_map] at hx
  obtain⟨e,he,rfl⟩:=hx
  exact hold e he) (Nat.le_refl _) with ⟨hz,hrun⟩|⟨x,hxe,w1,hal,hrun⟩
 ·refine⟨.tuple #[.bool false],w,⟨n,sl,hp⟩,.tup [.b false],?_,hs,hd,?_,⟨cD _ w,fun _ _ _ _ h=>h⟩,h0 (LD hz)⟩
  ·simp only[execOp,Ex,Sem.run_bind,hrun,Result.andThen_ok,Sem.run_pure]
  ·refine⟨[.bool false],rfl,rfl,fun i x v hx hv=>?_⟩
   rcases i with _|i
   ·simp only[List.getElem?_cons_zero,Option.some.injEq] at hx hv
    subst hx;subst hv
    exact .inr ⟨[.bool false],by simp[bw],rfl⟩
   ·simp at hx
 ·obtain⟨e,he,rfl,hnv⟩:=LP hxe
  have hseen:((vis.map (·.2.2)).toArray.push (fS e).born)=((vis++[e]).map (·.2.2)).toArray:=by simp[fS]
  rw[hseen] at hrun
  have hm0:dE (fun b'=>b'∈HO.blk (.obj r (xe b c vis))) w (iE w1 r (xe b c (vis++[e]))):=by
   have h2:dE (fun b'=>b'∈HO.blk (.obj r (xe b c vis))) w w1:=by
    rcases hal with rfl|rfl
    ·exact cD _ _
    ·exact(cD _ w).drew
   exact h2.trans (ky (S:=fun b'=>b'∈HO.blk (.obj r (xe b c vis))) (List.mem_singleton.2 Z) _)
  have hlt1:r<w1.heap.size:=by rcases hal with rfl|rfl<;>exact hlt
  refine⟨.tuple #[.bool true,vS e.1,pV e.2.1],iE w1 r (xe b c (vis++[e])),⟨n,sl,eT hp ki (.obj r (xe b c (vis++[e])))⟩,.tup [.b true,.s e.1,.ptr kf e.2.1 [] 0],?_,hs.swap hg (.obj r (xe b c (vis++[e]))) hm0 ?_ (fun b' hb'=>?_),hd,?_,fV hg hm0 (fun _ h=>.inl h),?_⟩
  ·simp only[execOp,Ex,Sem.run_bind,hrun,Result.andThen_ok,Sem.run_pure]
   rfl
  ·show (w1.heap.setIfInBounds r _)[r]?=_
   rw[Array.getElem?_setIfInBounds_self_of_lt hlt1]
  ·have:r=b':=(List.mem_singleton.1 hb').symm
   subst this
   exact⟨by simpa [iE] using hlt1,.inl (List.mem_singleton.2 Z)⟩
  ·refine⟨[.bool true,vS e.1,pV e.2.1],rfl,rfl,fun i x v hx hv=>?_⟩
   rcases i with _|_|_|i
   ·simp only[List.getElem?_cons_zero,Option.some.injEq] at hx hv
    subst hx;subst hv
    exact .inr ⟨[.bool true],by simp[bw],rfl⟩
   ·simp only[List.getElem?_cons_succ,List.getElem?_cons_zero,Option.some.injEq] at hx hv
    subst hx;subst hv
    exact .inr ⟨[vS e.1],by simp only[bw];exact⟨rfl,hkl e he⟩,rfl⟩
   ·simp only[List.getElem?_cons_succ,List.getElem?_cons_zero,Option.some.injEq] at hx hv
    subst hx;subst hv
    exact .inr ⟨[pV e.2.1],by simp only[bw];rfl,rfl⟩
   ·simp at hx
  ·have:=h1 e he hnv
   rw[←ew _ _ (hh e)] at this
   exact this
theorem HK(kf:Nat)(hw:cH ops ⟨n,sl,hp⟩ gd=bE gd){ki km r b c:Nat}{it:Operand}{es vis:List PE}{e:PE}
 (hx:ev ⟨n,sl,hp⟩ it= .ptr ki r [] 0)(hg:bU hp ki=some (.obj r (xe b c (vis++[e]))))(hgm:bU hp km=some (.obj b (cV es c)))(he:e∈es)(hnd:(es.map (·.2.2)).Nodup)(hkl:∀e∈es,e.1.length≤maxLen)(hd:Nat.blt d n=true)
 (h:aq m P C ops l ⟨n,(d,.tup [.s e.1,.ptr kf e.2.1 [] 0])::sl,hp⟩ K):aq m P C ops (⟨some d,.entry it,ty,pos,aft,gd⟩::l) ⟨n,sl,hp⟩ K:=by
 refine eD hw [] eZ Z fun a w hs=>?_
 have Ex:=bg hs it
 rw[hx,dg] at Ex
 have hr:w.heap[r]?=some (xe b c (vis++[e])):=hs.getHeap hg
 have hb:w.heap[b]?=some (cV es c):=hs.getHeap hgm
 have hseen:((vis++[e]).map (·.2.2)).toArray=((vis.map (·.2.2)).toArray.push (fS e).born):=by simp[fS]
 unfold xe at hr
 rw[hseen] at hr
 unfold cV at hb
 have hn2:(((es.map fS).toArray.toList).map (·.born)).Nodup:=by
  have:((es.map fS).toArray.toList).map (·.born)=es.map (·.2.2):=by simp[fS,Function.comp_def]
  rw[this];exact hnd
 have hrun:=run_entry_at (P:=P) w r b c _ _ c (fS e) hr hb (by simpa using ⟨_,_,_,he,rfl⟩) hn2
 refine⟨.tuple #[vS e.1,pV e.2.1],w,_,.tup [.s e.1,.ptr kf e.2.1 [] 0],?_,hs,hd,?_,m6.same (cD _ w),h⟩
 ·simp only[execOp,Ex,Sem.run_bind,hrun,Result.andThen_ok,Sem.run_pure]
  rfl
 ·refine⟨[vS e.1,pV e.2.1],rfl,rfl,fun i x v hx hv=>?_⟩
  rcases i with _|_|i
  ·simp only[List.getElem?_cons_zero,Option.some.injEq] at hx hv
   subst hx;subst hv
   exact .inr ⟨[vS e.1],by simp only[bw];exact⟨rfl,hkl e he⟩,rfl⟩
  ·simp only[List.getElem?_cons_succ,List.getElem?_cons_zero,Option.some.injEq] at hx hv
   subst hx;subst hv
   exact .inr ⟨[pV e.2.1],by simp only[bw];rfl,rfl⟩
  ·simp at hx
end
def pA(k:List UInt8)(es:List PE):List PE:=match mv k es 0 with
 |some q=>es.eraseIdx q.1
 |none=>es
def vN(k:List UInt8)(q:Nat)(es:List PE):List PE:=match mv k es 0 with
 |some i=>es.modify i.1 (fun e=>(e.1,q,e.2.2))
 |none=>es
theorem zB(k:List UInt8):∀(es:List PE) (i:Nat) (q:Nat×Nat),mv k es i=some q→∃s e r,es=s++e::r∧q.1=i+s.length∧e.1=k∧q.2=e.2.1∧∀x∈s,x.1≠k
 |e::r,i,q,h=>by
  unfold mv at h
  by_cases hk:k=e.1
  ·rw[if_pos hk] at h
   cases h
   exact⟨[],e,r,rfl,rfl,hk.symm,rfl,fun x hx=>(by cases hx)⟩
  ·rw[if_neg hk] at h
   obtain⟨s,e',r',rfl,h1,h2,h3,h4⟩:=zB k r (i+1) q h
   refine⟨e::s,e',r',rfl,by rw[h1,List.length_cons];omega,h2,h3,fun x hx=>?_⟩
   rcases List.mem_cons.1 hx with rfl|hx
   ·exact fun e=>hk e.symm
   ·exact h4 x hx
theorem rZ(k:List UInt8)(e:PE)(r:List PE)(he:e.1=k):∀(s:List PE) (i:Nat),(∀x∈s,x.1≠k)→mv k (s++e::r) i=some (i+s.length,e.2.1)
 |[],i,_=>by
  show mv k (e::r) i=_
  unfold mv
  rw[if_pos he.symm];rfl
 |x::s,i,h=>by
  show mv k (x::(s++e::r)) i=_
  unfold mv
  rw[if_neg (fun hx=>h x (List.mem_cons_self ..) hx.symm),rZ k e r he s (i+1) (fun y hy=>h y (List.mem_cons_of_mem _ hy)),List.length_cons]
  congr 2;omega
theorem od{α:Type}(f:α→α)(e:α)(r:List α):∀s:List α,(s++e::r).modify s.length f=s++f e::r
 |[]=>rfl
 |x::s=>by
  show x::(s++e::r).modify s.length f=_
  rw[od f e r s];rfl
theorem nD{α:Type}(e:α)(r:List α):∀s:List α,(s++e::r).eraseIdx s.length=s++r
 |[]=>rfl
 |x::s=>by
  show x::(s++e::r).eraseIdx s.length=_
  rw[nD e r s];rfl
theorem ws{k:List UInt8}{e:PE}{s r:List PE}(he:e.1=k)(hs:∀x∈s,x.1≠k):pA k (s++e::r)=s++r:=by
 unfold pA
 rw[rZ k e r he s 0 hs]
 show (s++e::r).eraseIdx (0+s.length)=_
 rw[Nat.zero_add,nD]
theorem HS{k:List UInt8}{q:Nat}{e:PE}{s r:List PE}(he:e.1=k)(hs:∀x∈s,x.1≠k):vN k q (s++e::r)=s++(k,q,e.2.2)::r:=by
 unfold vN
 rw[rZ k e r he s 0 hs]
 show (s++e::r).modify (0+s.length) _=_
 rw[Nat.zero_add,od,he]
section
variable {P:Program} {w:World} {b c:Nat} {t kt et:TypeId} {es:List PE}
theorem IM(k:List UInt8)(t2 ty:Nat)(hb:w.heap[b]?=some (cV es c))(ht:P.underlying t=some (.map kt et))(hkt:P.underlying kt=some .string):
 (Builtin.delete_ #[t,t2] ty #[.map (some b),vS k]).run P w= .ok (.tuple #[]) (iE w b (cV (pA k es) c)):=by
 have hck:∀e,(Instr.checkKey e 10000 kt (vS k)).run P w= .ok () w:=fun e=>xd.plain P w e kt k hkt
 unfold Builtin.delete_
 unfold cV at hb
 have e1:(#[t,t2]:Array Nat)[0]?=some t:=rfl
 have e2:(#[.map (some b),vS k]:Array Value)[0]?=some (.map (some b)):=rfl
 have e3:(#[.map (some b),vS k]:Array Value)[1]?=some (vS k):=rfl
 simp only[e1,e2,e3,Sem.run_bind,run_underlying ht,Result.andThen_ok,gI w hb,hck,p6 k hkt]
 unfold pA
 cases hf:mv k es 0 with
 |none=>
  simp only[Option.map_none,Sem.run_bind,iZ w hb,Result.andThen_ok,Sem.run_pure]
  rfl
 |some q=>
  obtain⟨s,e,r,rfl,h1,_⟩:=zB k es 0 q hf
  simp only[Option.map_some,Sem.run_bind,iZ w hb,Result.andThen_ok,Sem.run_pure]
  congr 2
  unfold cV
  congr 1
  have hl:q.1<(((s++e::r).map fS).toArray).size:=by rw[h1];simp
  rw[Array.eraseIdxIfInBounds,dif_pos hl,List.eraseIdx_toArray,h1,Nat.zero_add,nD,List.map_append,List.map_append,List.map_cons]
  have h3:=nD (fS e) (r.map fS) (s.map fS)
  rw[List.length_map] at h3
  rw[h3]
theorem Fv(k:List UInt8)(q:Nat)(hb:w.heap[b]?=some (cV es c))(ht:P.underlying t=some (.map kt et))(hkt:P.underlying kt=some .string)(hn:jr k es≠none):
 (Instr.mapUpdate t (.map (some b)) (vS k) (pV q)).run P w= .ok () (iE w b (cV (vN k q es) c)):=by
 have hck:∀e,(Instr.checkKey e 10000 kt (vS k)).run P w= .ok () w:=fun e=>xd.plain P w e kt k hkt
 unfold Instr.mapUpdate
 unfold cV at hb
 unfold jr at hn
 unfold vN
 simp only[Sem.run_bind,run_underlying ht,Result.andThen_ok,gI w hb,hck,p6 k hkt]
 cases hf:mv k es 0 with
 |none=>rw[hf] at hn;exact absurd Z hn
 |some i=>
  obtain⟨s,e,r,rfl,h1,h2,_⟩:=zB k es 0 i hf
  have hg:((s++e::r).map fS).toArray[i.1]?=some (fS e):=by
   rw[h1];simp
  have hk:(Instr.keyThatStays (vS k) (vS k)).run P w= .ok (vS k) w:=by
   unfold Instr.keyThatStays
   rw[if_pos (by show ((bf k).data==(bf k).data)=true;simp)];rfl
  have he:(fS e).key=vS k:=by rw[←h2];rfl
  simp only[Option.map_some,hg,Option.getD_some,he,Sem.run_bind,hk,Result.andThen_ok,iZ w hb]
  congr 2
  unfold cV
  congr 1
  simp only[List.modify_toArray]
  congr 1
  have h3:=od (fun x:MapEntry=>{x with key:=vS k,val:=pV q}) (fS e) (r.map fS) (s.map fS)
  rw[List.length_map] at h3
  rw[h1,Nat.zero_add,od,List.map_append,List.map_cons,List.map_append,List.map_cons,h3,←h2]
  rfl
end
section
variable {m:OM} {P:Program} {T:List (Nat×TI)} {C:il} {ops:Array Oper} {l:List Oper} {K:St→Prop} {n:Nat} {sl:List (Nat×AV)} {hp:List (Nat×HO)} {d:Nat} {ty:Nat} {pos:String} {aft:Array Edge} {gd:Option (Nat×Bool)}
theorem s9(hT:cP P T)(hw:cH ops ⟨n,sl,hp⟩ gd=bE gd){t t2 kt et sz by_ sz2 by2 k b c:Nat}{z z2:AV}{x ix:Operand}{es:List PE}{s:List UInt8}
 (ht:bI T t=some ⟨.map kt et,sz,by_,z⟩)(hkt:bI T kt=some ⟨.string,sz2,by2,z2⟩)
 (hx:ev ⟨n,sl,hp⟩ x= .own k (.map (some b)))(hg:bU hp k=some (.obj b (cV es c)))(hi:ev ⟨n,sl,hp⟩ ix= .s s)
 {hp':List (Nat×HO)}(hm:m.oke none [k]=true)(hh:fG (eT hp k (.obj b (cV (pA s es) c)))=some hp')(h:aq m P C ops l ⟨n,sl,hp'⟩ K):aq m P C ops (⟨none,.call ⟨.builtin .delete,#[x,ix],#[t,t2]⟩,ty,pos,aft,gd⟩::l) ⟨n,sl,hp⟩ K:=by
 have hh:=ew _ _ hh
 subst hh
 refine eD (d:=none) hw [k] hm Z fun a w hs=>?_
 have Ex:=bg hs x
 rw[hx,cf] at Ex
 have Ei:=bg hs ix
 rw[hi] at Ei
 have Ei:=lj Ei
 have hb:w.heap[b]?=some (cV es c):=hs.getHeap hg
 have hlt:=(Array.getElem?_eq_some_iff.1 hb).1
 have hrun:=IM s t2 ty hb (gN hT ht) (eX (aX hT hkt))
 have hm0:dE (fun b'=>b'∈HO.blk (.obj b (cV es c))) w (iE w b (cV (pA s es) c)):=ky (S:=fun b'=>b'∈HO.blk (.obj b (cV es c))) (List.mem_singleton.2 Z) _
 refine⟨.tuple #[],_,⟨n,sl,eT hp k (.obj b (cV (pA s es) c))⟩,.any,?_,hs.swap hg (.obj b (cV (pA s es) c)) hm0 ?_ (fun b' hb'=>?_),rfl,J,fV hg hm0 (fun _ h=>.inl h),h⟩
 ·simp[execOp,resolve,invoke,builtin,Ex.1,Ei,hrun]
 ·show (w.heap.setIfInBounds b _)[b]?=_
  rw[Array.getElem?_setIfInBounds_self_of_lt hlt]
 ·have:b=b':=(List.mem_singleton.1 hb').symm
  subst this
  exact⟨by simpa [iE] using hlt,.inl (List.mem_singleton.2 Z)⟩
theorem Db(hT:cP P T)(hw:cH ops ⟨n,sl,hp⟩ gd=bE gd){t kt et sz by_ sz2 by2 k b c kf q:Nat}{z z2:AV}{x ix y:Operand}{es:List PE}{s:List UInt8}
 (ht:bI T t=some ⟨.map kt et,sz,by_,z⟩)(hkt:bI T kt=some ⟨.string,sz2,by2,z2⟩)
 (hx:ev ⟨n,sl,hp⟩ x= .own k (.map (some b)))(hg:bU hp k=some (.obj b (cV es c)))(hi:ev ⟨n,sl,hp⟩ ix= .s s)(hy:ev ⟨n,sl,hp⟩ y= .ptr kf q [] 0)(hn:jr s es≠none)
 {hp':List (Nat×HO)}(hm:m.oke none [k]=true)(hh:fG (eT hp k (.obj b (cV (vN s q es) c)))=some hp')(h:aq m P C ops l ⟨n,sl,hp'⟩ K):aq m P C ops (⟨none,.mapUpdate t x ix y,ty,pos,aft,gd⟩::l) ⟨n,sl,hp⟩ K:=by
 have hh:=ew _ _ hh
 subst hh
 refine mq hw [k] hm Z fun a w hs=>?_
 have Ex:=bg hs x
 rw[hx,cf] at Ex
 have Ei:=bg hs ix
 rw[hi] at Ei
 have Ei:=lj Ei
 have Ey:=bg hs y
 rw[hy,dg] at Ey
 have hb:w.heap[b]?=some (cV es c):=hs.getHeap hg
 have hlt:=(Array.getElem?_eq_some_iff.1 hb).1
 have hrun:=Fv s q hb (gN hT ht) (eX (aX hT hkt)) hn
 have hm0:dE (fun b'=>b'∈HO.blk (.obj b (cV es c))) w (iE w b (cV (vN s q es) c)):=ky (S:=fun b'=>b'∈HO.blk (.obj b (cV es c))) (List.mem_singleton.2 Z) _
 refine⟨_,⟨n,sl,eT hp k (.obj b (cV (vN s q es) c))⟩,?_,hs.swap hg (.obj b (cV (vN s q es) c)) hm0 ?_ (fun b' hb'=>?_),fV hg hm0 (fun _ h=>.inl h),h⟩
 ·have hrun:(Instr.mapUpdate t (.map (some b)) (vS s) (.pointer (some ⟨q,0,none⟩))).run P w= .ok () (iE w b (cV (vN s q es) c)):=hrun
  simp only[execOp,Ex.1,Ei,Ey,Sem.run_bind,hrun,Result.andThen_ok,Sem.run_pure]
 ·show (w.heap.setIfInBounds b _)[b]?=_
  rw[Array.getElem?_setIfInBounds_self_of_lt hlt]
 ·have:b=b':=(List.mem_singleton.1 hb').symm
  subst this
  exact⟨by simpa [iE] using hlt,.inl (List.mem_singleton.2 Z)⟩
end
end Go.Proofs.YtginkbjclkdglaaGreat
