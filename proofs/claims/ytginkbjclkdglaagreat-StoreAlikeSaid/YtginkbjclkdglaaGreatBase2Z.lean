/- append of a slice that came in: nil, empty or not. No program in sight. -/
import Derived.Test.YtginkbjclkdglaaGreatV1Z
import Derived.Test.YtginkbjclkdglaaGreatV6
import Derived.Laws.MakeOwn
import Derived.Deep.LoopGhost
namespace Go.Proofs.YtginkbjclkdglaaGreat
open Go.RowKit
section
variable {P:Program} {α:Type} {enc:α→List Value} {size bytes:Nat} {w:World} {B:Nat} {t e:TypeId} {v:Value} {xs ys:List α}
end
theorem Sl.step{α:Type}{enc:α→List Value}{size:Nat}{w w':World}{F G S:Nat→Prop}{v:Value}{xs:List α}(h:Sl w F enc size v xs)(he:∀x,0<(enc x).length)(hm:dE S w w')(hF:∀k,F k→¬ S k)(hG:∀k,F k→k<w.heap.size→G k):Sl w' G enc size v xs:=by
 obtain⟨A,cap,rfl,h1,h2,hs⟩:=h
 refine⟨A,cap,rfl,h1,h2,fun hx=>?_⟩
 have hlt:=fun b off hA=>q4.lt_ hs hx he (b:=b) (off:=off) hA
 obtain⟨b,off,hA,hB,hc⟩:=hs hx
 exact⟨b,off,hA,hG b hB (hlt b off hA),fun k x hk j u hu=>hm.cell_some (hc k x hk j u hu) (hF b hB)⟩
end Go.Proofs.YtginkbjclkdglaaGreat
namespace Go.Proofs.YtginkbjclkdglaaGreat
open Go Go.RowKit
def fh(arr:Array Value):Nat→List Value→Array Value
 |_,[]=>arr
 |o,v::r=>fh (arr.setIfInBounds o v) (o+1) r
theorem hZ:∀(vs:List Value) (arr:Array Value) (o i:Nat),o+vs.length≤arr.size→(fh arr o vs)[i]?=if o≤i∧i<o+vs.length then vs[i - o]? else arr[i]?
 |[],arr,o,i,_=>by
  show arr[i]?=_
  rw[if_neg];simp only[List.length_nil];omega
 |v::r,arr,o,i,h=>by
  simp only[List.length_cons] at h ⊢
  show (fh (arr.setIfInBounds o v) (o+1) r)[i]?=_
  rw[hZ r _ (o+1) i (by rw[Array.size_setIfInBounds];omega)]
  by_cases h1:o+1≤i∧i<o+1+r.length
  ·rw[if_pos h1,if_pos (by omega),show i - o=(i - (o+1))+1 by omega,List.getElem?_cons_succ]
  ·rw[if_neg h1]
   by_cases h2:i=o
   ·subst h2
    rw[if_pos (by omega),Nat.sub_self,Array.getElem?_setIfInBounds,if_pos Z,if_pos (by omega)];rfl
   ·rw[if_neg (by omega),Array.getElem?_setIfInBounds,if_neg (by omega)]
theorem iJ.setCells{g:Nat}{t:TypeId}:∀(vs:List Value) (o:Nat) {w:World} {arr:Array Value},iJ w g t arr→iJ (w.setCells g o vs) g t (fh arr o vs)
 |[],_,_,_,h=>h
 |v::r,o,_,_,h=>iJ.setCells r (o+1) (h.set_ o v)
theorem fU{S:Nat→Prop}{a:World}{g:Nat}(hS:g<a.heap.size→S g):∀(vs:List Value) (o:Nat) {w:World},dE S a w→dE S a (w.setCells g o vs)
 |[],_,_,h=>h
 |v::r,o,_,h=>fU hS r (o+1) (h.setCell hS v)
def AV.isVal:AV→Bool
 |.any|.tup _=>false
 |_=>true
section
variable {m:OM} {P:Program} {T:List (Nat×TI)} {C:il} {S:St} {a:Act} {w:World} {ops:Array Oper} {l:List Oper} {K:St→Prop} {F:Nat→Prop}
mutual
theorem iw:∀(z:AV) (cs:List Value),gw z=some cs→bw w F z cs
 |.b x,cs,h=>by simp only[gw,Option.some.injEq] at h;subst h;simp only[bw]
 |.i k n,cs,h=>by simp only[gw,Option.some.injEq] at h;subst h;simp only[bw]
 |.s [],cs,h=>by simp only[gw,Option.some.injEq] at h;subst h;simp only[bw];exact⟨rfl,Nat.zero_le _⟩
 |.s (c::r),cs,h=>by simp[gw] at h
 |.nil,cs,h=>by simp only[gw,Option.some.injEq] at h;subst h;simp only[bw]
 |.nilp,cs,h=>by simp only[gw,Option.some.injEq] at h;subst h;simp only[bw]
 |.nilf,cs,h=>by simp only[gw,Option.some.injEq] at h;subst h;simp only[bw]
 |.nili,cs,h=>by simp only[gw,Option.some.injEq] at h;subst h;simp only[bw]
 |.agg fs,cs,h=>by simp only[gw] at h;simp only[bw];exact wg fs cs h
 |.arr sz n xs,cs,h=>by
  simp only[gw] at h
  split at h
  ·rename_i hc
   simp only[bw]
   exact⟨hc.1,ue sz xs cs h (fun x hx=>by have:=List.all_eq_true.1 hc.2 x hx;simpa using this)⟩
  ·cases h
 |.any,cs,h=>by simp[gw] at h
 |.sl _ _,cs,h=>by simp[gw] at h
 |.ptr _ _ _ _,cs,h=>by simp[gw] at h
 |.own _ _,cs,h=>by simp[gw] at h
 |.vw _ _ _ _ _ _ _,cs,h=>by simp[gw] at h
 |.cp _,cs,h=>by simp[gw] at h
 |.fn _ _,cs,h=>by simp[gw] at h
 |.ifc _ _,cs,h=>by simp[gw] at h
 |.tup _,cs,h=>by simp[gw] at h
theorem wg:∀(zs:List AV) (cs:List Value),l7 zs=some cs→fK w F zs cs
 |[],cs,h=>by simp only[l7,Option.some.injEq] at h;subst h;simp only[fK]
 |z::zs,cs,h=>by
  simp only[l7] at h
  cases h1:gw z with
  |none=>simp[h1] at h
  |some c1=>cases h2:l7 zs with
   |none=>simp[h1,h2] at h
   |some c2=>
    simp only[h1,h2,Option.some.injEq] at h
    subst h
    simp only[fK]
    exact⟨c1,c2,rfl,iw z c1 h1,wg zs c2 h2⟩
theorem ue(sz:Nat):∀(zs:List AV) (cs:List Value),l7 zs=some cs→(∀x∈zs,gz x=sz)→dq w F sz zs cs
 |[],cs,h,_=>by simp only[l7,Option.some.injEq] at h;subst h;simp only[dq]
 |z::zs,cs,h,hz=>by
  simp only[l7] at h
  cases h1:gw z with
  |none=>simp[h1] at h
  |some c1=>cases h2:l7 zs with
   |none=>simp[h1,h2] at h
   |some c2=>
    simp only[h1,h2,Option.some.injEq] at h
    subst h
    have h3:=iw z c1 h1
    simp only[dq]
    exact⟨c1,c2,rfl,h3,by rw[dF z c1 h3];exact hz z (by simp),ue sz zs c2 h2 (fun x hx=>hz x (by simp[hx]))⟩
end
theorem dV{x:AV}{cs:List Value}(h:bw w F x cs):(ch x cs).cells=cs.toArray:=by
 cases hx:x.isAgg with
 |true=>simp[ch,hx,Value.cells]
 |false=>
  obtain⟨u,rfl⟩:=pq h hx
  have:=o5 x _ h u (by simp)
  simp only[ch,hx,Bool.false_eq_true,if_false,List.headD_cons]
  cases u<;>simp_all [Value.oneCell',Value.cells]
theorem i7{x:AV}{v:Value}(hx:x.isVal=true)(h:cL w F x v):∃cs,bw w F x cs∧v=ch x cs:=by
 cases x<;>simp[AV.isVal] at hx<;>exact h
theorem eZ{m:OM}{d:Option Tmp}:m.oke d []=true:=by cases m<;>simp[OM.oke]
theorem lz{S:St}{w w':World}{k n:Nat}{sl:List (Nat×AV)}{x:HO}(hm:dE lh w w')(hb:∀b,b∈x.blk→w.heap.size≤b):m6 S w ⟨n,sl,(k,x)::S.heap⟩ w' []:=
 ⟨hm.mono (fun _ _ h=>h.elim),fun tk _ b hlt ⟨p,hp,hk,hpb⟩=>by
  rcases List.mem_cons.1 hp with rfl|hp
  ·have:=hb b hpb;omega
  ·exact⟨p,hp,hk,hpb⟩⟩
theorem m6.same{S:St}{w w':World}{n:Nat}{sl:List (Nat×AV)}(hm:dE lh w w'):m6 S w ⟨n,sl,S.heap⟩ w' []:=
 ⟨hm.mono (fun _ _ h=>h.elim),fun _ _ _ _ h=>h⟩
theorem fV{S:St}{w w':World}{k n:Nat}{sl:List (Nat×AV)}{x y:HO}(hg:bU S.heap k=some x)(hm:dE (fun b=>b∈x.blk) w w')(hb:∀b,b∈y.blk→b∈x.blk∨w.heap.size≤b):m6 S w ⟨n,sl,eT S.heap k y⟩ w' [k]:=by
 obtain⟨pre,post,e1⟩:=ij hg
 have hin:(k,x)∈S.heap:=by rw[e1];simp
 refine⟨hm.mono (fun b _ h=>⟨(k,x),hin,by simp,h⟩),fun tk hk b hlt ⟨p,hp,hpk,hpb⟩=>?_⟩
 have hsub:∀(H:List (Nat×HO)) p,p∈eT H k y→p∈H∨(p=(k,y)):=by
  intro H
  induction H with
  |nil=>intro p hp;simp[eT] at hp
  |cons q r ih=>
   obtain⟨q1,q2⟩:=q
   intro p hp
   unfold eT at hp
   cases hbq:Nat.beq q1 k with
   |true=>
    rw[hbq] at hp
    have:=Nat.eq_of_beq_eq_true hbq
    subst this
    rcases List.mem_cons.1 hp with rfl|hp
    ·exact .inr Z
    ·exact .inl (List.mem_cons_of_mem _ hp)
   |false=>
    rw[hbq] at hp
    rcases List.mem_cons.1 hp with rfl|hp
    ·exact .inl (by simp)
    ·rcases ih p hp with h|h
     ·exact .inl (List.mem_cons_of_mem _ h)
     ·exact .inr h
 rcases hsub _ p hp with h|rfl
 ·exact⟨p,h,hpk,hpb⟩
 ·rcases hb b hpb with h|h
  ·exact⟨(k,x),hin,hpk,h⟩
  ·omega
theorem ep.newVar(hs:ep C S a w)(k:Nat)(x:AV)(cs:List Value)(t:TypeId)(hx:bw w (Fz C S.heap w) x cs):
 ep C ⟨S.n,S.slots,(k,.var w.heap.size x)::S.heap⟩ a (w.alloc (.cells cs.toArray t)):=by
 have hm:dE lh w (w.alloc (.cells cs.toArray t)):=(cD _ w).alloc _
 refine hs.new k _ hm ⟨t,cs.toArray,iJ.new w t _,?_⟩ (fun b hb=>?_)
 ·refine hs.keepC hm (fun _ _ hf=>hf.elim) (fun b hin=>?_) _ _ (by simpa using hx)
  rw[cI] at hin
  rcases List.mem_append.1 hin with h1|h1
  ·have:b=w.heap.size:=by simp[HO.blk] at h1;exact h1
   subst this
   exact⟨by simp,.inr (Nat.le_refl _)⟩
  ·exact⟨Nat.lt_of_lt_of_le (hs.lt b h1).1 hm.size,.inl h1⟩
 ·have:w.heap.size=b:=(List.mem_singleton.1 hb).symm
  subst this
  simp
theorem aq.alloc(hT:cP P T){d:Nat}{ty:Nat}{pos:String}{aft:Array Edge}{gd:Option (Nat×Bool)}(hw:cH ops S gd=bE gd){t:Nat}{k:TK}{sz by_:Nat}{z:AV}(ht:bI T t=some ⟨k,sz,by_,z⟩)(hz:z.isVal=true)
 (hd:Nat.blt d S.n=true)(h:∀b,aq m P C ops l ⟨S.n,(d,.ptr d b [] 0)::S.slots,(d,.var b z)::S.heap⟩ K):aq m P C ops (⟨some d,.alloc t,ty,pos,aft,gd⟩::l) S K:=by
 refine eD hw [] eZ Z fun a w hs=>?_
 rcases (aX hT ht).zero with h0|⟨cs,h1,h2⟩
 ·have h0:z= .any:=h0
  rw[h0] at hz;cases hz
 ·have hrep:∀{w F},bw w F z cs:=fun {w F}=>iw z cs h1
  cases hi:P.info? t with
  |none=>rw[hi] at h2;cases h2
  |some i=>
   rw[hi] at h2
   have hz2:i.zero=some (ch z cs):=h2
   refine⟨.pointer (some ⟨w.heap.size,0,none⟩),w.alloc (.cells cs.toArray t),_,.ptr d w.heap.size [] 0,?_,hs.newVar d z cs t hrep,hd,dg.2 Z,lz ((cD _ w).alloc _) (fun b hb=>Nat.le_of_eq (List.mem_singleton.1 hb).symm),h _⟩
   have hcells:=dV (w:=w) (F:=fun _=>True) (hrep (w:=w))
   simp[execOp,Instr.alloc,zeroValue,typeInfo,hi,hz2,newVar,newRow,newObj,Sem.run,hcells]
theorem aq.box{d:Nat}{ty:Nat}{pos:String}{aft:Array Edge}{gd:Option (Nat×Bool)}(hw:cH ops S gd=bE gd){t:Nat}{x:Operand}(hx:(ev S x).isVal=true)
 (hd:Nat.blt d S.n=true)(h:∀b,aq m P C ops l ⟨S.n,(d,.ptr d b [] 0)::S.slots,(d,.var b (ev S x))::S.heap⟩ K):aq m P C ops (⟨some d,.box t x,ty,pos,aft,gd⟩::l) S K:=by
 refine eD hw [] eZ Z fun a w hs=>?_
 obtain⟨cs,hc,hv⟩:=i7 hx (bg hs x)
 refine⟨.pointer (some ⟨w.heap.size,0,none⟩),w.alloc (.cells cs.toArray t),_,.ptr d w.heap.size [] 0,?_,hs.newVar d _ cs t hc,hd,dg.2 Z,lz ((cD _ w).alloc _) (fun b hb=>by
  have:w.heap.size=b:=(List.mem_singleton.1 hb).symm
  omega),h _⟩
 have hcells:=dV hc
 simp[execOp,Instr.box,hv,newVar,newRow,newObj,Sem.run,hcells]
theorem tQ(w:World){g:Nat}{t:TypeId}{arr:Array Value}(o:Nat)(vs:List Value)(hb:iJ w g t arr)(ho:o+vs.length≤arr.size):
 iJ (w.setCells g o vs) g t (arr.toList.take o++vs++arr.toList.drop (o+vs.length)).toArray:=by
 have h1:=iJ.setCells vs o hb
 have:fh arr o vs=(arr.toList.take o++vs++arr.toList.drop (o+vs.length)).toArray:=by
  apply Array.ext_getElem?
  intro i
  rw[hZ vs arr o i ho,show (arr.toList.take o++vs++arr.toList.drop (o+vs.length)).toArray[i]?=(arr.toList.take o++vs++arr.toList.drop (o+vs.length))[i]? from List.getElem?_toArray]
  have hl:(arr.toList.take o).length=o:=by rw[List.length_take,Array.length_toList];omega
  by_cases h2:o≤i∧i<o+vs.length
  ·rw[if_pos h2,List.append_assoc,List.getElem?_append_right (by omega),hl,List.getElem?_append_left (by omega)]
  ·rw[if_neg h2]
   by_cases h3:i<o
   ·rw[List.append_assoc,List.getElem?_append_left (by omega),List.getElem?_take,if_pos h3,Array.getElem?_toList]
   ·rw[List.getElem?_append_right (by rw[List.length_append,hl];omega),List.getElem?_drop,List.length_append,hl,Array.getElem?_toList]
    congr 1;omega
 rw[this] at h1
 exact h1
theorem oS{t:Nat}{ti:TI}(h:d7 P t ti){y:AV}(hf:fits ti y){ys:List Value}(hy:bw w F y ys){b o:Nat}(ht:w.there b o ys.length):
 (Instr.storeAt t (.pointer (some ⟨b,o,none⟩)) (ch y ys)).run P w= .ok () (w.setCells b o ys):=by
 have hcells:=dV hy
 have hsz:=dF y ys hy
 have:=run_storeCells_cells (P:=P) b o ys 0 w (fun j hj=>(ht j hj).1) (fun j hj=>(ht j hj).2) (o5 y ys hy)
 simp only[Nat.add_zero] at this
 simp only[Instr.storeAt,Instr.sureAddr,Sem.run_bind,Sem.run_pure,Result.andThen_ok,storeVar,h.sizeRun,hcells]
 rw[if_neg (by simp[hsz,hf.1])]
 exact this
theorem xA{g:Nat}{t:TypeId}{arr:Array Value}(hb:iJ w g t arr){o n:Nat}(h:o+n≤arr.size):w.there g o n:=by
 intro j hj
 refine⟨?_,hb.frozen _⟩
 rw[hb.cell,Array.getElem?_eq_getElem (by omega)];rfl
theorem aq.store(hT:cP P T){ty:Nat}{pos:String}{aft:Array Edge}{gd:Option (Nat×Bool)}(hw:cH ops S gd=bE gd){t:Nat}{x y:Operand}{key b off o:Nat}{path:List Nat}{c old:AV}{ti:TI}
 (hx:ev S x= .ptr key b path off)(ht:bI T t=some ti)(hg:bU S.heap key=some (.var b c))(hsub:jL path c=some (o,old))(ho:o=off)(hf:fits ti (ev S y))(hold:gz old=ti.sz)(hy:(ev S y).isVal=true)(hm:m.oke none [key]=true)
 (h:aq m P C ops l ⟨S.n,S.slots,eT S.heap key (.var b (kJ path c (ev S y)))⟩ K):aq m P C ops (⟨none,.store t x y,ty,pos,aft,gd⟩::l) S K:=by
 subst ho
 refine mq hw [key] hm Z fun a w hs=>?_
 have Ex:=bg hs x
 rw[hx,dg] at Ex
 obtain⟨ys,hc,hv⟩:=i7 hy (bg hs y)
 obtain⟨t2,cs,hb,hcs⟩:=hs.getHeap hg
 obtain⟨pre,mid,post,e1,e2,e3,e4⟩:=lD path c _ o old hcs hsub
 have hl:ys.length=mid.length:=by rw[dF _ _ hc,dF _ _ e3,hold,hf.1]
 have hcl:cs.toList.length=pre.length+mid.length+post.length:=by rw[e1];simp;omega
 rw[Array.length_toList] at hcl
 have hle:o+ys.length≤cs.size:=by omega
 have hm0:dE (fun b'=>b'∈HO.blk (.var b c)) w (w.setCells b o ys):=fU (S:=fun b'=>b'∈HO.blk (.var b c)) (fun _=>List.mem_singleton.2 Z) ys o (cD _ w)
 refine⟨w.setCells b o ys,⟨S.n,S.slots,eT S.heap key (.var b (kJ path c (ev S y)))⟩,?_,?_,fV hg hm0 (fun _ h=>.inl h),h⟩
 ·have:=oS (P:=P) (aX hT ht) hf hc (b:=b) (o:=o) (xA hb hle)
  simp only[execOp,Ex,hv,Sem.run_bind,this,Result.andThen_ok,Sem.run_pure]
 ·have hm:dE (fun b'=>b'∈HO.blk (.var b c)) w (w.setCells b o ys):=fU (S:=fun b'=>b'∈HO.blk (.var b c)) (fun _=>List.mem_singleton.2 Z) ys o (cD _ w)
  have hlt:=(hs.lt b (fH hg (List.mem_singleton.2 Z))).1
  refine hs.swap hg (.var b (kJ path c (ev S y))) hm ⟨t2,_,tQ w o ys hb hle,?_⟩ (fun b' hb'=>?_)
  ·have h5:=e4 (ev S y) ys hc hl
   have hq:pre++ys++post=cs.toList.take o++ys++cs.toList.drop (o+ys.length):=by
    rw[e1,←e2,List.append_assoc pre mid post,List.take_left,hl,←List.append_assoc pre mid post,←List.length_append,List.drop_left]
   rw[hq] at h5
   have hF:∀b',Fz C S.heap w b'→Fz C (eT S.heap key (.var b (kJ path c (ev S y)))) (w.setCells b o ys) b':=fun b' hb'=>
    ⟨Nat.lt_of_lt_of_le hb'.1 hm.size,by rw[qa hg (.var b (kJ path c (ev S y))) Z];exact hb'.2.1,hb'.2.2⟩
   have hW:∀b',Fz C S.heap w b'→(w.setCells b o ys).heap[b']?=w.heap[b']?:=fun b' hb'=>hm.block b' hb'.1 (fun he=>hb'.2.1 (fH hg he))
   exact fO hF hW _ _ (by simpa using h5)
  ·have:b=b':=(List.mem_singleton.1 hb').symm
   subst this
   exact⟨by have:=hm.size;omega,.inl (List.mem_singleton.2 Z)⟩
end
structure ag(P:Program)(C:il)(c:Code)(S:St)(K:Exit→St→Prop):Prop where
 out:∀a w,ep C S a w→c.wp P (fun e a' w'=>∃S',K e S'∧ep C S' a' w') a w
def Km(h:St→Prop)(K:Exit→St→Prop):Exit→St→Prop
 |.normal,S=>h S
 |e,S=>K e S
def I9(id:Nat)(K:Exit→St→Prop):Exit→St→Prop
 |.exit id',S=>bif Nat.beq id' id then K .normal S else K (.exit id') S
 |e,S=>K e S
abbrev Fr:=List (Value×Nat×List AV)
def wR(fr:Fr)(w:World)(F:Nat→Prop):Prop:=∀z∈fr,bw w F (.sl z.2.1 z.2.2) [z.1]
def aL(fr:Fr)(x y:AV):Prop:=(∀w F cs,wR fr w F→bw w F x cs→bw w F y cs)∧x.isAgg=y.isAgg
def uy(fr:Fr)(x y:List AV):Prop:=∀w F cs,wR fr w F→fK w F x cs→fK w F y cs
def gY(fr:Fr)(x y:AV):Prop:=∀w F v,wR fr w F→cL w F x v→cL w F y v
def aG(fr:Fr)(x y:HO):Prop:=(∀w F,wR fr w F→oG w F x→oG w F y)∧y.blk=x.blk
section
variable {fr:Fr}
theorem av(x:AV):aL fr x x:=⟨fun _ _ _ _ h=>h,rfl⟩
theorem am{x y:AV}(h:x=y):aL fr x y:=h▸av x
theorem gK{k k' b:Nat}{p p':List Nat}{o:Nat}:aL fr (.ptr k b p o) (.ptr k' b p' o):=⟨fun _ _ _ _ h=>h,rfl⟩
theorem gZ{k k':Nat}{v:Value}:aL fr (.own k v) (.own k' v):=⟨fun _ _ _ _ h=>h,rfl⟩
theorem dz{k:Nat}:aL fr .nil (.own k (.slice none 0 0)):=⟨fun _ _ _ _ h=>by simp only[bw] at h ⊢;exact⟨h,rfl⟩,rfl⟩
theorem cQ{sz:Nat}:aL fr .nil (.sl sz []):=⟨fun _ _ _ _ h=>by simp only[bw] at h ⊢;exact⟨none,0,h,Nat.le_refl _,Nat.zero_le _,fun h=>absurd rfl h⟩,rfl⟩
theorem bP{k:Nat}{v:Value}{sz:Nat}{xs:List AV}(h:(v,sz,xs)∈fr):aL fr (.own k v) (.sl sz xs):=⟨fun w F cs hf h1=>by
 simp only[bw] at h1
 rw[h1.1];exact hf _ h,rfl⟩
theorem uy.nil:uy fr [] []:=fun _ _ _ _ h=>h
theorem uy.cons{x y:AV}{xs ys:List AV}(h:aL fr x y)(hs:uy fr xs ys):uy fr (x::xs) (y::ys):=fun w F cs hf h1=>by
 simp only[fK] at h1 ⊢
 obtain⟨c1,c2,e,h2,h3⟩:=h1
 exact⟨c1,c2,e,h.1 w F c1 hf h2,hs w F c2 hf h3⟩
theorem bS{fs gs:List AV}(h:uy fr fs gs):aL fr (.agg fs) (.agg gs):=⟨fun w F cs hf h1=>by simp only[bw] at h1 ⊢;exact h w F cs hf h1,rfl⟩
theorem gY.any{x:AV}:gY fr x .any:=fun _ _ _ _ _=>J
theorem kx{x y:AV}(h:x=y):gY fr x y:=h▸fun _ _ _ _ h=>h
theorem bu{x y:AV}(h:aL fr x y)(hx:x.isVal=true):gY fr x y:=fun w F v hf hv=>by
 obtain⟨cs,h1,h2⟩:=i7 hx hv
 have h3:=h.1 w F cs hf h1
 have h4:v=ch y cs:=by rw[h2];unfold ch;rw[h.2]
 rw[h4];exact ll h3
theorem ak(x:HO):aG fr x x:=⟨fun _ _ _ h=>h,rfl⟩
theorem bW{b:Nat}{c c':AV}(h:aL fr c c'):aG fr (.var b c) (.var b c'):=⟨fun w F hf h1=>by
 obtain⟨t,cs,h2,h3⟩:=h1;exact⟨t,cs,h2,h.1 w F _ hf h3⟩,rfl⟩
theorem aZ{v:Value}{e sz:Nat}{xs ys:List AV}(h:xs=ys):aG fr (.row v e sz xs) (.row v e sz ys):=h▸ak _
end
def yU(fr:Fr)(S:St):List (Nat×AV)→Prop
 |[]=>True
 |(i,y)::r=>gY fr (S.slot i) y∧yU fr S r
def dS:List (Nat×HO)→Nat→List (Nat×HO)
 |[],_=>[]
 |(k,x)::r,i=>bif Nat.beq k i then r else (k,x)::dS r i
def ct(os:List HO):List Nat:=os.flatMap HO.blk
theorem zZ{w:World}{F:Nat→Prop}{x:HO}(h:oG w F x):∀b∈x.blk,b<w.heap.size:=by
 cases x with
 |var b c=>
  obtain⟨t,cs,h1,_⟩:=h
  intro b' hb'
  have e:b'=b:=List.mem_singleton.1 hb'
  subst e;exact h1.lt
 |row v e sz xs=>
  obtain⟨cells,_,h2⟩:=h
  exact fun b hb=>(World.ownsRow.lt h2 b (kH hb)).2
 |obj b o=>
  intro b' hb'
  have e:b'=b:=List.mem_singleton.1 hb'
  subst e
  exact(Array.getElem?_eq_some_iff.1 h).1
 |grp bs X=>exact h.2.1
theorem Ji{w w':World}{F F':Nat→Prop}(hF:∀b,F b→F' b)(hw:∀b,F b→w'.heap[b]?=w.heap[b]?){x:HO}(hb:∀b∈x.blk,w'.heap[b]?=w.heap[b]?)(h:oG w F x):oG w' F' x:=by
 have hlt:=zZ h
 cases x with
 |var b c=>
  obtain⟨t,cs,h1,h2⟩:=h
  refine⟨t,cs,?_,fO hF hw _ _ h2⟩
  unfold iJ;rw[hb b (List.mem_singleton.2 Z)];exact h1
 |row v e sz xs=>
  obtain⟨cells,h1,h2⟩:=h
  refine⟨cells,gP hF hw _ _ _ h1,h2.1,?_⟩
  rcases h2.2 with hn|⟨g,cap,cur,rfl,hg,hgg,rest⟩
  ·exact .inl hn
  ·refine .inr ⟨g,cap,cur,rfl,hg,?_,rest⟩
   rw[hb g (eY Z)];exact hgg
 |obj b o=>exact(hb b (List.mem_singleton.2 Z)).trans h
 |grp bs X=>
  refine⟨h.1,fun b hbb=>?_,X.mono hF hw hb h.2.2⟩
  have h1:=hb b hbb
  rw[Array.getElem?_eq_getElem (hlt b hbb)] at h1
  exact(Array.getElem?_eq_some_iff.1 h1).1
def Og(os:List HO):GX (ct os):=⟨fun w F=>∀o∈os,oG w F o,fun hF hw hb h o ho=>Ji hF hw (fun b hbb=>hb b (List.mem_flatMap.2 ⟨o,ho,hbb⟩)) (h o ho)⟩
def bL(os:List HO):HO:=.grp (ct os) (Og os)
theorem qO:∀{H:List (Nat×HO)} {k:Nat} {x:HO},bU H k=some x→∃pre k' post,H=pre++(k',x)::post∧dS H k=pre++post
 |(k',x')::r,k,x,h=>by
  unfold bU at h
  cases hb:Nat.beq k' k with
  |true=>
   rw[hb] at h
   simp only[cond_true,Option.some.injEq] at h
   subst h
   exact⟨[],k',r,rfl,by unfold dS;rw[hb];rfl⟩
  |false=>
   rw[hb] at h
   obtain⟨pre,q,post,e1,e2⟩:=qO (H:=r) (by simpa using h)
   exact⟨(k',x')::pre,q,post,by rw[e1];rfl,by unfold dS;rw[hb];simp only[cond_false,e2,List.cons_append]⟩
theorem dl{H:List (Nat×HO)}{k:Nat}{x:HO}(hg:bU H k=some x):(∀b∈cC (dS H k),b∈cC H)∧((cC H).Nodup→(cC (dS H k)).Nodup∧∀b,b∈x.blk→b∉cC (dS H k))∧∀p∈dS H k,p∈H:=by
 obtain⟨pre,q,post,e1,e2⟩:=qO hg
 rw[e2]
 refine⟨fun b hb=>?_,fun hn=>?_,fun p hp=>?_⟩
 ·rw[cx] at hb;rw[e1,cx,cI]
  rcases List.mem_append.1 hb with hb|hb<;>simp[hb]
 ·rw[e1,cx,cI] at hn
  refine⟨?_,fun b hb hin=>?_⟩
  ·rw[cx]
   exact hn.sublist (List.Sublist.append (List.Sublist.refl _) (List.sublist_append_right _ _))
  ·rw[cx] at hin
   have hxb2:b∈((q,x):Nat×HO).2.blk:=hb
   simp only[List.nodup_append] at hn
   rcases List.mem_append.1 hin with h6|h6
   ·exact hn.2.2 b h6 b (List.mem_append_left _ hxb2) Z
   ·exact hn.2.1.2.2 b hxb2 b h6 Z
 ·rw[e1]
  rcases List.mem_append.1 hp with hp|hp<;>simp[hp]
def kY:List (Nat×HO)→List Nat→Option (List HO×List (Nat×HO))
 |H,[]=>some ([],H)
 |H,k::r=>match bU H k with
  |some x=>match kY (dS H k) r with
   |some (xs,H')=>some (x::xs,H')
   |none=>none
  |none=>none
def rR(fr:Fr):List HO→List HO→Prop
 |[],[]=>True
 |x::xs,y::ys=>aG fr x y∧rR fr xs ys
 |_,_=>False
theorem nT:∀{ks:List Nat} {H:List (Nat×HO)} {os:List HO} {H':List (Nat×HO)},kY H ks=some (os,H')→(cC H).Nodup→
 (ct os++cC H').Nodup∧(∀b,b∈ct os++cC H'→b∈cC H)∧(∀o∈os,∃p∈H,p.1∈ks∧p.2=o)∧(∀p∈H',p∈H)
 |[],H,os,H',h,hn=>by
  simp only[kY,Option.some.injEq,Prod.mk.injEq] at h
  obtain⟨rfl,rfl⟩:=h
  exact⟨by simpa [ct] using hn,fun b hb=>by simpa [ct] using hb,fun o ho=>by simp at ho,fun p hp=>hp⟩
 |k::ks,H,os,H',h,hn=>by
  simp only[kY] at h
  cases hg:bU H k with
  |none=>simp[hg] at h
  |some x=>
   simp only[hg] at h
   cases ht:kY (dS H k) ks with
   |none=>simp[ht] at h
   |some q=>
    obtain⟨xs,H2⟩:=q
    simp only[ht,Option.some.injEq,Prod.mk.injEq] at h
    obtain⟨rfl,rfl⟩:=h
    obtain⟨j1,j2,j3⟩:=dl hg
    obtain⟨i1,i2,i3,i4⟩:=nT ht (j2 hn).1
    obtain⟨pre,post,e1⟩:=ij hg
    refine⟨?_,fun b hb=>?_,fun o ho=>?_,fun p hp=>j3 p (i4 p hp)⟩
    ·rw[show ct (x::xs)=x.blk++ct xs from by unfold ct;rw[List.flatMap_cons],List.append_assoc]
     have hxn:x.blk.Nodup:=by
      rw[e1,cx,cI] at hn
      exact hn.sublist ((List.sublist_append_left x.blk (cC post)).trans (List.sublist_append_right _ _))
     exact List.nodup_append.2 ⟨hxn,i1,fun b hb c hc he=>by subst he;exact(j2 hn).2 b hb (i2 b hc)⟩
    ·rcases List.mem_append.1 hb with hb|hb
     ·unfold ct at hb
      obtain⟨o,ho,hob⟩:=List.mem_flatMap.1 hb
      rcases List.mem_cons.1 ho with rfl|ho
      ·exact fH hg hob
      ·exact j1 b (i2 b (List.mem_append.2 (.inl (List.mem_flatMap.2 ⟨o,ho,hob⟩))))
     ·exact j1 b (i2 b (List.mem_append.2 (.inr hb)))
    ·rcases List.mem_cons.1 ho with rfl|ho
     ·exact⟨(k,o),by rw[e1];simp,by simp,rfl⟩
     ·obtain⟨p,hp,hk,he⟩:=i3 o ho
      exact⟨p,j3 p hp,List.mem_cons_of_mem _ hk,he⟩
theorem qN{fr:Fr}{w:World}{F:Nat→Prop}(hf:wR fr w F):∀{xs ys:List HO},rR fr xs ys→ct ys=ct xs∧((∀o∈xs,oG w F o)→∀o∈ys,oG w F o)
 |[],[],_=>⟨rfl,fun h=>h⟩
 |x::xs,y::ys,h=>by
  obtain⟨i1,i2⟩:=qN hf h.2
  refine⟨?_,fun hx o ho=>?_⟩
  ·unfold ct at i1 ⊢
   rw[List.flatMap_cons,List.flatMap_cons,h.1.2,i1]
  ·rcases List.mem_cons.1 ho with rfl|ho
   ·exact h.1.1 w F hf (hx x (by simp))
   ·exact i2 (fun o ho=>hx o (by simp[ho])) o ho
 |x::xs,[],h=>h.elim
 |[],y::ys,h=>h.elim
theorem xC:∀{ks:List Nat} {H:List (Nat×HO)} {os:List HO} {H':List (Nat×HO)},kY H ks=some (os,H')→(∀b,b∈ct os++cC H'→b∈cC H)∧∀p∈H',p∈H
 |[],H,os,H',h=>by
  simp only[kY,Option.some.injEq,Prod.mk.injEq] at h
  obtain⟨rfl,rfl⟩:=h
  exact⟨fun b hb=>by simpa [ct] using hb,fun p hp=>hp⟩
 |k::ks,H,os,H',h=>by
  simp only[kY] at h
  cases hg:bU H k with
  |none=>simp[hg] at h
  |some x=>
   simp only[hg] at h
   cases ht:kY (dS H k) ks with
   |none=>simp[ht] at h
   |some q=>
    obtain⟨xs,H2⟩:=q
    simp only[ht,Option.some.injEq,Prod.mk.injEq] at h
    obtain⟨rfl,rfl⟩:=h
    obtain⟨j1,j2,j3⟩:=dl hg
    obtain⟨i2,i4⟩:=xC ht
    refine⟨fun b hb=>?_,fun p hp=>j3 p (i4 p hp)⟩
    rcases List.mem_append.1 hb with hb|hb
    ·unfold ct at hb
     obtain⟨o,ho,hob⟩:=List.mem_flatMap.1 hb
     rcases List.mem_cons.1 ho with rfl|ho
     ·exact fH hg hob
     ·exact j1 b (i2 b (List.mem_append.2 (.inl (List.mem_flatMap.2 ⟨o,ho,hob⟩))))
    ·exact j1 b (i2 b (List.mem_append.2 (.inr hb)))
theorem v7{fr:Fr}:∀{xs ys:List HO},rR fr xs ys→ct ys=ct xs
 |[],[],_=>rfl
 |x::xs,y::ys,h=>by
  have i1:=v7 h.2
  unfold ct at i1 ⊢
  rw[List.flatMap_cons,List.flatMap_cons,h.1.2,i1]
 |x::xs,[],h=>h.elim
 |[],y::ys,h=>h.elim
theorem fa(x:HO)(os:List HO):ct (x::os)=x.blk++ct os:=by unfold ct;rw[List.flatMap_cons]
theorem qI{os os':List HO}(h:os.Perm os'):(ct os).Perm (ct os'):=h.flatMap_right _
theorem zz{w:World}{F:Nat→Prop}{os:List HO}(h:oG w F (bL os)):∀o∈os,oG w F o:=h.2.2
theorem lJ{H:List (Nat×HO)}{k:Nat}{x:HO}(hg:bU H k=some x):(cC H).Perm (x.blk++cC (dS H k)):=by
 obtain⟨pre,q,post,e1,e2⟩:=qO hg
 rw[e2,e1,cx,cx,cI]
 show (cC pre++(x.blk++cC post)).Perm (x.blk++(cC pre++cC post))
 rw[←List.append_assoc,←List.append_assoc]
 exact List.Perm.append_right _ List.perm_append_comm
inductive cr(fr:Fr):List (Nat×HO)→List (Nat×HO)→Prop
 |nil {H}:cr fr H []
 |cons {H:List (Nat×HO)} (k:Nat) {k' x y r} (hg:bU H k=some x) (h:aG fr x y) (hr:cr fr (dS H k) r):cr fr H ((k',y)::r)
 |none {H:List (Nat×HO)} {k' e sz r} (hr:cr fr H r):cr fr H ((k',.row (.slice Option.none 0 0) e sz [])::r)
 |grp {H:List (Nat×HO)} (ks:List Nat) {k' os H' ys r} (ht:kY H ks=some (os,H')) (ho:rR fr os ys) (hr:cr fr H' r):cr fr H ((k',bL ys)::r)
 |push {H:List (Nat×HO)} (k1 k:Nat) {k' x o os rest r} (h1:bU H k1=some x) (h:aG fr x o) (hg:bU (dS H k1) k=some (bL rest)) (hos:os.Perm (o::rest)) (hr:cr fr (dS (dS H k1) k) r):cr fr H ((k',bL os)::r)
theorem cr.spec{fr:Fr}{H H':List (Nat×HO)}(h:cr fr H H'):(∀b∈cC H',b∈cC H)∧((cC H).Nodup→(cC H').Nodup)∧∀w F,wR fr w F→(cC H).Nodup→(∀p∈H,oG w F p.2)→∀p∈H',oG w F p.2:=by
 induction h with
 |nil=>exact⟨fun (b:Nat) (hb:b∈[])=>absurd hb (by simp),fun _=>List.nodup_nil,fun _ _ _ _ _ p hp=>absurd hp (by simp)⟩
 |@cons H k k' x y r hg h hr ih=>
  obtain⟨i1,i2,i3⟩:=ih
  obtain⟨j1,j2,j3⟩:=dl hg
  refine⟨fun b hb=>?_,fun hn=>?_,fun w F hf hnn hall p hp=>?_⟩
  ·rw[cI] at hb
   rcases List.mem_append.1 hb with hb|hb
   ·have hb:b∈y.blk:=by simpa using hb
    rw[h.2] at hb
    exact fH hg hb
   ·exact j1 b (i1 b hb)
  ·rw[cI]
   have hxn:x.blk.Nodup:=by
    obtain⟨pre,q,post,e1,_⟩:=ii hg
    rw[e1,cx,cI] at hn
    exact hn.sublist ((List.sublist_append_left x.blk (cC post)).trans (List.sublist_append_right _ _))
   refine List.nodup_append.2 ⟨by show y.blk.Nodup;rw[h.2];exact hxn,i2 (j2 hn).1,fun b hb c hc he=>?_⟩
   subst he
   have hb:b∈y.blk:=hb
   rw[h.2] at hb
   exact(j2 hn).2 b hb (i1 b hc)
  ·rcases List.mem_cons.1 hp with rfl|hp
   ·obtain⟨pre,q,post,e1,_⟩:=ii hg
    exact h.1 w F hf (hall (q,x) (by rw[e1];simp))
   ·exact i3 w F hf (j2 hnn).1 (fun p hp=>hall p (j3 p hp)) p hp
 |@none H k' e sz r hr ih=>
  obtain⟨i1,i2,i3⟩:=ih
  have hb:cC ((k',HO.row (.slice Option.none 0 0) e sz [])::r)=cC r:=by rw[cI];rfl
  rw[hb]
  refine⟨i1,i2,fun w F hf hnn hall p hp=>?_⟩
  rcases List.mem_cons.1 hp with rfl|hp
  ·exact⟨[],by simp only[dq],by simp,.inl ⟨rfl,rfl⟩⟩
  ·exact i3 w F hf hnn hall p hp
 |@grp H ks k' os H' ys r ht ho hr ih=>
  obtain⟨i1,i2,i3⟩:=ih
  have hoe:ct ys=ct os:=v7 ho
  have hbl:∀b,b∈cC ((k',bL ys)::r)→b∈ct os∨b∈cC r:=fun b hb=>by
   rw[cI] at hb
   rcases List.mem_append.1 hb with hb|hb
   ·left;rw[←hoe];exact hb
   ·exact .inr hb
  refine⟨fun b hb=>?_,fun hn=>?_,fun w F hf hnn hall p hp=>?_⟩
  ·have ts:=xC ht
   rcases hbl b hb with hb|hb
   ·exact ts.1 b (List.mem_append_left _ hb)
   ·exact ts.1 b (List.mem_append_right _ (i1 b hb))
  ·obtain⟨t1,t2,t3,t4⟩:=nT ht hn
   obtain⟨n1,n2,n3⟩:=List.nodup_append.1 t1
   rw[cI]
   refine List.nodup_append.2 ⟨by show (ct ys).Nodup;rw[hoe];exact n1,i2 n2,fun b hb c hc he=>?_⟩
   have hb:b∈ct ys:=hb
   rw[hoe] at hb
   exact n3 b hb c (i1 c hc) he
  ·obtain⟨t1,t2,t3,t4⟩:=nT ht hnn
   obtain⟨n1,n2,n3⟩:=List.nodup_append.1 t1
   rcases List.mem_cons.1 hp with rfl|hp
   ·have hys:=(qN hf ho).2 (fun o ho=>by
     obtain⟨p,hp,_,he⟩:=t3 o ho
     rw[←he];exact hall p hp)
    refine⟨by rw[hoe];exact n1,fun b hb=>?_,hys⟩
    obtain⟨o,hoo,hbo⟩:=List.mem_flatMap.1 hb
    exact zZ (hys o hoo) b hbo
   ·exact i3 w F hf n2 (fun p hp=>hall p (t4 p hp)) p hp
 |@push H k1 k k' x o os rest r h1 h hg hos hr ih=>
  obtain⟨i1,i2,i3⟩:=ih
  have pa:(cC H).Perm ((o.blk++ct rest)++cC (dS (dS H k1) k)):=by
   rw[h.2,List.append_assoc]
   exact(lJ h1).trans (List.Perm.append_left _ (lJ hg))
  have po:(ct os).Perm (o.blk++ct rest):=by
   have:=qI hos
   rw[fa] at this
   exact this
  refine⟨fun b hb=>?_,fun hn=>?_,fun w F hf hnn hall p hp=>?_⟩
  ·rw[cI] at hb
   rcases List.mem_append.1 hb with hb|hb
   ·exact pa.mem_iff.2 (List.mem_append_left _ (po.mem_iff.1 hb))
   ·exact pa.mem_iff.2 (List.mem_append_right _ (i1 b hb))
  ·obtain⟨n1,n2,n3⟩:=List.nodup_append.1 (pa.nodup_iff.1 hn)
   rw[cI]
   exact List.nodup_append.2 ⟨po.nodup_iff.2 n1,i2 n2,fun b hb c hc he=>n3 b (po.mem_iff.1 hb) c (i1 c hc) he⟩
  ·obtain⟨n1,n2,n3⟩:=List.nodup_append.1 (pa.nodup_iff.1 hnn)
   obtain⟨pre,post,e1⟩:=ij h1
   obtain⟨pre2,post2,e2⟩:=ij hg
   have ho:=h.1 w F hf (hall (k1,x) (by rw[e1];simp))
   have hgo:=zz (hall (k,bL rest) ((dl h1).2.2 _ (by rw[e2];simp)))
   rcases List.mem_cons.1 hp with rfl|hp
   ·have hall2:∀y∈os,oG w F y:=fun y hy=>by
     rcases List.mem_cons.1 (hos.mem_iff.1 hy) with rfl|hy
     ·exact ho
     ·exact hgo y hy
    refine⟨po.nodup_iff.2 n1,fun b hb=>?_,hall2⟩
    obtain⟨y,hy,hby⟩:=List.mem_flatMap.1 hb
    exact zZ (hall2 y hy) b hby
   ·exact i3 w F hf n2 (fun p hp=>hall p ((dl h1).2.2 p ((dl hg).2.2 p hp))) p hp
def oD:List (Nat×HO)→List Nat→Fr
 |_,[]=>[]
 |H,k::r=>match bU H k with
  |some (.row v _ sz xs)=>(v,sz,xs)::oD (dS H k) r
  |_=>oD H r
def eP:List (Nat×HO)→List Nat→List (Nat×HO)
 |H,[]=>H
 |H,k::r=>match bU H k with
  |some (.row _ _ _ _)=>eP (dS H k) r
  |_=>eP H r
structure Le(ks:List Nat)(S S':St):Prop where
 n:S.n=S'.n
 slots:yU (oD S.heap ks) S S'.slots
 heap:cr (oD S.heap ks) (eP S.heap ks) S'.heap
theorem AG{w:World}{F:Nat→Prop}{b sz:Nat}(hF:F b):∀(xs:List AV) (cs:List Value) (off:Nat),dq w F sz xs cs→w.rangeAt b off cs→d8 w F b off sz xs
 |[],_,_,_,_=>by simp only[d8]
 |x::xs,cs,off,h,hr=>by
  simp only[dq] at h
  obtain⟨c1,c2,rfl,h2,h3,h4⟩:=h
  simp only[d8]
  refine⟨⟨c1,h2,h3,fun j u hj=>hr j u ?_⟩,AG hF xs c2 (off+sz) h4 (fun j u hj=>?_)⟩
  ·rw[List.getElem?_append_left (List.getElem?_eq_some_iff.1 hj).1];exact hj
  ·have:=hr (sz+j) u (by rw[List.getElem?_append_right (by omega),h3,Nat.add_sub_cancel_left];exact hj)
   rwa [←Nat.add_assoc] at this
theorem C1{w:World}{F:Nat→Prop}{v:Value}{e sz:Nat}{xs:List AV}(h:oG w F (.row v e sz xs))(hF:∀b,v.ownBlock=some b→F b):bw w F (.sl sz xs) [v]:=by
 obtain⟨cells,h1,h2,h3⟩:=h
 simp only[bw]
 rcases h3 with ⟨rfl,h0⟩|⟨g,cap,cur,rfl,_,hg,h4,h5,h6,h7⟩
 ·have:xs=[]:=List.eq_nil_of_length_eq_zero h0
  subst this
  exact⟨none,0,rfl,Nat.le_refl _,Nat.zero_le _,fun h=>absurd Z h⟩
 ·refine⟨_,cap,rfl,h4,h5,fun _=>⟨g,0,rfl,hF g Z,AG (hF g Z) xs cells 0 h1 (fun j u hj=>?_)⟩⟩
  have hb:iJ w g e cur:=hg
  rw[hb.cell,←Array.getElem?_toList]
  rw[←h7,List.getElem?_take] at hj
  split at hj
  ·rw[Nat.zero_add];exact hj
  ·cases hj
section
variable {P:Program} {T:List (Nat×TI)} {C:il} {S S':St} {a:Act} {w:World} {ops:Array Oper} {l:List Oper} {K:Exit→St→Prop}
theorem tP{fr:Fr}{w:World}{F:Nat→Prop}{a:Act}(hf:wR fr w F)(hs:∀i,cL w F (S.slot i) (a.tmps.getD i undef)):∀(L:List (Nat×AV)),yU fr S L→∀i,cL w F (ge L i) (a.tmps.getD i undef)
 |[],_,i=>J
 |(j,y)::r,h,i=>by
  unfold ge
  cases hb:Nat.beq j i with
  |true=>
   have:j=i:=Nat.eq_of_beq_eq_true hb
   subst this
   exact h.1 w F _ hf (hs j)
  |false=>exact tP hf hs r h.2 i
theorem jI{F F':Nat→Prop}(hF:∀b,F b→F' b){x:HO}(h:oG w F x):oG w F' x:=by
 cases x with
 |var b c=>obtain⟨t,cs,k1,k2⟩:=h;exact⟨t,cs,k1,fO hF (fun _ _=>rfl) _ _ k2⟩
 |row v e sz xs=>obtain⟨cells,k1,k2⟩:=h;exact⟨cells,gP hF (fun _ _=>rfl) _ _ _ k1,k2⟩
 |obj b o=>exact h
 |grp bs X=>exact⟨h.1,h.2.1,X.mono hF (fun _ _=>rfl) (fun _ _=>rfl) h.2.2⟩
theorem ep.del(h:ep C S a w){k:Nat}{x:HO}(hg:bU S.heap k=some x):ep C ⟨S.n,S.slots,dS S.heap k⟩ a w:=by
 obtain⟨j1,j2,j3⟩:=dl hg
 have hF:∀b,Fz C S.heap w b→Fz C (dS S.heap k) w b:=fun b hb=>⟨hb.1,fun hin=>hb.2.1 (j1 b hin),hb.2.2⟩
 exact⟨h.n,h.df,fun i=>fN hF (fun _ _=>rfl) _ _ (h.slots i),fun p hp=>jI hF (h.heap p (j3 p hp)),(j2 h.nd).1,fun b hb=>h.lt b (j1 b hb),h.mod⟩
theorem ep.dels:∀(ks:List Nat) {S:St},ep C S a w→ep C ⟨S.n,S.slots,eP S.heap ks⟩ a w∧wR (oD S.heap ks) w (Fz C (eP S.heap ks) w)
 |[],S,h=>⟨h,fun z hz=>absurd hz (by simp[oD])⟩
 |k::r,S,h=>by
  unfold eP oD
  split
  ·rename_i v e sz xs hg
   have h1:=h.del hg
   obtain⟨h2,h3⟩:=ep.dels r h1
   refine⟨h2,fun z hz=>?_⟩
   rcases List.mem_cons.1 hz with rfl|hz
   ·obtain⟨j1,j2,j3⟩:=dl hg
    have hrow:=h.getHeap hg
    have hsub:∀b,b∈cC (eP (dS S.heap k) r)→b∈cC (dS S.heap k):=by
     have:∀(r:List Nat) (H:List (Nat×HO)) b,b∈cC (eP H r)→b∈cC H:=by
      intro r
      induction r with
      |nil=>exact fun H b hb=>hb
      |cons k r ih=>
       intro H b hb
       unfold eP at hb
       split at hb
       ·rename_i hg2
        exact(dl hg2).1 b (ih _ b hb)
       ·exact ih _ b hb
     exact this r _
    have hF:∀b,Fz C S.heap w b→Fz C (eP (dS S.heap k) r) w b:=fun b hb=>⟨hb.1,fun hin=>hb.2.1 (j1 b (hsub b hin)),hb.2.2⟩
    refine C1 (e:=e) (jI hF hrow) (fun b hb=>?_)
    have hb:=eY (e:=e) (sz:=sz) (xs:=xs) hb
    have hmem:b∈cC S.heap:=fH hg hb
    exact⟨(h.lt b hmem).1,fun hin=>(j2 h.nd).2 b hb (hsub b hin),.inr (h.lt b hmem).2⟩
   ·exact h3 z hz
  ·exact ep.dels r h
theorem ep.weaken{ks:List Nat}(h:ep C S a w)(hle:Le ks S S'):ep C S' a w:=by
 obtain⟨h0,hf⟩:=ep.dels ks h
 obtain⟨h1,h2,h3⟩:=hle.heap.spec
 have hF:∀b,Fz C (eP S.heap ks) w b→Fz C S'.heap w b:=fun b hb=>⟨hb.1,fun hin=>hb.2.1 (h1 b hin),hb.2.2⟩
 refine⟨h.n.trans hle.n,h.df,fun i=>?_,fun p hp=>?_,h2 h0.nd,fun b hb=>h0.lt b (h1 b hb),h.mod⟩
 ·exact fN hF (fun _ _=>rfl) _ _ (tP (S:=S) hf h0.slots S'.slots hle.slots i)
 ·exact jI hF (h3 w _ hf h0.nd h0.heap p hp)
theorem ag.weaken{c:Code}(ks:List Nat)(hle:Le ks S S')(h:ag P C c S' K):ag P C c S K:=⟨fun a w hs=>h.out a w (hs.weaken hle)⟩
theorem gJ{K:St→Prop}(ks:List Nat)(hle:Le ks S S')(h:aq .text P C ops l S' K):aq .text P C ops l S K:=⟨fun Q E a w hs hK=>h.out Q E a w (hs.weaken hle) hK⟩
theorem ae{x y:Code}(h:ag P C x S (Km (fun S'=>ag P C y S' K) K)):ag P C (.seq x y) S K:=⟨fun a w hs=>by
 refine wp_seq (wp_mono (h.out a w hs) fun e a' w' ⟨S',h1,h2⟩=>?_)
 cases e with
 |normal=>exact h1.out a' w' h2
 |_=>exact⟨S',h1,h2⟩⟩
theorem ah(h:K .normal S):ag P C .skip S K:=⟨fun _ _ hs=>wp_skip ⟨S,h,hs⟩⟩
theorem aw{id:Nat}(h:K (.exit id) S):ag P C (.exit id) S K:=⟨fun _ _ hs=>wp_exit ⟨S,h,hs⟩⟩
theorem ap(h:K .ret S):ag P C .ret S K:=⟨fun _ _ hs=>wp_ret ⟨S,h,hs⟩⟩
theorem aj{id:Nat}{c:Code}(h:ag P C c S (I9 id K)):ag P C (.block id c) S K:=⟨fun a w hs=>by
 refine wp_block (wp_mono (h.out a w hs) fun e a' w' ⟨S',h1,h2⟩=>?_)
 cases e with
 |exit id'=>
  simp only[I9] at h1
  unfold Exit.inBlock
  by_cases hid:id'=id
  ·subst hid
   simp only[Nat.beq_refl,cond_true] at h1
   simp only[if_true]
   exact⟨S',h1,h2⟩
  ·have:Nat.beq id' id=false:=by
    cases hb:Nat.beq id' id with
    |true=>exact absurd (Nat.eq_of_beq_eq_true hb) hid
    |false=>rfl
   rw[this] at h1
   simp only[hid,if_false]
   exact⟨S',h1,h2⟩
 |_=>exact⟨S',h1,h2⟩⟩
theorem ba{c:Operand}{x y:Code}{t:Bool}(hc:ev S c= .b t)(h1:t=true→ag P C x S K)(h2:t=false→ag P C y S K):ag P C (.cond c x y) S K:=⟨fun a w hs=>by
 have Ec:=bg hs c
 rw[hc,gr] at Ec
 exact wp_cond_split Ec (fun ht=>(h1 ht).out a w hs) (fun ht=>(h2 ht).out a w hs)⟩
theorem aa{id:Nat}{l:List Oper}(h:aq .text P C l.toArray l S (K .normal)):ag P C (.region id l.toArray false) S K:=⟨fun a w hs=>
 wp_region_lit (h.out (fun e a' w'=>∃S',K e S'∧ep C S' a' w') (fun _ a' w'=>∃S',K .normal S'∧ep C S' a' w') a w hs (fun S' _a' _w' h1 h2=>⟨S',h1,h2⟩) (fun _ _ _ h=>h))⟩
theorem ep.drew(h:ep C S a w):ep C S a {w with drawn:=w.drawn+1}:=by
 have hm:dE lh w {w with drawn:=w.drawn+1}:=⟨rfl,rfl,rfl,Nat.le_refl _,fun _ _ _=>rfl⟩
 exact h.move S.heap lh hm (fun _ _ hf=>hf.elim) h.nd (fun b hb=>⟨(h.lt b hb).1,.inl hb⟩) (fun p hp=>h.keepHO hm (fun _ _ hf=>hf.elim) (fun b hb=>⟨(h.lt b hb).1,.inl hb⟩) (h.heap p hp) (fun _ _ hf=>hf))
theorem ag.regionAny{id:Nat}{ops:Array Oper}{l:List Oper}(tk so qs is:List Nat)(hm:P.follows .mixedOrders=true)(hp:s6 P ops so qs is (Array.replicate ops.size false)=true)(hns:Region.noSelect ops=true)(hl:is.map (fun i=>ops[i]?)=l.map some)(hn:is.length=ops.size)
 (h:aq (.any tk so qs) P C ops l S (K .normal)):ag P C (.region id ops true) S K:=⟨fun a w hs=>by
 refine wp_mono (wp_region_any (Q:=fun e a' w'=>e= .normal∧∃S',K .normal S'∧ep C S' a' w') hm (qu (qs:=qs) _ _ (sv S.heap tk) _ _ ?_)) (fun e a' w' ⟨he,h⟩=>by subst he;exact h)
 have hq:=tZ is _ hp
 have h5:=h.out (fun e a' w'=>e= .normal∧∃S',K .normal S'∧ep C S' a' w') (fun _ a' w'=>∃S',K .normal S'∧ep C S' a' w') a _ hs.drew (fun S' a' w' h1 h2=>⟨S',h1,h2⟩) is _ 0 hq.1 hns hl (fun c a w hq=>by cases hq.1) (fun G a w he=>⟨hq.2,rfl,he⟩)
 rw[Nat.zero_add,hn] at h5
 exact h5⟩
structure gO(P:Program)(C:il)(ops:Array Oper)(tk so qs:List Nat)(n:Nat)(listed:Array Bool)(S:St)(K:St→Prop):Prop where
 out:∀(Q:Exit→Act→World→Prop) (a:Act) (w:World),ep C S a w→Region.noSelect ops=true→(∀c a w,¬ Q (.panic c) a w)→(∀S' a' w',K S'→ep C S' a' w'→Q .normal a' w')→hJ P ops qs Q n listed (sv S.heap tk) a w
theorem gO.path{ops:Array Oper}{l:List Oper}{tk so qs:List Nat}{n n':Nat}{listed listed':Array Bool}{S:St}{K:St→Prop}(is:List Nat)(hp:mK P ops so qs is listed=true)(hl:is.map (fun i=>ops[i]?)=l.map some)(hn:n=n'+is.length)(he:j5 is listed=listed')
 (h:aq (.any tk so qs) P C ops l S (fun S'=>gO P C ops tk so qs n' listed' S' K)):gO P C ops tk so qs n listed S K:=by
 subst hn;subst he
 exact⟨fun Q a w hs f2 hQ hK=>h.out Q (fun G a' w'=>hJ P ops qs Q n' (j5 is listed) G a' w') a w hs (fun S' a' w' h1 h2=>h1.out Q a' w' h2 f2 hQ hK) is listed n' hp f2 hl hQ (fun _ _ _ h=>h)⟩
theorem gO.fin{ops:Array Oper}{tk so qs:List Nat}{n:Nat}{listed:Array Bool}{S:St}{K:St→Prop}(hr:Region.ready .any ops listed=[])(h:K S):gO P C ops tk so qs n listed S K:=by
 refine⟨fun Q a w hs f2 hQ hK=>?_⟩
 cases n with
 |zero=>exact⟨hr,hK _ _ _ h hs⟩
 |succ n=>exact⟨fun _=>hK _ _ _ h hs,fun i hi=>by rw[hr] at hi;cases hi⟩
theorem gO.two{ops:Array Oper}{o1 o2:Oper}{tk so qs:List Nat}{n:Nat}{listed:Array Bool}{S:St}{K:St→Prop}(i1 i2:Nat)(hr:Region.ready .any ops listed=[i1,i2])(h1:ops[i1]?=some o1)(h2:ops[i2]?=some o2)
 (k1:aq (.one tk so qs) P C ops [o1] S (fun S'=>gO P C ops tk so qs n (listed.setIfInBounds i1 true) S' K))(k2:aq (.one tk so qs) P C ops [o2] S (fun S'=>gO P C ops tk so qs n (listed.setIfInBounds i2 true) S' K)):gO P C ops tk so qs (n+1) listed S K:=by
 refine⟨fun Q a w hs f2 hQ hK=>⟨fun h=>(by rw[hr] at h;cases h),fun i hi=>?_⟩⟩
 rw[hr] at hi
 simp only[List.mem_cons,List.not_mem_nil,or_false] at hi
 rcases hi with rfl|rfl
 ·exact k1.out Q (fun G a' w'=>hJ P ops qs Q n (listed.setIfInBounds i true) G a' w') a w hs (fun S' a' w' h1 h2=>h1.out Q a' w' h2 f2 hQ hK) i h1
 ·exact k2.out Q (fun G a' w'=>hJ P ops qs Q n (listed.setIfInBounds i true) G a' w') a w hs (fun S' a' w' h1 h2=>h1.out Q a' w' h2 f2 hQ hK) i h2
theorem ag.regionT{id:Nat}{ops:Array Oper}(tk so qs:List Nat)(hm:P.follows .mixedOrders=true)(hns:Region.noSelect ops=true)
 (h:gO P C ops tk so qs ops.size (Array.replicate ops.size false) S (K .normal)):ag P C (.region id ops true) S K:=⟨fun a w hs=>by
 refine wp_mono (wp_region_any (Q:=fun e a' w'=>e= .normal∧∃S',K .normal S'∧ep C S' a' w') hm (qu (qs:=qs) _ _ (sv S.heap tk) _ _ ?_)) (fun e a' w' ⟨he,h⟩=>by subst he;exact h)
 exact h.out (fun e a' w'=>e= .normal∧∃S',K .normal S'∧ep C S' a' w') a _ hs.drew hns (fun c a w hq=>by cases hq.1) (fun S' a' w' h1 h2=>⟨rfl,S',h1,h2⟩)⟩
theorem aO{c:Code}{X:Type}(mk:X→St)(inv:X→Prop)(μ:X→Nat)(ks0:List Nat)(x0:X)(h0:inv x0)(hle:Le ks0 S (mk x0))
 (round:∀x,inv x→ag P C c (mk x) (Km (fun S'=>∃x' ks,inv x'∧μ x'<μ x∧Le ks S' (mk x')) K)):ag P C (.loop c) S K:=by
 refine⟨fun a w hs=>?_⟩
 refine wp_loop_ghost (fun n a w=>∃x,μ x=n∧inv x∧ep C (mk x) a w) (μ x0) ⟨x0,rfl,h0,hs.weaken hle⟩ ?_
 rintro n a w ⟨x,rfl,hx,hs⟩
 refine wp_mono ((round x hx).out a w hs) fun e a' w' ⟨S',h1,h2⟩=>?_
 cases e with
 |normal=>
  obtain⟨x',ks,i1,i2,i3⟩:=h1
  exact⟨μ x',i2,x',rfl,i1,h2.weaken i3⟩
 |_=>exact⟨S',h1,h2⟩
end
end Go.Proofs.YtginkbjclkdglaaGreat
