/- States: what the slots of a frame and the blocks that a function owns hold; how they move. No program in sight. -/
import Derived.Test.YtginkbjclkdglaaGreatV1Z
import Derived.Laws.Concat
import Derived.BigFrame
import Derived.BigCall
namespace Go.Proofs.YtginkbjclkdglaaGreat
open Go Go.RowKit
structure GX(bs:List Nat) where
 P:World→(Nat→Prop)→Prop
 mono:∀{w w':World} {F F':Nat→Prop},(∀b,F b→F' b)→(∀b,F b→w'.heap[b]?=w.heap[b]?)→(∀b∈bs,w'.heap[b]?=w.heap[b]?)→P w F→P w' F'
inductive HO where
 |var(b:Nat)(c:AV)
 |row(v:Value)(e:TypeId)(sz:Nat)(xs:List AV)
 |obj(b:Nat)(o:Obj)
 |grp(bs:List Nat)(X:GX bs)
def HO.blk:HO→List Nat
 |.var b _=>[b]
 |.row v _ _ _=>v.ownBlock.toList
 |.obj b _=>[b]
 |.grp bs _=>bs
theorem eY{v:Value}{e:TypeId}{sz:Nat}{xs:List AV}{b:Nat}(h:v.ownBlock=some b):b∈HO.blk (.row v e sz xs):=by
 show b∈v.ownBlock.toList
 rw[h];simp
theorem kH{v:Value}{e:TypeId}{sz:Nat}{xs:List AV}{b:Nat}(h:b∈HO.blk (.row v e sz xs)):v.ownBlock=some b:=by
 have h:b∈v.ownBlock.toList:=h
 simpa using h
def oG(w:World)(F:Nat→Prop):HO→Prop
 |.var b c=>∃t cs,iJ w b t cs∧bw w F c cs.toList
 |.row v e sz xs=>∃cells,dq w F sz xs cells∧w.ownsRow 0 e sz v xs.length cells
 |.obj b o=>w.heap[b]?=some o
 |.grp bs X=>bs.Nodup∧(∀b∈bs,b<w.heap.size)∧X.P w F
def ge:List (Nat×AV)→Nat→AV
 |[],_=>.any
 |(k,x)::r,i=>bif Nat.beq k i then x else ge r i
def bU:List (Nat×HO)→Nat→Option HO
 |[],_=>none
 |(k,x)::r,i=>bif Nat.beq k i then some x else bU r i
def eT:List (Nat×HO)→Nat→HO→List (Nat×HO)
 |[],_,_=>[]
 |(k,x)::r,i,y=>bif Nat.beq k i then (k,y)::r else (k,x)::eT r i y
def cC(H:List (Nat×HO)):List Nat:=H.flatMap (·.2.blk)
structure St where
 n:Nat
 slots:List (Nat×AV)
 heap:List (Nat×HO)
def St.slot(S:St)(i:Nat):AV:=ge S.slots i
def St.put(S:St)(d:Nat)(x:AV):St:=⟨S.n,(d,x)::S.slots,S.heap⟩
structure il where
 w0:World
 F0:Nat→Prop
 O0:Nat→Prop
def Fz(C:il)(H:List (Nat×HO))(w:World):Nat→Prop:=fun b=>b<w.heap.size∧b∉cC H∧(C.F0 b∨C.w0.heap.size≤b∨C.O0 b)
structure ep(C:il)(S:St)(a:Act)(w:World):Prop where
 n:a.tmps.size=S.n
 df:a.defers=[]
 slots:∀i,cL w (Fz C S.heap w) (S.slot i) (a.tmps.getD i undef)
 heap:∀p∈S.heap,oG w (Fz C S.heap w) p.2
 nd:(cC S.heap).Nodup
 lt:∀b∈cC S.heap,b<w.heap.size∧(C.w0.heap.size≤b∨C.O0 b)
 mod:dE C.O0 C.w0 w
theorem pY(S:St)(d i:Nat)(x:AV):(S.put d x).slot i=if d=i then x else S.slot i:=by
 unfold St.put St.slot
 simp only[ge]
 by_cases h:d=i
 ·subst h;simp[Nat.beq_refl]
 ·rw[if_neg h];cases hb:Nat.beq d i with
  |true=>exact absurd (Nat.eq_of_beq_eq_true hb) h
  |false=>rfl
theorem ii:∀{H:List (Nat×HO)} {k:Nat} {x:HO},bU H k=some x→∃pre k' post,H=pre++(k',x)::post∧∀y,eT H k y=pre++(k',y)::post
 |(k',x')::r,k,x,h=>by
  unfold bU at h
  cases hb:Nat.beq k' k with
  |true=>
   rw[hb] at h
   simp only[cond_true,Option.some.injEq] at h
   subst h
   exact⟨[],k',r,rfl,fun y=>by unfold eT;rw[hb];rfl⟩
  |false=>
   rw[hb] at h
   obtain⟨pre,q,post,e1,e2⟩:=ii (H:=r) (by simpa using h)
   exact⟨(k',x')::pre,q,post,by rw[e1];rfl,fun y=>by unfold eT;rw[hb];simp only[cond_false,e2,List.cons_append]⟩
theorem ij:∀{H:List (Nat×HO)} {k:Nat} {x:HO},bU H k=some x→∃pre post,H=pre++(k,x)::post
 |(k',x')::r,k,x,h=>by
  unfold bU at h
  cases hb:Nat.beq k' k with
  |true=>
   rw[hb] at h
   simp only[cond_true,Option.some.injEq] at h
   subst h
   have:=Nat.eq_of_beq_eq_true hb
   subst this
   exact⟨[],r,rfl⟩
  |false=>
   rw[hb] at h
   obtain⟨pre,post,e1⟩:=ij (H:=r) (by simpa using h)
   exact⟨(k',x')::pre,post,by rw[e1];rfl⟩
theorem cx(H1 H2:List (Nat×HO)):cC (H1++H2)=cC H1++cC H2:=by unfold cC;rw[List.flatMap_append]
theorem cI(p:Nat×HO)(H:List (Nat×HO)):cC (p::H)=p.2.blk++cC H:=by
 unfold cC
 rw[List.flatMap_cons]
theorem qa{H:List (Nat×HO)}{k:Nat}{x:HO}(hg:bU H k=some x)(y:HO)(h:y.blk=x.blk):cC (eT H k y)=cC H:=by
 obtain⟨pr,q,po,g1,g2⟩:=ii hg
 rw[g2 y,g1,cx,cx,cI,cI]
 show _++(y.blk++_)=_++(x.blk++_)
 rw[h]
theorem fH{H:List (Nat×HO)}{k:Nat}{x:HO}(hg:bU H k=some x){b:Nat}(h:b∈x.blk):b∈cC H:=by
 obtain⟨pr,q,po,g1,g2⟩:=ii hg
 rw[g1,cx,cI]
 simp[h]
section
variable {C:il} {S:St} {a:Act} {w w':World}
theorem ep.getHeap(h:ep C S a w){k:Nat}{x:HO}(hk:bU S.heap k=some x):oG w (Fz C S.heap w) x:=by
 obtain⟨pre,q,post,e1,_⟩:=ii hk
 exact h.heap (q,x) (by rw[e1];simp)
theorem ep.put(h:ep C S a w){d:Nat}{x:AV}{v:Value}(hd:d<S.n)(hv:cL w (Fz C S.heap w) x v):ep C (S.put d x) (a.put (some d) v) w where
 n:=by show (a.tmps.setIfInBounds d v).size=_;rw[Array.size_setIfInBounds];exact h.n
 df:=h.df
 slots:=fun i=>by
  rw[pY]
  show cL w _ _ ((a.tmps.setIfInBounds d v).getD i undef)
  by_cases hi:d=i
  ·subst hi
   rw[if_pos Z]
   have:(a.tmps.setIfInBounds d v).getD d undef=v:=by
    rw[Array.getD_eq_getD_getElem?,Array.getElem?_setIfInBounds_self_of_lt (by rw[h.n];exact hd)];rfl
   rw[this];exact hv
  ·rw[if_neg hi]
   have:(a.tmps.setIfInBounds d v).getD i undef=a.tmps.getD i undef:=by
    rw[Array.getD_eq_getD_getElem?,Array.getD_eq_getD_getElem?,Array.getElem?_setIfInBounds_ne hi]
   rw[this];exact h.slots i
 heap:=h.heap
 nd:=h.nd
 lt:=h.lt
 mod:=h.mod
theorem ep.move(h:ep C S a w)(H':List (Nat×HO))(T:Nat→Prop)(hm:dE T w w')(hT:∀b,b<w.heap.size→T b→b∈cC S.heap)
 (hnd:(cC H').Nodup)(hlt:∀b∈cC H',b<w'.heap.size∧(b∈cC S.heap∨w.heap.size≤b))
 (hH:∀p∈H',oG w' (Fz C H' w') p.2):ep C ⟨S.n,S.slots,H'⟩ a w' where
 n:=h.n
 df:=h.df
 slots:=fun i=>fN (fun b hb=>⟨Nat.lt_of_lt_of_le hb.1 hm.size,fun hin=>by
  rcases (hlt b hin).2 with h1|h1
  ·exact hb.2.1 h1
  ·exact absurd hb.1 (Nat.not_lt.2 h1),hb.2.2⟩) (fun b hb=>hm.block b hb.1 (fun ht=>hb.2.1 (hT b hb.1 ht))) _ _ (h.slots i)
 heap:=hH
 nd:=hnd
 lt:=fun b hb=>⟨(hlt b hb).1,by
  rcases (hlt b hb).2 with h1|h1
  ·exact(h.lt b h1).2
  ·exact .inl (Nat.le_trans h.mod.size h1)⟩
 mod:=h.mod.trans_ (T:=fun b=>b∈cC S.heap) ⟨hm.os,hm.tape,hm.output,hm.size,fun k hk hn=>hm.block k hk (fun ht=>hn (hT k hk ht))⟩ (fun b hb hin=>by
  rcases (h.lt b hin).2 with h1|h1
  ·omega
  ·exact h1)
theorem ep.keepC(_h:ep C S a w){H':List (Nat×HO)}{T:Nat→Prop}(hm:dE T w w')(hT:∀b,b<w.heap.size→T b→b∈cC S.heap)
 (hlt:∀b∈cC H',b<w'.heap.size∧(b∈cC S.heap∨w.heap.size≤b))(x:AV)(cs:List Value)(hx:bw w (Fz C S.heap w) x cs):bw w' (Fz C H' w') x cs:=
 fO (fun b hb=>⟨Nat.lt_of_lt_of_le hb.1 hm.size,fun hin=>by
  rcases (hlt b hin).2 with h1|h1
  ·exact hb.2.1 h1
  ·exact absurd hb.1 (Nat.not_lt.2 h1),hb.2.2⟩) (fun b hb=>hm.block b hb.1 (fun ht=>hb.2.1 (hT b hb.1 ht))) x cs hx
theorem ep.keepA(_h:ep C S a w){H':List (Nat×HO)}{T:Nat→Prop}(hm:dE T w w')(hT:∀b,b<w.heap.size→T b→b∈cC S.heap)
 (hlt:∀b∈cC H',b<w'.heap.size∧(b∈cC S.heap∨w.heap.size≤b))(sz:Nat)(x:List AV)(cs:List Value)(hx:dq w (Fz C S.heap w) sz x cs):dq w' (Fz C H' w') sz x cs:=
 gP (fun b hb=>⟨Nat.lt_of_lt_of_le hb.1 hm.size,fun hin=>by
  rcases (hlt b hin).2 with h1|h1
  ·exact hb.2.1 h1
  ·exact absurd hb.1 (Nat.not_lt.2 h1),hb.2.2⟩) (fun b hb=>hm.block b hb.1 (fun ht=>hb.2.1 (hT b hb.1 ht))) sz x cs hx
theorem ep.keepHO(h:ep C S a w){H':List (Nat×HO)}{T:Nat→Prop}(hm:dE T w w')(hT:∀b,b<w.heap.size→T b→b∈cC S.heap)
 (hlt:∀b∈cC H',b<w'.heap.size∧(b∈cC S.heap∨w.heap.size≤b)){x:HO}(hx:oG w (Fz C S.heap w) x)(hb:∀b,b∈x.blk→¬ T b):oG w' (Fz C H' w') x:=by
 cases x with
 |var b c=>
  obtain⟨t,cs,h1,h2⟩:=hx
  exact⟨t,cs,h1.mod hm (hb b (List.mem_singleton.2 Z)),h.keepC hm hT hlt _ _ h2⟩
 |row v e sz xs=>
  obtain⟨cells,h1,h2⟩:=hx
  refine⟨cells,h.keepA hm hT hlt _ _ _ h1,h2.1,?_⟩
  rcases h2.2 with hn|⟨g,cap,cur,rfl,hg,hgg,rest⟩
  ·exact .inl hn
  ·refine .inr ⟨g,cap,cur,rfl,hg,?_,rest⟩
   rw[hm.block g (Array.getElem?_eq_some_iff.1 hgg).1 (hb g (List.mem_singleton.2 Z))]
   exact hgg
 |obj b o=>
  have hx:w.heap[b]?=some o:=hx
  exact(hm.block b (Array.getElem?_eq_some_iff.1 hx).1 (hb b (List.mem_singleton.2 Z))).trans hx
 |grp bs X=>
  refine⟨hx.1,fun b hbb=>Nat.lt_of_lt_of_le (hx.2.1 b hbb) hm.size,X.mono (fun b hb=>⟨Nat.lt_of_lt_of_le hb.1 hm.size,fun hin=>by
   rcases (hlt b hin).2 with h1|h1
   ·exact hb.2.1 h1
   ·exact absurd hb.1 (Nat.not_lt.2 h1),hb.2.2⟩) (fun b hb=>hm.block b hb.1 (fun ht=>hb.2.1 (hT b hb.1 ht))) (fun b hbb=>hm.block b (hx.2.1 b hbb) (hb b hbb)) hx.2.2⟩
theorem Jj{w:World}{F:Nat→Prop}{x:HO}(h:oG w F x):x.blk.Nodup:=by
 cases x with
 |var b c=>show [b].Nodup;simp
 |row v e sz xs=>show (v.ownBlock.toList).Nodup;cases v.ownBlock<;>simp
 |obj b o=>show [b].Nodup;simp
 |grp bs X=>exact h.1
theorem ep.new(h:ep C S a w)(k:Nat)(x:HO)(hm:dE lh w w')(hx:oG w' (Fz C ((k,x)::S.heap) w') x)(hb:∀b,b∈x.blk→b<w'.heap.size∧w.heap.size≤b):
 ep C ⟨S.n,S.slots,(k,x)::S.heap⟩ a w':=by
 have hlt:∀b∈cC ((k,x)::S.heap),b<w'.heap.size∧(b∈cC S.heap∨w.heap.size≤b):=by
  intro b hin
  rw[cI] at hin
  rcases List.mem_append.1 hin with h1|h1
  ·have h2:=hb b (by simpa using h1)
   exact⟨h2.1,.inr h2.2⟩
  ·exact⟨Nat.lt_of_lt_of_le (h.lt b h1).1 hm.size,.inl h1⟩
 refine h.move _ lh hm (fun _ _ hf=>hf.elim) ?_ hlt ?_
 ·rw[cI]
  exact List.nodup_append.2 ⟨Jj hx,h.nd,fun a ha b hbb he=>by subst he;have:=(h.lt a hbb).1;have:=(hb a ha).2;omega⟩
 ·intro p hp
  rcases List.mem_cons.1 hp with rfl|hp
  ·exact hx
  ·exact h.keepHO hm (fun _ _ hf=>hf.elim) hlt (h.heap p hp) (fun _ _ hf=>hf)
theorem ep.swap(h:ep C S a w){k:Nat}{x:HO}(hk:bU S.heap k=some x)(y:HO)(hm:dE (fun b=>b∈x.blk) w w')
 (hy:oG w' (Fz C (eT S.heap k y) w') y)(hb:∀b,b∈y.blk→b<w'.heap.size∧(b∈x.blk∨w.heap.size≤b)):
 ep C ⟨S.n,S.slots,eT S.heap k y⟩ a w':=by
 obtain⟨pre,q,post,e1,e2⟩:=ii hk
 have e2:=e2 y
 have hT:∀b,b<w.heap.size→b∈x.blk→b∈cC S.heap:=fun b _ hb=>by
  rw[e1,cx,cI];simp[hb]
 have hlt:∀b∈cC (eT S.heap k y),b<w'.heap.size∧(b∈cC S.heap∨w.heap.size≤b):=by
  intro b hin
  rw[e2,cx,cI] at hin
  rcases List.mem_append.1 hin with h1|h1
  ·have:b∈cC S.heap:=by rw[e1,cx];exact List.mem_append.2 (.inl h1)
   exact⟨Nat.lt_of_lt_of_le (h.lt b this).1 hm.size,.inl this⟩
  ·rcases List.mem_append.1 h1 with h1|h1
   ·have h2:=hb b (by simpa using h1)
    refine⟨h2.1,?_⟩
    rcases h2.2 with h3|h3
    ·rcases Nat.lt_or_ge b w.heap.size with h4|h4
     ·exact .inl (hT b h4 h3)
     ·exact .inr h4
    ·exact .inr h3
   ·have:b∈cC S.heap:=by rw[e1,cx,cI];simp[h1]
    exact⟨Nat.lt_of_lt_of_le (h.lt b this).1 hm.size,.inl this⟩
 have hnd:=h.nd
 rw[e1,cx,cI] at hnd
 have hin:∀b,b∈cC pre∨b∈cC post→b<w.heap.size∧b∉x.blk:=by
  intro b hb
  have h1:b∈cC S.heap:=by rw[e1,cx,cI];rcases hb with h|h<;>simp[h]
  refine⟨(h.lt b h1).1,fun he=>?_⟩
  simp only[List.nodup_append] at hnd
  rcases hb with h|h
  ·exact hnd.2.2 b h b (List.mem_append_left _ he) Z
  ·exact hnd.2.1.2.2 b he b h Z
 refine h.move _ _ hm hT ?_ hlt ?_
 ·rw[e2,cx,cI]
  have h1:(cC pre++cC post).Nodup:=by
   refine hnd.sublist (List.Sublist.append (List.Sublist.refl _) ?_)
   exact List.sublist_append_right _ _
  have h2:∀c,c∈cC pre∨c∈cC post→c∉y.blk:=fun c hc he=>by
   have h3:=hin c hc
   rcases (hb c he).2 with h4|h4
   ·exact h3.2 h4
   ·omega
  simp only[List.nodup_append] at h1 ⊢
  refine⟨h1.1,⟨Jj hy,h1.2.1,fun c hc d hd he=>?_⟩,fun c hc d hd he=>?_⟩
  ·subst he;exact h2 c (.inr hd) hc
  ·subst he
   rcases List.mem_append.1 hd with hd|hd
   ·exact h2 c (.inl hc) hd
   ·exact h1.2.2 c hc c hd Z
 ·intro p hp
  rw[e2] at hp
  rcases List.mem_append.1 hp with h1|h1
  ·refine h.keepHO hm hT hlt (h.heap p (by rw[e1];simp[h1])) (fun b hb he=>?_)
   have:b∈cC pre:=List.mem_flatMap.2 ⟨p,h1,hb⟩
   exact(hin b (.inl this)).2 he
  ·rcases List.mem_cons.1 h1 with rfl|h1
   ·exact hy
   ·refine h.keepHO hm hT hlt (h.heap p (by rw[e1];simp[h1])) (fun b hb he=>?_)
    have:b∈cC post:=List.mem_flatMap.2 ⟨p,h1,hb⟩
    exact(hin b (.inr this)).2 he
end
inductive TK where
 |bool|int(k:IntKind)|string|slice(e:Nat)|ptr(e:Nat)|struct(fs:List (Nat×Nat))|array(n e:Nat)|iface|func|map(k e:Nat)|other
def Cu:TypeDesc→TK
 |.bool=>.bool
 |.int k=>.int k
 |.string=>.string
 |.slice e=>.slice e
 |.pointer e=>.ptr e
 |.struct fs=>.struct (fs.toList.map fun f=>(f.offset,f.type))
 |.array n e=>.array n e
 |.interface _=>.iface
 |.func _ _ _=>.func
 |.map k e=>.map k e
 |_=>.other
def TK.isAgg:TK→Bool
 |.struct _|.array _ _=>true
 |_=>false
structure TI where
 k:TK
 sz:Nat
 bytes:Nat
 zero:AV
mutual
def gw:AV→Option (List Value)
 |.b x=>some [.bool x]
 |.i k n=>some [.int k n]
 |.s []=>some [.string ⟨#[]⟩]
 |.nil=>some [.slice none 0 0]
 |.nilp=>some [.pointer none]
 |.nilf=>some [.nilFunc]
 |.nili=>some [.nilIface]
 |.agg fs=>l7 fs
 |.arr sz n xs=>if xs.length=n∧xs.all (fun x=>gz x==sz)=true then l7 xs else none
 |_=>none
def l7:List AV→Option (List Value)
 |[]=>some []
 |x::xs=>match gw x,l7 xs with
  |some a,some b=>some (a++b)
  |_,_=>none
end
structure d7(P:Program)(t:Nat)(ti:TI):Prop where
 info:(P.info? t).map (fun i=>(i.size,i.bytes))=some (ti.sz,ti.bytes)
 kind:(P.underlying t).map Cu=some ti.k
 zero:ti.zero= .any∨∃cs,gw ti.zero=some cs∧(P.info? t).bind (·.zero)=some (ch ti.zero cs)
def bI:List (Nat×TI)→Nat→Option TI
 |[],_=>none
 |(k,x)::r,i=>bif Nat.beq k i then some x else bI r i
def cP(P:Program)(T:List (Nat×TI)):Prop:=∀p∈T,d7 P p.1 p.2
theorem aX{P:Program}{T:List (Nat×TI)}(h:cP P T){t:Nat}{ti:TI}(hg:bI T t=some ti):d7 P t ti:=by
 induction T with
 |nil=>simp[bI] at hg
 |cons p r ih=>
  obtain⟨k,x⟩:=p
  unfold bI at hg
  cases hb:Nat.beq k t with
  |true=>
   rw[hb] at hg
   simp only[cond_true,Option.some.injEq] at hg
   subst hg
   have:k=t:=Nat.eq_of_beq_eq_true hb
   subst this
   exact h (k,x) (by simp)
  |false=>
   rw[hb] at hg
   exact ih (fun p hp=>h p (by simp[hp])) (by simpa using hg)
theorem d7.desc{P:Program}{t:Nat}{ti:TI}(h:d7 P t ti):∃d,P.underlying t=some d∧Cu d=ti.k:=by
 have:=h.kind
 cases hu:P.underlying t with
 |none=>rw[hu] at this;cases this
 |some d=>rw[hu] at this;exact⟨d,rfl,by simpa using this⟩
theorem d7.inf{P:Program}{t:Nat}{ti:TI}(h:d7 P t ti):∃i,P.info? t=some i∧i.size=ti.sz∧i.bytes=ti.bytes:=by
 have:=h.info
 cases hu:P.info? t with
 |none=>rw[hu] at this;cases this
 |some d=>rw[hu] at this;simp at this;exact⟨d,rfl,this.1,this.2⟩
def zd:Value→AV
 |.bool b=>.b b
 |.int k n=>.i k n
 |.string s=>if s.size≤65536 then .s s.data.toList else .any
 |.slice none 0 0=>.nil
 |.pointer none=>.nilp
 |.nilFunc=>.nilf
 |.nilIface=>.nili
 |_=>.any
def ev(S:St):Operand→AV
 |.tmp t=>S.slot t
 |.const v=>zd v
 |.func f=>.fn (.func f) []
 |.global _=>.any
section
variable {w:World} {F:Nat→Prop} {v:Value}
theorem gr{x:Bool}:cL w F (.b x) v↔v= .bool x:=by simp[cL,bw,ch,AV.isAgg]
theorem cq{k:IntKind}{n:Int}:cL w F (.i k n) v↔v= .int k n:=by simp[cL,bw,ch,AV.isAgg]
theorem gS{x:List UInt8}:cL w F (.s x) v↔v= .string (bf x)∧x.length≤maxLen:=by
 simp only[cL,bw,ch,AV.isAgg]
 constructor
 ·rintro⟨cs,⟨rfl,h⟩,hv⟩;exact⟨by simpa using hv,h⟩
 ·rintro⟨rfl,h⟩;exact⟨_,⟨rfl,h⟩,by simp⟩
theorem lW:cL w F .nil v↔v= .slice none 0 0:=by simp[cL,bw,ch,AV.isAgg]
theorem xP:cL w F .nilp v↔v= .pointer none:=by simp[cL,bw,ch,AV.isAgg]
theorem dg{k b:Nat}{p:List Nat}{o:Nat}:cL w F (.ptr k b p o) v↔v= .pointer (some ⟨b,o,none⟩):=by simp[cL,bw,ch,AV.isAgg]
theorem cf{k:Nat}{u:Value}:cL w F (.own k u) v↔v=u∧u.oneCell'=true:=by
 simp only[cL,bw,ch,AV.isAgg]
 constructor
 ·rintro⟨cs,⟨rfl,h⟩,hv⟩;exact⟨by simpa using hv,h⟩
 ·rintro⟨rfl,h⟩;exact⟨_,⟨rfl,h⟩,by simp⟩
theorem Jz{k b:Nat}{p:List Nat}{st o n c:Nat}:cL w F (.vw k b p st o n c) v↔v= .slice (some ⟨b,o,none⟩) n c∧n≤c∧c≤maxLen:=by
 simp only[cL,bw,ch,AV.isAgg]
 constructor
 ·rintro⟨cs,⟨rfl,h⟩,hv⟩;exact⟨by simpa using hv,h⟩
 ·rintro⟨rfl,h⟩;exact⟨_,⟨rfl,h⟩,by simp⟩
theorem FP:cL w F .nilf v↔v= .nilFunc:=by simp[cL,bw,ch,AV.isAgg]
theorem FO:cL w F .nili v↔v= .nilIface:=by simp[cL,bw,ch,AV.isAgg]
theorem iW{sz:Nat}{xs:List AV}:cL w F (.sl sz xs) v↔∃A cap,v= .slice A xs.length cap∧xs.length≤cap∧cap≤maxLen∧(xs≠[]→∃b off,A=some ⟨b,off,none⟩∧F b∧d8 w F b off sz xs):=by
 simp only[cL,bw,ch,AV.isAgg]
 constructor
 ·rintro⟨cs,⟨A,cap,rfl,h⟩,hv⟩;exact⟨A,cap,by simpa using hv,h⟩
 ·rintro⟨A,cap,rfl,h⟩;exact⟨_,⟨A,cap,rfl,h⟩,by simp⟩
theorem AE{fs:List AV}:cL w F (.agg fs) v↔∃cs,v= .agg cs∧fK w F fs cs.toList:=by
 simp only[cL,bw,ch,AV.isAgg]
 constructor
 ·rintro⟨cs,h,hv⟩;exact⟨cs.toArray,by simpa using hv,by simpa using h⟩
 ·rintro⟨cs,rfl,h⟩;exact⟨_,h,by simp⟩
theorem n0{x:AV}:cL w F (.cp x) v↔∃b off vs,v= .pointer (some ⟨b,off,none⟩)∧F b∧bw w F x vs∧w.rangeAt b off vs:=by
 simp only[cL,bw,ch,AV.isAgg]
 constructor
 ·rintro⟨cs,⟨b,off,vs,rfl,h⟩,hv⟩;exact⟨b,off,vs,by simpa using hv,h⟩
 ·rintro⟨b,off,vs,rfl,h⟩;exact⟨_,⟨b,off,vs,rfl,h⟩,by simp⟩
theorem sg(s:ByteArray):bf s.data.toList=s:=by cases s;rfl
theorem AR(u:Value):cL w F (zd u) u:=by
 unfold zd
 split
 ·exact gr.2 Z
 ·exact cq.2 Z
 ·split
  ·rename_i s h
   exact gS.2 ⟨by rw[sg],by rw[show s.data.toList.length=s.size from by cases s;rfl];unfold maxLen;omega⟩
  ·exact J
 ·exact lW.2 Z
 ·exact xP.2 Z
 ·exact FP.2 Z
 ·exact FO.2 Z
 ·exact J
end
theorem bg{C:il}{S:St}{a:Act}{w:World}(h:ep C S a w)(x:Operand):cL w (Fz C S.heap w) (ev S x) (a.eval x):=by
 cases x with
 |tmp t=>exact h.slots t
 |const v=>exact AR v
 |global g=>exact J
 |func f=>
  show cL w _ (.fn (.func f) []) (.func (.func f) #[] #[])
  simp[cL,bw,fK,ch,AV.isAgg]
structure CV where
 need:Prop
 gain:Prop
 rd:Option (Option Nat)
 val:AV
def CV.pure(x:AV):Option CV:=some ⟨True,True,none,x⟩
def CV.val_(x:AV):Option CV:=
 match x with
 |.any=>CV.pure .any
 |.b t=>CV.pure (.b t)
 |.i k n=>CV.pure (.i k n)
 |.s x=>CV.pure (.s x)
 |.sl sz xs=>CV.pure (.sl sz xs)
 |.nil=>CV.pure .nil
 |.agg fs=>CV.pure (.agg fs)
 |.arr sz n xs=>CV.pure (.arr sz n xs)
 |.ptr k b p o=>CV.pure (.ptr k b p o)
 |.nilp=>CV.pure .nilp
 |.own k v=>CV.pure (.own k v)
 |.vw k b p st o n c=>CV.pure (.vw k b p st o n c)
 |.cp a=>CV.pure (.cp a)
 |.fn f c=>CV.pure (.fn f c)
 |.nilf=>CV.pure .nilf
 |.ifc t a=>CV.pure (.ifc t a)
 |.nili=>CV.pure .nili
 |.tup xs=>CV.pure (.tup xs)
theorem CV.val_eq(x:AV):CV.val_ x=CV.pure x:=by cases x<;>rfl
def eB(op:BinOp)(k:IntKind)(x y:Int):Int:=
 match op with
 |.and=>k.wrap (BitVec.ofInt k.bits x&&& BitVec.ofInt k.bits y).toNat
 |.or=>k.wrap (BitVec.ofInt k.bits x|||BitVec.ofInt k.bits y).toNat
 |.xor=>k.wrap (BitVec.ofInt k.bits x^^^BitVec.ofInt k.bits y).toNat
 |_=>k.wrap (BitVec.ofInt k.bits x&&& ~~~BitVec.ofInt k.bits y).toNat
def uj(op:BinOp)(k:IntKind)(a b:Int):Option CV:=
 match op with
 |.add=>CV.pure (.i k (k.wrap (a+b)))
 |.sub=>CV.pure (.i k (k.wrap (a - b)))
 |.mul=>CV.pure (.i k (k.wrap (a*b)))
 |.quo=>some ⟨b≠0,True,none,.i k (k.wrap (a.tdiv b))⟩
 |.rem=>some ⟨b≠0,True,none,.i k (a.tmod b)⟩
 |.and=>CV.pure (.i k (eB .and k a b))
 |.or=>CV.pure (.i k (eB .or k a b))
 |.xor=>CV.pure (.i k (eB .xor k a b))
 |.andNot=>CV.pure (.i k (eB .andNot k a b))
 |.eql=>CV.pure (.b (a==b))
 |.neq=>CV.pure (.b (a !=b))
 |.lss=>CV.pure (.b (decide (a<b)))
 |.leq=>CV.pure (.b (decide (a≤b)))
 |.gtr=>CV.pure (.b (decide (b<a)))
 |.geq=>CV.pure (.b (decide (b≤a)))
 |_=>none
def IQ(op:BinOp)(a b:List UInt8):Option CV:=
 match op with
 |.add=>some ⟨a.length+b.length≤maxLen,True,none,.s (a++b)⟩
 |.eql=>CV.pure (.b (a==b))
 |.neq=>CV.pure (.b (!(a==b)))
 |.lss=>CV.pure (.b (Op.bytesLess a b))
 |.leq=>CV.pure (.b (Op.bytesLess a b||a==b))
 |.gtr=>CV.pure (.b (!(Op.bytesLess a b||a==b)))
 |.geq=>CV.pure (.b (!Op.bytesLess a b))
 |_=>none
def qq(T:List (Nat×TI))(op:BinOp)(t:Nat):AV→AV→Option CV
 |.i k a,.i k' b=>
  match op with
  |.shl=>some ⟨0≤b,True,none,.i k (k.wrap (a*2^(min b.toNat k.bits)))⟩
  |.shr=>some ⟨0≤b,True,none,.i k (a.fdiv (2^(min b.toNat k.bits)))⟩
  |_=>match uj op k a b with
   |some ⟨p,g,rd,v⟩=>some ⟨k=k'∧p,g,rd,v⟩
   |none=>none
 |.s a,.s b=>IQ op a b
 |.b a,.b b=>
  match bI T t with
  |some ⟨.bool,_,_,_⟩=>match op with
   |.eql=>CV.pure (.b (a==b))
   |.neq=>CV.pure (.b (!(a==b)))
   |_=>none
  |_=>none
 |_,_=>none
def fits(ti:TI)(y:AV):Prop:=ti.sz=gz y∧ti.k.isAgg=y.isAgg
def tF(T:List (Nat×TI))(H:List (Nat×HO))(t:Nat):AV→Option CV
 |.ptr key b path off=>
  match bI T t with
  |some ti=>match bU H key with
   |some (.var b' c)=>match jL path c with
    |some (o,y)=>some ⟨b'=b∧o=off∧fits ti y,True,some (some key),y⟩
    |none=>none
   |_=>none
  |none=>none
 |.cp y=>
  match bI T t with
  |some ti=>some ⟨fits ti y,True,some none,y⟩
  |none=>none
 |_=>none
def pD(T:List (Nat×TI))(s f:Nat):AV→Option CV
 |.ptr key b path off=>
  match bI T s with
  |some ⟨.struct fs,_,_,_⟩=>match fs[f]? with
   |some (o,ft)=>match bI T ft with
    |some ti=>some ⟨ti.sz≠0,True,none,.ptr key b (path++[f]) (off+o)⟩
    |none=>none
   |none=>none
  |_=>none
 |.cp (.agg xs)=>
  match bI T s with
  |some ⟨.struct fs,_,_,_⟩=>match fs[f]? with
   |some (o,ft)=>match bI T ft with
    |some ti=>match xs[f]? with
     |some y=>some ⟨ti.sz≠0∧AQ xs f=o,True,none,.cp y⟩
     |none=>none
    |none=>none
   |none=>none
  |_=>none
 |_=>none
def zE(T:List (Nat×TI))(s f:Nat):AV→Option CV
 |.agg xs=>
  match bI T s with
  |some ⟨.struct fs,_,_,_⟩=>match fs[f]? with
   |some (o,ft)=>match bI T ft with
    |some ti=>match xs[f]? with
     |some y=>some ⟨AQ xs f=o∧fits ti y,True,none,y⟩
     |none=>none
    |none=>none
   |none=>none
  |_=>none
 |_=>none
def B4(T:List (Nat×TI))(H:List (Nat×HO))(t:Nat)(x:AV):Option CV:=
 match bI T t with
 |some ⟨.string,_,_,_⟩=>match x with
  |.s x=>some ⟨True,x.length≤9223372036854775807,none,.i .i64 x.length⟩
  |_=>none
 |some ⟨.slice _,_,_,_⟩=>match x with
  |.sl _ xs=>some ⟨True,xs.length≤9223372036854775807,none,.i .i64 xs.length⟩
  |.nil=>CV.pure (.i .i64 0)
  |.vw _ _ _ _ _ n _=>CV.pure (.i .i64 n)
  |.own k v=>match bU H k with
   |some (.row v' _ _ xs)=>some ⟨v'=v,xs.length≤9223372036854775807,none,.i .i64 xs.length⟩
   |_=>none
  |_=>none
 |some ⟨.array n _,_,_,_⟩=>CV.pure (.i .i64 n)
 |_=>none
def wt(T:List (Nat×TI))(s d:Nat):AV→Option CV
 |.i _ n=>match bI T s,bI T d with
  |some _,some ⟨.int k,_,_,_⟩=>CV.pure (.i k (k.wrap n))
  |_,_=>none
 |.s x=>match bI T s,bI T d with
  |some _,some ⟨.string,_,_,_⟩=>CV.pure (.s x)
  |_,_=>none
 |_=>none
def cv(T:List (Nat×TI))(H:List (Nat×HO))(e:Operand→AV):Op→Option CV
 |.move x|.assign x=>CV.val_ (e x)
 |.pick c a b=>match e c with
  |.b true=>CV.val_ (e a)
  |.b false=>CV.val_ (e b)
  |_=>none
 |.load t x=>tF T H t (e x)
 |.fieldAddr s x f=>pD T s f (e x)
 |.field s x f=>zE T s f (e x)
 |.nilCheck x=>match e x with
  |.ptr k b p o=>CV.pure (.ptr k b p o)
  |.cp y=>CV.pure (.cp y)
  |_=>none
 |.binOp op t x y _=>qq T op t (e x) (e y)
 |.unOp op _ x=>match op,e x with
  |.not,.b t=>CV.pure (.b (!t))
  |.neg,.i k n=>CV.pure (.i k (k.wrap (0 - n)))
  |.xor,.i k n=>CV.pure (.i k (eB .xor k (if k.signed then -1 else k.max) n))
  |_,_=>none
 |.convert s d x=>wt T s d (e x)
 |.extract t i=>match e t with
  |.tup xs=>match xs[i]? with
   |some x=>CV.val_ x
   |none=>none
  |_=>none
 |.call ⟨.builtin .len,args,ats⟩=>match args[0]?,ats[0]? with
  |some x,some t=>B4 T H t (e x)
  |_,_=>none
 |.call ⟨.builtin .max,args,_⟩=>match args.toList with
  |[x,y]=>match e x,e y with
   |.i k a,.i _ b=>CV.pure (.i k (if b>a then b else a))
   |.s a,.s b=>CV.pure (.s (if (!Op.bytesLess a b) then a else b))
   |_,_=>none
  |_=>none
 |.call ⟨.builtin .min,args,_⟩=>match args.toList with
  |[x,y]=>match e x,e y with
   |.i k a,.i _ b=>CV.pure (.i k (if b<a then b else a))
   |.s a,.s b=>CV.pure (.s (if (Op.bytesLess a b||a==b) then a else b))
   |_,_=>none
  |_=>none
 |_=>none
def ur(C:il)(H:List (Nat×HO))(w w':World):Option (Option Nat)→Prop
 |none=>True
 |some (some k)=>∀x b,bU H k=some x→b∈x.blk→w'.heap[b]?=w.heap[b]?
 |some none=>∀b,Fz C H w b→w'.heap[b]?=w.heap[b]?
end Go.Proofs.YtginkbjclkdglaaGreat
