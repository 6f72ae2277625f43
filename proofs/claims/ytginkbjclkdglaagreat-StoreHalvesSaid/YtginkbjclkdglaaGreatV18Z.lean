/- Rows that are lent: read by a callee, still owned and written afterwards. No program in sight. -/
import Derived.Test.YtginkbjclkdglaaGreatKWZ
import Derived.Test.YtginkbjclkdglaaGreatV1Z
import Derived.Test.YtginkbjclkdglaaGreatV13Z
namespace Go.Proofs.YtginkbjclkdglaaGreat
open Go Go.RowKit
mutual
def lc:AV→Bool
 |.any|.b _|.i _ _|.s _|.nil|.nilp|.nilf|.nili|.ptr ..|.own ..|.vw ..=>true
 |.sl _ xs=>xs.isEmpty
 |.agg fs=>ik fs
 |.arr _ _ xs=>ik xs
 |.cp _=>false
 |.fn _ caps=>ik caps
 |.ifc _ a=>lc a
 |.tup xs=>ik xs
def ik:List AV→Bool
 |[]=>true
 |x::xs=>lc x&&ik xs
end
section
variable {w:World} {F F':Nat→Prop}
mutual
theorem lG:∀(a:AV) (cs:List Value),lc a=true→bw w F a cs→bw w F' a cs
 |.any,_,_,h=>h
 |.b _,_,_,h=>h
 |.i _ _,_,_,h=>h
 |.s _,_,_,h=>h
 |.sl sz xs,cs,hf,h=>by
  simp only[lc,List.isEmpty_iff] at hf
  subst hf
  simp only[bw] at h ⊢
  obtain⟨A,cap,h1,h2,h3,_⟩:=h
  exact⟨A,cap,h1,h2,h3,fun hx=>absurd Z hx⟩
 |.nil,_,_,h=>h
 |.agg fs,cs,hf,h=>by simp only[lc] at hf;simp only[bw] at h ⊢;exact sR fs cs hf h
 |.arr sz n xs,cs,hf,h=>by simp only[lc] at hf;simp only[bw] at h ⊢;exact⟨h.1,sS sz xs cs hf h.2⟩
 |.ptr _ _ _ _,_,_,h=>h
 |.nilp,_,_,h=>h
 |.own _ _,_,_,h=>h
 |.vw _ _ _ _ _ _ _,_,_,h=>h
 |.cp a,cs,hf,h=>by simp[lc] at hf
 |.fn f caps,cs,hf,h=>by
  simp only[lc] at hf
  simp only[bw] at h ⊢
  obtain⟨vs,h1,h2⟩:=h
  exact⟨vs,h1,sR caps _ hf h2⟩
 |.nilf,_,_,h=>h
 |.ifc t a,cs,hf,h=>by
  simp only[lc] at hf
  simp only[bw] at h ⊢
  obtain⟨vs,h1,h2⟩:=h
  exact⟨vs,h1,lG a _ hf h2⟩
 |.nili,_,_,h=>h
 |.tup _,_,_,h=>h
theorem sR:∀(xs:List AV) (cs:List Value),ik xs=true→fK w F xs cs→fK w F' xs cs
 |[],_,_,h=>h
 |x::xs,cs,hf,h=>by
  simp only[ik,Bool.and_eq_true] at hf
  simp only[fK] at h ⊢
  obtain⟨c1,c2,h1,h2,h3⟩:=h
  exact⟨c1,c2,h1,lG x c1 hf.1 h2,sR xs c2 hf.2 h3⟩
theorem sS(sz:Nat):∀(xs:List AV) (cs:List Value),ik xs=true→dq w F sz xs cs→dq w F' sz xs cs
 |[],_,_,h=>h
 |x::xs,cs,hf,h=>by
  simp only[ik,Bool.and_eq_true] at hf
  simp only[dq] at h ⊢
  obtain⟨c1,c2,h1,h2,h3,h4⟩:=h
  exact⟨c1,c2,h1,lG x c1 hf.1 h2,h3,sS sz xs c2 hf.2 h4⟩
end
theorem wi:∀{xs:List AV} {i:Nat} {x:AV},ik xs=true→xs[i]?=some x→lc x=true
 |y::ys,0,x,h,hx=>by
  simp only[ik,Bool.and_eq_true] at h
  simp only[List.getElem?_cons_zero,Option.some.injEq] at hx
  subst hx;exact h.1
 |y::ys,i+1,x,h,hx=>by
  simp only[ik,Bool.and_eq_true] at h
  exact wi h.2 (by simpa using hx)
 |[],i,x,_,hx=>by simp at hx
theorem FQ{a:AV}{v:Value}(hf:lc a=true)(h:cL w F a v):cL w F' a v:=by
 cases a
 case any=>exact J
 case tup xs=>
  simp only[lc] at hf
  obtain⟨vs,h1,h2,h3⟩:=h
  exact⟨vs,h1,h2,fun i x u hx hu=>(h3 i x u hx hu).imp id fun ⟨cs,hc,he⟩=>⟨cs,lG _ _ (wi hf hx) hc,he⟩⟩
 all_goals
  obtain⟨cs,hc,he⟩:=h
  exact⟨cs,lG _ _ hf hc,he⟩
def DP:HO→Bool
 |.var _ c=>lc c
 |.row _ _ _ xs=>ik xs
 |.obj _ _=>true
 |.grp _ _=>false
theorem Jk{x:HO}(hf:DP x=true)(h:oG w F x):oG w F' x:=by
 cases x with
 |var b c=>obtain⟨t,cs,h1,h2⟩:=h;exact⟨t,cs,h1,lG _ _ hf h2⟩
 |row v e sz xs=>obtain⟨cells,h1,h2⟩:=h;exact⟨cells,sS _ _ _ hf h1,h2⟩
 |obj b o=>exact h
 |grp bs X=>cases hf
theorem wh{α:Type}{f:α→AV}(hf:∀x,lc (f x)=true):∀xs:List α,ik (xs.map f)=true
 |[]=>rfl
 |x::xs=>by simp only[List.map_cons,ik,hf,wh hf xs,Bool.and_self]
end
theorem rX:∀(ks:List Nat) (H:List (Nat×HO)) (z:Value×Nat×List AV),z∈oD H ks→∃p∈H,∃e,p.2= .row z.1 e z.2.1 z.2.2
 |[],H,z,h=>by simp[oD] at h
 |k::r,H,z,h=>by
  unfold oD at h
  split at h
  ·rename_i v e sz xs hg
   rcases List.mem_cons.1 h with rfl|h
   ·obtain⟨pre,post,e1⟩:=ij hg
    exact⟨(k,.row v e sz xs),by rw[e1];simp,e,rfl⟩
   ·obtain⟨p,hp,e',he⟩:=rX r _ z h
    exact⟨p,(dl hg).2.2 p hp,e',he⟩
  ·exact rX r H z h
section
variable {m:OM} {P:Program} {T:List (Nat×TI)} {C:il} {S:St} {ops:Array Oper} {l:List Oper} {K:St→Prop}
theorem aq.callL{d:Option Tmp}{f:FuncId}{args:Array Operand}{ats:Array TypeId}{ty:Nat}{pos:String}{aft:Array Edge}{gd:Option (Nat×Bool)}(hw:cH ops S gd=bE gd)
 (ld ks:List Nat){as_:List AV}{R:AV→List HO→Prop}(hspec:aQ P f as_ [] R)(hargs:gU (oD S.heap ld) (args.toList.map (ev S)) as_)(hd:z5 S d=true)
 (h:∀r os',R r os'→ks.length=os'.length∧lc r=true∧os'.all DP=true∧aq m P C ops l (St.putO ⟨S.n,S.slots,ks.zip os'++S.heap⟩ d r) K):
 aq m P C ops (⟨d,.call ⟨.value (.func f),args,ats⟩,ty,pos,aft,gd⟩::l) S K:=by
 refine aq.act hw [] (by cases m with|text=>rfl|any tk so qs=>simp[OM.oke]|one tk so qs=>simp[OM.oke]) Z fun a w hs RR Q hK' _=>?_
 obtain⟨fn,f1,f2,f3⟩:=hspec.fn
 unfold Oper.wp
 rw[execOp_call_go,sf f1 f2 f3]
 have e0:(#[]++args.map a.eval++#[]:Array Value)=(args.toList.map a.eval).toArray:=by
  apply Array.ext'
  simp[Array.toList_map]
 rw[e0]
 have hlent:∀b,(∃z∈oD S.heap ld,z.1.ownBlock=some b)→b∈cC S.heap:=fun b ⟨z,hz,hb⟩=>by
  obtain⟨p,hp,e,he⟩:=rX ld _ z hz
  exact List.mem_flatMap.2 ⟨p,hp,by rw[he];exact eY hb⟩
 have hFF:∀b,Fz C S.heap w b→Fz C S.heap w b∨∃z∈oD S.heap ld,z.1.ownBlock=some b:=fun b hb=>.inl hb
 have hfr:wR (oD S.heap ld) w (fun b=>Fz C S.heap w b∨∃z∈oD S.heap ld,z.1.ownBlock=some b):=fun z hz=>by
  obtain⟨p,hp,e,he⟩:=rX ld _ z hz
  have h1:=hs.heap p hp
  rw[he] at h1
  exact C1 (jI hFF h1) (fun b hb=>.inr ⟨z,hz,hb⟩)
 refine Calls.mono (hspec.run w (args.toList.map a.eval) (fun b=>Fz C S.heap w b∨∃z∈oD S.heap ld,z.1.ownBlock=some b) (fun b hb=>⟨?_,by simp[ct]⟩) ⟨by simp,by simp[ct],by simp[ct]⟩ ?_) ?_
 ·rcases hb with hb|hb
  ·exact hb.1
  ·exact(hs.lt b (hlent b hb)).1
 ·refine qY hfr hargs ⟨by simp,fun i x v hx hv=>?_⟩
  rw[List.getElem?_map] at hx hv
  cases hq:args.toList[i]? with
  |none=>rw[hq] at hx;cases hx
  |some o=>
   rw[hq] at hx hv
   simp only[Option.map_some,Option.some.injEq] at hx hv
   subst hx;subst hv
   exact fN hFF (fun _ _=>rfl) _ _ (bg hs o)
 ·rintro e w' ⟨v,r,os',rfl,hR,hm,hown,hbs,hv⟩
  obtain⟨hkl,hf1,hf2,hK2⟩:=h r os' hR
  have hb0:cC (ks.zip os'++S.heap)=ct os'++cC S.heap:=by rw[cx,wF ks os' hkl]
  have hnew:∀b∈ct os',w.heap.size≤b:=fun b hb=>by
   rcases hbs b hb with h1|h1
   ·simp[ct] at h1
   ·exact h1
  have hlt:∀b∈cC (ks.zip os'++S.heap),b<w'.heap.size∧(b∈cC S.heap∨w.heap.size≤b):=by
   intro b hb
   rw[hb0] at hb
   rcases List.mem_append.1 hb with hb|hb
   ·exact⟨hown.lt b hb,.inr (hnew b hb)⟩
   ·exact⟨Nat.lt_of_lt_of_le (hs.lt b hb).1 hm.size,.inl hb⟩
  have hT:∀b,b<w.heap.size→b∈ct ([]:List HO)→b∈cC S.heap:=fun b _ hb=>by simp[ct] at hb
  have hs2:ep C ⟨S.n,S.slots,ks.zip os'++S.heap⟩ a w':=by
   refine hs.move _ _ hm hT ?_ hlt ?_
   ·rw[hb0]
    refine List.nodup_append.2 ⟨hown.nd,hs.nd,fun b hb c hc hbc=>?_⟩
    subst hbc
    have:=hnew b hb
    have:=(hs.lt b hc).1
    omega
   ·intro p hp
    rcases List.mem_append.1 hp with hp|hp
    ·exact Jk (List.all_eq_true.1 hf2 _ (List.of_mem_zip hp).2) (hown.ok p.2 (List.of_mem_zip hp).2)
    ·exact hs.keepHO hm hT hlt (hs.heap p hp) (fun b hb hin=>by simp[ct] at hin)
  have hd':z5 (⟨S.n,S.slots,ks.zip os'++S.heap⟩:St) d=true:=by cases d<;>exact hd
  refine hK' _ v w' r hs2 hd' (FQ hf1 hv) ⟨hm.mono (fun b _ hb=>by simp[ct] at hb),fun tk htk b hlt' ⟨p,hp,hpk,hpb⟩=>?_⟩ hK2
  rcases List.mem_append.1 hp with hp|hp
  ·have hb:b∈ct os':=List.mem_flatMap.2 ⟨p.2,(List.of_mem_zip hp).2,hpb⟩
   have:=hnew b hb
   omega
  ·exact⟨p,hp,hpk,hpb⟩
end
mutual
def NH:AV→List Nat
 |.own k _=>[k]
 |.agg fs=>ES fs
 |_=>[]
def ES:List AV→List Nat
 |[]=>[]
 |x::xs=>NH x++ES xs
end
section
variable {m:OM} {P:Program} {T:List (Nat×TI)} {C:il} {ops:Array Oper} {l:List Oper} {K:St→Prop} {n:Nat} {sl:List (Nat×AV)} {hp:List (Nat×HO)} {d:Nat} {ty:Nat} {pos:String} {aft:Array Edge} {gd:Option (Nat×Bool)}
theorem jz(hw:cH ops ⟨n,sl,hp⟩ gd=bE gd){f:FuncId}{args:Array Operand}{ats:Array TypeId}{as_:List AV}{R:AV→List HO→Prop}{fr:Fr}
 (hspec:aQ P f as_ [] R)(hfr:oD hp (ES (args.toList.map (ev ⟨n,sl,hp⟩)))=fr)(hargs:gU fr (args.toList.map (ev ⟨n,sl,hp⟩)) as_)(hd:Nat.blt d n=true)
 (h:∀r os',R r os'→os'=[]∧lc r=true∧aq m P C ops l ⟨n,(d,r)::sl,hp⟩ K):
 aq m P C ops (⟨some d,.call ⟨.value (.func f),args,ats⟩,ty,pos,aft,gd⟩::l) ⟨n,sl,hp⟩ K:=by
 subst hfr
 exact aq.callL hw _ [] hspec hargs hd (fun r os' hr=>by
  obtain⟨rfl,h1,h2⟩:=h r os' hr
  exact⟨rfl,h1,rfl,h2⟩)
theorem HL(hw:cH ops ⟨n,sl,hp⟩ gd=bE gd){f:FuncId}{args:Array Operand}{ats:Array TypeId}{as_:List AV}{fr:Fr}{e sz:Nat}{xs:List AV}
 (hspec:aQ P f as_ [] (fun r os=>∃v,r= .own 0 v∧os=[.row v e sz xs]))(hfr:oD hp (ES (args.toList.map (ev ⟨n,sl,hp⟩)))=fr)(hargs:gU fr (args.toList.map (ev ⟨n,sl,hp⟩)) as_)(hd:Nat.blt d n=true)
 (hf:ik xs=true)(h:∀v,aq m P C ops l ⟨n,(d,.own d v)::sl,(d,.row v e sz xs)::hp⟩ K):
 aq m P C ops (⟨some d,.call ⟨.value (.func f),args,ats⟩,ty,pos,aft,gd⟩::l) ⟨n,sl,hp⟩ K:=by
 subst hfr
 exact aq.callL hw _ [d] (hspec.le (R':=fun r os=>∃v,r= .own d v∧os=[.row v e sz xs]) (fun r os' ⟨v,h1,h2⟩=>⟨.own d v,h1▸aJ,v,rfl,h2⟩)) hargs hd (fun r os' hr=>by
  obtain⟨v,rfl,rfl⟩:=hr
  exact⟨rfl,rfl,by simp[DP,hf],h v⟩)
theorem jy(hw:cH ops ⟨n,sl,hp⟩ gd=bE gd){f:FuncId}{args:Array Operand}{ats:Array TypeId}{as_:List AV}{e sz:Nat}{xs:List AV}
 (hspec:aQ P f as_ [] (fun r os=>∃v,r= .own 0 v∧os=[.row v e sz xs]))(hargs:gU [] (args.toList.map (ev ⟨n,sl,hp⟩)) as_)(hd:Nat.blt d n=true)
 (h:∀v,aq m P C ops l ⟨n,(d,.own d v)::sl,(d,.row v e sz xs)::hp⟩ K):
 aq m P C ops (⟨some d,.call ⟨.value (.func f),args,ats⟩,ty,pos,aft,gd⟩::l) ⟨n,sl,hp⟩ K:=
 aq.call hw [] [] [d] (hspec.le (R':=fun r os=>∃v,r= .own d v∧os=[.row v e sz xs]) (fun r os' ⟨v,h1,h2⟩=>⟨.own d v,h1▸aJ,v,rfl,h2⟩)) hargs Z trivial hd eZ (fun r os' hr=>by
  obtain⟨v,rfl,rfl⟩:=hr
  exact⟨rfl,h v⟩)
theorem gM{op:Op}{j:Nat}{dj:Nat}(hj:(ops[j]?).bind (·.dst)=some dj)(hc:ge sl dj= .b false)(hd:Nat.blt d n=true)
 (h1:aq m P C ops l ⟨n,(d,.tup [])::sl,hp⟩ K):aq m P C ops (⟨some d,op,ty,pos,aft,some (j,true)⟩::l) ⟨n,sl,hp⟩ K:=
 aq.gdOff hj hc Z hd h1
theorem nj{op:Op}{j:Nat}{dj:Nat}(hj:(ops[j]?).bind (·.dst)=some dj)(hc:ge sl dj= .b true)(hd:Nat.blt d n=true)
 (h1:aq m P C ops l ⟨n,(d,.tup [])::sl,hp⟩ K):aq m P C ops (⟨some d,op,ty,pos,aft,some (j,false)⟩::l) ⟨n,sl,hp⟩ K:=
 aq.gdOff hj hc Z hd h1
theorem qj{op:Op}{j:Nat}{g:Bool}{dj:Nat}(hj:(ops[j]?).bind (·.dst)=some dj)(hc:ge sl dj= .tup [])(hd:Nat.blt d n=true)
 (h1:aq m P C ops l ⟨n,(d,.tup [])::sl,hp⟩ K):aq m P C ops (⟨some d,op,ty,pos,aft,some (j,g)⟩::l) ⟨n,sl,hp⟩ K:=
 aq.gdOffU hj hc hd h1
end
section
variable {P:Program} {T:List (Nat×TI)} {C:il} {ops:Array Oper} {l:List Oper} {K:St→Prop} {S:St} {d:Option Tmp} {ty:Nat} {pos:String} {aft:Array Edge} {gd:Option (Nat×Bool)}
theorem GB(a:Act){c:Operand}{f:FuncId}(hc:a.eval c= .func (.func f) #[] #[])(args:Array Operand)(ats:Array TypeId):
 execOp a.eval ⟨d,.call ⟨.value c,args,ats⟩,ty,pos,aft,gd⟩=callFunc f (#[]++args.map a.eval++#[]):=by
 unfold execOp
 simp only[resolve,hc,Deferred.ofValue]
 rfl
theorem A1{c:Operand}{f:FuncId}{args:Array Operand}{ats:Array TypeId}(hx:ev S c= .fn (.func f) [])(h:aq .text P C ops (⟨d,.call ⟨.value (.func f),args,ats⟩,ty,pos,aft,gd⟩::l) S K):
 aq .text P C ops (⟨d,.call ⟨.value c,args,ats⟩,ty,pos,aft,gd⟩::l) S K:=by
 refine⟨fun Q E a w hs hK=>?_⟩
 intro he
 have h1:=h.out Q E a w hs hK he
 have Ex:=bg hs c
 rw[hx] at Ex
 obtain⟨cs,hc,he⟩:=Ex
 simp only[bw,fK] at hc
 obtain⟨vs,rfl,hv⟩:=hc
 have hvs:vs=#[]:=by
  apply Array.ext'
  simpa using hv
 subst hvs
 have hev:a.eval c= .func (.func f) #[] #[]:=he
 have e1:=GB (d:=d) (ty:=ty) (pos:=pos) (aft:=aft) (gd:=gd) a hev args ats
 have e2:=execOp_call_go a d f args ats ty pos aft gd
 show wpList P ops Q (_::l) a w
 have h1:wpList P ops Q (_::l) a w:=h1
 unfold wpList at h1 ⊢
 unfold Oper.wp Oper.asks at h1 ⊢
 rw[e1]
 rw[e2] at h1
 exact h1
end
theorem cW(a:List UInt8):Op.bytesLess a a=false:=by
 induction a with
 |nil=>rfl
 |cons x a ih=>simp[Op.bytesLess,ih,UInt8.lt_irrefl]
theorem dZ{a b c:List UInt8}(h:Op.bytesLess a b=true)(k:Op.bytesLess b c=true):Op.bytesLess a c=true:=by
 induction a generalizing b c with
 |nil=>cases b<;>cases c<;>simp_all [Op.bytesLess]
 |cons x a ih=>
  cases b with
  |nil=>simp[Op.bytesLess] at h
  |cons y b=>cases c with
   |nil=>simp[Op.bytesLess] at k
   |cons z c=>
    simp only[Op.bytesLess,Bool.or_eq_true,Bool.and_eq_true,decide_eq_true_eq,beq_iff_eq] at h k ⊢
    rcases h with h|⟨rfl,h⟩
    ·rcases k with k|⟨rfl,k⟩
     ·exact .inl (UInt8.lt_trans h k)
     ·exact .inl h
    ·rcases k with k|⟨rfl,k⟩
     ·exact .inl k
     ·exact .inr ⟨rfl,ih h k⟩
theorem gt(a b:List UInt8):Op.bytesLess a b=true∨a=b∨Op.bytesLess b a=true:=by
 induction a generalizing b with
 |nil=>cases b<;>simp[Op.bytesLess]
 |cons x a ih=>
  cases b with
  |nil=>simp[Op.bytesLess]
  |cons y b=>
   simp only[Op.bytesLess,Bool.or_eq_true,Bool.and_eq_true,decide_eq_true_eq,beq_iff_eq,List.cons.injEq]
   rcases UInt8.lt_or_lt_of_ne (a:=x) (b:=y)|>fun f=>(Classical.em (x=y)).elim (fun e=>Or.inr e) (fun e=>Or.inl (f e)) with (h|h)|rfl
   ·exact .inl (.inl h)
   ·exact .inr (.inr (.inl h))
   ·rcases ih b with h|rfl|h
    ·exact .inl (.inr ⟨rfl,h⟩)
    ·exact .inr (.inl ⟨rfl,rfl⟩)
    ·exact .inr (.inr (.inr ⟨rfl,h⟩))
theorem du{a b:List UInt8}(h:Op.bytesLess a b=true):Op.bytesLess b a=false:=by
 cases hb:Op.bytesLess b a
 ·rfl
 ·have:=dZ h hb
  rw[cW] at this
  exact absurd this (by decide)
theorem zm{a b c:List UInt8}(h:Op.bytesLess a b=true)(k:Op.bytesLess c b=false):Op.bytesLess a c=true:=by
 rcases gt a c with h1|rfl|h1
 ·exact h1
 ·rw[h] at k;exact absurd k (by decide)
 ·rw[dZ h1 h] at k;exact absurd k (by decide)
def qT(a b:List UInt8):Int:=if Op.bytesLess a b=true then -1 else if Op.bytesLess b a=true then 1 else 0
theorem Fg{a b:List UInt8}(h:Op.bytesLess a b=true):qT a b= -1:=by unfold qT;rw[if_pos h]
theorem Fh{a b:List UInt8}(h:Op.bytesLess b a=true):qT a b=1:=by
 unfold qT;rw[if_neg (by rw[du h];decide),if_pos h]
theorem Fi(a:List UInt8):qT a a=0:=by unfold qT;rw[cW];rfl
theorem wx{a b:List UInt8}:qT a b<0↔Op.bytesLess a b=true:=by
 rcases gt a b with h|rfl|h
 ·rw[Fg h];exact⟨fun _=>h,fun _=>by decide⟩
 ·rw[Fi,cW];decide
 ·rw[Fh h,du h];decide
theorem uk{α:Type}(f:α→Bool)(l:List α)(p:Nat)(hp:p≤l.length)(h1:∀i (h:i<l.length),i<p→f l[i]=true)(h2:∀i (h:i<l.length),p≤i→f l[i]=false):l.countP f=p:=by
 induction l generalizing p with
 |nil=>have h0:p=0:=Nat.le_zero.1 hp
       subst h0;rfl
 |cons x l ih=>
  rcases p with _|p
  ·rw[List.countP_eq_zero]
   intro y hy
   obtain⟨i,hi,rfl⟩:=List.getElem_of_mem hy
   rw[h2 i hi (Nat.zero_le _)];decide
  ·rw[List.countP_cons,ih p (Nat.le_of_succ_le_succ hp) (fun i h hi=>h1 (i+1) (Nat.succ_lt_succ h) (Nat.succ_lt_succ hi)) (fun i h hi=>h2 (i+1) (Nat.succ_lt_succ h) (Nat.succ_le_succ hi)),if_pos (show f x=true from h1 0 (Nat.zero_lt_succ _) (Nat.zero_lt_succ _))]
def iE(w:World)(b:Nat)(o:Obj):World:={w with heap:=w.heap.setIfInBounds b o}
def iC(l:List Value):Obj:=.map (l.zipIdx.map (fun p=>(⟨p.1,.bool true,p.2⟩:MapEntry))).toArray l.length
structure En(α:Type)[BEq α](v:α→Value)(desc:TypeDesc):Prop where
 now:∀a b,Instr.sameNow desc (v a) (v b)=some (a==b)
 plain:∀(P:Program) (w:World) (e:Bool) (t:TypeId) a,P.underlying t=some desc→(Instr.checkKey e 10000 t (v a)).run P w= .ok () w
def vI(n:Int):Value:=.int .i64 n
def vS(s:List UInt8):Value:=.string (bf s)
theorem Ce{a b:List UInt8}(h:bf a=bf b):a=b:=by
 have:=congrArg (fun x=>x.data.toList) h
 simpa [bf] using this
theorem pi:En Int vI (.int .i64) where
 now a b:=by simp[Instr.sameNow,vI]
 plain P w e t a h:=by unfold Instr.checkKey;simp[underlying,Sem.run_bind,vI,h,show (program).run P w= .ok P w from rfl,Sem.run_pure,Result.andThen_ok]
theorem xd:En (List UInt8) vS .string where
 now a b:=by
  unfold vS
  simp only[Instr.sameNow]
  congr 1
  show ((bf a).data==(bf b).data)=_
  by_cases hab:a=b
  ·subst hab;simp
  ·have h1:(a==b)=false:=by simpa using hab
   rw[h1]
   cases hq:((bf a).data==(bf b).data) with
   |false=>rfl
   |true=>exact absurd (by simpa [bf] using hq) hab
 plain P w e t a h:=by unfold Instr.checkKey;simp[underlying,Sem.run_bind,vS,h,show (program).run P w= .ok P w from rfl,Sem.run_pure,Result.andThen_ok]
section
variable {α:Type} [BEq α] [LawfulBEq α] {v:α→Value} {desc:TypeDesc}
theorem pt(hk:En α v desc)(k:α):∀(l:List α) (j i:Nat),
 (l.contains k=true→∃q,Instr.findNow desc (v k) (((l.map v).zipIdx j).map (fun p=>(⟨p.1,.bool true,p.2⟩:MapEntry))) i=some (some (q,.bool true)))∧
 (l.contains k=false→Instr.findNow desc (v k) (((l.map v).zipIdx j).map (fun p=>(⟨p.1,.bool true,p.2⟩:MapEntry))) i=some none)
 |[],j,i=>⟨fun h=>by simp at h,fun _=>rfl⟩
 |x::l,j,i=>by
  have ih:=pt hk k l (j+1) (i+1)
  simp only[List.map_cons,List.zipIdx_cons,Instr.findNow,hk.now k x]
  cases hkx:(k==x) with
  |true=>exact⟨fun _=>⟨i,rfl⟩,fun h=>by simp[hkx] at h⟩
  |false=>
   refine⟨fun h=>ih.1 ?_,fun h=>ih.2 ?_⟩
   ·simpa [List.contains_cons,hkx] using h
   ·simpa [List.contains_cons,hkx] using h
variable {P:Program} {w:World} {b:Nat} {t kt et:TypeId}
theorem Ds(hk:En α v desc)(l:List α)(k:α)(hb:w.heap[b]?=some (iC (l.map v)))(ht:P.underlying t=some (.map kt et))(hkt:P.underlying kt=some desc)(hz:(zeroValue et).run P w= .ok (.bool false) w):
 (Instr.lookup t (.map (some b)) (v k) false).run P w= .ok (.bool (l.contains k)) w:=by
 have h1:=pt hk k l 0 0
 unfold Instr.lookup
 simp only[underlying,Sem.run_bind,show (program).run P w= .ok P w from rfl,Result.andThen_ok,ht,Sem.run_pure]
 have hg:(getObj b).run P w= .ok (iC (l.map v)) w:=by unfold getObj;simp[Sem.run,hb,iC]
 rw[hg]
 have hck:∀e,(Instr.checkKey e 10000 kt (v k)).run P w= .ok () w:=fun e=>hk.plain P w e kt k hkt
 simp only[Result.andThen_ok,iC,Sem.run_bind,Sem.run_pure,hck]
 unfold Instr.findKey
 simp only[underlying,Sem.run_bind,show (program).run P w= .ok P w from rfl,Result.andThen_ok,hkt,Sem.run_pure]
 cases hc:l.contains k with
 |true=>
  obtain⟨q,h2⟩:=h1.1 hc
  rw[h2]
  simp[Sem.run_pure]
 |false=>
  rw[h1.2 hc]
  simp[Sem.run_pure,hz]
theorem Cz(hk:En α v desc)(l:List α)(k:α)(hb:w.heap[b]?=some (iC (l.map v)))(ht:P.underlying t=some (.map kt et))(hkt:P.underlying kt=some desc)(hn:l.contains k=false):
 (Instr.mapUpdate t (.map (some b)) (v k) (.bool true)).run P w= .ok () (iE w b (iC ((l++[k]).map v))):=by
 have h1:=(pt hk k l 0 0).2 hn
 unfold Instr.mapUpdate
 simp only[underlying,Sem.run_bind,show (program).run P w= .ok P w from rfl,Result.andThen_ok,ht,Sem.run_pure]
 have hg:(getObj b).run P w= .ok (iC (l.map v)) w:=by unfold getObj;simp[Sem.run,hb,iC]
 rw[hg]
 have hck:∀e,(Instr.checkKey e 10000 kt (v k)).run P w= .ok () w:=fun e=>hk.plain P w e kt k hkt
 simp only[Result.andThen_ok,iC,Sem.run_bind,hck]
 unfold Instr.findKey
 simp only[underlying,Sem.run_bind,show (program).run P w= .ok P w from rfl,Result.andThen_ok,hkt,Sem.run_pure,h1]
 have e1:(((l.map v).zipIdx.map (fun p=>(⟨p.1,.bool true,p.2⟩:MapEntry))).toArray.push ⟨v k,.bool true,(l.map v).length⟩)=((((l++[k]).map v).zipIdx).map (fun p=>(⟨p.1,.bool true,p.2⟩:MapEntry))).toArray:=by
  simp[List.zipIdx_append]
 have e2:(l.map v).length+1=((l++[k]).map v).length:=by simp
 rw[e1,e2]
 have hlt:=(Array.getElem?_eq_some_iff.1 hb).1
 have hbo:w.heap[b]?=some (.map (List.map (fun p=>(⟨p.1,.bool true,p.2⟩:MapEntry)) (List.map v l).zipIdx).toArray (List.map v l).length):=hb
 simp only[setObj,Sem.run,hbo]
 rfl
end
theorem ky{w:World}{b:Nat}{S:Nat→Prop}(hS:S b)(o:Obj):dE S w (iE w b o):=
 ⟨rfl,rfl,rfl,by simp[iE],fun k _ hn=>by
  have hne:b≠k:=fun h=>hn (h▸hS)
  show (w.heap.setIfInBounds b o)[k]?=_
  rw[Array.getElem?_setIfInBounds_ne hne]⟩
section
variable {m:OM} {P:Program} {T:List (Nat×TI)} {C:il} {ops:Array Oper} {l:List Oper} {K:St→Prop} {n:Nat} {sl:List (Nat×AV)} {hp:List (Nat×HO)} {d:Nat} {ty:Nat} {pos:String} {aft:Array Edge} {gd:Option (Nat×Bool)}
theorem gN(hT:cP P T){t kt et sz by_:Nat}{z:AV}(ht:bI T t=some ⟨.map kt et,sz,by_,z⟩):P.underlying t=some (.map kt et):=by
 obtain⟨dd,h1,h2⟩:=(aX hT ht).desc
 have h2:Cu dd= .map kt et:=h2
 cases dd<;>simp only[Cu] at h2<;>first|(cases h2;rw[h1])|cases h2
theorem GI(hT:cP P T){t sz by_:Nat}(ht:bI T t=some ⟨.bool,sz,by_,.b false⟩)(w:World):(zeroValue t).run P w= .ok (.bool false) w:=by
 rcases (aX hT ht).zero with h0|⟨cs,h1,h2⟩
 ·cases h0
 ·have h1:cs=[.bool false]:=by simpa [gw] using h1.symm
  subst h1
  cases hi:P.info? t with
  |none=>rw[hi] at h2;cases h2
  |some i=>
   rw[hi] at h2
   have h2:i.zero=some (.bool false):=by simpa [ch,AV.isAgg] using h2
   simp[zeroValue,typeInfo,hi,h2]
theorem lH(hw:cH ops ⟨n,sl,hp⟩ gd=bE gd){t:Nat}(hd:Nat.blt d n=true)
 (h:∀b,aq m P C ops l ⟨n,(d,.own d (.map (some b)))::sl,(d,.obj b (iC []))::hp⟩ K):aq m P C ops (⟨some d,.makeMap t none,ty,pos,aft,gd⟩::l) ⟨n,sl,hp⟩ K:=by
 refine eD hw [] eZ Z fun a w hs=>?_
 have hm:dE lh w (w.alloc (iC [])):=(cD _ w).alloc _
 refine⟨.map (some w.heap.size),w.alloc (iC []),⟨n,sl,(d,.obj w.heap.size (iC []))::hp⟩,.own d (.map (some w.heap.size)),?_,?_,hd,cf.2 ⟨rfl,rfl⟩,lz hm (fun b hb=>Nat.le_of_eq (List.mem_singleton.1 hb).symm),h _⟩
 ·simp[execOp,Instr.makeMap,newObj,Sem.run,iC]
 ·refine hs.new d _ hm ?_ (fun b hb=>?_)
  ·show (w.alloc (iC [])).heap[w.heap.size]?=_
   exact(MapKept.heap_alloc w _).1
  ·have:w.heap.size=b:=(List.mem_singleton.1 hb).symm
   subst this
   simp
section
variable {α:Type} [BEq α] [LawfulBEq α] {v:α→Value} {desc:TypeDesc}
theorem fP(hT:cP P T)(hk:En α v desc)(hw:cH ops ⟨n,sl,hp⟩ gd=bE gd){t kt et sz by_ sz1 by1 k b:Nat}{z:AV}{x ix:Operand}(xs:List α)(y:α)
 (ht:bI T t=some ⟨.map kt et,sz,by_,z⟩)(hkt:P.underlying kt=some desc)(het:bI T et=some ⟨.bool,sz1,by1,.b false⟩)
 (hx:ev ⟨n,sl,hp⟩ x= .own k (.map (some b)))(hg:bU hp k=some (.obj b (iC (xs.map v))))(hy:∀(w:World) (F:Nat→Prop) u,cL w F (ev ⟨n,sl,hp⟩ ix) u→u=v y)
 (hd:Nat.blt d n=true)(h:aq m P C ops l ⟨n,(d,.b (xs.contains y))::sl,hp⟩ K):aq m P C ops (⟨some d,.lookup t x ix false,ty,pos,aft,gd⟩::l) ⟨n,sl,hp⟩ K:=by
 refine eD hw [] eZ Z fun a w hs=>⟨.bool (xs.contains y),w,_,.b (xs.contains y),?_,hs,hd,gr.2 Z,m6.same (cD _ w),h⟩
 have Ex:=bg hs x
 rw[hx,cf] at Ex
 have Ey:=hy _ _ _ (bg hs ix)
 have hb:w.heap[b]?=some (iC (xs.map v)):=hs.getHeap hg
 have:=Ds hk xs y hb (gN hT ht) hkt (GI hT het w)
 simp only[execOp,Ex.1,Ey,Sem.run_bind,this,Result.andThen_ok,Sem.run_pure]
theorem ia(hT:cP P T)(hk:En α v desc)(hw:cH ops ⟨n,sl,hp⟩ gd=bE gd){t kt et sz by_ k b:Nat}{z:AV}{x ix y:Operand}(xs:List α)(u:α)
 (ht:bI T t=some ⟨.map kt et,sz,by_,z⟩)(hkt:P.underlying kt=some desc)
 (hx:ev ⟨n,sl,hp⟩ x= .own k (.map (some b)))(hg:bU hp k=some (.obj b (iC (xs.map v))))(hi:∀(w:World) (F:Nat→Prop) q,cL w F (ev ⟨n,sl,hp⟩ ix) q→q=v u)(hy:ev ⟨n,sl,hp⟩ y= .b true)
 {hp':List (Nat×HO)}(hm:m.oke none [k]=true)(hh:fG (eT hp k (.obj b (iC ((xs++[u]).map v))))=some hp')(hn:xs.contains u=false)(h:aq m P C ops l ⟨n,sl,hp'⟩ K):aq m P C ops (⟨none,.mapUpdate t x ix y,ty,pos,aft,gd⟩::l) ⟨n,sl,hp⟩ K:=by
 have hh:=ew _ _ hh
 subst hh
 refine mq hw [k] hm Z fun a w hs=>?_
 have Ex:=bg hs x
 rw[hx,cf] at Ex
 have Ei:=hi _ _ _ (bg hs ix)
 have Ey:=bg hs y
 rw[hy,gr] at Ey
 have hb:w.heap[b]?=some (iC (xs.map v)):=hs.getHeap hg
 have hlt:=(Array.getElem?_eq_some_iff.1 hb).1
 have hrun:=Cz hk xs u hb (gN hT ht) hkt hn
 have hm0:dE (fun b'=>b'∈HO.blk (.obj b (iC (xs.map v)))) w (iE w b (iC ((xs++[u]).map v))):=ky (S:=fun b'=>b'∈HO.blk (.obj b (iC (xs.map v)))) (List.mem_singleton.2 Z) _
 refine⟨_,⟨n,sl,eT hp k (.obj b (iC ((xs++[u]).map v)))⟩,?_,hs.swap hg (.obj b (iC ((xs++[u]).map v))) hm0 ?_ (fun b' hb'=>?_),fV hg hm0 (fun _ h=>.inl h),h⟩
 ·simp only[execOp,Ex.1,Ei,Ey,Sem.run_bind,hrun,Result.andThen_ok,Sem.run_pure]
 ·show (w.heap.setIfInBounds b _)[b]?=_
  rw[Array.getElem?_setIfInBounds_self_of_lt hlt]
 ·have:b=b':=(List.mem_singleton.1 hb').symm
  subst this
  exact⟨by simpa [iE] using hlt,.inl (List.mem_singleton.2 Z)⟩
end
def jN:AV→Bool
 |.agg _|.arr ..|.tup _=>false
 |_=>true
theorem zc{w:World}{F:Nat→Prop}{x:AV}{v:Value}(hx:jN x=true)(h:x.isVal=true)(hv:cL w F x v):bw w F x [v]:=by
 obtain⟨cs,h1,h2⟩:=i7 h hv
 have hag:x.isAgg=false:=by cases x<;>simp[jN,AV.isAgg] at hx ⊢
 obtain⟨u,rfl⟩:=pq h1 hag
 unfold ch at h2
 rw[hag] at h2
 simp at h2
 rw[h2];exact h1
theorem pc(hw:cH ops ⟨n,sl,hp⟩ gd=bE gd){f:Fn}{c1:Operand}{x1:AV}(h1:ev ⟨n,sl,hp⟩ c1=x1)(o1:jN x1=true)(i1:x1.isVal=true)(hd:Nat.blt d n=true)
 (h:aq m P C ops l ⟨n,(d,.fn f [x1])::sl,hp⟩ K):aq m P C ops (⟨some d,.makeFunc f #[] #[c1],ty,pos,aft,gd⟩::l) ⟨n,sl,hp⟩ K:=by
 refine eI hw none cT hd Z (fun a w hs=>⟨.func f #[] #[a.eval c1],?_,fun w' _=>?_⟩) h
 ·have e1:=bg hs c1
  rw[h1] at e1
  refine⟨[.func f #[] #[a.eval c1]],?_,rfl⟩
  simp only[bw]
  exact⟨_,rfl,by simp only[fK];exact⟨[a.eval c1],[],rfl,zc o1 i1 e1,rfl⟩⟩
 ·simp[execOp,Instr.makeFunc]
theorem EN{w:World}{F:Nat→Prop}:∀(xs:List AV) (cs:List Value),xs.all jN=true→fK w F xs cs→rr w F xs cs
 |[],cs,_,h=>by
  simp only[fK] at h
  subst h
  exact⟨rfl,fun i x v hx=>by simp at hx⟩
 |x::xs,cs,h0,h=>by
  simp only[fK] at h
  obtain⟨c1,c2,rfl,h1,h2⟩:=h
  simp only[List.all_cons,Bool.and_eq_true] at h0
  have hag:x.isAgg=false:=by cases x<;>simp[jN,AV.isAgg] at h0 ⊢
  obtain⟨u,rfl⟩:=pq h1 hag
  obtain⟨i1,i2⟩:=EN xs c2 h0.2 h2
  refine⟨by simp[i1],fun i y v hy hv=>?_⟩
  cases i with
  |zero=>
   simp at hy hv
   subst hy;subst hv
   have:=ll h1
   unfold ch at this
   rw[hag] at this
   exact this
  |succ i=>exact i2 i y v (by simpa using hy) (by simpa using hv)
theorem DQ(a:Act){dd:Option Tmp}{c:Operand}{f:FuncId}{vs:Array Value}(hc:a.eval c= .func (.func f) #[] vs)(args:Array Operand)(ats:Array TypeId):
 execOp a.eval ⟨dd,.call ⟨.value c,args,ats⟩,ty,pos,aft,gd⟩=callFunc f (#[]++args.map a.eval++vs):=by
 unfold execOp
 simp only[resolve,hc,Deferred.ofValue]
 rfl
theorem lI(hw:cH ops ⟨n,sl,hp⟩ gd=bE gd){c:Operand}{f:FuncId}{args:Array Operand}{ats:Array TypeId}{caps as_:List AV}{R:AV→List HO→Prop}(hc:ev ⟨n,sl,hp⟩ c= .fn (.func f) caps)(ho:caps.all jN=true)
 (hspec:aQ P f as_ [] R)(hargs:gU [] (args.toList.map (ev ⟨n,sl,hp⟩)++caps) as_)(hd:Nat.blt d n=true)(heff:jP P (.call ⟨.value c,args,ats⟩)=true)
 (h:∀r os',R r os'→os'=[]∧aq m P C ops l ⟨n,(d,r)::sl,hp⟩ K):
 aq m P C ops (⟨some d,.call ⟨.value c,args,ats⟩,ty,pos,aft,gd⟩::l) ⟨n,sl,hp⟩ K:=
 aq.callG hw heff (args.toList.map (ev ⟨n,sl,hp⟩)++caps) (fun a w hs=>by
  have Ec:=bg hs c
  rw[hc] at Ec
  obtain⟨cs,e1,e2⟩:=Ec
  simp only[bw] at e1
  obtain⟨vs,rfl,hv⟩:=e1
  have hev:a.eval c= .func (.func f) #[] vs:=e2
  obtain⟨k1,k2⟩:=EN caps vs.toList ho hv
  refine⟨args.toList.map a.eval++vs.toList,⟨by simp[k1],fun i x v hx hv2=>?_⟩,?_⟩
  ·rcases Nat.lt_or_ge i args.toList.length with hi|hi
   ·rw[List.getElem?_append_left (by simpa using hi),List.getElem?_map] at hx hv2
    cases hq:args.toList[i]? with
    |none=>rw[hq] at hx;cases hx
    |some o=>
     rw[hq] at hx hv2
     simp only[Option.map_some,Option.some.injEq] at hx hv2
     subst hx;subst hv2
     exact bg hs o
   ·rw[List.getElem?_append_right (by simpa using hi)] at hx hv2
    exact k2 _ x v (by simpa using hx) (by simpa using hv2)
  ·rw[DQ a hev args ats]
   congr 1
   apply Array.ext'
   simp[Array.toList_map]) [] [] [] hspec hargs Z trivial hd eZ (fun r os' hr=>by
  obtain⟨rfl,h1⟩:=h r os' hr
  exact⟨rfl,h1⟩)
end
set_option maxHeartbeats 4000000
theorem m7(n:Nat):IntKind.u64.wrap (n:Int)=((n%18446744073709551616:Nat):Int):=by rw[Int.natCast_emod];rfl
theorem oK{n:Nat}(h:n<18446744073709551616):IntKind.u64.wrap (n:Int)=(n:Int):=by rw[m7,Nat.mod_eq_of_lt h]
theorem nK(n:Nat):IntKind.u8.wrap (n:Int)=((n%256:Nat):Int):=by rw[Int.natCast_emod];rfl
theorem rQ{n:Nat}(h:n<9223372036854775808):IntKind.i64.wrap (n:Int)=(n:Int):=by
 show (if _ then _ else _)=_
 have h1:(n:Int)%(2^IntKind.i64.bits:Int)=n:=Int.emod_eq_of_lt (by omega) (by show (n:Int)<18446744073709551616;omega)
 simp only[h1]
 rw[if_neg]
 rw[Bool.and_eq_true]
 rintro⟨_,h2⟩
 rw[decide_eq_true_eq] at h2
 have:(9223372036854775808:Int)≤n:=h2
 omega
theorem dU(w n:Nat):BitVec.ofInt w (n:Int)=BitVec.ofNat w n:=BitVec.ofInt_natCast w n
theorem GU{x y:Nat}(hx:x<18446744073709551616)(hy:y<18446744073709551616):eB .xor .u64 (x:Int) (y:Int)=((x^^^y:Nat):Int):=by
 have hl:x^^^y<18446744073709551616:=Nat.xor_lt_two_pow (n:=64) hx hy
 show IntKind.u64.wrap _=_
 rw[dU,dU,BitVec.toNat_xor,BitVec.toNat_ofNat,BitVec.toNat_ofNat,show (2^IntKind.u64.bits:Nat)=18446744073709551616 from rfl,Nat.mod_eq_of_lt hx,Nat.mod_eq_of_lt hy,oK hl]
theorem NI{x y:Nat}(hx:x<18446744073709551616)(hy:y<18446744073709551616):eB .or .u64 (x:Int) (y:Int)=((x|||y:Nat):Int):=by
 have hl:x|||y<18446744073709551616:=Nat.or_lt_two_pow (n:=64) hx hy
 show IntKind.u64.wrap _=_
 rw[dU,dU,BitVec.toNat_or,BitVec.toNat_ofNat,BitVec.toNat_ofNat,show (2^IntKind.u64.bits:Nat)=18446744073709551616 from rfl,Nat.mod_eq_of_lt hx,Nat.mod_eq_of_lt hy,oK hl]
theorem N8{x y:Nat}(hx:x<256)(hy:y<256):eB .or .u8 (x:Int) (y:Int)=((x|||y:Nat):Int):=by
 have hl:x|||y<256:=Nat.or_lt_two_pow (n:=8) hx hy
 show IntKind.u8.wrap _=_
 rw[dU,dU,BitVec.toNat_or,BitVec.toNat_ofNat,BitVec.toNat_ofNat,show (2^IntKind.u8.bits:Nat)=256 from rfl,Nat.mod_eq_of_lt hx,Nat.mod_eq_of_lt hy,nK,Nat.mod_eq_of_lt hl]
theorem NS{x y:Nat}(hx:x<256)(hy:y<256):eB .and .u8 (x:Int) (y:Int)=((x&&& y:Nat):Int):=by
 have hl:x&&& y<256:=Nat.lt_of_le_of_lt Nat.and_le_left hx
 show IntKind.u8.wrap _=_
 rw[dU,dU,BitVec.toNat_and,BitVec.toNat_ofNat,BitVec.toNat_ofNat,show (2^IntKind.u8.bits:Nat)=256 from rfl,Nat.mod_eq_of_lt hx,Nat.mod_eq_of_lt hy,nK,Nat.mod_eq_of_lt hl]
theorem r8(n k:Nat):(n:Int).fdiv (2^k)=((n / 2^k:Nat):Int):=by
 rw[show (2:Int)^k=((2^k:Nat):Int) by rw[Int.natCast_pow];rfl,Int.ofNat_fdiv]
theorem EJ(n:Nat){k:Nat}(hk:k≤64):(n:Int).fdiv (2^(min ((k:Int)).toNat (IntKind.bits .u64)))=((n / 2^k:Nat):Int):=by
 rw[show min ((k:Int)).toNat (IntKind.bits .u64)=k by rw[show IntKind.bits .u64=64 from rfl];omega,r8]
theorem q5(i j:Nat)(h:i+j<1000000):IntKind.i64.wrap ((IntKind.u64.wrap ((i:Int)+j)).fdiv (2^(min (Int.toNat 1) (IntKind.bits .u64))))=(((i+j) / 2:Nat):Int):=by
 have e1:IntKind.u64.wrap ((i:Int)+j)=((i+j:Nat):Int):=by
  rw[IntWalk.u64_in _ (by omega)];omega
 have e2:=EJ (i+j) (k:=1) (by decide)
 rw[e1,show (Int.toNat 1)=((1:Nat):Int).toNat from rfl,e2,qt _ (by omega)]
set_option maxHeartbeats 8000000
theorem A5(a:List UInt8):aQ Tryz.prog 122 [.s a] [] (fun v os=>v= .b false∧os=[]):=by
 refine aA ab [] Tryz.func122 Z Tryz.ntmps122 aN Z Z (fun C=>?_) Z
 repeat' (first|refine ae ?_|refine aa ?_|refine ac (ax ?_)|refine ap (bC ?_)|refine aU ab (fun _=>?_))
 refine bp Z Z Z [] [] (am ?_) .nil ⟨rfl,rfl⟩ _ (.inl Z)
 show AV.b (!(a==a))=AV.b false
 rw[beq_self_eq_true];rfl
theorem sd(a b:List UInt8):aQ Tryz.prog 79 [.s a,.s b] [] (fun v os=>v= .i .i64 (qT a b)∧os=[]):=by
 refine aA ab [] Tryz.func79 Z Tryz.ntmps79 aN Z Z (fun C=>?_) Z
 have h1:=A5 a
 have h2:=A5 b
 repeat' (first|refine ae ?_|refine aa ?_|refine ac (ax ?_)|refine ah (ax ?_)|refine ap (bC ?_)|refine aU ab (fun _=>?_)|refine aB Z ?_|(refine ba Z (fun hc=>?_) (fun hc=>?_))|refine au Z (h1) ⟨aP,J⟩ Z ?_|refine au Z (h2) ⟨aP,J⟩ Z ?_)
 all_goals refine bp Z Z Z [] [] (am ?_) .nil ⟨rfl,rfl⟩ _ (.inl Z)
 all_goals refine congrArg (AV.i .i64) ?_
 ·exact(Fg hc).symm
 ·rename_i hc0 _ _ _ _
  rw[Fh ((gt a b).resolve_left (by rw[hc0];decide) |>.resolve_left (fun e=>by subst e;rw[hc0,beq_self_eq_true] at hc;exact absurd hc (by decide)))]
 ·rename_i hc0 _ _ _ _
  rw[hc0] at hc
  have e:a=b:=by simpa using hc
  subst e
  exact(Fi a).symm
theorem vm(x:aC)(k:List UInt8):aQ Tryz.prog 78 [eA x,.s k] [] (fun v os=>v= .i .i64 (qT x.k k)∧os=[]):=by
 refine aA ab [] Tryz.func78 Z Tryz.ntmps78 aN Z Z (fun C=>?_) Z
 have h1:=sd x.k k
 unfold eA
 repeat' (first|refine ae ?_|refine aa ?_|refine ac (ax ?_)|refine ap (bC ?_)|refine aU ab (fun _=>?_)|refine c9 Z Z Z Z (fun _=>?_)|refine au Z (h1) ⟨aP,aP,J⟩ Z ?_)
 exact jh
def eG(l:List aC)(k:List UInt8):Nat:=l.countP (fun x=>Op.bytesLess x.k k)
def Iv(l:List aC)(k:List UInt8)(p:Nat):Bool:=match l[p]? with|some x=>qT x.k k==0|none=>false
theorem I7(l:List aC)(k:List UInt8)(hl:l.length≤400000)(hm:∀i j (_:i<l.length) (_:j<l.length),i≤j→Op.bytesLess l[j].k k=true→Op.bytesLess l[i].k k=true):
 aQ Tryz.prog 77 [.sl 3 (l.map eA),.s k,.fn (.func 78) []] [] (fun v os=>v= .tup [.i .i64 (eG l k:Nat),.b (Iv l k (eG l k))]∧os=[]):=by
 refine aA ab [] Tryz.func77 Z Tryz.ntmps77 aN Z Z (fun C=>?_) Z
 repeat' (first|refine ae ?_|refine aj ?_|refine aa ?_|refine ac (ax ?_)|refine br Z ab Z Z Z (fun _=>?_)|refine aU ab (fun _=>?_))
 refine aO (fun p:Nat×Nat=>⟨49,[(10,.i .i64 p.2),(9,.i .i64 p.1),(8,.i .i64 l.length),(0,.sl 3 (l.map eA)),(1,.s k),(2,.fn (.func 78) [])],[]⟩)
  (fun p=>p.1≤p.2∧p.2≤l.length∧(∀i (h:i<l.length),i<p.1→Op.bytesLess l[i].k k=true)∧(∀i (h:i<l.length),p.2≤i→Op.bytesLess l[i].k k=false)) (fun p=>p.2 - p.1) [] (0,l.length) ⟨Nat.zero_le _,Nat.le_refl _,fun i h h2=>absurd h2 (Nat.not_lt_zero _),fun i h h2=>absurd h (by omega)⟩ ?_ ?_
 ·exact⟨rfl,⟨ai Z,ai Z,ai Z,ay Z,cY Z,aP,J⟩,.nil⟩
 rintro⟨i,j⟩ ⟨hij,hj,hlo,hhi⟩
 dsimp only at hij hj hlo hhi ⊢
 by_cases hlt:i<j
 ·have hmid:=q5 i j (by omega)
  have hml:(i+j) / 2<l.length:=by omega
  have hmi:i≤(i+j) / 2:=by omega
  have hmj:(i+j) / 2<j:=by omega
  have hsk:=vm (l[(i+j) / 2]'hml) k
  generalize (i+j) / 2=m at hmid hml hmi hmj hsk
  repeat' (first|(refine dr Z ab Z Z Z ?_ (fun _=>?_);exact J;rw[hmid])|refine ae ?_|refine aj ?_|refine aa ?_|refine ac (ax ?_)|refine ac (db ?_)|refine ah (ax ?_)|(refine bc Z Z Z Z ?_ ?_;omega)|refine aU ab (fun _=>?_)|(refine aK Z ab Z Z Z Z Z Z ?_ (aE ?_) ?_;omega;omega)|(refine ao Z (fun hc=>?_) (fun hc=>?_))<;>try omega|(refine A1 Z ?_;refine gg Z (hsk) ⟨aP,aP,J⟩ Z ?_;rintro _ _ ⟨rfl,rfl⟩;refine⟨rfl,?_⟩))
  ·have hml2:=wx.1 hc
   exact⟨(m+1,j),[],⟨by show m+1≤j;omega,hj,fun x hx hxm=>hm x m hx hml (by have:x<m+1:=hxm;omega) hml2,hhi⟩,by show j - (m+1)<j - i;omega,rfl,⟨ai Z,ai (by show (m:Int)+1=((m+1:Nat):Int);omega),ai Z,ay Z,cY Z,aP,J⟩,.nil⟩
  ·have hml2:Op.bytesLess l[m].k k=false:=by
    cases hb:Op.bytesLess l[m].k k
    ·rfl
    ·exact absurd (wx.2 hb) (by omega)
   refine⟨(i,m),[],⟨hmi,by show m≤l.length;omega,hlo,fun x hx hxm=>?_⟩,by show m - i<j - i;omega,rfl,⟨ai Z,ai Z,ai Z,ay Z,cY Z,aP,J⟩,.nil⟩
   cases hb:Op.bytesLess l[x].k k
   ·rfl
   ·exact absurd (hm m x hml hx hxm hb) (by rw[hml2];decide)
 ·have hji:j=i:=by omega
  subst hji
  have hcp:eG l k=j:=uk (fun x:aC=>Op.bytesLess x.k k) l j hj hlo hhi
  rw[hcp]
  by_cases hjl:j<l.length
  ·have hsk:=vm (l[j]'hjl) k
   have hf:Iv l k j=(qT l[j].k k==0):=by unfold Iv;rw[List.getElem?_eq_getElem hjl]
   rw[hf]
   repeat' (first|refine ae ?_|refine aa ?_|refine ac (ax ?_)|refine aw (ax ?_)|refine ap (bC ?_)|refine aU ab (fun _=>?_)|(refine aK Z ab Z Z Z Z Z Z ?_ (aE ?_) ?_;omega;omega)|(fail_if_success (refine aM Z cM ?_));(refine aV Z Z (fun hc=>?_) (fun hc=>?_)<;>try omega)|(refine ao Z (fun hc=>?_) (fun hc=>?_))<;>try omega|(refine A1 Z ?_;refine gg Z (hsk) ⟨aP,aP,J⟩ Z ?_;rintro _ _ ⟨rfl,rfl⟩;refine⟨rfl,?_⟩))
   refine cS [] [] (.tup [.i .i64 (j:Nat),.b (qT l[j].k k==0)]) Z ?_ ?_ (aW (am Z) (am Z) Z Z) .nil ⟨rfl,rfl⟩ _ (.inl Z)
   all_goals first|exact⟨trivial,trivial⟩|trivial|exact⟨trivial,trivial,trivial⟩|trace_state
  ·have hf:Iv l k j=false:=by unfold Iv;rw[List.getElem?_eq_none (by omega)]
   rw[hf]
   repeat' (first|refine ae ?_|refine aa ?_|refine ac (ax ?_)|refine aw (ax ?_)|refine ap (bC ?_)|refine d9 Z Z Z cM ?_|refine aU ab (fun _=>?_)|(fail_if_success (refine aM Z cM ?_));(refine aV Z Z (fun hc=>?_) (fun hc=>?_)<;>try omega)|(refine ao Z (fun hc=>?_) (fun hc=>?_))<;>try omega)
   refine cS [] [] (.tup [.i .i64 (j:Nat),.b false]) Z ?_ ?_ (aW (am Z) (am Z) Z Z) .nil ⟨rfl,rfl⟩ _ (.inl Z)
   all_goals first|exact⟨trivial,trivial⟩|trivial|exact⟨trivial,trivial,trivial⟩|trace_state
theorem jd(l:List aC)(k:List UInt8)(hl:l.length≤400000)(hm:∀i j (_:i<l.length) (_:j<l.length),i≤j→Op.bytesLess l[j].k k=true→Op.bytesLess l[i].k k=true):
 aQ Tryz.prog 37 [.sl 3 (l.map eA),.s k] [] (fun v os=>v= .i .i64 (eG l k:Nat)∧os=[]):=by
 refine aA ab [] Tryz.func37 Z Tryz.ntmps37 aN Z Z (fun C=>?_) Z
 have h1:=I7 l k hl hm
 repeat' (first|refine ae ?_|refine aa ?_|refine ac (ax ?_)|refine ap (bC ?_)|refine aU ab (fun _=>?_)|refine au Z (h1) ⟨aP,aP,aP,J⟩ Z ?_)
 exact jh
theorem qH(l:List aC)(k:List UInt8):eG l k≤l.length:=List.countP_le_length
def iB:aC:=⟨[],[],false⟩
def mw(l:List aC)(k:List UInt8)(p:Nat):aC:=match l[p]? with|some x=>if x.k==k then x else iB|none=>iB
def iv(l:List aC)(k:List UInt8)(p:Nat):Bool:=match l[p]? with|some x=>x.k==k|none=>false
theorem wI(l:List aC)(k:List UInt8)(hl:l.length≤400000)(hm:∀i j (_:i<l.length) (_:j<l.length),i≤j→Op.bytesLess l[j].k k=true→Op.bytesLess l[i].k k=true):
 aQ Tryz.prog 83 [.sl 3 (l.map eA),.s k] [] (fun v os=>v= .tup [eA (mw l k (eG l k)),.b (iv l k (eG l k))]∧os=[]):=by
 refine aA ab [] Tryz.func83 Z Tryz.ntmps83 aN Z Z (fun C=>?_) Z
 have h1:=jd l k hl hm
 have hle:=qH l k
 generalize eG l k=p at h1 hle
 by_cases hp:p<l.length
 ·have hE:mw l k p=if l[p].k==k then l[p] else iB:=by unfold mw;rw[List.getElem?_eq_getElem hp]
  have hB:iv l k p=(l[p].k==k):=by unfold iv;rw[List.getElem?_eq_getElem hp]
  rw[hE,hB]
  repeat' (first|refine ae ?_|refine aa ?_|refine ac (ax ?_)|refine ah (ax ?_)|refine ap (bC ?_)|refine br Z ab Z Z Z (fun _=>?_)|refine aU ab (fun _=>?_)|refine aF Z ab Z Z Z (fun bA=>?_)|refine aD ab Z Z Z Z Z Z Z ⟨rfl,rfl⟩ Z Z Z Z Z ?_|(refine aK Z ab Z Z Z Z Z Z ?_ (aE ?_) ?_;omega;omega)|refine cd ab Z Z Z Z Z Z eo ?_|(fail_if_success (refine aM Z cM ?_));(refine aV Z Z (fun hc=>?_) (fun hc=>?_)<;>try omega)|(refine ba Z (fun hc=>?_) (fun hc=>?_))|refine au Z (h1) ⟨aP,aP,J⟩ Z ?_)
  ·rw[if_pos hc,hc]
   refine cS [] [] (.tup [eA l[p],.b true]) Z ?_ ?_ (aW (am Z) (am Z) Z Z) .nil ⟨rfl,rfl⟩ _ (.inl Z)
   all_goals first|exact⟨trivial,trivial⟩|trivial|exact⟨trivial,trivial,trivial⟩|trace_state
  ·rw[if_neg (by rw[hc];decide),hc]
   refine cS [] [] (.tup [eA iB,.b false]) Z ?_ ?_ (aW (am Z) (am Z) Z Z) .nil ⟨rfl,rfl⟩ _ (.inl Z)
   all_goals first|exact⟨trivial,trivial⟩|trivial|exact⟨trivial,trivial,trivial⟩|trace_state
 ·have hE:mw l k p=iB:=by unfold mw;rw[List.getElem?_eq_none (by omega)]
  have hB:iv l k p=false:=by unfold iv;rw[List.getElem?_eq_none (by omega)]
  rw[hE,hB]
  repeat' (first|refine ae ?_|refine aa ?_|refine ac (ax ?_)|refine ah (ax ?_)|refine ap (bC ?_)|refine d9 Z Z Z cM ?_|refine br Z ab Z Z Z (fun _=>?_)|refine aU ab (fun _=>?_)|refine aF Z ab Z Z Z (fun bA=>?_)|refine aD ab Z Z Z Z Z Z Z ⟨rfl,rfl⟩ Z Z Z Z Z ?_|refine cd ab Z Z Z Z Z Z eo ?_|(fail_if_success (refine aM Z cM ?_));(refine aV Z Z (fun hc=>?_) (fun hc=>?_)<;>try omega)|refine aB Z ?_|refine au Z (h1) ⟨aP,aP,J⟩ Z ?_)
  refine cS [] [] (.tup [eA iB,.b false]) Z ?_ ?_ (aW (am Z) (am Z) Z Z) .nil ⟨rfl,rfl⟩ _ (.inl Z)
  all_goals first|exact⟨trivial,trivial⟩|trivial|exact⟨trivial,trivial,trivial⟩|trace_state
end Go.Proofs.YtginkbjclkdglaaGreat
