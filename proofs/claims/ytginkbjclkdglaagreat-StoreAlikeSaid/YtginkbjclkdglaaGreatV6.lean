/- Rules: lists of operations, in the text's order or in whatever order is drawn. No program in sight. -/
import Derived.Test.YtginkbjclkdglaaGreatV4Z
import Derived.OrdersHeld
namespace Go.Proofs.YtginkbjclkdglaaGreat
open Go Go.RowKit
structure Fs(G:Nat→Prop)(w:World)(G':Nat→Prop)(w':World):Prop where
 size:w.heap.size≤w'.heap.size
 same:∀b,b<w.heap.size→¬ G b→w'.heap[b]?=w.heap[b]?
 sub:∀b,b<w.heap.size→G' b→G b
theorem Fs.refl(G:Nat→Prop)(w:World):Fs G w G w:=⟨Nat.le_refl _,fun _ _ _=>rfl,fun _ _ h=>h⟩
theorem Fs.trans{G G1 G2:Nat→Prop}{w w1 w2:World}(h:Fs G w G1 w1)(k:Fs G1 w1 G2 w2):Fs G w G2 w2:=
 ⟨Nat.le_trans h.size k.size,fun b hb hn=>(k.same b (Nat.lt_of_lt_of_le hb h.size) (fun hg=>hn (h.sub b hb hg))).trans (h.same b hb hn),fun b hb hg=>h.sub b hb (k.sub b (Nat.lt_of_lt_of_le hb h.size) hg)⟩
structure oH(q:Bool)(G:Nat→Prop)(w:World)(G':Nat→Prop)(w':World):Prop where
 size:w.heap.size≤w'.heap.size
 same:∀b,b<w.heap.size→(q=true∨¬ G b)→w'.heap[b]?=w.heap[b]?
 sub:∀b,b<w.heap.size→G' b→G b
theorem oH.refl(q:Bool)(G:Nat→Prop)(w:World):oH q G w G w:=⟨Nat.le_refl _,fun _ _ _=>rfl,fun _ _ h=>h⟩
theorem oH.ext{q:Bool}{G G':Nat→Prop}{w w':World}(h:oH q G w G' w'):Fs G w G' w':=⟨h.size,fun b hb hn=>h.same b hb (.inr hn),h.sub⟩
structure Kw(w w':World):Prop where
 size:w.heap.size≤w'.heap.size
 same:∀b,b<w.heap.size→w'.heap[b]?=w.heap[b]?
theorem Kw.refl(w:World):Kw w w:=⟨Nat.le_refl _,fun _ _=>rfl⟩
def tN(so:List Nat):Option Tmp→Bool
 |some d=>so.contains d
 |none=>false
def w7(P:Program)(ops:Array Oper)(qs:List Nat)(i:Nat):Bool:=((ops[i]?).map (fun o=>!jP P o.op||tN qs o.dst)).getD false
def hJ(P:Program)(ops:Array Oper)(qs:List Nat)(Q:Exit→Act→World→Prop):Nat→Array Bool→(Nat→Prop)→Act→World→Prop
 |0,listed,_,a,w=>Region.ready .any ops listed=[]∧Q .normal a w
 |fuel+1,listed,G,a,w=>
  (Region.ready .any ops listed=[]→Q .normal a w)∧
  ∀i∈Region.ready .any ops listed,wpOp P ops Q i (fun a' w'=>∃G',oH (w7 P ops qs i) G w G' w'∧hJ P ops qs Q fuel (listed.setIfInBounds i true) G' a' w') a w
section
variable {P:Program} {ops:Array Oper} {qs:List Nat} {Q:Exit→Act→World→Prop}
theorem qu:∀(fuel:Nat) (listed:Array Bool) (G:Nat→Prop) (a:Act) (w:World),hJ P ops qs Q fuel listed G a w→wpAny P .any ops Q fuel listed a w
 |0,_,_,_,_,h=>h
 |fuel+1,_,_,_,_,h=>⟨h.1,fun i hi=>wpOp_mono (fun a' w' ⟨G',_,h'⟩=>qu fuel _ G' a' w' h') (h.2 i hi)⟩
theorem Gh{listed:Array Bool}{k:Nat}(h:listed.getD k false=true)(h0:listed.getD k true=false):False:=by
 rcases Nat.lt_or_ge k listed.size with h'|h'
 ·simp[h'] at h0 h;rw[h0] at h;cases h
 ·simp[Array.getElem?_eq_none h'] at h
theorem q7{i:Nat}{oi:Oper}{v:Value}{I:(Nat→Prop)→World→Prop}{D:Nat→Prop}{dep:List Nat}(hi:ops[i]?=some oi)(hidep:i∈dep)(hsel:∀(j:Nat) (o:Oper) cs b,ops[j]?=some o→o.op≠ .select cs b)
 (hQ:∀c a w,Q (.panic c) (a.put oi.dst v) w→Q (.panic c) a w)(hst:∀j G w G' w',D j→I G w→oH (w7 P ops qs j) G w G' w'→I G' w')
 (hcl:∀j oj,j∈dep→j≠i→ops[j]?=some oj→∃e∈oj.after,Region.binds .any e=true∧e.on∈dep):
 ∀(fuel:Nat) (listed:Array Bool) (G:Nat→Prop) (a:Act) (w:World),
  (∀j oj,ops[j]?=some oj→j≠i→listed.getD j true=false→(∀e∈oj.after,Region.binds .any e=true→e.on≠i)→oi.apart ops oj=true)→
  (∀j,listed.getD j true=false→j∉dep→D j)→(∀k∈dep,listed.getD k true=false)→
  i∈Region.ready .any ops listed→YieldsIf P ops (fun w'=>∃G',I G' w') oi v a→I G w→
  hJ P ops qs Q fuel (listed.setIfInBounds i true) G (a.put oi.dst v) w→hJ P ops qs Q (fuel+1) listed G a w:=by
 intro fuel
 induction fuel with
 |zero=>
  intro listed G a w _ _ _ hr hy hE H
  refine⟨fun h=>(by rw[h] at hr;cases hr),fun j hj=>?_⟩
  by_cases hji:j=i
  ·subst hji;exact hy.wpOp hi ⟨G,hE⟩ ⟨G,oH.refl _ G w,H⟩
  ·have:=ready_mono hj hji
   rw[H.1] at this
   cases this
 |succ fuel ih=>
  intro listed G a w hfree hD hdep hr hy hE H
  refine⟨fun h=>(by rw[h] at hr;cases hr),fun j hj=>?_⟩
  by_cases hji:j=i
  ·subst hji;exact hy.wpOp hi ⟨G,hE⟩ ⟨G,oH.refl _ G w,H⟩
  ·have h1:=H.2 j (ready_mono hj hji)
   obtain⟨hjun,oj,hoj,hall⟩:=mem_ready.1 hj
   have hnot:∀e∈oj.after,Region.binds .any e=true→e.on∉dep:=fun e he hb hin=>Gh (hall e he hb) (hdep _ hin)
   have hjdep:j∉dep:=fun hin=>by
    obtain⟨e,he,hb,hin2⟩:=hcl j oj hin hji hoj
    exact hnot e he hb hin2
   have h2:=wpOp_putIf hoj (hfree j oj hoj hji hjun (fun e he hb heq=>hnot e he hb (heq▸hidep))) (fun cs b=>hsel i oi cs b hi) (fun cs b=>hsel j oj cs b hoj) hQ hy h1
   have hun:∀k,(listed.setIfInBounds j true).getD k true=false→listed.getD k true=false:=fun k h=>by
    by_cases hjk:j=k
    ·subst hjk;exact hjun
    ·rw[getD_set_ne true hjk] at h;exact h
   refine wpOp_mono (fun a' w' ⟨hy',G',hE',h3⟩=>⟨G',hE',ih (listed.setIfInBounds j true) G' a' w' (fun k ok hk hki hu hno=>hfree k ok hk hki (hun k hu) hno) (fun k hu hk=>hD k (hun k hu) hk) (fun k hk=>?_) (ready_mono hr (Ne.symm hji)) hy' (hst j G w G' w' (hD j hjun hjdep) hE hE') ?_⟩) h2
   ·rw[getD_set_ne true (fun e:j=k=>hjdep (by rw[e];exact hk))];exact hdep k hk
   ·rw[Array.setIfInBounds_comm _ _ hji]
    exact h3
theorem tK{i:Nat}{fuel:Nat}{listed:Array Bool}{G:Nat→Prop}{a:Act}{w:World}(hr:Region.ready .any ops listed=[i])
 (h:wpOp P ops Q i (fun a' w'=>∃G',oH (w7 P ops qs i) G w G' w'∧hJ P ops qs Q fuel (listed.setIfInBounds i true) G' a' w') a w):hJ P ops qs Q (fuel+1) listed G a w:=
 ⟨fun h0=>(by rw[hr] at h0;cases h0),fun j hj=>by rw[hr] at hj;simp at hj;subst hj;exact h⟩
end
inductive OM where
 |text
 |any(tk so qs:List Nat)
 |one(tk so qs:List Nat)
def OM.okc:OM→Option Tmp→Option (Option Nat)→Bool
 |.any tk so _,d,some (some k)=>!tk.contains k||tN so d
 |_,_,_=>true
def OM.oke:OM→Option Tmp→List Nat→Bool
 |.text,_,_=>true
 |.any tk _ qs,d,ks=>ks.all (fun k=>tk.contains k)&&(!tN qs d||ks.isEmpty)
 |.one tk _ qs,d,ks=>ks.all (fun k=>tk.contains k)&&(!tN qs d||ks.isEmpty)
def DV(ops:Array Oper)(i:Nat):List Nat:=
 (List.range ops.size).foldl (fun acc j=>if ((ops[j]?).map (fun o=>o.after.toList.any (fun e=>Region.binds .any e&&acc.contains e.on))).getD false then j::acc else acc) [i]
def DU(P:Program)(ops:Array Oper)(qs:List Nat)(listed:Array Bool)(i:Nat)(dep:List Nat):Bool:=
 dep.contains i&&dep.all (fun j=>!listed.getD j true&&(j==i||((ops[j]?).map (fun o=>o.after.toList.any (fun e=>Region.binds .any e&&dep.contains e.on))).getD true))&&
 (List.range listed.size).all (fun j=>listed.getD j true||dep.contains j||w7 P ops qs j)
def s6(P:Program)(ops:Array Oper)(so qs:List Nat):List Nat→Array Bool→Bool
 |[],listed=>(Region.ready .any ops listed).isEmpty
 |i::r,listed=>((Region.ready .any ops listed==[i])||((Region.ready .any ops listed).contains i&&Region.free .any ops listed i&&((ops[i]?).map (fun o=>!jP P o.op&&(!tN so o.dst||DU P ops qs listed i (DV ops i)))).getD false))&&s6 P ops so qs r (listed.setIfInBounds i true)
def mK(P:Program)(ops:Array Oper)(so qs:List Nat):List Nat→Array Bool→Bool
 |[],_=>true
 |i::r,listed=>((Region.ready .any ops listed==[i])||((Region.ready .any ops listed).contains i&&Region.free .any ops listed i&&((ops[i]?).map (fun o=>!jP P o.op&&(!tN so o.dst||DU P ops qs listed i (DV ops i)))).getD false))&&mK P ops so qs r (listed.setIfInBounds i true)
def j5:List Nat→Array Bool→Array Bool
 |[],listed=>listed
 |i::r,listed=>j5 r (listed.setIfInBounds i true)
theorem tZ{P:Program}{ops:Array Oper}{so qs:List Nat}:∀(is:List Nat) (listed:Array Bool),s6 P ops so qs is listed=true→mK P ops so qs is listed=true∧Region.ready .any ops (j5 is listed)=[]
 |[],listed,h=>⟨rfl,by simpa [s6,j5] using h⟩
 |i::r,listed,h=>by
  simp only[s6,Bool.and_eq_true] at h
  have:=tZ r _ h.2
  exact⟨by simp only[mK,Bool.and_eq_true];exact⟨h.1,this.1⟩,this.2⟩
def sv(H:List (Nat×HO))(ks:List Nat):Nat→Prop:=fun b=>∃p∈H,p.1∈ks∧b∈p.2.blk
def OM.tb:OM→List (Nat×HO)→Nat→Prop
 |.text,_=>fun _=>False
 |.any tk _ _,H=>sv H tk
 |.one tk _ _,H=>sv H tk
def OM.wp(P:Program)(ops:Array Oper)(Q:Exit→Act→World→Prop)(E:(Nat→Prop)→Act→World→Prop)(l:List Oper)(H:List (Nat×HO))(a:Act)(w:World):OM→Prop
 |.text=>(∀G a w,E G a w→Q .normal a w)→wpList P ops Q l a w
 |.any tk so qs=>∀is listed n,mK P ops so qs is listed=true→Region.noSelect ops=true→is.map (fun i=>ops[i]?)=l.map some→(∀c a w,¬ Q (.panic c) a w)→(∀G a w,E G a w→hJ P ops qs Q n (j5 is listed) G a w)→hJ P ops qs Q (n+is.length) listed (sv H tk) a w
 |.one tk _ qs=>match l with
  |[]=>E (sv H tk) a w
  |[o]=>∀i,ops[i]?=some o→wpOp P ops Q i (fun a' w'=>∃G',oH (w7 P ops qs i) (sv H tk) w G' w'∧E G' a' w') a w
  |_=>True
structure aq(m:OM)(P:Program)(C:il)(ops:Array Oper)(l:List Oper)(S:St)(K:St→Prop):Prop where
 out:∀(Q:Exit→Act→World→Prop) (E:(Nat→Prop)→Act→World→Prop) (a:Act) (w:World),ep C S a w→(∀S' a' w',K S'→ep C S' a' w'→E (m.tb S'.heap) a' w')→m.wp P ops Q E l S.heap a w
def cH(ops:Array Oper)(S:St):Option (Nat×Bool)→AV
 |none=>.any
 |some (j,_)=>match (ops[j]?).bind (·.dst) with
  |some dj=>S.slot dj
  |none=>.any
def bE:Option (Nat×Bool)→AV
 |none=>.any
 |some (_,g)=>.b g
def St.putO(S:St):Option Tmp→AV→St
 |some d,x=>S.put d x
 |none,_=>S
def z5(S:St):Option Tmp→Bool
 |some d=>Nat.blt d S.n
 |none=>true
section
variable {m:OM} {P:Program} {T:List (Nat×TI)} {C:il} {S:St} {a:Act} {w:World} {ops:Array Oper} {l:List Oper} {K:St→Prop}
theorem pG{a b:Nat}(h:Nat.blt a b=true):a<b:=by rw[Nat.blt_eq] at h;exact h
theorem ep.putO(h:ep C S a w){d:Option Tmp}{x:AV}{v:Value}(hd:z5 S d=true)(hv:cL w (Fz C S.heap w) x v):ep C (S.putO d x) (a.put d v) w:=by
 cases d with
 |none=>exact h
 |some d=>exact h.put (pG hd) hv
theorem sY(S:St)(d:Option Tmp)(x:AV):(S.putO d x).heap=S.heap:=by cases d<;>rfl
theorem ac(h:K S):aq m P C ops [] S K:=by
 refine⟨fun Q E a w hs hK=>?_⟩
 cases m with
 |text=>exact fun he=>he _ _ _ (hK S a w h hs)
 |any tk so qs=>
  intro is listed n h1 _ h3 _ he
  have:is=[]:=by cases is<;>simp at h3;rfl
  subst this
  exact he _ _ _ (hK S a w h hs)
 |one tk so qs=>exact hK S a w h hs
theorem uT(hs:ep C S a w){j dj:Nat}(hj:(ops[j]?).bind (·.dst)=some dj){c:Bool}(hc:S.slot dj= .b c):yielded ops a.tmps j=some c:=by
 have h1:=hs.slots dj
 rw[hc,gr] at h1
 unfold yielded
 rw[hj]
 have h2:a.tmps[dj]?=some (.bool c):=by
  rw[Array.getD_eq_getD_getElem?] at h1
  cases hq:a.tmps[dj]? with
  |none=>rw[hq] at h1;simp[undef] at h1
  |some v=>rw[hq] at h1;simp at h1;rw[h1]
 show (match a.tmps[dj]? with|some (.bool b)=>some b|_=>none)=_
 rw[h2]
theorem xO{F:Nat→Prop}:cL w F (.tup []) undef:=⟨[],rfl,rfl,fun i x u hx=>by simp at hx⟩
theorem wU(hs:ep C S a w){j dj:Nat}(hj:(ops[j]?).bind (·.dst)=some dj)(hc:S.slot dj= .tup []):yielded ops a.tmps j=none:=by
 have h1:=hs.slots dj
 rw[hc] at h1
 obtain⟨vs,h2,h3,_⟩:=h1
 have h4:vs=[]:=by cases vs with
  |nil=>rfl
  |cons a l=>simp at h3
 subst h4
 unfold yielded
 rw[hj]
 show (match a.tmps[dj]? with|some (.bool b)=>some b|_=>none)=_
 rw[Array.getD_eq_getD_getElem?] at h2
 cases hq:a.tmps[dj]? with
 |none=>rfl
 |some v=>rw[hq] at h2;simp at h2;rw[h2]
theorem q6{o:Oper}{Q:Exit→Act→World→Prop}(hw:Region.wanted o (yielded ops a.tmps)=true)(h:o.wp P a w (wpList P ops Q l) Q):wpList P ops Q (o::l) a w:=by
 unfold wpList;rw[if_pos hw];exact .inl h
theorem sw{d:Option Tmp}{op:Op}{ty:Nat}{pos:String}{aft:Array Edge}{gd:Option (Nat×Bool)}(hs:ep C S a w)(hw:cH ops S gd=bE gd):Region.wanted ⟨d,op,ty,pos,aft,gd⟩ (yielded ops a.tmps)=true:=by
 cases gd with
 |none=>rfl
 |some q=>
  obtain⟨j,g⟩:=q
  simp only[cH,bE] at hw
  cases hj:(ops[j]?).bind (·.dst) with
  |none=>rw[hj] at hw;cases hw
  |some dj=>
   rw[hj] at hw
   have:=uT (ops:=ops) hs hj hw
   simp[Region.wanted,this]
theorem aq.yield{o:Oper}(x:AV)(hd:z5 S o.dst=true)
 (hc:∀a w,ep C S a w→∃v,cL w (Fz C S.heap w) x v∧∀w',(w'=w∨Kw w w'∨∃tk so qs G',m= .any tk so qs∧tN so o.dst=false∧Fs (sv S.heap tk) w G' w')→(if Region.wanted o (yielded ops a.tmps) then (execOp a.eval o).run P w'= .ok (.value v) w' else v=undef))
 (h:aq m P C ops l (S.putO o.dst x) K):aq m P C ops (o::l) S K:=by
 refine⟨fun Q E a w hs hK=>?_⟩
 obtain⟨v,hv,hr⟩:=hc a w hs
 have h2:=h.out Q E _ w (hs.putO hd hv) hK
 rw[sY] at h2
 cases m with
 |text=>
  intro he
  have h1:=hr w (.inl Z)
  have h2:=h2 he
  show wpList P ops Q (o::l) a w
  unfold wpList
  by_cases hw:Region.wanted o (yielded ops a.tmps)=true
  ·rw[if_pos hw] at h1 ⊢
   refine .inl ?_
   unfold Oper.wp
   rw[h1];exact h2
  ·rw[if_neg hw] at h1 ⊢
   subst h1;exact h2
 |one tk so qs=>
  cases l with
  |cons o' l'=>exact J
  |nil=>
   intro i hi
   have h1:=hr w (.inl Z)
   have h2:E (sv S.heap tk) (a.put o.dst v) w:=h2
   unfold wpOp
   rw[hi]
   by_cases hw:Region.wanted o (yielded ops a.tmps)=true
   ·rw[if_pos hw] at h1
    simp only[hw,if_true]
    refine .inl ?_
    unfold Oper.wp
    rw[h1]
    exact⟨_,oH.refl _ _ w,h2⟩
   ·rw[if_neg hw] at h1
    subst h1
    simp only[hw,Bool.false_eq_true,if_false]
    exact⟨_,oH.refl _ _ w,h2⟩
 |any tk so qs=>
  intro is listed n f1 f2 f3 hQ he
  cases is with
  |nil=>simp at f3
  |cons i is=>
   simp only[List.map_cons,List.cons.injEq] at f3
   obtain⟨hi,f3⟩:=f3
   simp only[mK,Bool.and_eq_true,Bool.or_eq_true] at f1
   obtain⟨g1,g3⟩:=f1
   have h3:=h2 is _ n g3 f2 f3 hQ he
   have hY:∀I:World→Prop,I w→(∀w',I w'→(if Region.wanted o (yielded ops a.tmps) then (execOp a.eval o).run P w'= .ok (.value v) w' else v=undef))→YieldsIf P ops I o v a:=fun I h0 hr'=>by
    by_cases hw:Region.wanted o (yielded ops a.tmps)=true
    ·exact .inl ⟨hw,fun w' hw'=>by have:=hr' w' hw';rwa [if_pos hw] at this⟩
    ·have:=hr' w h0
     rw[if_neg hw] at this
     exact .inr ⟨by simpa using hw,this⟩
   rcases g1 with g2|g2
   ·exact tK (by simpa using g2) ((hY (fun w'=>w'=w) Z (fun w' hw'=>hr w' (.inl hw'))).wpOp hi Z ⟨_,oH.refl _ _ w,h3⟩)
   ·obtain⟨⟨g4,g5⟩,g6⟩:=g2
    rw[hi] at g6
    simp only[Option.map_some,Option.getD_some,Bool.and_eq_true,Bool.or_eq_true,Bool.not_eq_true'] at g6
    have hiR:i∈Region.ready .any ops listed:=by simpa using g4
    rcases g6.2 with hso|hdep
    ·exact q7 (I:=fun G' w'=>Fs (sv S.heap tk) w G' w') (D:=fun _=>True) (dep:=[i]) hi (by simp) (Region.noSelect_spec f2) (fun c a w hq=>absurd hq (hQ c _ _)) (fun j G w G' w' _ h k=>h.trans k.ext) (fun j oj hj hne=>absurd (by simpa using hj) hne) _ listed _ a w (Region.free_spec hi g5) (fun _ _ _=>trivial) (fun k hk=>by rw[show k=i by simpa using hk];exact(mem_ready.1 hiR).1) hiR (hY (fun w'=>∃G',Fs (sv S.heap tk) w G' w') ⟨_,Fs.refl _ w⟩ (fun w' ⟨G',hw'⟩=>hr w' (.inr (.inr ⟨tk,so,qs,G',rfl,hso,hw'⟩)))) (Fs.refl _ w) h3
    ·simp only[DU,Bool.and_eq_true,List.all_eq_true,Bool.or_eq_true,Bool.not_eq_true'] at hdep
     obtain⟨⟨d1,d2⟩,d3⟩:=hdep
     refine q7 (I:=fun _ w'=>Kw w w') (D:=fun j=>w7 P ops qs j=true) (dep:=DV ops i) hi (by simpa using d1) (Region.noSelect_spec f2) (fun c a w hq=>absurd hq (hQ c _ _)) (fun j G w1 G' w2 hq h k=>⟨Nat.le_trans h.size k.size,fun b hb=>(k.same b (Nat.lt_of_lt_of_le hb h.size) (.inl hq)).trans (h.same b hb)⟩) (fun j oj hj hne hoj=>?_) _ listed _ a w (Region.free_spec hi g5) (fun j hj hn=>?_) (fun k hk=>(d2 k hk).1) hiR (hY (fun w'=>∃_G':Nat→Prop,Kw w w') ⟨fun _=>True,Kw.refl w⟩ (fun w' ⟨_,hw'⟩=>hr w' (.inr (.inl hw')))) (Kw.refl w) h3
     ·rcases (d2 j hj).2 with h|h
      ·exact absurd (by simpa using h) hne
      ·rw[hoj] at h
       simp only[Option.map_some,Option.getD_some,List.any_eq_true,Bool.and_eq_true] at h
       obtain⟨e,he,hb,hin⟩:=h
       exact⟨e,by simpa using he,hb,by simpa using hin⟩
     ·have hlt:j<listed.size:=by
       rcases Nat.lt_or_ge j listed.size with h|h
       ·exact h
       ·simp[Array.getElem?_eq_none h] at hj
      rcases d3 j (List.mem_range.2 hlt) with (h|h)|h
      ·rw[hj] at h;cases h
      ·exact absurd (by simpa using h) hn
      ·exact h
theorem uD{H:List (Nat×HO)}{ks tk:List Nat}(h:∀k∈ks,k∈tk){b:Nat}(hb:sv H ks b):sv H tk b:=by
 obtain⟨p,h1,h2,h3⟩:=hb;exact⟨p,h1,h _ h2,h3⟩
theorem FT(hs:ep C S a w){rd:Option (Option Nat)}{tk:List Nat}(hok:∀k,rd=some (some k)→k∉tk){w':World}{G':Nat→Prop}(hE:Fs (sv S.heap tk) w G' w'):ur C S.heap w w' rd:=by
 have hblk:∀b,sv S.heap tk b→b∈cC S.heap:=fun b ⟨p,h1,_,h3⟩=>List.mem_flatMap.2 ⟨p,h1,h3⟩
 match rd with
 |none=>exact J
 |some none=>exact fun b hb=>hE.same b hb.1 (fun ht=>hb.2.1 (hblk b ht))
 |some (some k)=>
  intro x b hg hx
  have hk:=hok k Z
  refine hE.same b (hs.lt b (fH hg hx)).1 ?_
  rintro⟨p,hp,hpk,hpb⟩
  obtain⟨pre,post,e1⟩:=ij hg
  have hnd:=hs.nd
  rw[e1,cx,cI] at hnd
  rw[e1] at hp
  have hx2:b∈((k,x):Nat×HO).2.blk:=hx
  simp only[List.nodup_append] at hnd
  rcases List.mem_append.1 hp with hp|hp
  ·exact hnd.2.2 b (List.mem_flatMap.2 ⟨p,hp,hpb⟩) b (List.mem_append_left _ hx2) Z
  ·rcases List.mem_cons.1 hp with rfl|hp
   ·exact hk hpk
   ·exact hnd.2.1.2.2 b hx2 b (List.mem_flatMap.2 ⟨p,hp,hpb⟩) Z
theorem FS(hs:ep C S a w){rd:Option (Option Nat)}{w':World}(hO:Kw w w'):ur C S.heap w w' rd:=by
 match rd with
 |none=>exact J
 |some none=>exact fun b hb=>hO.same b hb.1
 |some (some k)=>exact fun x b hg hx=>hO.same b (hs.lt b (fH hg hx)).1
theorem HF{d:Option Tmp}{rd:Option (Option Nat)}(h:m.okc d rd=true){tk so qs:List Nat}(hm:m= .any tk so qs)(hso:tN so d=false):∀k,rd=some (some k)→k∉tk:=by
 subst hm
 rintro k rfl
 simpa [OM.okc,hso] using h
theorem eI{d:Option Tmp}{op:Op}{ty:Nat}{pos:String}{aft:Array Edge}{gd:Option (Nat×Bool)}(hw:cH ops S gd=bE gd){x:AV}(rd:Option (Option Nat))(hm:m.okc d rd=true)(hd:z5 S d=true)(_hcalm:jP P op=false)
 (hc:∀a w,ep C S a w→∃v,cL w (Fz C S.heap w) x v∧∀w',ur C S.heap w w' rd→(execOp a.eval ⟨d,op,ty,pos,aft,gd⟩).run P w'= .ok (.value v) w')(h:aq m P C ops l (S.putO d x) K):aq m P C ops (⟨d,op,ty,pos,aft,gd⟩::l) S K:=by
 refine aq.yield (o:=⟨d,op,ty,pos,aft,gd⟩) x hd (fun a w hs=>?_) h
 obtain⟨v,hv,hr⟩:=hc a w hs
 refine⟨v,hv,fun w' hw'=>?_⟩
 rw[if_pos (sw hs hw)]
 rcases hw' with rfl|hO|⟨tk,so,qs,G',hmm,hso,hE⟩
 ·exact hr _ (by unfold ur;split<;>first|trivial|(intros;rfl))
 ·exact hr w' (FS hs hO)
 ·exact hr w' (FT hs (HF hm hmm hso) hE)
theorem iU(hT:cP P T){d:Option Tmp}{op:Op}{ty:Nat}{pos:String}{aft:Array Edge}{gd:Option (Nat×Bool)}(hw:cH ops S gd=bE gd){need gain:Prop}{rd:Option (Option Nat)}{x:AV}
 (hc:cv T S.heap (ev S) op=some ⟨need,gain,rd,x⟩)(hm:m.okc d rd=true)(hd:z5 S d=true)(hn:need)(h:gain→aq m P C ops l (S.putO d x) K):aq m P C ops (⟨d,op,ty,pos,aft,gd⟩::l) S K:=by
 refine⟨fun Q E a w hs hK=>?_⟩
 have hg:=(B0 (P:=P) hT hs d op ty pos aft gd hc hn).1
 refine(eI hw rd hm hd (J3 hT hc) (fun a w hs=>?_) (h hg)).out Q E a w hs hK
 exact(B0 (P:=P) hT hs d op ty pos aft gd hc hn).2
theorem cT{d:Option Tmp}:m.okc d none=true:=by cases m<;>rfl
structure m6(S:St)(w:World)(S1:St)(w':World)(ks:List Nat):Prop where
 mod:dE (sv S.heap ks) w w'
 sub:∀tk,(∀k∈ks,k∈tk)→∀b,b<w.heap.size→sv S1.heap tk b→sv S.heap tk b
theorem m6.ext{S S1:St}{w w':World}{ks tk:List Nat}(h:m6 S w S1 w' ks)(hs:∀k∈ks,k∈tk):Fs (sv S.heap tk) w (sv S1.heap tk) w':=
 ⟨h.mod.size,fun b hb hn=>h.mod.block b hb (fun ht=>hn (uD hs ht)),h.sub tk hs⟩
theorem aq.act{d:Option Tmp}{op:Op}{ty:Nat}{pos:String}{aft:Array Edge}{gd:Option (Nat×Bool)}(hw:cH ops S gd=bE gd)(ks:List Nat)(hm:m.oke d ks=true)(heff:jP P op=true)
 (hc:∀a w,ep C S a w→∀(R:Act→World→Prop) (Q:Exit→Act→World→Prop),(∀S1 v w' x,ep C S1 a w'→z5 S1 d=true→cL w' (Fz C S1.heap w') x v→m6 S w S1 w' ks→aq m P C ops l (S1.putO d x) K→R (a.put d v) w')→(∀S1 w',ep C S1 a w'→d=none→m6 S w S1 w' ks→aq m P C ops l S1 K→R (a.put d undef) w')→Oper.wp P ⟨d,op,ty,pos,aft,gd⟩ a w R Q):aq m P C ops (⟨d,op,ty,pos,aft,gd⟩::l) S K:=by
 refine⟨fun Q E a w hs hK=>?_⟩
 have hw:=sw (d:=d) (op:=op) (ty:=ty) (pos:=pos) (aft:=aft) hs hw
 cases m with
 |text=>
  intro he
  show wpList P ops Q (_::l) a w
  refine q6 hw (hc a w hs _ Q (fun S1 v w' x h1 h2 h3 h4 h5=>?_) (fun S1 w' h1 h2 h3 h4=>?_))
  ·exact h5.out Q E _ w' (h1.putO h2 h3) hK he
  ·rw[h2];exact h4.out Q E _ w' h1 hK he
 |one tk so qs=>
  cases l with
  |cons o' l'=>exact J
  |nil=>
   intro i hi
   simp only[OM.oke,Bool.and_eq_true,List.all_eq_true,Bool.or_eq_true,Bool.not_eq_true'] at hm
   have hks:∀k∈ks,k∈tk:=fun k hk=>by simpa using hm.1 k hk
   have hq:∀S1 w',m6 S w S1 w' ks→oH (w7 P ops qs i) (sv S.heap tk) w (sv S1.heap tk) w':=fun S1 w' h4=>by
    refine⟨h4.mod.size,fun b hb hc=>?_,h4.sub tk hks⟩
    rcases hc with hc|hc
    ·refine h4.mod.block b hb (fun ht=>?_)
     unfold w7 at hc
     rw[hi] at hc
     simp[heff] at hc
     rcases hm.2 with h|h
     ·rw[h] at hc;cases hc
     ·obtain⟨p,_,hp,_⟩:=ht
      rw[show ks=[] by simpa using h] at hp
      cases hp
    ·exact h4.mod.block b hb (fun ht=>hc (uD hks ht))
   unfold wpOp
   rw[hi]
   simp only[hw,if_true]
   refine .inl (hc a w hs _ Q (fun S1 v w' x h1 h2 h3 h4 h5=>?_) (fun S1 w' h1 h2 h3 h4=>?_))
   ·refine⟨_,hq _ _ h4,?_⟩
    have:=h5.out Q E _ w' (h1.putO h2 h3) hK
    rwa [sY] at this
   ·refine⟨_,hq _ _ h3,?_⟩
    rw[h2]
    exact h4.out Q E _ w' h1 hK
 |any tk so qs=>
  intro is listed n f1 f2 f3 hQ he
  cases is with
  |nil=>simp at f3
  |cons i is=>
   simp only[List.map_cons,List.cons.injEq] at f3
   obtain⟨hi,f3⟩:=f3
   simp only[mK,Bool.and_eq_true,Bool.or_eq_true] at f1
   obtain⟨g1,g3⟩:=f1
   have m2:Region.ready .any ops listed=[i]:=by
    rcases g1 with g1|g1
    ·simpa using g1
    ·rw[hi] at g1;simp[heff] at g1
   simp only[OM.oke,Bool.and_eq_true,List.all_eq_true,Bool.or_eq_true,Bool.not_eq_true'] at hm
   have hks:∀k∈ks,k∈tk:=fun k hk=>by simpa using hm.1 k hk
   have hq:∀S1 w',m6 S w S1 w' ks→oH (w7 P ops qs i) (sv S.heap tk) w (sv S1.heap tk) w':=fun S1 w' h4=>by
    refine⟨h4.mod.size,fun b hb hc=>?_,h4.sub tk hks⟩
    rcases hc with hc|hc
    ·refine h4.mod.block b hb (fun ht=>?_)
     unfold w7 at hc
     rw[hi] at hc
     simp[heff] at hc
     rcases hm.2 with h|h
     ·rw[h] at hc;cases hc
     ·obtain⟨p,_,hp,_⟩:=ht
      rw[show ks=[] by simpa using h] at hp
      cases hp
    ·exact h4.mod.block b hb (fun ht=>hc (uD hks ht))
   refine tK m2 ?_
   unfold wpOp
   rw[hi]
   simp only[hw,if_true]
   refine .inl (hc a w hs _ Q (fun S1 v w' x h1 h2 h3 h4 h5=>?_) (fun S1 w' h1 h2 h3 h4=>?_))
   ·refine⟨_,hq _ _ h4,?_⟩
    have:=h5.out Q E _ w' (h1.putO h2 h3) hK is _ n g3 f2 f3 hQ he
    rwa [sY] at this
   ·refine⟨_,hq _ _ h3,?_⟩
    rw[h2]
    exact h4.out Q E _ w' h1 hK is _ n g3 f2 f3 hQ he
theorem eD{d:Option Tmp}{op:Op}{ty:Nat}{pos:String}{aft:Array Edge}{gd:Option (Nat×Bool)}(hw:cH ops S gd=bE gd)(ks:List Nat)(hm:m.oke d ks=true)(heff:jP P op=true)
 (hc:∀a w,ep C S a w→∃v w' S1 x,(execOp a.eval ⟨d,op,ty,pos,aft,gd⟩).run P w= .ok (.value v) w'∧ep C S1 a w'∧z5 S1 d=true∧cL w' (Fz C S1.heap w') x v∧m6 S w S1 w' ks∧aq m P C ops l (S1.putO d x) K):
 aq m P C ops (⟨d,op,ty,pos,aft,gd⟩::l) S K:=by
 refine aq.act hw ks hm heff fun a w hs R Q h1 _=>?_
 obtain⟨v,w',S1,x,hr,hs1,hd,hv,he,h⟩:=hc a w hs
 unfold Oper.wp
 rw[hr]
 exact h1 S1 v w' x hs1 hd hv he h
theorem mq{op:Op}{ty:Nat}{pos:String}{aft:Array Edge}{gd:Option (Nat×Bool)}(hw:cH ops S gd=bE gd)(ks:List Nat)(hm:m.oke none ks=true)(heff:jP P op=true)
 (hc:∀a w,ep C S a w→∃w' S1,(execOp a.eval ⟨none,op,ty,pos,aft,gd⟩).run P w= .ok .skip w'∧ep C S1 a w'∧m6 S w S1 w' ks∧aq m P C ops l S1 K):
 aq m P C ops (⟨none,op,ty,pos,aft,gd⟩::l) S K:=by
 refine aq.act hw ks hm heff fun a w hs R Q _ h2=>?_
 obtain⟨w',S1,hr,hs1,he,h⟩:=hc a w hs
 unfold Oper.wp
 rw[hr]
 exact h2 S1 w' hs1 Z he h
theorem aq.gdOff{d:Option Tmp}{op:Op}{ty:Nat}{pos:String}{aft:Array Edge}{j:Nat}{g c:Bool}{dj:Nat}(hj:(ops[j]?).bind (·.dst)=some dj)(hc:S.slot dj= .b c)(hcg:c=!g)
 (hd:z5 S d=true)(h:aq m P C ops l (S.putO d (.tup [])) K):aq m P C ops (⟨d,op,ty,pos,aft,some (j,g)⟩::l) S K:=by
 refine aq.yield (o:=⟨d,op,ty,pos,aft,some (j,g)⟩) (.tup []) hd (fun a w hs=>?_) h
 have hy:=uT (ops:=ops) hs hj hc
 refine⟨undef,xO,fun w' _=>?_⟩
 rw[if_neg (by simp only[Region.wanted,hy];subst hcg;cases g<;>simp)]
theorem aq.gdOffU{d:Option Tmp}{op:Op}{ty:Nat}{pos:String}{aft:Array Edge}{j:Nat}{g:Bool}{dj:Nat}(hj:(ops[j]?).bind (·.dst)=some dj)(hc:S.slot dj= .tup [])
 (hd:z5 S d=true)(h:aq m P C ops l (S.putO d (.tup [])) K):aq m P C ops (⟨d,op,ty,pos,aft,some (j,g)⟩::l) S K:=by
 refine aq.yield (o:=⟨d,op,ty,pos,aft,some (j,g)⟩) (.tup []) hd (fun a w hs=>?_) h
 have hy:=wU (ops:=ops) hs hj hc
 refine⟨undef,xO,fun w' _=>?_⟩
 rw[if_neg (by simp only[Region.wanted,hy];simp)]
end
section
variable {m:OM} {P:Program} {T:List (Nat×TI)} {C:il} {S:St} {a:Act} {w:World} {ops:Array Oper} {l:List Oper} {K:St→Prop}
theorem xR{F:Nat→Prop}{b sz:Nat}:∀{xs:List AV} {off k:Nat} {x:AV},d8 w F b off sz xs→xs[k]?=some x→∃cs,bw w F x cs∧cs.length=sz∧w.rangeAt b (off+k*sz) cs
 |[],_,_,_,_,h=>by simp at h
 |y::ys,off,0,x,h,hx=>by
  simp only[d8] at h
  simp only[List.getElem?_cons_zero,Option.some.injEq] at hx
  subst hx
  simpa using h.1
 |y::ys,off,k+1,x,h,hx=>by
  simp only[d8] at h
  rw[List.getElem?_cons_succ] at hx
  obtain⟨cs,h1,h2,h3⟩:=xR h.2 hx
  exact⟨cs,h1,h2,by rw[show off+(k+1)*sz=off+sz+k*sz by rw[Nat.add_mul];omega];exact h3⟩
theorem jD{t e sz by_:Nat}{z:AV}(h:d7 P t ⟨.slice e,sz,by_,z⟩){te:TI}(he:d7 P e te)(b off len cap:Nat)(n:Int)(k:IntKind)(h0:0≤n)(h1:n<len)(w':World):
 (Instr.indexAt t (.slice (some ⟨b,off,none⟩) len cap) (.int k n)).run P w'= .ok (.pointer (some ⟨b,off+n.toNat*te.sz,none⟩)) w':=by
 have hu:=ej h
 have ht:¬ ((len≤1&&(match TypeDesc.slice e with|.array ..=>true|_=>false))=true):=by simp
 simp only[Instr.indexAt,asIntOf,Sem.run_bind,Sem.run_pure,Result.andThen_ok,run_underlying hu,h0,h1,and_self,if_true,he.sizeRun]
 unfold Addr.add
 split
 ·rename_i h2;rw[h2];rfl
 ·rfl
theorem aq.indexSl(hT:cP P T){d:Option Tmp}{ty:Nat}{pos:String}{aft:Array Edge}{gd:Option (Nat×Bool)}(hw:cH ops S gd=bE gd){t:Nat}{x ix:Operand}{sz:Nat}{xs:List AV}{y:AV}{n:Int}{kk:IntKind}{e sz0 by_:Nat}{z:AV}{te:TI}
 (hx:ev S x= .sl sz xs)(hi:ev S ix= .i kk n)(ht:bI T t=some ⟨.slice e,sz0,by_,z⟩)(he:bI T e=some te)(hsz:te.sz=sz)
 (hd:z5 S d=true)(h0:0≤n)(hy:xs[n.toNat]?=some y)(h:aq m P C ops l (S.putO d (.cp y)) K):aq m P C ops (⟨d,.indexAddr t x ix,ty,pos,aft,gd⟩::l) S K:=by
 refine eI hw none cT hd Z (fun a w hs=>?_) h
 have Ex:=bg hs x;have Ei:=bg hs ix
 rw[hx,iW] at Ex
 rw[hi,cq] at Ei
 obtain⟨A,cap,e1,h1,h2,h3⟩:=Ex
 have hlt:=(List.getElem?_eq_some_iff.1 hy).1
 obtain⟨b,off,rfl,hF,hr⟩:=h3 (by rintro rfl;simp at hlt)
 obtain⟨cs,c1,c2,c3⟩:=xR hr hy
 refine⟨_,n0.2 ⟨b,off+n.toNat*sz,cs,rfl,hF,c1,c3⟩,fun w' _=>?_⟩
 have:=jD (aX hT ht) (aX hT he) b off xs.length cap n kk h0 (by omega) w'
 rw[hsz] at this
 simp only[execOp,e1,Ei,Sem.run_bind,this,Result.andThen_ok,Sem.run_pure]
theorem aq.indexArr(hT:cP P T){d:Option Tmp}{ty:Nat}{pos:String}{aft:Array Edge}{gd:Option (Nat×Bool)}(hw:cH ops S gd=bE gd){t:Nat}{x ix:Operand}{key b off:Nat}{path:List Nat}{n:Int}{kk:IntKind}{mlen e sz0 by_:Nat}{z:AV}{te:TI}
 (hx:ev S x= .ptr key b path off)(hi:ev S ix= .i kk n)(ht:bI T t=some ⟨.array mlen e,sz0,by_,z⟩)(he:bI T e=some te)
 (hd:z5 S d=true)(h0:0≤n)(hn:n<mlen)(h:aq m P C ops l (S.putO d (.ptr key b (path++[n.toNat]) (off+n.toNat*te.sz))) K):aq m P C ops (⟨d,.indexAddr t x ix,ty,pos,aft,gd⟩::l) S K:=by
 refine eI hw none cT hd Z (fun a w hs=>?_) h
 have Ex:=bg hs x;have Ei:=bg hs ix
 rw[hx,dg] at Ex
 rw[hi,cq] at Ei
 refine⟨_,dg.2 Z,fun w' _=>?_⟩
 have hu:=m8 (aX hT ht)
 have:(Instr.indexAt t (.pointer (some ⟨b,off,none⟩)) (.int kk n)).run P w'= .ok (.pointer (some ⟨b,off+n.toNat*te.sz,none⟩)) w':=by
  simp only[Instr.indexAt,asIntOf,Sem.run_bind,Sem.run_pure,Result.andThen_ok,run_underlying hu,Instr.sureAddr,h0,hn,and_self,if_true,(aX hT he).sizeRun]
  unfold Addr.add
  split
  ·rename_i h2;rw[h2];rfl
  ·rfl
 simp only[execOp,Ex,Ei,Sem.run_bind,this,Result.andThen_ok,Sem.run_pure]
theorem aq.indexStr(hT:cP P T){d:Option Tmp}{ty:Nat}{pos:String}{aft:Array Edge}{gd:Option (Nat×Bool)}(hw:cH ops S gd=bE gd){t:Nat}{x ix:Operand}{s:List UInt8}{c:UInt8}{n:Int}{kk:IntKind}{sz0 by_:Nat}{z:AV}
 (hx:ev S x= .s s)(hi:ev S ix= .i kk n)(ht:bI T t=some ⟨.string,sz0,by_,z⟩)
 (hd:z5 S d=true)(h0:0≤n)(hy:s[n.toNat]?=some c)(h:aq m P C ops l (S.putO d (.i .u8 c.toNat)) K):aq m P C ops (⟨d,.index t x ix,ty,pos,aft,gd⟩::l) S K:=by
 refine eI hw none cT hd Z (fun a w hs=>?_) h
 have Ex:=bg hs x;have Ei:=bg hs ix
 rw[hx,gS] at Ex
 rw[hi,cq] at Ei
 refine⟨_,cq.2 Z,fun w' _=>?_⟩
 have hu:=eX (aX hT ht)
 have hb:(bf s)[n.toNat]?=some c:=by
  have hl:=(List.getElem?_eq_some_iff.1 hy)
  obtain⟨hl,he⟩:=hl
  have:n.toNat<(bf s).size:=hl
  rw[getElem?_pos (bf s) n.toNat this]
  congr 1
 simp only[execOp,Ex.1,Ei,Instr.index,asIntOf,Sem.run_bind,Sem.run_pure,Result.andThen_ok,run_underlying hu,h0,if_true,hb]
theorem o4{F:Nat→Prop}{b sz:Nat}:∀{xs:List AV} {off:Nat} (k:Nat),d8 w F b off sz xs→d8 w F b (off+k*sz) sz (xs.drop k)
 |xs,off,0,h=>by simpa using h
 |[],off,k+1,h=>by simp[d8]
 |x::xs,off,k+1,h=>by
  simp only[d8] at h
  have:=o4 k h.2
  rw[List.drop_succ_cons,show off+(k+1)*sz=off+sz+k*sz by rw[Nat.add_mul];omega]
  exact this
theorem oZ{F:Nat→Prop}{b sz:Nat}:∀{xs:List AV} {off:Nat} (k:Nat),d8 w F b off sz xs→d8 w F b off sz (xs.take k)
 |xs,off,0,h=>by simp[d8]
 |[],off,k+1,h=>by simp[d8]
 |x::xs,off,k+1,h=>by
  simp only[d8] at h
  rw[List.take_succ_cons]
  simp only[d8]
  exact⟨h.1,oZ k h.2⟩
def N9(S:St):Option Operand→Option Int→Prop
 |none,none=>True
 |some x,some n=>∃k,ev S x= .i k n
 |_,_=>False
theorem go(isS:Bool)(len cap:Nat)(lo hi:Option Value)(n m:Nat)(hlo:lo=none∧n=0∨∃k,lo=some (.int k (n:Int)))(hhi:hi=none∧m=len∨∃k,hi=some (.int k (m:Int)))(hnm:n≤m)(hm:m≤cap)(w':World):
 (Instr.sliceBounds isS len cap lo hi none).run P w'= .ok (n,m,cap) w':=by
 have h1:(n:Int)≤(m:Int):=by omega
 have h2:(m:Int)≤(cap:Int):=by omega
 rcases hlo with ⟨rfl,rfl⟩|⟨k,rfl⟩<;>rcases hhi with ⟨rfl,rfl⟩|⟨k',rfl⟩<;>simp[Instr.sliceBounds,Instr.sliceBound,asIntOf,Sem.run_pure,hnm,hm]
def si(S:St)(x:Option Operand)(dflt n:Nat):Prop:=match x with
 |none=>n=dflt
 |some x=>∃k,ev S x= .i k (n:Int)
theorem mg(hs:ep C S a w){x:Option Operand}{dflt n:Nat}(h:si S x dflt n):x.map a.eval=none∧n=dflt∨∃k,x.map a.eval=some (.int k (n:Int)):=by
 cases x with
 |none=>exact .inl ⟨rfl,h⟩
 |some x=>
  obtain⟨k,hk⟩:=h
  have:=bg hs x
  rw[hk,cq] at this
  exact .inr ⟨k,by rw[Option.map_some,this]⟩
theorem aq.sliceSl{mm:OM}(hT:cP P T){d:Option Tmp}{ty:Nat}{pos:String}{aft:Array Edge}{gd:Option (Nat×Bool)}(hw:cH ops S gd=bE gd){t:Nat}{x:Operand}{lo hi:Option Operand}{sz:Nat}{xs:List AV}(n m:Nat){e sz0 by_:Nat}{z:AV}{te:TI}
 (hx:ev S x= .sl sz xs)(hlo:si S lo 0 n)(hhi:si S hi xs.length m)(ht:bI T t=some ⟨.slice e,sz0,by_,z⟩)(he:bI T e=some te)(hsz:te.sz=sz)
 (hd:z5 S d=true)(hnm:n≤m)(hm:m≤xs.length)(h:aq mm P C ops l (S.putO d (.sl sz ((xs.take m).drop n))) K):aq mm P C ops (⟨d,.slice t x lo hi none,ty,pos,aft,gd⟩::l) S K:=by
 refine eI hw none cT hd Z (fun a w hs=>?_) h
 have Ex:=bg hs x
 rw[hx,iW] at Ex
 obtain⟨A,cap,e1,h1,h2,h3⟩:=Ex
 have hl:((xs.take m).drop n).length=m - n:=by rw[List.length_drop,List.length_take];omega
 refine⟨.slice (if cap=n then A else A.map (·.add (n*sz))) (m - n) (cap - n),iW.2 ⟨_,cap - n,by rw[hl],by omega,by omega,fun hne=>?_⟩,fun w' _=>?_⟩
 ·have hlt:n<m:=by
   rcases Nat.lt_or_ge n m with h|h
   ·exact h
   ·exfalso;apply hne;apply List.eq_nil_of_length_eq_zero;omega
  obtain⟨b,off,rfl,hF,hr⟩:=h3 (by rintro rfl;simp at hm;omega)
  refine⟨b,off+n*sz,?_,hF,o4 n (oZ m hr)⟩
  rw[if_neg (by omega)]
  simp[Addr.add]
 ·have hb:=go (P:=P) true xs.length cap _ _ n m (mg hs hlo) (mg hs hhi) hnm (by omega) w'
  have hu:=ej (aX hT ht)
  have hsz':=(aX hT he).sizeRun w'
  rw[hsz] at hsz'
  simp only[execOp,e1,Instr.sliceAt,Instr.slice,Sem.run_bind,run_underlying hu,Result.andThen_ok,Option.map_none,hb,hsz',Sem.run_pure]
theorem aq.sliceStr{mm:OM}(hT:cP P T){d:Option Tmp}{ty:Nat}{pos:String}{aft:Array Edge}{gd:Option (Nat×Bool)}(hw:cH ops S gd=bE gd){t:Nat}{x:Operand}{lo hi:Option Operand}{s:List UInt8}(n m:Nat){sz0 by_:Nat}{z:AV}
 (hx:ev S x= .s s)(hlo:si S lo 0 n)(hhi:si S hi s.length m)(ht:bI T t=some ⟨.string,sz0,by_,z⟩)
 (hd:z5 S d=true)(hnm:n≤m)(hm:m≤s.length)(h:aq mm P C ops l (S.putO d (.s ((s.take m).drop n))) K):aq mm P C ops (⟨d,.slice t x lo hi none,ty,pos,aft,gd⟩::l) S K:=by
 refine eI hw none cT hd Z (fun a w hs=>?_) h
 have Ex:=bg hs x
 rw[hx,gS] at Ex
 obtain⟨e1,h1⟩:=Ex
 refine⟨_,gS.2 ⟨rfl,by rw[List.length_drop,List.length_take];omega⟩,fun w' _=>?_⟩
 have hb:=go (P:=P) false s.length s.length _ _ n m (mg hs hlo) (mg hs hhi) hnm hm w'
 have hu:=eX (aX hT ht)
 have hex:(bf s).extract n m=bf ((s.take m).drop n):=by
  have h:((bf s).extract n m).data=(bf ((s.take m).drop n)).data:=by
   rw[ByteArray.data_extract]
   apply Array.ext'
   rw[Array.toList_extract]
   simp[bf,List.drop_take]
  cases hy:(bf s).extract n m;rw[hy] at h;cases hz:bf ((s.take m).drop n);rw[hz] at h;simp at h;rw[h]
 simp only[execOp,e1,Instr.sliceAt,Instr.slice,Sem.run_bind,run_underlying hu,Result.andThen_ok,Option.map_none,Option.isSome_none,Bool.false_eq_true,if_false,Sem.run_pure]
 rw[show (bf s).size=s.length from rfl,hb]
 simp only[Result.andThen_ok,hex]
end
end Go.Proofs.YtginkbjclkdglaaGreat
