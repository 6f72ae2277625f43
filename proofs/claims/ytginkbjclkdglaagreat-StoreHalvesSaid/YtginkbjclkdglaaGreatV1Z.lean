/- Values apart from memory: what a thing's cells are, its parts. No program in sight. -/
import Derived.WalkKit
import Derived.Lib.Hide
import Derived.Deep.MidRow
import Derived.Maps.AppendAt
import Derived.RegionTactic
import Derived.Deep.QuietTactic
import Derived.BigQuiet
import Derived.WalkSpells
import Derived.WalkLawsBesides
import Derived.Outline
import Derived.Deep.LoopGhost
import Derived.Deep.Cut
import Derived.Deep.Draws
import Derived.Deep.AppendLies
import Derived.StillTailTactics
import Derived.Deep.RegionHeld3
import Derived.Deep.DeepMust
namespace Go.Proofs.YtginkbjclkdglaaGreat
open Go Go.RowKit
theorem Z{α:Sort _}{a:α}:a=a:=rfl
theorem J:True:=True.intro
abbrev O8:=true
abbrev O9:=false
inductive AV where
 |any
 |b(x:Bool)
 |i(k:IntKind)(n:Int)
 |s(x:List UInt8)
 |sl(sz:Nat)(xs:List AV)
 |nil
 |agg(fs:List AV)
 |arr(sz n:Nat)(xs:List AV)
 |ptr(key blk:Nat)(path:List Nat)(off:Nat)
 |nilp
 |own(key:Nat)(v:Value)
 |vw(key blk:Nat)(path:List Nat)(st off len cap:Nat)
 |cp(a:AV)
 |fn(f:Fn)(caps:List AV)
 |nilf
 |ifc(t:TypeId)(a:AV)
 |nili
 |tup(xs:List AV)
def bf(l:List UInt8):ByteArray:=⟨l.toArray⟩
def AV.isAgg:AV→Bool
 |.agg _|.arr ..=>true
 |_=>false
def ch(a:AV)(vs:List Value):Value:=if a.isAgg then .agg vs.toArray else vs.headD undef
mutual
def gz:AV→Nat
 |.agg fs=>xL fs
 |.arr sz n _=>n*sz
 |.tup _=>0
 |_=>1
def xL:List AV→Nat
 |[]=>0
 |x::xs=>gz x+xL xs
end
mutual
def bw(w:World)(F:Nat→Prop):AV→List Value→Prop
 |.any,cs=>∃u,cs=[u]∧u.oneCell'=true
 |.b x,cs=>cs=[.bool x]
 |.i k n,cs=>cs=[.int k n]
 |.s x,cs=>cs=[.string (bf x)]∧x.length≤maxLen
 |.sl sz xs,cs=>∃A cap,cs=[.slice A xs.length cap]∧xs.length≤cap∧cap≤maxLen∧(xs≠[]→∃b off,A=some ⟨b,off,none⟩∧F b∧d8 w F b off sz xs)
 |.nil,cs=>cs=[.slice none 0 0]
 |.agg fs,cs=>fK w F fs cs
 |.arr sz n xs,cs=>xs.length=n∧dq w F sz xs cs
 |.ptr _ b _ off,cs=>cs=[.pointer (some ⟨b,off,none⟩)]
 |.nilp,cs=>cs=[.pointer none]
 |.own _ v,cs=>cs=[v]∧v.oneCell'=true
 |.vw _ b _ _ off len cap,cs=>cs=[.slice (some ⟨b,off,none⟩) len cap]∧len≤cap∧cap≤maxLen
 |.cp a,cs=>∃b off vs,cs=[.pointer (some ⟨b,off,none⟩)]∧F b∧bw w F a vs∧w.rangeAt b off vs
 |.fn f caps,cs=>∃vs,cs=[.func f #[] vs]∧fK w F caps vs.toList
 |.nilf,cs=>cs=[.nilFunc]
 |.ifc t a,cs=>∃vs,cs=[.iface t (ch a vs)]∧bw w F a vs
 |.nili,cs=>cs=[.nilIface]
 |.tup _,_=>False
def d8(w:World)(F:Nat→Prop)(b off sz:Nat):List AV→Prop
 |[]=>True
 |x::xs=>(∃cs,bw w F x cs∧cs.length=sz∧w.rangeAt b off cs)∧d8 w F b (off+sz) sz xs
def fK(w:World)(F:Nat→Prop):List AV→List Value→Prop
 |[],cs=>cs=[]
 |x::xs,cs=>∃c1 c2,cs=c1++c2∧bw w F x c1∧fK w F xs c2
def dq(w:World)(F:Nat→Prop)(sz:Nat):List AV→List Value→Prop
 |[],cs=>cs=[]
 |x::xs,cs=>∃c1 c2,cs=c1++c2∧bw w F x c1∧c1.length=sz∧dq w F sz xs c2
end
def cL(w:World)(F:Nat→Prop):AV→Value→Prop
 |.any,_=>True
 |.tup xs,v=>∃vs:List Value,v= .tuple vs.toArray∧xs.length=vs.length∧∀(i:Nat) (x:AV) (u:Value),xs[i]?=some x→vs[i]?=some u→(x= .any∨∃cs,bw w F x cs∧u=ch x cs)
 |a,v=>∃cs,bw w F a cs∧v=ch a cs
section
variable {w w':World} {F F':Nat→Prop}
theorem j0{b off:Nat}{vs:List Value}(h:w.rangeAt b off vs)(hb:w'.heap[b]?=w.heap[b]?):w'.rangeAt b off vs:=
 fun j u hu=>(World.cell?_of_block hb).trans (h j u hu)
mutual
theorem fO(hF:∀b,F b→F' b)(hw:∀b,F b→w'.heap[b]?=w.heap[b]?):∀(a:AV) (cs:List Value),bw w F a cs→bw w' F' a cs
 |.any,_,h=>h
 |.b _,_,h=>h
 |.i _ _,_,h=>h
 |.s _,_,h=>h
 |.sl sz xs,cs,h=>by
  simp only[bw] at h ⊢
  obtain⟨A,cap,h1,h2,h3,h4⟩:=h
  refine⟨A,cap,h1,h2,h3,fun hx=>?_⟩
  obtain⟨b,off,hA,hb,hr⟩:=h4 hx
  exact⟨b,off,hA,hF b hb,tW hF hw b off sz hb xs hr⟩
 |.nil,_,h=>h
 |.agg fs,cs,h=>by simp only[bw] at h ⊢;exact sQ hF hw fs cs h
 |.arr sz n xs,cs,h=>by simp only[bw] at h ⊢;exact⟨h.1,gP hF hw sz xs cs h.2⟩
 |.ptr _ _ _ _,_,h=>h
 |.nilp,_,h=>h
 |.own _ _,_,h=>h
 |.vw _ _ _ _ _ _ _,_,h=>h
 |.cp a,cs,h=>by
  simp only[bw] at h ⊢
  obtain⟨b,off,vs,h1,h2,h3,h4⟩:=h
  exact⟨b,off,vs,h1,hF b h2,fO hF hw a vs h3,j0 h4 (hw b h2)⟩
 |.fn f caps,cs,h=>by
  simp only[bw] at h ⊢
  obtain⟨vs,h1,h2⟩:=h
  exact⟨vs,h1,sQ hF hw caps _ h2⟩
 |.nilf,_,h=>h
 |.ifc t a,cs,h=>by
  simp only[bw] at h ⊢
  obtain⟨vs,h1,h2⟩:=h
  exact⟨vs,h1,fO hF hw a _ h2⟩
 |.nili,_,h=>h
 |.tup _,_,h=>h
theorem tW(hF:∀b,F b→F' b)(hw:∀b,F b→w'.heap[b]?=w.heap[b]?)(b off sz:Nat)(hb:F b):∀(xs:List AV),d8 w F b off sz xs→d8 w' F' b off sz xs
 |[],_=>trivial
 |x::xs,h=>by
  simp only[d8] at h ⊢
  obtain⟨⟨cs,h1,h2,h3⟩,h4⟩:=h
  exact⟨⟨cs,fO hF hw x cs h1,h2,j0 h3 (hw b hb)⟩,tW hF hw b (off+sz) sz hb xs h4⟩
theorem sQ(hF:∀b,F b→F' b)(hw:∀b,F b→w'.heap[b]?=w.heap[b]?):∀(xs:List AV) (cs:List Value),fK w F xs cs→fK w' F' xs cs
 |[],_,h=>h
 |x::xs,cs,h=>by
  simp only[fK] at h ⊢
  obtain⟨c1,c2,h1,h2,h3⟩:=h
  exact⟨c1,c2,h1,fO hF hw x c1 h2,sQ hF hw xs c2 h3⟩
theorem gP(hF:∀b,F b→F' b)(hw:∀b,F b→w'.heap[b]?=w.heap[b]?)(sz:Nat):∀(xs:List AV) (cs:List Value),dq w F sz xs cs→dq w' F' sz xs cs
 |[],_,h=>h
 |x::xs,cs,h=>by
  simp only[dq] at h ⊢
  obtain⟨c1,c2,h1,h2,h3,h4⟩:=h
  exact⟨c1,c2,h1,fO hF hw x c1 h2,h3,gP hF hw sz xs c2 h4⟩
end
mutual
theorem dF:∀(a:AV) (cs:List Value),bw w F a cs→cs.length=gz a
 |.any,_,h=>by simp only[bw] at h;obtain⟨u,h,_⟩:=h;subst h;rfl
 |.b _,_,h=>by simp only[bw] at h;subst h;rfl
 |.i _ _,_,h=>by simp only[bw] at h;subst h;rfl
 |.s _,_,h=>by simp only[bw] at h;rw[h.1];rfl
 |.sl sz xs,cs,h=>by simp only[bw] at h;obtain⟨A,cap,h1,_⟩:=h;subst h1;rfl
 |.nil,_,h=>by simp only[bw] at h;subst h;rfl
 |.agg fs,cs,h=>by simp only[bw] at h;simp only[gz];exact xS fs cs h
 |.arr sz n xs,cs,h=>by simp only[bw] at h;simp only[gz];rw[←h.1];exact jZ sz xs cs h.2
 |.ptr _ _ _ _,_,h=>by simp only[bw] at h;subst h;rfl
 |.nilp,_,h=>by simp only[bw] at h;subst h;rfl
 |.own _ _,_,h=>by simp only[bw] at h;rw[h.1];rfl
 |.vw _ _ _ _ _ _ _,_,h=>by simp only[bw] at h;rw[h.1];rfl
 |.cp a,cs,h=>by simp only[bw] at h;obtain⟨b,off,vs,h1,_⟩:=h;subst h1;rfl
 |.fn f caps,cs,h=>by simp only[bw] at h;obtain⟨vs,h1,_⟩:=h;subst h1;rfl
 |.nilf,_,h=>by simp only[bw] at h;subst h;rfl
 |.ifc t a,cs,h=>by simp only[bw] at h;obtain⟨vs,h1,_⟩:=h;subst h1;rfl
 |.nili,_,h=>by simp only[bw] at h;subst h;rfl
 |.tup _,_,h=>by simp only[bw] at h
theorem xS:∀(xs:List AV) (cs:List Value),fK w F xs cs→cs.length=xL xs
 |[],_,h=>by simp only[fK] at h;subst h;rfl
 |x::xs,cs,h=>by
  simp only[fK] at h
  obtain⟨c1,c2,h1,h2,h3⟩:=h
  subst h1
  rw[List.length_append,dF x c1 h2,xS xs c2 h3];simp only[xL]
theorem jZ(sz:Nat):∀(xs:List AV) (cs:List Value),dq w F sz xs cs→cs.length=xs.length*sz
 |[],_,h=>by simp only[dq] at h;subst h;simp
 |x::xs,cs,h=>by
  simp only[dq] at h
  obtain⟨c1,c2,h1,h2,h3,h4⟩:=h
  subst h1
  rw[List.length_append,jZ sz xs c2 h4,h3,List.length_cons,Nat.add_mul];omega
end
mutual
theorem o5:∀(a:AV) (cs:List Value),bw w F a cs→∀u∈cs,u.oneCell'=true
 |.any,cs,h=>by simp only[bw] at h;obtain⟨u,rfl,h⟩:=h;simpa using h
 |.b _,cs,h=>by simp only[bw] at h;subst h;simp[Value.oneCell']
 |.i _ _,cs,h=>by simp only[bw] at h;subst h;simp[Value.oneCell']
 |.s _,cs,h=>by simp only[bw] at h;rw[h.1];simp[Value.oneCell']
 |.sl sz xs,cs,h=>by simp only[bw] at h;obtain⟨A,cap,h1,_⟩:=h;subst h1;simp[Value.oneCell']
 |.nil,cs,h=>by simp only[bw] at h;subst h;simp[Value.oneCell']
 |.agg fs,cs,h=>by simp only[bw] at h;exact AF fs cs h
 |.arr sz n xs,cs,h=>by simp only[bw] at h;exact rx sz xs cs h.2
 |.ptr _ _ _ _,cs,h=>by simp only[bw] at h;subst h;simp[Value.oneCell']
 |.nilp,cs,h=>by simp only[bw] at h;subst h;simp[Value.oneCell']
 |.own _ _,cs,h=>by simp only[bw] at h;obtain⟨rfl,h⟩:=h;simpa using h
 |.vw _ _ _ _ _ _ _,cs,h=>by simp only[bw] at h;rw[h.1];simp[Value.oneCell']
 |.cp a,cs,h=>by simp only[bw] at h;obtain⟨b,off,vs,h1,_⟩:=h;subst h1;simp[Value.oneCell']
 |.fn f caps,cs,h=>by simp only[bw] at h;obtain⟨vs,h1,_⟩:=h;subst h1;simp[Value.oneCell']
 |.nilf,cs,h=>by simp only[bw] at h;subst h;simp[Value.oneCell']
 |.ifc t a,cs,h=>by simp only[bw] at h;obtain⟨vs,h1,_⟩:=h;subst h1;simp[Value.oneCell']
 |.nili,cs,h=>by simp only[bw] at h;subst h;simp[Value.oneCell']
 |.tup _,cs,h=>by simp only[bw] at h
theorem AF:∀(xs:List AV) (cs:List Value),fK w F xs cs→∀u∈cs,u.oneCell'=true
 |[],cs,h=>by simp only[fK] at h;subst h;simp
 |x::xs,cs,h=>by
  simp only[fK] at h
  obtain⟨c1,c2,rfl,h2,h3⟩:=h
  intro u hu
  rcases List.mem_append.1 hu with hu|hu
  ·exact o5 x c1 h2 u hu
  ·exact AF xs c2 h3 u hu
theorem rx(sz:Nat):∀(xs:List AV) (cs:List Value),dq w F sz xs cs→∀u∈cs,u.oneCell'=true
 |[],cs,h=>by simp only[dq] at h;subst h;simp
 |x::xs,cs,h=>by
  simp only[dq] at h
  obtain⟨c1,c2,rfl,h2,_,h3⟩:=h
  intro u hu
  rcases List.mem_append.1 hu with hu|hu
  ·exact o5 x c1 h2 u hu
  ·exact rx sz xs c2 h3 u hu
end
theorem fN(hF:∀b,F b→F' b)(hw:∀b,F b→w'.heap[b]?=w.heap[b]?)(a:AV)(v:Value)(h:cL w F a v):cL w' F' a v:=by
 cases a
 case any=>exact True.intro
 case tup xs=>
  obtain⟨vs,h1,h2,h3⟩:=h
  exact⟨vs,h1,h2,fun i x u hx hu=>(h3 i x u hx hu).imp id fun ⟨cs,hc,he⟩=>⟨cs,fO hF hw _ _ hc,he⟩⟩
 all_goals
  obtain⟨cs,hc,he⟩:=h
  exact⟨cs,fO hF hw _ _ hc,he⟩
theorem ll{a:AV}{cs:List Value}(h:bw w F a cs):cL w F a (ch a cs):=by
 cases a
 case any=>exact True.intro
 case tup xs=>simp only[bw] at h
 all_goals exact⟨cs,h,rfl⟩
end
def AQ(fs:List AV)(k:Nat):Nat:=xL (fs.take k)
section
variable {w:World} {F:Nat→Prop}
theorem ru:∀(fs:List AV) (k:Nat) (x:AV) (cs:List Value),fK w F fs cs→fs[k]?=some x→
 ∃pre mid post,cs=pre++mid++post∧pre.length=AQ fs k∧bw w F x mid∧∀y ys,bw w F y ys→fK w F (fs.set k y) (pre++ys++post)
 |[],k,x,cs,_,h=>by simp at h
 |f::fs,0,x,cs,h,hx=>by
  simp only[fK] at h
  obtain⟨c1,c2,h1,h2,h3⟩:=h
  simp only[List.getElem?_cons_zero,Option.some.injEq] at hx
  subst hx
  refine⟨[],c1,c2,by simpa using h1,rfl,h2,fun y ys hy=>?_⟩
  simp only[List.set_cons_zero,fK]
  exact⟨ys,c2,by simp,hy,h3⟩
 |f::fs,k+1,x,cs,h,hx=>by
  simp only[fK] at h
  obtain⟨c1,c2,h1,h2,h3⟩:=h
  rw[List.getElem?_cons_succ] at hx
  obtain⟨pre,mid,post,e1,e2,e3,e4⟩:=ru fs k x c2 h3 hx
  refine⟨c1++pre,mid,post,by rw[h1,e1];simp,?_,e3,fun y ys hy=>?_⟩
  ·rw[List.length_append,e2,dF _ _ h2];simp only[AQ,List.take_succ_cons,xL]
  ·simp only[List.set_cons_succ,fK]
   exact⟨c1,_,by simp,h2,e4 y ys hy⟩
theorem uH(sz:Nat):∀(fs:List AV) (k:Nat) (x:AV) (cs:List Value),dq w F sz fs cs→fs[k]?=some x→
 ∃pre mid post,cs=pre++mid++post∧pre.length=k*sz∧bw w F x mid∧mid.length=sz∧∀y ys,bw w F y ys→ys.length=sz→dq w F sz (fs.set k y) (pre++ys++post)
 |[],k,x,cs,_,h=>by simp at h
 |f::fs,0,x,cs,h,hx=>by
  simp only[dq] at h
  obtain⟨c1,c2,h1,h2,h4,h3⟩:=h
  simp only[List.getElem?_cons_zero,Option.some.injEq] at hx
  subst hx
  refine⟨[],c1,c2,by simpa using h1,by simp,h2,h4,fun y ys hy hl=>?_⟩
  simp only[List.set_cons_zero,dq]
  exact⟨ys,c2,by simp,hy,hl,h3⟩
 |f::fs,k+1,x,cs,h,hx=>by
  simp only[dq] at h
  obtain⟨c1,c2,h1,h2,h4,h3⟩:=h
  rw[List.getElem?_cons_succ] at hx
  obtain⟨pre,mid,post,e1,e2,e3,e5,e4⟩:=uH sz fs k x c2 h3 hx
  refine⟨c1++pre,mid,post,by rw[h1,e1];simp,?_,e3,e5,fun y ys hy hl=>?_⟩
  ·rw[List.length_append,e2,h4,Nat.add_mul];omega
  ·simp only[List.set_cons_succ,dq]
   exact⟨c1,_,by simp,h2,h4,e4 y ys hy hl⟩
end
def jL:List Nat→AV→Option (Nat×AV)
 |[],c=>some (0,c)
 |k::p,.agg fs=>
  match fs[k]? with
  |some x=>match jL p x with
   |some (o,y)=>some (AQ fs k+o,y)
   |none=>none
  |none=>none
 |k::p,.arr sz _ xs=>
  match xs[k]? with
  |some x=>match jL p x with
   |some (o,y)=>some (k*sz+o,y)
   |none=>none
  |none=>none
 |_::_,_=>none
def kJ:List Nat→AV→AV→AV
 |[],_,y=>y
 |k::p,.agg fs,y=>.agg (fs.set k (kJ p (fs.getD k .any) y))
 |k::p,.arr sz n xs,y=>.arr sz n (xs.set k (kJ p (xs.getD k .any) y))
 |_::_,c,_=>c
theorem lD{w:World}{F:Nat→Prop}:∀(p:List Nat) (c:AV) (cs:List Value) (o:Nat) (x:AV),bw w F c cs→jL p c=some (o,x)→
 ∃pre mid post,cs=pre++mid++post∧pre.length=o∧bw w F x mid∧∀y ys,bw w F y ys→ys.length=mid.length→bw w F (kJ p c y) (pre++ys++post)
 |[],c,cs,o,x,h,hs=>by
  simp only[jL,Option.some.injEq,Prod.mk.injEq] at hs
  obtain⟨rfl,rfl⟩:=hs
  exact⟨[],cs,[],by simp,rfl,h,fun y ys hy _=>by simpa [kJ] using hy⟩
 |k::p,c,cs,o,x,h,hs=>by
  cases c
  case agg fs=>
   simp only[jL] at hs
   cases hk:fs[k]? with
   |none=>simp[hk] at hs
   |some z=>
    simp only[hk] at hs
    cases hz:jL p z with
    |none=>simp[hz] at hs
    |some q=>
     obtain⟨o',y⟩:=q
     simp only[hz,Option.some.injEq,Prod.mk.injEq] at hs
     obtain⟨rfl,rfl⟩:=hs
     simp only[bw] at h
     obtain⟨pre,mid,post,e1,e2,e3,e4⟩:=ru fs k z cs h hk
     obtain⟨pre2,mid2,post2,f1,f2,f3,f4⟩:=lD p z mid o' y e3 hz
     refine⟨pre++pre2,mid2,post2++post,by rw[e1,f1];simp,by rw[List.length_append,e2,f2],f3,fun u us hu hl=>?_⟩
     have:=e4 _ _ (f4 u us hu hl)
     simp only[kJ,bw]
     rw[List.getD_eq_getElem?_getD,hk]
     simpa using this
  case arr sz n xs=>
   simp only[jL] at hs
   cases hk:xs[k]? with
   |none=>simp[hk] at hs
   |some z=>
    simp only[hk] at hs
    cases hz:jL p z with
    |none=>simp[hz] at hs
    |some q=>
     obtain⟨o',y⟩:=q
     simp only[hz,Option.some.injEq,Prod.mk.injEq] at hs
     obtain⟨rfl,rfl⟩:=hs
     simp only[bw] at h
     obtain⟨pre,mid,post,e1,e2,e3,e5,e4⟩:=uH sz xs k z cs h.2 hk
     obtain⟨pre2,mid2,post2,f1,f2,f3,f4⟩:=lD p z mid o' y e3 hz
     refine⟨pre++pre2,mid2,post2++post,by rw[e1,f1];simp,by rw[List.length_append,e2,f2],f3,fun u us hu hl=>?_⟩
     have:=e4 _ _ (f4 u us hu hl) (by rw[←e5,f1];simp[hl])
     simp only[kJ,bw]
     rw[List.getD_eq_getElem?_getD,hk]
     exact⟨by rw[List.length_set];exact h.1,by simpa using this⟩
  all_goals simp[jL] at hs
end Go.Proofs.YtginkbjclkdglaaGreat
namespace Go.Proofs.YtginkbjclkdglaaGreat
open Go.RowKit
structure dE(S:Nat→Prop)(w w':World):Prop where
 os:w'.os=w.os
 tape:w'.tape=w.tape
 output:w'.output=w.output
 size:w.heap.size≤w'.heap.size
 block:∀k,k<w.heap.size→¬ S k→w'.heap[k]?=w.heap[k]?
def lh:Nat→Prop:=fun _=>False
section
variable {S T:Nat→Prop} {w w' a b c:World}
theorem cD(S:Nat→Prop)(w:World):dE S w w:=⟨rfl,rfl,rfl,Nat.le_refl _,fun _ _ _=>rfl⟩
theorem dE.one(w:World)(b:Nat):dE (fun k=>k=b) w w:=cD _ w
theorem dE.trans_(h:dE S a b)(k:dE T b c)(hs:∀i,i<a.heap.size→T i→S i):dE S a c:=
 ⟨k.os.trans h.os,k.tape.trans h.tape,k.output.trans h.output,Nat.le_trans h.size k.size,
  fun i hi hn=>(k.block i (Nat.lt_of_lt_of_le hi h.size) (fun ht=>hn (hs i hi ht))).trans (h.block i hi hn)⟩
theorem dE.trans(h:dE S a b)(k:dE S b c):dE S a c:=h.trans_ k (fun _ _ x=>x)
theorem dE.mono(h:dE S a b)(hs:∀i,i<a.heap.size→S i→T i):dE T a b:=
 ⟨h.os,h.tape,h.output,h.size,fun i hi hn=>h.block i hi (fun x=>hn (hs i hi x))⟩
theorem dE.drew(h:dE S a w):dE S a w.drew:=⟨h.os,h.tape,h.output,h.size,h.block⟩
theorem dE.alloc(h:dE S a w)(o:Obj):dE S a (w.alloc o):=
 ⟨h.os,h.tape,h.output,Nat.le_trans h.size (by simp),fun i hi hn=>(Below.heap_alloc w o i (Nat.lt_of_lt_of_le hi h.size)).trans (h.block i hi hn)⟩
theorem dE.setCell(h:dE S a w){p:Addr}(hp:p.block<a.heap.size→S p.block)(u:Value):dE S a (w.setCell p u):=
 ⟨h.os,h.tape,h.output,by simpa [World.setCell] using h.size,fun i hi hn=>(Below.heap_setCell w p u i (by
  rintro rfl
  exact hn (hp hi))).trans (h.block i hi hn)⟩
theorem dE.grown{row:Option Nat}(h:dE S a w)(hg:w.grownBy w' row)(hr:∀k,row=some k→k<a.heap.size→S k):dE S a w':=
 ⟨hg.os.trans h.os,hg.tape.trans h.tape,hg.output.trans h.output,Nat.le_trans h.size hg.size,
  fun i hi hn=>(hg.block i (Nat.lt_of_lt_of_le hi h.size) (fun e=>hn (hr i e.symm hi))).trans (h.block i hi hn)⟩
theorem dE.of_below(h:Below w.heap.size w w'):dE S w w':=⟨h.os,h.tape,h.output,h.size,fun k hk _=>h.block k hk⟩
theorem dE.to_below(h:dE S w w'){B:Nat}(hS:∀k,k<B→¬ S k)(hB:B≤w.heap.size):Below B w w':=
 ⟨h.os,h.tape,h.output,h.size,fun k hk=>h.block k (Nat.lt_of_lt_of_le hk hB) (hS k hk)⟩
theorem dE.cell(h:dE S w w'){p:Addr}(hp:p.block<w.heap.size)(hn:¬ S p.block):w'.cell? p=w.cell? p:=World.cell?_of_block (h.block p.block hp hn)
theorem dE.frozen(h:dE S w w'){p:Addr}(hp:p.block<w.heap.size)(hn:¬ S p.block):w'.frozen? p=w.frozen? p:=World.frozen?_of_block (h.block p.block hp hn)
theorem dE.cell_some(h:dE S w w'){p:Addr}{v:Value}(hv:w.cell? p=some v)(hn:¬ S p.block):w'.cell? p=some v:=
 (h.cell (World.block_lt_of_cell? w p hv) hn).trans hv
theorem qV{w:World}{p:Addr}{v:Value}(h:w.cell? p=some v)(o:Obj):(w.alloc o).cell? p=some v:=
 (World.cell?_alloc_lt w o p (World.block_lt_of_cell? w p h)).trans h
end
def iJ(w:World)(g:Nat)(t:TypeId)(cs:Array Value):Prop:=w.heap[g]?=some (.cells cs t (0,0))
section
variable {w w':World} {g:Nat} {t:TypeId} {cs:Array Value} {S:Nat→Prop}
theorem iJ.lt(h:iJ w g t cs):g<w.heap.size:=by
 rcases Nat.lt_or_ge g w.heap.size with hlt|hge
 ·exact hlt
 ·unfold iJ at h;rw[Array.getElem?_eq_none hge] at h;cases h
theorem iJ.cell(h:iJ w g t cs)(i:Nat):w.cell? ⟨g,i,none⟩=cs[i]?:=cell_of_row w g i cs t (0,0) h
theorem iJ.frozen(h:iJ w g t cs)(i:Nat):w.frozen? ⟨g,i,none⟩=false:=by
 unfold iJ at h
 simp[World.frozen?,h]
theorem iJ.new(w:World)(t:TypeId)(cs:Array Value):iJ (w.alloc (.cells cs t)) w.heap.size t cs:=heap_alloc_new w _
theorem iJ.drew(h:iJ w g t cs):iJ w.drew g t cs:=h
theorem iJ.alloc(h:iJ w g t cs)(o:Obj):iJ (w.alloc o) g t cs:=(Below.heap_alloc w o g h.lt).trans h
theorem iJ.set_(h:iJ w g t cs)(i:Nat)(u:Value):iJ (w.setCell ⟨g,i,none⟩ u) g t (cs.setIfInBounds i u):=by
 unfold iJ at h ⊢
 simp[World.setCell,Array.getElem?_modify,h]
theorem iJ.below{B:Nat}(h:iJ w g t cs)(hb:Below B w w')(hg:g<B):iJ w' g t cs:=(hb.block g hg).trans h
theorem iJ.grown{row:Option Nat}(h:iJ w g t cs)(hb:w.grownBy w' row)(hg:some g≠row):iJ w' g t cs:=(hb.block g h.lt hg).trans h
theorem iJ.mod(h:iJ w g t cs)(hb:dE S w w')(hg:¬ S g):iJ w' g t cs:=(hb.block g h.lt hg).trans h
end
section
variable {α:Type} {enc:α→List Value} {size:Nat}
theorem BN(he:∀x,(enc x).length=size)(xs:List α):(xs.flatMap enc).length=xs.length*size:=by
 induction xs with
 |nil=>simp
 |cons x xs ih=>simp[he,ih,Nat.add_mul,Nat.add_comm]
theorem Iy(he:∀x,(enc x).length=size)(xs:List α)(k j:Nat)(hj:j<size):(xs.flatMap enc)[k*size+j]?=(xs[k]?).bind fun x=>(enc x)[j]?:=by
 induction xs generalizing k with
 |nil=>simp
 |cons x xs ih=>
  cases k with
  |zero=>simp[List.getElem?_append_left,he,hj]
  |succ k=>
   rw[List.flatMap_cons,List.getElem?_append_right (by rw[he,Nat.add_mul];omega),he,show (k+1)*size+j - size=k*size+j by rw[Nat.add_mul];omega,ih]
   simp
end
def q4{α:Type}(w:World)(F:Nat→Prop)(enc:α→List Value)(size:Nat)(A:Option Addr)(xs:List α):Prop:=
 xs≠[]→∃b off,A=some ⟨b,off,none⟩∧F b∧∀(k:Nat) x,xs[k]?=some x→∀j u,(enc x)[j]?=some u→w.cell? ⟨b,off+k*size+j,none⟩=some u
def Sl{α:Type}(w:World)(F:Nat→Prop)(enc:α→List Value)(size:Nat)(v:Value)(xs:List α):Prop:=
 ∃A cap,v= .slice A xs.length cap∧xs.length≤cap∧cap≤maxLen∧q4 w F enc size A xs
section
variable {α:Type} {enc:α→List Value} {size:Nat} {w w':World} {F G S:Nat→Prop} {A:Option Addr} {v:Value} {xs:List α}
theorem q4.nil:q4 w F enc size A []:=fun h=>(h rfl).elim
theorem q4.lt_(h:q4 w F enc size A xs)(hx:xs≠[])(he:∀x,0<(enc x).length){b off:Nat}(hA:A=some ⟨b,off,none⟩):b<w.heap.size:=by
 obtain⟨b',off',hA',hb,hc⟩:=h hx
 rw[hA] at hA';injection hA' with hA';injection hA' with h1 h2;subst h1
 cases xs with
 |nil=>exact(hx rfl).elim
 |cons x xs=>
  have:=World.block_lt_of_cell? w _ (hc 0 x rfl 0 _ (List.getElem?_eq_getElem (he x)))
  exact this
theorem q4.imp(h:q4 w F enc size A xs)(hF:∀k,F k→G k):q4 w G enc size A xs:=by
 intro hx
 obtain⟨b,off,hA,hb,hc⟩:=h hx
 exact⟨b,off,hA,hF b hb,hc⟩
theorem q4.here(h:q4 w F enc size A xs)(he:∀x,0<(enc x).length):q4 w (fun g=>g<w.heap.size) enc size A xs:=by
 intro hx
 obtain⟨b,off,hA,hb,hc⟩:=h hx
 exact⟨b,off,hA,q4.lt_ h hx he hA,hc⟩
theorem q4.below(h:q4 w F enc size A xs)(hm:Below w.heap.size w w'):q4 w' F enc size A xs:=by
 intro hx
 obtain⟨b,off,hA,hb,hc⟩:=h hx
 exact⟨b,off,hA,hb,fun k x hk j u hu=>(dE.of_below (S:=lh) hm).cell_some (hc k x hk j u hu) (fun h=>h)⟩
theorem q4.mod(h:q4 w F enc size A xs)(hm:dE S w w')(hF:∀k,F k→¬ S k):q4 w' F enc size A xs:=by
 intro hx
 obtain⟨b,off,hA,hb,hc⟩:=h hx
 exact⟨b,off,hA,hb,fun k x hk j u hu=>hm.cell_some (hc k x hk j u hu) (hF b hb)⟩
theorem Sl.below(h:Sl w F enc size v xs)(hm:Below w.heap.size w w'):Sl w' F enc size v xs:=by
 obtain⟨A,cap,hv,h1,h2,hs⟩:=h
 exact⟨A,cap,hv,h1,h2,hs.below hm⟩
theorem Sl.mod(h:Sl w F enc size v xs)(hm:dE S w w')(hF:∀k,F k→¬ S k):Sl w' F enc size v xs:=by
 obtain⟨A,cap,hv,h1,h2,hs⟩:=h
 exact⟨A,cap,hv,h1,h2,hs.mod hm hF⟩
theorem Sl.here(h:Sl w F enc size v xs)(he:∀x,0<(enc x).length):Sl w (fun g=>g<w.heap.size) enc size v xs:=by
 obtain⟨A,cap,hv,h1,h2,hs⟩:=h
 exact⟨A,cap,hv,h1,h2,hs.here he⟩
theorem Sl.imp(h:Sl w F enc size v xs)(hF:∀k,F k→G k):Sl w G enc size v xs:=by
 obtain⟨A,cap,hv,h1,h2,hs⟩:=h
 exact⟨A,cap,hv,h1,h2,hs.imp hF⟩
theorem Sl.len(h:Sl w F enc size v xs):xs.length≤maxLen:=by
 obtain⟨A,cap,hv,h1,h2,hs⟩:=h
 exact Nat.le_trans h1 h2
theorem Sl.nil(w:World)(F:Nat→Prop)(enc:α→List Value)(size:Nat):Sl w F enc size (.slice none 0 0) []:=⟨none,0,rfl,Nat.le_refl _,Nat.zero_le _,q4.nil⟩
theorem q4.cut(h:q4 w F enc size A xs){i j cap:Nat}(hij:i≤j)(hj:j≤xs.length)(hc:xs.length≤cap):
 q4 w F enc size (if cap=i then A else A.map (·.add (i*size))) ((xs.drop i).take (j - i)):=by
 intro hx
 have hne:(xs.drop i).take (j - i)≠[]:=hx
 have hlt:i<j:=by
  rcases Nat.lt_or_ge i j with h1|h1
  ·exact h1
  ·exfalso;apply hne;rw[show j - i=0 by omega];rfl
 obtain⟨b,off,hA,hb,hcell⟩:=h (by rintro rfl;simp at hj;omega)
 subst hA
 refine⟨b,off+i*size,?_,hb,?_⟩
 ·rw[if_neg (by omega)]
  simp[Addr.add]
 ·intro k x hk q u hu
  have hk':xs[i+k]?=some x:=by
   rw[List.getElem?_take] at hk
   split at hk
   ·rwa [List.getElem?_drop] at hk
   ·cases hk
  have:=hcell (i+k) x hk' q u hu
  rw[show off+i*size+k*size+q=off+(i+k)*size+q by rw[Nat.add_mul];omega]
  exact this
end
def pK{α:Type}(w:World)(B:Nat)(e:TypeId)(enc:α→List Value)(size:Nat)(v:Value)(xs:List α):Prop:=
 w.ownsRow B e size v xs.length (xs.flatMap enc)
section
variable {α:Type} {enc:α→List Value} {size:Nat} {w w':World} {F G S:Nat→Prop} {B:Nat} {e:TypeId} {v:Value} {xs:List α}
theorem pK.nil(w:World)(B:Nat)(e:TypeId)(enc:α→List Value)(size:Nat):pK w B e enc size (.slice none 0 0) []:=World.ownsRow_nil w B e size
theorem pK.made(w:World)(cur:Array Value)(cap:Nat){B:Nat}(e:TypeId)(enc:α→List Value)(size:Nat)(hb:B≤w.heap.size)(hm:cap≤maxLen)(hs:cur.size=cap*size):
 pK (w.alloc (.cells cur e)) B e enc size (.slice (some ⟨w.heap.size,0,none⟩) 0 cap) []:=World.ownsRow_made w cur cap hb hm hs
theorem pK.empty(w:World){B:Nat}(e:TypeId)(enc:α→List Value)(size:Nat)(hb:B≤w.heap.size):
 pK (w.alloc (.cells #[] e)) B e enc size (.slice (some ⟨w.heap.size,0,none⟩) 0 0) []:=World.ownsRow_made w #[] 0 hb (Nat.zero_le _) (by simp)
theorem pK.lt(h:pK w B e enc size v xs):∀k,v.ownBlock=some k→B≤k∧k<w.heap.size:=World.ownsRow.lt h
theorem pK.mod(h:pK w B e enc size v xs)(hm:dE S w w')(hv:∀k,v.ownBlock=some k→¬ S k):pK w' B e enc size v xs:=by
 refine⟨h.1,?_⟩
 rcases h.2 with hn|⟨g,cap,cur,rfl,hb,hgg,rest⟩
 ·exact .inl hn
 ·refine .inr ⟨g,cap,cur,rfl,hb,?_,rest⟩
  rw[hm.block g (Array.getElem?_eq_some_iff.1 hgg).1 (hv g rfl)]
  exact hgg
theorem pK.below(h:pK w B e enc size v xs)(hm:Below w.heap.size w w'):pK w' B e enc size v xs:=h.mod (dE.of_below (S:=lh) hm) (fun _ _ h=>h)
theorem pK.base(h:pK w B e enc size v xs){B':Nat}(hB:B'≤B):pK w B' e enc size v xs:=by
 refine⟨h.1,?_⟩
 rcases h.2 with hn|⟨g,cap,cur,hv,hb,rest⟩
 ·exact .inl hn
 ·exact .inr ⟨g,cap,cur,hv,Nat.le_trans hB hb,rest⟩
theorem pK.alloc(h:pK w B e enc size v xs)(o:Obj):pK (w.alloc o) B e enc size v xs:=World.ownsRow.alloc h o
theorem pK.drew(h:pK w B e enc size v xs):pK w.drew B e enc size v xs:=h
theorem pK.sl(h:pK w B e enc size v xs)(he:∀x,(enc x).length=size):Sl w (fun k=>v.ownBlock=some k) enc size v xs:=by
 rcases h.2 with ⟨rfl,h0⟩|⟨g,cap,cur,rfl,hb,hgg,hn,hm,hsz,ht⟩
 ·have:xs=[]:=List.eq_nil_of_length_eq_zero h0
  subst this
  exact Sl.nil _ _ _ _
 ·refine⟨_,cap,rfl,hn,hm,fun hx=>⟨g,0,rfl,rfl,fun k x hk j u hu=>?_⟩⟩
  have hj:j<size:=by
   have:=(List.getElem?_eq_some_iff.1 hu).1
   rwa [he] at this
  have hfl:(xs.flatMap enc)[k*size+j]?=some u:=by rw[Iy he _ _ _ hj,hk];exact hu
  have:=World.ownsRow.cells (v:=.slice (some ⟨g,0,none⟩) xs.length cap) h (g:=g) rfl (k*size+j) u hfl
  rw[show ((⟨g,0,none⟩:Addr).add (k*size+j))=⟨g,k*size+j,none⟩ by unfold Addr.add;split<;>simp_all] at this
  simpa [Nat.zero_add] using this
end
theorem Iw{α:Type}{enc:α→List Value}{size:Nat}(he:∀x,(enc x).length=size)(xs:List α)(k j:Nat)(hk:k<xs.length)(hj:j<size)(u:Value)(x':α)(hx:enc x'=(enc xs[k]).set j u):
 (xs.flatMap enc).set (k*size+j) u=(xs.set k x').flatMap enc:=by
 induction xs generalizing k with
 |nil=>simp at hk
 |cons x xs ih=>
  cases k with
  |zero=>
   simp only[List.flatMap_cons,Nat.zero_mul,Nat.zero_add,List.set_cons_zero,List.getElem_cons_zero] at hx ⊢
   rw[List.set_append_left _ _ (by rw[he];exact hj),hx]
  |succ k=>
   simp only[List.flatMap_cons,List.set_cons_succ,List.getElem_cons_succ,List.length_cons] at hx hk ⊢
   rw[List.set_append_right _ _ (by rw[he,Nat.add_mul];omega),he,show (k+1)*size+j - size=k*size+j by rw[Nat.add_mul];omega,ih k (by omega) hx]
section
variable {α:Type} {enc:α→List Value} {size:Nat} {w w':World} {B:Nat} {e:TypeId} {v:Value} {xs:List α}
theorem pK.form(h:pK w B e enc size v xs)(hx:xs≠[]):∃g cap cur,v= .slice (some ⟨g,0,none⟩) xs.length cap∧B≤g∧w.heap[g]?=some (.cells cur e (0,0))∧xs.length≤cap∧cap≤maxLen∧cur.size=cap*size∧cur.toList.take (xs.length*size)=xs.flatMap enc:=by
 rcases h.2 with ⟨_,h0⟩|⟨g,cap,cur,hv,hb,rest⟩
 ·exact(hx (List.eq_nil_of_length_eq_zero h0)).elim
 ·exact⟨g,cap,cur,hv,hb,rest⟩
theorem pK.set_(h:pK w B e enc size v xs)(he:∀x,(enc x).length=size){g:Nat}(hg:v.ownBlock=some g)(k j:Nat)(hk:k<xs.length)(hj:j<size)(u:Value)(x':α)(hx:enc x'=(enc xs[k]).set j u):
 pK (w.setCell ⟨g,k*size+j,none⟩ u) B e enc size v (xs.set k x'):=by
 have hne:xs≠[]:=by rintro rfl;simp at hk
 obtain⟨g',cap,cur,rfl,hb,hh,hn,hm,hs,ht⟩:=h.form hne
 have:g'=g:=by simpa [Value.ownBlock] using hg
 subst this
 refine⟨by rw[List.length_set,BN he,List.length_set],.inr ⟨g',cap,cur.setIfInBounds (k*size+j) u,by rw[List.length_set],hb,?_,by rw[List.length_set];exact hn,hm,by simpa using hs,?_⟩⟩
 ·simp[World.setCell,Array.getElem?_modify,hh]
 ·rw[List.length_set,Array.toList_setIfInBounds,List.take_set,ht]
  exact Iw he xs k j hk hj u x' hx
theorem pK.frozen{g n cap:Nat}(h:pK w B e enc size (.slice (some ⟨g,0,none⟩) n cap) xs)(i:Nat):w.frozen? ⟨g,i,none⟩=false:=by
 rcases h.2 with ⟨hv,_⟩|⟨g',c',cur,hv,hb,hgg,rest⟩
 ·cases hv
 ·injection hv with e1;injection e1 with e1;injection e1 with e1;subst e1
  exact iJ.frozen (t:=e) (cs:=cur) hgg i
theorem pK.grown{row:Option Nat}(h:pK w B e enc size v xs)(hg:w.grownBy w' row)(hv:v.ownBlock=none∨v.ownBlock≠row):pK w' B e enc size v xs:=World.ownsRow.kept h hg hv
end
structure SV where
 A:Option Addr
 n:Nat
 cap:Nat
def SV.val(s:SV):Value:=.slice s.A s.n s.cap
def Ox(s:SV):List Value:=[s.val]
structure Kk(P:Program)(t e:TypeId)(size bytes:Nat):Prop where
 ut:P.underlying t=some (.slice e)
 info:∃i z,P.info? e=some i∧i.zero=some z∧i.size=size∧i.bytes=bytes∧z.cells.size=size
 pos:0<size
def IG(P:Program)(e:TypeId)(size bytes:Nat):Bool:=
 match P.info? e with
 |some i=>match i.zero with
  |some z=>i.size==size&&i.bytes==bytes&&z.cells.size==size&&decide (0<size)
  |none=>false
 |none=>false
theorem J0{P:Program}{t e:TypeId}{size bytes:Nat}(ht:P.underlying t=some (.slice e))(h:IG P e size bytes=true):Kk P t e size bytes:=by
 unfold IG at h
 split at h
 ·rename_i i hi
  split at h
  ·rename_i z hz
   simp at h
   exact⟨ht,⟨i,z,hi,hz,h.1.1.1,h.1.1.2,h.1.2⟩,h.2⟩
  ·cases h
 ·cases h
section
variable {P:Program} {α:Type} {enc:α→List Value} {size bytes:Nat} {w:World} {B:Nat} {t e:TypeId} {v:Value} {xs ys:List α}
end
section
variable {P:Program} {ops:Array Oper}
end
def NM(A:Option Addr)(cap i size:Nat):Option Addr:=if cap=i then A else A.map (·.add (i*size))
theorem q4.take{α:Type}{enc:α→List Value}{size:Nat}{w:World}{F:Nat→Prop}{A:Option Addr}{xs:List α}(h:q4 w F enc size A xs)(c:Nat):q4 w F enc size A (xs.take c):=by
 intro hx
 obtain⟨b,off,hA,hF,hc⟩:=h (by rintro rfl;simp at hx)
 refine⟨b,off,hA,hF,fun k x hk=>?_⟩
 rw[List.getElem?_take] at hk
 split at hk
 ·exact hc k x hk
 ·cases hk
theorem q4.drop{α:Type}{enc:α→List Value}{size:Nat}{w:World}{F:Nat→Prop}{A:Option Addr}{xs:List α}(h:q4 w F enc size A xs){c cap:Nat}(hc:c≤xs.length)(hcap:xs.length≤cap):q4 w F enc size (NM A cap c size) (xs.drop c):=by
 have:=h.cut (i:=c) (j:=xs.length) (cap:=cap) hc (Nat.le_refl _) hcap
 rw[List.take_of_length_le (by simp)] at this
 exact this
def z3(w:World)(b:Nat)(x y z:Value):Prop:=w.cell? ⟨b,0,none⟩=some x∧w.cell? ⟨b,1,none⟩=some y∧w.cell? ⟨b,2,none⟩=some z
section
variable {w w':World} {b:Nat} {x y z:Value} {S:Nat→Prop}
theorem z3.lt(h:z3 w b x y z):b<w.heap.size:=World.block_lt_of_cell? w _ h.1
theorem z3.new(w:World)(t:TypeId)(x y z:Value):z3 (w.alloc (.cells #[x,y,z] t)) w.heap.size x y z:=
 ⟨(iJ.new w t #[x,y,z]).cell 0,(iJ.new w t #[x,y,z]).cell 1,(iJ.new w t #[x,y,z]).cell 2⟩
theorem z3.alloc(h:z3 w b x y z)(o:Obj):z3 (w.alloc o) b x y z:=⟨qV h.1 o,qV h.2.1 o,qV h.2.2 o⟩
theorem z3.drew(h:z3 w b x y z):z3 w.drew b x y z:=h
theorem z3.mod(h:z3 w b x y z)(hm:dE S w w')(hb:¬ S b):z3 w' b x y z:=⟨hm.cell_some h.1 hb,hm.cell_some h.2.1 hb,hm.cell_some h.2.2 hb⟩
theorem z3.below{B:Nat}(h:z3 w b x y z)(hm:Below B w w')(hb:b<B):z3 w' b x y z:=
 ⟨(hm.cell (p:=⟨b,0,none⟩) hb).trans h.1,(hm.cell (p:=⟨b,1,none⟩) hb).trans h.2.1,(hm.cell (p:=⟨b,2,none⟩) hb).trans h.2.2⟩
theorem z3.grown{row:Option Nat}(h:z3 w b x y z)(hg:w.grownBy w' row)(hb:some b≠row):z3 w' b x y z:=⟨hg.cell h.1 hb,hg.cell h.2.1 hb,hg.cell h.2.2 hb⟩
end
theorem Sl.app{α:Type}{enc:α→List Value}{size:Nat}{w w':World}{B:Nat}{o o' v:Value}{xs:List α}(h:Sl w (fun g=>B≤g∧o.ownBlock≠some g) enc size v xs)(he:∀x,0<(enc x).length)
 (hg:w.grownBy w' o.ownBlock)(hv:o'.ownBlock=o.ownBlock∨o'.ownBlock=some w.heap.size):Sl w' (fun g=>B≤g∧o'.ownBlock≠some g) enc size v xs:=by
 obtain⟨A,cap,rfl,h1,h2,hs⟩:=h
 refine⟨A,cap,rfl,h1,h2,fun hx=>?_⟩
 have hlt:=fun b off hA=>q4.lt_ hs hx he (b:=b) (off:=off) hA
 obtain⟨b,off,hA,⟨hB,hb⟩,hc⟩:=hs hx
 have hm:dE (fun k=>o.ownBlock=some k) w w':=(cD _ w).grown hg (fun k hk _=>hk)
 refine⟨b,off,hA,⟨hB,?_⟩,fun k x hk j u hu=>hm.cell_some (hc k x hk j u hu) hb⟩
 rcases hv with hv|hv
 ·rw[hv];exact hb
 ·rw[hv];intro e;injection e with e;have:=hlt b off hA;omega
end Go.Proofs.YtginkbjclkdglaaGreat
