/- Arguments of a statement, of whatever type made of bools, integers, strings, structs, arrays and slices: opened as things. No program in sight. -/
import Derived.Test.YtginkbjclkdglaaGreatV9Z
import Derived.ProofKit
import Derived.OpenShut
import Derived.Deep.Slices
import Derived.ChangeOld
namespace Go.Proofs.YtginkbjclkdglaaGreat
open Go Go.RowKit Go.ChangeShapes Go.WideShapes Go.Deep
inductive Sh where
 |b|i(k:IntKind)|s|sl(sz:Nat)(e:Sh)|agg(fs:List Sh)|arr(sz n:Nat)(e:Sh)
mutual
def xf:Sh→AV→Prop
 |.b,a=>∃x,a= .b x
 |.i k,a=>∃n,a= .i k n∧k.min≤n∧n≤k.max
 |.s,a=>∃x,a= .s x∧x.length≤9223372036854775807
 |.sl sz e,a=>∃xs,a= .sl sz xs∧xs.length≤9223372036854775807∧∀x∈xs,xf e x
 |.agg fs,a=>∃xs,a= .agg xs∧LS fs xs
 |.arr sz n e,a=>∃xs,a= .arr sz n xs∧xs.length=n∧∀x∈xs,xf e x
def LS:List Sh→List AV→Prop
 |[],xs=>xs=[]
 |f::fs,xs=>∃y ys,xs=y::ys∧xf f y∧LS fs ys
end
def oX(T:List (Nat×TI))(rec:Nat→Option Sh):Nat→List (Nat×Nat)→Option (List Sh)
 |_,[]=>some []
 |off,(o,ft)::r=>match bI T ft,rec ft,oX T rec (off+((bI T ft).map (·.sz)).getD 0) r with
  |some _,some sc,some rs=>bif Nat.beq o off then some (sc::rs) else none
  |_,_,_=>none
def DT(T:List (Nat×TI)):Nat→List (Nat×Nat)→Nat
 |off,[]=>off
 |off,(_,ft)::r=>DT T (off+((bI T ft).map (·.sz)).getD 0) r
def CW(T:List (Nat×TI)):Nat→Nat→Option Sh
 |0,_=>none
 |fuel+1,t=>match bI T t with
  |some ⟨.bool,_,_,_⟩=>some .b
  |some ⟨.int k,_,_,_⟩=>some (.i k)
  |some ⟨.string,_,_,_⟩=>some .s
  |some ⟨.slice e,_,_,_⟩=>match bI T e,CW T fuel e with
   |some te,some sc=>bif Nat.blt 0 te.sz then some (.sl te.sz sc) else none
   |_,_=>none
  |some ⟨.struct fs,sz,_,_⟩=>match oX T (CW T fuel) 0 fs with
   |some ss=>bif Nat.beq (DT T 0 fs) sz then some (.agg ss) else none
   |none=>none
  |some ⟨.array n e,sz,_,_⟩=>match bI T e,CW T fuel e with
   |some te,some sc=>bif Nat.beq sz (n*te.sz) then some (.arr te.sz n sc) else none
   |_,_=>none
  |_=>none
theorem ul{α:Type}{n:Nat}{p:Nat→α→Prop}(h:∀i,i<n→∃x,p i x):∃l:List α,l.length=n∧∀i (hi:i<l.length),p i l[i]:=by
 induction n with
 |zero=>exact⟨[],rfl,fun i hi=>by simp at hi⟩
 |succ n ih=>
  obtain⟨l,hl,hp⟩:=ih (fun i hi=>h i (by omega))
  obtain⟨x,hx⟩:=h n (by omega)
  refine⟨l++[x],by simp[hl],fun i hi=>?_⟩
  by_cases h1:i<l.length
  ·rw[List.getElem_append_left h1];exact hp i h1
  ·have:i=l.length:=by simp at hi;omega
   subst this
   rw[List.getElem_append_right (by omega)]
   simp only[Nat.sub_self,List.getElem_cons_zero]
   rw[hl];exact hx
section
variable {H:Type} {enc:TypeId×Value→H} {P:Program} {w:World} {T:List (Nat×TI)}
theorem d7.cellsOf{t:Nat}{ti:TI}(h:d7 P t ti):P.cellsOf t=ti.sz:=by
 obtain⟨i,h1,h2,_⟩:=h.inf
 unfold Program.cellsOf;rw[h1];simpa using h2
theorem EO{F:Nat→Prop}{sz:Nat}:∀(xs:List AV) (cs:List Value),cs.length=xs.length*sz→(∀i (hi:i<xs.length),bw w F xs[i] ((cs.drop (i*sz)).take sz))→dq w F sz xs cs
 |[],cs,hl,_=>by simp only[dq];simpa using hl
 |x::xs,cs,hl,h=>by
  simp only[dq]
  rw[List.length_cons,Nat.add_mul] at hl
  refine⟨cs.take sz,cs.drop sz,(List.take_append_drop _ _).symm,by have h0:=h 0 (Nat.succ_pos _);rw[Nat.zero_mul,List.drop_zero] at h0;exact h0,by rw[List.length_take];omega,EO xs _ (by rw[List.length_drop];omega) (fun i hi=>?_)⟩
  have:=h (i+1) (by simp;omega)
  rw[List.getElem_cons_succ] at this
  rw[List.drop_drop,show sz+i*sz=(i+1)*sz by rw[Nat.add_mul];omega]
  exact this
theorem xQ{F:Nat→Prop}{sz b:Nat}:∀(xs:List AV) (off:Nat),(∀i (hi:i<xs.length),∃cs,bw w F xs[i] cs∧cs.length=sz∧w.rangeAt b (off+i*sz) cs)→d8 w F b off sz xs
 |[],_,_=>trivial
 |x::xs,off,h=>by
  simp only[d8]
  refine⟨by have h0:=h 0 (Nat.succ_pos _);rw[Nat.zero_mul,Nat.add_zero] at h0;exact h0,xQ xs _ (fun i hi=>?_)⟩
  obtain⟨cs,h1,h2,h3⟩:=h (i+1) (by simp;omega)
  rw[List.getElem_cons_succ] at h1
  exact⟨cs,h1,h2,by rw[show off+sz+i*sz=off+(i+1)*sz by rw[Nat.add_mul];omega];exact h3⟩
theorem tY(hT:cP P T){rec:Nat→Option Sh}{n:Nat}{F:Nat→Prop}
 (ih:∀t sh,rec t=some sh→∀(cs:List Value) (x:DataW H×List MemPlace),DataW.trod enc P w 0 (fun _=>true) true n t cs=some x→∃a,xf sh a∧bw w F a cs):
 ∀(fs:List (Nat×Nat)) (off:Nat) (ss:List Sh) (cs:List Value),oX T rec off fs=some ss→cs.length=DT T off fs→
  (∀(i:Nat) o ft,fs[i]?=some (o,ft)→∃x,DataW.trod enc P w 0 (fun _=>true) true n ft ((cs.drop o).take (P.cellsOf ft))=some x)→∃xs,LS ss xs∧fK w F xs (cs.drop off)
 |[],off,ss,cs,h,hl,_=>by
  simp only[oX,Option.some.injEq] at h
  subst h
  refine⟨[],rfl,?_⟩
  simp only[fK,DT] at hl ⊢
  exact List.drop_eq_nil_of_le (by omega)
 |(o,ft)::r,off,ss,cs,h,hl,hx=>by
  simp only[oX] at h
  split at h
  case h_2=>cases h
  rename_i ti sc rs h1 h2 h3
  cases hb:Nat.beq o off with
  |false=>rw[hb] at h;cases h
  |true=>
   rw[hb] at h
   simp only[cond_true,Option.some.injEq] at h
   subst h
   have:=Nat.eq_of_beq_eq_true hb
   subst this
   rw[h1] at h3
   simp only[DT,h1] at hl
   simp only[Option.map_some,Option.getD_some] at h3 hl
   obtain⟨x,hx0⟩:=hx 0 o ft Z
   rw[(aX hT h1).cellsOf] at hx0
   obtain⟨a,ha,hc⟩:=ih ft sc h2 _ _ hx0
   obtain⟨xs,hxs,hr⟩:=tY hT ih r (o+ti.sz) rs cs h3 hl (fun i o' ft' hi=>hx (i+1) o' ft' hi)
   refine⟨a::xs,⟨a,xs,rfl,ha,hxs⟩,?_⟩
   simp only[fK]
   refine⟨_,_,?_,hc,hr⟩
   rw[←List.drop_drop,List.take_append_drop]
theorem uJ(hT:cP P T):∀(fuel:Nat) (t:Nat) (sh:Sh),CW T fuel t=some sh→∀(f:Nat) (cs:List Value) (x:DataW H×List MemPlace),DataW.trod enc P w 0 (fun _=>true) true f t cs=some x→
 ∃a,xf sh a∧bw w (fun b=>b<w.heap.size) a cs
 |0,t,sh,h,_,_,_,_=>by cases h
 |fuel+1,t,sh,h,f,cs,x,hx=>by
  unfold CW at h
  cases ht:bI T t with
  |none=>rw[ht] at h;cases h
  |some ti=>
   rw[ht] at h
   have hok:=aX hT ht
   obtain⟨d,hd,hk⟩:=hok.desc
   obtain⟨k,sz,by_,z⟩:=ti
   cases k<;>first|(simp only[Option.some.injEq] at h;subst h)|skip
   case bool=>
    have hd':P.underlying t=some .bool:=by rw[hd];cases d<;>first|rfl|cases hk
    obtain⟨c,e0,_⟩:=DataW.trod_bool hd' hx
    exact⟨.b c,⟨c,rfl⟩,by simpa [bw] using e0⟩
   case int k=>
    obtain⟨c,e0,_,hw⟩:=DataW.trod_int (nR hok) hx
    refine⟨.i k c,⟨c,rfl,?_⟩,by simpa [bw] using e0⟩
    simpa [Lit.wf] using hw
   case string=>
    obtain⟨c,e0,_,hw⟩:=DataW.trod_string (eX hok) hx
    refine⟨.s c.data.toList,⟨_,rfl,by unfold maxLen at hw;simpa using hw⟩,?_⟩
    simp only[bw]
    exact⟨by rw[sg];exact e0,by simpa using hw⟩
   case slice e=>
    simp only at h
    split at h
    case h_2=>cases h
    rename_i te sc h1 h2
    cases hp:Nat.blt 0 te.sz with
    |false=>rw[hp] at h;cases h
    |true=>
     rw[hp] at h
     simp only[cond_true,Option.some.injEq] at h
     subst h
     have hpos:0<te.sz:=Nat.le_of_ble_eq_true hp
     have hc:=(aX hT h1).cellsOf
     rcases open_slice (ej hok) hx with ⟨h0,_⟩|⟨a,len,cap,m,n,D,Pl,hcs,hb,hl,hm,hmm,hx',hi⟩
     ·refine⟨.sl te.sz [],⟨[],rfl,by simp,by simp⟩,?_⟩
      simp only[bw]
      exact⟨none,0,h0,Nat.le_refl _,Nat.zero_le _,fun h=>absurd Z h⟩
     ·have hmc:m=cap:=by rw[hmm,if_pos Z]
      obtain⟨ys,hyl,hyp⟩:=ul (n:=len) (p:=fun i y=>∃cs',w.cells? 0 (a.add (i*te.sz)) te.sz=some cs'∧xf sc y∧bw w (fun b=>b<w.heap.size) y cs') (fun i hi'=>by
       obtain⟨cs',hc',ht'⟩:=hi i (by omega)
       rw[hc] at hc'
       obtain⟨y,h3,h4⟩:=uJ hT fuel e sc h2 n cs' _ ht'
       exact⟨y,cs',hc',h3,h4⟩)
      have hspot:len≠0→a.spot=none∧a.block<w.heap.size:=by
       intro hne
       obtain⟨cs',hc',_⟩:=hyp 0 (by omega)
       obtain⟨_,h3,h4⟩:=World.cells?_some hc'
       have h5:=h4 0 hpos
       rw[List.getElem?_eq_getElem (by omega)] at h5
       exact⟨by simpa [Addr.add] using World.cell?_spot h5,by simpa [Addr.add] using World.block_lt_of_cell? w _ h5⟩
      refine⟨.sl te.sz ys,⟨ys,rfl,by unfold maxLen at hm;omega,fun y hy=>?_⟩,?_⟩
      ·obtain⟨i,hi',rfl⟩:=List.mem_iff_getElem.1 hy
       obtain⟨_,_,h3,_⟩:=hyp i hi'
       exact h3
      ·simp only[bw]
       refine⟨some a,cap,by rw[hcs,hyl],by omega,hm,fun hne=>?_⟩
       have hne':len≠0:=by rw[←hyl];simpa using hne
       obtain⟨hs1,hs2⟩:=hspot hne'
       obtain⟨b,off,sp⟩:=a
       simp only at hs1 hs2
       subst hs1
       refine⟨b,off,rfl,hs2,xQ _ _ (fun i hi'=>?_)⟩
       obtain⟨cs',hc',_,h4⟩:=hyp i hi'
       obtain⟨_,h5,h6⟩:=World.cells?_some hc'
       refine⟨cs',h4,h5,fun j u hu=>?_⟩
       have hj:j<te.sz:=by rw[←h5];exact(List.getElem?_eq_some_iff.1 hu).1
       have:=h6 j hj
       rw[Addr.add_mid,Addr.add_mid] at this
       rw[this];exact hu
   case struct fs=>
    simp only at h
    split at h
    case h_2=>cases h
    rename_i ss h1
    cases hp:Nat.beq (DT T 0 fs) sz with
    |false=>rw[hp] at h;cases h
    |true=>
     rw[hp] at h
     simp only[cond_true,Option.some.injEq] at h
     subst h
     have hsz:=Nat.eq_of_beq_eq_true hp
     obtain⟨fs0,hd',hfs⟩:∃fs0,P.underlying t=some (.struct fs0)∧fs=fs0.toList.map fun f=>(f.offset,f.type):=by
      cases d<;>first|cases hk|skip
      exact⟨_,hd,rfl⟩
     obtain⟨xs,n,_,_,hcl,hxl,hf⟩:=DataW.trod_struct hd' hx
     rw[hok.cellsOf] at hcl
     obtain⟨ys,hys,hr⟩:=tY (enc:=enc) (w:=w) hT (n:=n) (F:=fun b=>b<w.heap.size) (fun t sh h cs x hx=>uJ hT fuel t sh h n cs x hx) fs 0 ss cs h1 (by rw[hcl];exact hsz.symm) (fun i o ft hi=>by
      subst hfs
      rw[List.getElem?_map] at hi
      cases hg:fs0.toList[i]? with
      |none=>rw[hg] at hi;cases hi
      |some fd=>
       rw[hg] at hi
       simp only[Option.map_some,Option.some.injEq,Prod.mk.injEq] at hi
       obtain⟨rfl,rfl⟩:=hi
       rw[Array.getElem?_toList] at hg
       have h3:=hf i fd hg
       have h4:i<xs.length:=by rw[hxl];exact(Array.getElem?_eq_some_iff.1 hg).1
       rw[List.getElem?_eq_getElem h4] at h3
       exact⟨_,h3⟩)
     refine⟨.agg ys,⟨ys,rfl,hys⟩,?_⟩
     simp only[bw]
     exact hr
   case array n e=>
    simp only at h
    split at h
    case h_2=>cases h
    rename_i te sc h1 h2
    cases hp:Nat.beq sz (n*te.sz) with
    |false=>rw[hp] at h;cases h
    |true=>
     rw[hp] at h
     simp only[cond_true,Option.some.injEq] at h
     subst h
     have hsz:=Nat.eq_of_beq_eq_true hp
     have hc:=(aX hT h1).cellsOf
     obtain⟨xs,m,_,_,hcl,hxl,hf⟩:=DataW.trod_array (m8 hok) hx
     rw[hok.cellsOf] at hcl
     rw[hc] at hf
     obtain⟨ys,hyl,hyp⟩:=ul (n:=n) (p:=fun i y=>xf sc y∧bw w (fun b=>b<w.heap.size) y ((cs.drop (i*te.sz)).take te.sz)) (fun i hi'=>by
      have h3:=hf i hi'
      rw[List.getElem?_eq_getElem (by omega)] at h3
      exact uJ hT fuel e sc h2 m _ _ h3)
     refine⟨.arr te.sz n ys,⟨ys,rfl,hyl,fun y hy=>?_⟩,?_⟩
     ·obtain⟨i,hi',rfl⟩:=List.mem_iff_getElem.1 hy
      exact(hyp i hi').1
     ·simp only[bw]
      exact⟨hyl,EO _ _ (by rw[hyl,hcl];exact hsz) (fun i hi'=>(hyp i hi').2)⟩
   all_goals cases h
theorem nh(hT:cP P T)(fuel:Nat){t:Nat}{sh:Sh}(hs:CW T fuel t=some sh){base:Nat}{v:Value}{d:DataW H}{p:List MemPlace}(hv:Value.okWide P w .any base t v)(h:DataW.Trod enc P w 0 (fun _=>true) true t v d p):
 ∃a,xf sh a∧cL w (fun b=>b<w.heap.size) a v:=by
 obtain⟨f,hf⟩:=h
 obtain⟨a,ha,hc⟩:=uJ hT fuel t sh hs f _ _ hf
 refine⟨a,ha,?_⟩
 have key:v=ch a v.cells.toList:=by
  cases fuel with
  |zero=>cases hs
  |succ fuel=>
   unfold CW at hs
   cases ht:bI T t with
   |none=>rw[ht] at hs;cases hs
   |some ti=>
    rw[ht] at hs
    have hok:=aX hT ht
    obtain⟨dd,hd,hk⟩:=hok.desc
    obtain⟨k,sz,by_,z⟩:=ti
    cases k<;>first|(simp only[Option.some.injEq] at hs;subst hs)|skip
    case bool=>
     have hd':P.underlying t=some .bool:=by rw[hd];cases dd<;>first|rfl|cases hk
     obtain⟨c,rfl⟩:=okWide_bool hd' hv
     obtain⟨x,rfl⟩:=ha;rfl
    case int k=>
     obtain⟨k',c,rfl⟩:=okWide_int (nR hok) hv
     obtain⟨x,rfl,_⟩:=ha;rfl
    case string=>
     obtain⟨c,rfl⟩:=okWide_string (eX hok) hv
     obtain⟨x,rfl,_⟩:=ha;rfl
    case slice e=>
     obtain⟨c,_,_,rfl⟩:=okWide_slice (ej hok) hv
     simp only at hs
     split at hs
     case h_2=>cases hs
     rename_i te sc h1 h2
     cases hp:Nat.blt 0 te.sz with
     |false=>rw[hp] at hs;cases hs
     |true=>
      rw[hp] at hs
      simp only[cond_true,Option.some.injEq] at hs
      subst hs
      obtain⟨x,rfl,_⟩:=ha;rfl
    case struct fs=>
     obtain⟨fs0,hd'⟩:∃fs0,P.underlying t=some (.struct fs0):=by
      cases dd<;>first|cases hk|skip
      exact⟨_,hd⟩
     obtain⟨cs,rfl,_⟩:=okWide_struct hd' hv
     simp only at hs
     split at hs
     case h_2=>cases hs
     cases hp:Nat.beq (DT T 0 fs) sz with
     |false=>rw[hp] at hs;cases hs
     |true=>
      rw[hp] at hs
      simp only[cond_true,Option.some.injEq] at hs
      subst hs
      obtain⟨x,rfl,_⟩:=ha;rfl
    case array n e=>
     have hcs:∃cs,v= .agg cs:=by
      have h:=hv
      simp only[Value.okWide,m8 hok] at h
      obtain⟨cs,h1,_⟩:=h
      exact⟨cs,h1⟩
     obtain⟨cs,rfl⟩:=hcs
     simp only at hs
     split at hs
     case h_2=>cases hs
     rename_i te sc h1 h2
     cases hp:Nat.beq sz (n*te.sz) with
     |false=>rw[hp] at hs;cases hs
     |true=>
      rw[hp] at hs
      simp only[cond_true,Option.some.injEq] at hs
      subst hs
      obtain⟨x,rfl,_⟩:=ha;rfl
    all_goals cases hs
 rw[key]
 exact ll hc
theorem zo{f:FuncId}{args:List AV}(h:aQ P f args [] (fun v os=>v= .b true∧os=[])){vals:List Value}(hr:rr w (fun b=>b<w.heap.size) args vals):
 Calls P f vals.toArray w fun e w'=>e= .returned (.bool true)∧Below w.heap.size w w':=by
 refine(h.run w vals (fun b=>b<w.heap.size) (fun b hb=>⟨hb,by simp[ct]⟩) ⟨fun o ho=>(by cases ho),List.nodup_nil,fun b hb=>(by cases hb)⟩ hr).mono ?_
 rintro e w' ⟨v,r,os',rfl,⟨rfl,rfl⟩,hm,_,_,hv⟩
 obtain⟨cs,hc,rfl⟩:=hv
 simp only[bw] at hc
 subst hc
 exact⟨rfl,hm.to_below (fun k _ hk=>by simp[ct] at hk) (Nat.le_refl _)⟩
theorem sO{F:Nat→Prop}:rr w F [] []:=⟨rfl,fun i x v h=>by simp at h⟩
theorem jY{F:Nat→Prop}{a:AV}{v:Value}{avs:List AV}{vs:List Value}(h:cL w F a v)(hs:rr w F avs vs):rr w F (a::avs) (v::vs):=
 ⟨by simp[hs.1],fun i x u hx hu=>by
  cases i with
  |zero=>
   simp only[List.getElem?_cons_zero,Option.some.injEq] at hx hu
   subst hx;subst hu;exact h
  |succ i=>exact hs.2 i x u (by simpa using hx) (by simpa using hu)⟩
end
theorem Bz{α:Type}{f:α→AV}{Q:α→Prop}{e:Sh}(he:∀x,xf e x→∃t,x=f t∧Q t):∀{xs:List AV},(∀x∈xs,xf e x)→∃l:List α,xs=l.map f∧∀t∈l,Q t
 |[],_=>⟨[],rfl,by simp⟩
 |x::xs,h=>by
  obtain⟨t,rfl,hq⟩:=he x (h x (by simp))
  obtain⟨l,rfl,hl⟩:=Bz he (xs:=xs) (fun y hy=>h y (by simp[hy]))
  exact⟨t::l,rfl,fun y hy=>by
   rcases List.mem_cons.1 hy with rfl|hy
   ·exact hq
   ·exact hl y hy⟩
theorem iu{α:Type}{f:α→AV}{Q:α→Prop}{sz:Nat}{e:Sh}(he:∀x,xf e x→∃t,x=f t∧Q t){a:AV}(h:xf (.sl sz e) a):∃l:List α,a= .sl sz (l.map f)∧l.length≤9223372036854775807∧∀t∈l,Q t:=by
 obtain⟨xs,rfl,h1,h2⟩:=h
 obtain⟨l,rfl,hl⟩:=Bz he h2
 exact⟨l,rfl,by simpa using h1,hl⟩
theorem gH{a:AV}(h:xf (.i .i64) a):∃n:Int,a= .i .i64 n∧ -9223372036854775808≤n∧n≤9223372036854775807:=by
 obtain⟨n,rfl,h1,h2⟩:=h
 exact⟨n,rfl,by simpa [IntKind.min,IntKind.signed,IntKind.bits] using h1,by simpa [IntKind.max,IntKind.signed,IntKind.bits] using h2⟩
theorem gj{a:AV}(h:xf .s a):∃x:List UInt8,a= .s x∧x.length≤9223372036854775807:=h
end Go.Proofs.YtginkbjclkdglaaGreat
