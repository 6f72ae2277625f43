/- Contracts of functions: calls and returns. No program in sight. -/
import Derived.Test.YtginkbjclkdglaaGreatBase2Z
namespace Go.Proofs.YtginkbjclkdglaaGreat
open Go Go.RowKit
structure Jh(w:World)(F:Nat→Prop)(os:List HO):Prop where
 ok:∀o∈os,oG w F o
 nd:(ct os).Nodup
 lt:∀b∈ct os,b<w.heap.size
def rr(w:World)(F:Nat→Prop)(xs:List AV)(vs:List Value):Prop:=xs.length=vs.length∧∀(i:Nat) (x:AV) (v:Value),xs[i]?=some x→vs[i]?=some v→cL w F x v
def pL(w w':World)(F:Nat→Prop)(os os':List HO):Nat→Prop:=fun b=>b<w'.heap.size∧b∉ct os'∧(F b∨w.heap.size≤b∨b∈ct os)
structure aQ(P:Program)(f:FuncId)(args:List AV)(os:List HO)(R:AV→List HO→Prop):Prop where
 fn:∃fn,P.funcs[f]?=some fn∧(fn.name== "runtime.NumGoroutine")=false∧fn.body.isNone=false
 run:∀(w:World) (vals:List Value) (F:Nat→Prop),(∀b,F b→b<w.heap.size∧b∉ct os)→Jh w F os→rr w F args vals→
  Calls P f vals.toArray w fun e w'=>∃v r os',e= .returned v∧R r os'∧dE (·∈ct os) w w'∧Jh w' (pL w w' F os os') os'∧(∀b∈ct os',b∈ct os∨w.heap.size≤b)∧cL w' (pL w w' F os os') r v
theorem aQ.mono{P:Program}{f:FuncId}{args:List AV}{os:List HO}{R R':AV→List HO→Prop}(h:aQ P f args os R)(hr:∀r os',R r os'→R' r os'):aQ P f args os R':=
 ⟨h.fn,fun w vals F h1 h2 h3=>(h.run w vals F h1 h2 h3).mono fun _e _w' ⟨v,r,os',e1,e2,e3⟩=>⟨v,r,os',e1,hr r os' e2,e3⟩⟩
def NY(ks:List Nat)(os:List HO):List (Nat×HO):=ks.zip os
def nY:Nat→List AV→List (Nat×AV)
 |_,[]=>[]
 |i,x::xs=>(i,x)::nY (i+1) xs
def sN(T:List (Nat×TI))(S:St):ResultVar→Option (Prop×AV)
 |.tmp t=>some (True,S.slot t)
 |.cell a t=>match tF T S.heap t (S.slot a) with
  |some r=>some (r.need,r.val)
  |none=>none
def gR(T:List (Nat×TI))(S:St):List ResultVar→Option (Prop×List AV)
 |[]=>some (True,[])
 |r::rs=>match sN T S r,gR T S rs with
  |some (p,x),some (q,xs)=>some (p∧q,x::xs)
  |_,_=>none
def oV:List AV→AV
 |[x]=>x
 |xs=>.tup xs
def Cq(fr:Fr)(x y:AV):Prop:=∀w F v,wR fr w F→cL w F x v→cL w F y v
theorem Cq.slot{fr:Fr}{x y:AV}(h:gY fr x y):Cq fr x y:=h
theorem Cq.tup{fr:Fr}:∀{xs ys:List AV},xs.length=ys.length→(∀(i:Nat) x y,xs[i]?=some x→ys[i]?=some y→y= .any∨(x.isVal=true∧aL fr x y))→Cq fr (.tup xs) (.tup ys):=fun hl h w F v hf hv=>by
 obtain⟨vs,rfl,h1,h2⟩:=hv
 refine⟨vs,rfl,by omega,fun i y u hy hu=>?_⟩
 rename_i xs ys
 have hi:=(List.getElem?_eq_some_iff.1 hy).1
 rcases h i xs[i] y (List.getElem?_eq_getElem (by omega)) hy with h3|⟨h3,h4⟩
 ·exact .inl h3
 ·rcases h2 i xs[i] u (List.getElem?_eq_getElem (by omega)) hu with h5|⟨cs,h5,h6⟩
  ·rw[h5] at h3;cases h3
  ·exact .inr ⟨cs,h4.1 w F cs hf h5,by rw[h6];unfold ch;rw[h4.2]⟩
def M4(T:List (Nat×TI))(fn:Func)(R:AV→List HO→Prop):Exit→St→Prop
 |.ret,S|.normal,S=>∃(ks:List Nat) (p:Prop) (xs:List AV) (r:AV) (os':List (Nat×HO)),gR T S fn.results.toList=some (p,xs)∧p∧Cq (oD S.heap ks) (oV xs) r∧cr (oD S.heap ks) (eP S.heap ks) os'∧R r (os'.map (·.2))
 |_,_=>False
def vu(tmps:Array Value):ResultVar→Sem Value
 |.tmp t=>pure (tmps.getD t undef)
 |.cell a t=>do loadVar t (←asAddr (tmps.getD a undef))
theorem gA{H:List (Nat×HO)}:ct (H.map (·.2))=cC H:=by
 unfold ct cC
 rw[List.flatMap_map]
section
variable {P:Program} {T:List (Nat×TI)} {C:il} {S:St} {a:Act} {w:World}
theorem C3(hT:cP P T)(hs:ep C S a w){rv:ResultVar}{p:Prop}{x:AV}(h:sN T S rv=some (p,x))(hp:p):
 ∃v,cL w (Fz C S.heap w) x v∧(vu a.tmps rv).run P w= .ok v w:=by
 cases rv with
 |tmp t=>
  simp only[sN,Option.some.injEq,Prod.mk.injEq] at h
  obtain⟨rfl,rfl⟩:=h
  exact⟨_,hs.slots t,rfl⟩
 |cell q t=>
  simp only[sN] at h
  split at h
  ·rename_i r hr
   simp only[Option.some.injEq,Prod.mk.injEq] at h
   obtain⟨rfl,rfl⟩:=h
   obtain⟨_,u,h2,h3⟩:=Fd hT hs hr hp (hs.slots q)
   refine⟨u,h2,?_⟩
   have h4:=h3 w (by unfold ur;split<;>first|trivial|(intros;rfl))
   have hptr:∃ad,a.tmps.getD q undef= .pointer (some ad):=by
    have h5:=hs.slots q
    unfold tF at hr
    split at hr
    ·rename_i hq;rw[hq,dg] at h5;exact⟨_,h5⟩
    ·rename_i hq;rw[hq,n0] at h5;obtain⟨b,o,vs,h6,_⟩:=h5;exact⟨_,h6⟩
    ·cases hr
   obtain⟨ad,had⟩:=hptr
   rw[had] at h4
   simp only[vu,had]
   simpa [Instr.loadAt,Instr.sureAddr,asAddr] using h4
  ·cases h
theorem vx(hT:cP P T)(hs:ep C S a w):∀(rs:List ResultVar) (p:Prop) (xs:List AV),gR T S rs=some (p,xs)→p→
 ∃vs:List Value,(rs.mapM (vu a.tmps)).run P w= .ok vs w∧xs.length=vs.length∧∀(i:Nat) x v,xs[i]?=some x→vs[i]?=some v→cL w (Fz C S.heap w) x v
 |[],p,xs,h,_=>by
  simp only[gR,Option.some.injEq,Prod.mk.injEq] at h
  obtain⟨_,rfl⟩:=h
  exact⟨[],rfl,rfl,fun i x v hx=>by simp at hx⟩
 |r::rs,p,xs,h,hp=>by
  simp only[gR] at h
  cases h1:sN T S r with
  |none=>simp[h1] at h
  |some q1=>cases h2:gR T S rs with
   |none=>simp[h1,h2] at h
   |some q2=>
    obtain⟨p1,x1⟩:=q1;obtain⟨p2,xs2⟩:=q2
    simp only[h1,h2,Option.some.injEq,Prod.mk.injEq] at h
    obtain⟨rfl,rfl⟩:=h
    obtain⟨v,hv,hr⟩:=C3 hT hs h1 hp.1
    obtain⟨vs,hrs,hl,hvs⟩:=vx hT hs rs p2 xs2 h2 hp.2
    refine⟨v::vs,?_,by simp[hl],fun i x u hx hu=>?_⟩
    ·rw[List.mapM_cons,Sem.run_bind,hr]
     simp only[Result.andThen_ok,Sem.run_bind,hrs,Sem.run_pure]
    ·cases i with
     |zero=>simp at hx hu;subst hx;subst hu;exact hv
     |succ i=>simp at hx hu;exact hvs i x u hx hu
theorem AD{F:Nat→Prop}{x:AV}{v:Value}(h:cL w F x v)(ht:∀xs,x≠ .tup xs):x= .any∨∃cs,bw w F x cs∧v=ch x cs:=by
 cases x
 case any=>exact .inl Z
 case tup xs=>exact absurd Z (ht xs)
 all_goals exact .inr h
def qk:List AV→Prop
 |[]=>True
 |x::xs=>(match x with|.tup _=>False|_=>True)∧qk xs
theorem x5:∀{xs:List AV},qk xs→∀(i:Nat) x,xs[i]?=some x→∀ys,x≠ .tup ys
 |x::xs,h,0,y,hy,ys=>by simp at hy;subst hy;rintro rfl;exact h.1
 |x::xs,h,i+1,y,hy,ys=>by simp at hy;exact x5 h.2 i y hy ys
theorem aQ.intro(hT:cP P T){f:FuncId}{fn:Func}{c:Code}{args:List AV}{H:List (Nat×HO)}{R:AV→List HO→Prop}{n:Nat}(hf:P.funcs[f]?=some fn)(hb:fn.body=some c)(hn:fn.ntmps=n)(hname:(fn.name== "runtime.NumGoroutine")=false)(hargs:args.length≤n)
 (h:∀C,ag P C c ⟨n,nY 0 args,H⟩ (fun e S'=>M4 T fn R e S'∧∀xs p,gR T S' fn.results.toList=some (p,xs)→qk xs)):aQ P f args (H.map (·.2)) R:=by
 refine⟨⟨fn,hf,hname,by rw[hb];rfl⟩,fun w vals F hF hO hV=>?_⟩
 have hlen:vals.length=args.length:=hV.1.symm
 refine calls_of_wp hf hb (wp_mono ((h ⟨w,F,(·∈ct (H.map (·.2)))⟩).out _ w ?_) ?_)
 ·have hsub:∀b,F b→Fz ⟨w,F,(·∈ct (H.map (·.2)))⟩ H w b:=fun b hb=>⟨(hF b hb).1,by have:=(hF b hb).2;rwa [gA] at this,.inl hb⟩
  refine⟨?_,rfl,fun i=>?_,fun p hp=>jI hsub (hO.ok p.2 (List.mem_map.2 ⟨p,hp,rfl⟩)),by rw[←gA];exact hO.nd,fun b hb=>⟨hO.lt b (by rw[gA];exact hb),.inr (by show b∈ct _;rw[gA];exact hb)⟩,cD _ _⟩
  ·simp[hn,hlen];omega
  ·have hslot:∀(xs:List AV) (j i:Nat),ge (nY j xs) i=if j≤i then (xs[i - j]?).getD .any else .any:=by
    intro xs
    induction xs with
    |nil=>intro j i;simp[nY,ge]
    |cons x xs ih=>
     intro j i
     simp only[nY,ge]
     cases hb:Nat.beq j i with
     |true=>have:=Nat.eq_of_beq_eq_true hb;subst this;simp
     |false=>
      have hne:j≠i:=fun h=>by subst h;simp[Nat.beq_refl] at hb
      simp only[cond_false,ih]
      by_cases hle:j≤i
      ·rw[if_pos (by omega),if_pos hle,show i - j=(i - (j+1))+1 by omega,List.getElem?_cons_succ]
      ·rw[if_neg (by omega),if_neg hle]
   show cL w _ (ge (nY 0 args) i) _
   rw[hslot,if_pos (Nat.zero_le _),Nat.sub_zero]
   cases hx:args[i]? with
   |none=>exact J
   |some x=>
    have hi:=(List.getElem?_eq_some_iff.1 hx).1
    have hv:vals[i]?=some vals[i]:=List.getElem?_eq_getElem (by omega)
    have hg:(vals.toArray++Array.replicate (fn.ntmps - vals.toArray.size) undef).getD i undef=vals[i]:=by
     rw[Array.getD_eq_getD_getElem?,Array.getElem?_append_left (by simp;omega),List.getElem?_toArray,hv];rfl
    show cL w _ x _
    rw[hg]
    exact fN hsub (fun _ _=>rfl) _ _ (hV.2 i x _ hx hv)
 ·rintro e a' w' ⟨S',⟨hk,hnt⟩,hs'⟩
  have main:∀S',(∃(ks:List Nat) (p:Prop) (xs:List AV) (r:AV) (os':List (Nat×HO)),gR T S' fn.results.toList=some (p,xs)∧p∧Cq (oD S'.heap ks) (oV xs) r∧cr (oD S'.heap ks) (eP S'.heap ks) os'∧R r (os'.map (·.2)))→
   (∀xs p,gR T S' fn.results.toList=some (p,xs)→qk xs)→ep ⟨w,F,(·∈ct (H.map (·.2)))⟩ S' a' w'→
   a'.defers=[]∧∃v,(results fn a'.tmps).run P w'= .ok v w'∧(fun e w'=>∃v r os',e=Ending.returned v∧R r os'∧dE (·∈ct (H.map (·.2))) w w'∧Jh w' (pL w w' F (H.map (·.2)) os') os'∧(∀b∈ct os',b∈ct (H.map (·.2))∨w.heap.size≤b)∧cL w' (pL w w' F (H.map (·.2)) os') r v) (.returned v) w':=by
   rintro S' ⟨ks,p,xs,r,os',h1,hp,h2,h3,h4⟩ hnt hs'
   refine⟨hs'.df,?_⟩
   obtain⟨vs,hr,hl,hvs⟩:=vx hT hs' _ p xs h1 hp
   have hres:(results fn a'.tmps).run P w'= .ok (if h:vs.toArray.size=1 then vs.toArray[0] else .tuple vs.toArray) w':=by
    have h0:results fn a'.tmps=(do let vs←fn.results.mapM (vu a'.tmps);pure (if h:vs.size=1 then vs[0] else .tuple vs)):=rfl
    rw[h0,Sem.run_bind,Array.mapM_eq_mapM_toList]
    have:(List.toArray<$>(fn.results.toList.mapM (vu a'.tmps))).run P w'= .ok vs.toArray w':=by
     rw[map_eq_pure_bind,Sem.run_bind,hr];rfl
    rw[this];rfl
   have hsingle:cL w' (Fz ⟨w,F,(·∈ct (H.map (·.2)))⟩ S'.heap w') (oV xs) (if h:vs.toArray.size=1 then vs.toArray[0] else .tuple vs.toArray):=by
    have hno:=hnt xs p h1
    rcases xs with _|⟨x,_|⟨y,ys⟩⟩
    ·have:vs=[]:=List.eq_nil_of_length_eq_zero (by simpa using hl.symm)
     subst this
     exact⟨[],rfl,rfl,fun i x u hx=>by simp at hx⟩
    ·obtain⟨v,rfl⟩:=List.length_eq_one_iff.1 (show vs.length=1 by simpa using hl.symm)
     exact hvs 0 x v Z Z
    ·have hl2:vs.length=ys.length+2:=by simpa using hl.symm
     rw[dif_neg (by simp;omega)]
     exact⟨vs,rfl,by simp[hl2],fun i z u hz hu=>AD (hvs i z u hz hu) (x5 hno i z hz)⟩
   obtain⟨hd,hfr⟩:=ep.dels ks hs'
   obtain⟨g1,g2,g3⟩:=h3.spec
   have hFle:∀b,Fz ⟨w,F,(·∈ct (H.map (·.2)))⟩ (eP S'.heap ks) w' b→pL w w' F (H.map (·.2)) (os'.map (·.2)) b:=fun b hb=>⟨hb.1,fun hin=>hb.2.1 (g1 b (by rw[←gA];exact hin)),hb.2.2⟩
   have hFdel:∀b,Fz ⟨w,F,(·∈ct (H.map (·.2)))⟩ S'.heap w' b→Fz ⟨w,F,(·∈ct (H.map (·.2)))⟩ (eP S'.heap ks) w' b:=fun b hb=>by
    have hsub:∀(r:List Nat) (H:List (Nat×HO)) b,b∈cC (eP H r)→b∈cC H:=by
     intro r
     induction r with
     |nil=>exact fun H b hb=>hb
     |cons k r ih=>
      intro H b hb
      unfold eP at hb
      split at hb
      ·rename_i hg2
       exact(dl hg2).1 b (ih _ b hb)
      ·exact ih _ b hb
    exact⟨hb.1,fun hin=>hb.2.1 (hsub ks _ b hin),hb.2.2⟩
   refine⟨_,hres,_,r,os'.map (·.2),rfl,h4,hs'.mod,⟨fun o ho=>?_,by rw[gA];exact g2 hd.nd,fun b hb=>(hd.lt b (g1 b (by rw[←gA];exact hb))).1⟩,fun b hb=>?_,?_⟩
   ·obtain⟨q,hq,rfl⟩:=List.mem_map.1 ho
    exact jI hFle (g3 w' _ hfr hd.nd hd.heap q hq)
   ·have:=(hd.lt b (g1 b (by rw[←gA];exact hb))).2
    exact this.symm
   ·exact fN hFle (fun _ _=>rfl) _ _ (h2 w' _ _ hfr (fN hFdel (fun _ _=>rfl) _ _ hsingle))
  cases e with
  |ret=>exact main S' hk hnt hs'
  |normal=>exact main S' hk hnt hs'
  |_=>exact hk.elim
def gU(fr:Fr):List AV→List AV→Prop
 |[],[]=>True
 |x::xs,y::ys=>gY fr x y∧gU fr xs ys
 |_,_=>False
theorem qY{fr:Fr}{F:Nat→Prop}(hf:wR fr w F):∀{xs ys:List AV} {vs:List Value},gU fr xs ys→rr w F xs vs→rr w F ys vs
 |[],[],vs,_,h=>h
 |x::xs,y::ys,[],_,h=>by have:=h.1;simp at this
 |x::xs,y::ys,v::vs,h,h2=>by
  have ih:=qY hf h.2 (vs:=vs) ⟨by have:=h2.1;simpa using this,fun i x v hx hv=>h2.2 (i+1) x v (by simpa using hx) (by simpa using hv)⟩
  refine⟨by simp[ih.1],fun i z u hz hu=>?_⟩
  cases i with
  |zero=>
   simp at hz hu
   subst hz;subst hu
   exact h.1 w F _ hf (h2.2 0 x v Z Z)
  |succ i=>exact ih.2 i z u (by simpa using hz) (by simpa using hu)
 |x::xs,[],vs,h,_=>h.elim
 |[],y::ys,vs,h,_=>h.elim
theorem wF:∀(ks:List Nat) (os:List HO),ks.length=os.length→cC (ks.zip os)=ct os
 |[],[],_=>rfl
 |k::ks,o::os,h=>by
  have ih:=wF ks os (by simpa using h)
  rw[List.zip_cons_cons,cI,ih]
  unfold ct
  rw[List.flatMap_cons]
 |[],o::os,h=>by simp at h
 |k::ks,[],h=>by simp at h
theorem sf{f:FuncId}{fn:Func}(hf:P.funcs[f]?=some fn)(h1:(fn.name== "runtime.NumGoroutine")=false)(h2:fn.body.isNone=false)(args:Array Value):(callFunc f args).run P w= .ok (.enter f args) w:=by
 unfold callFunc
 rw[Sem.run_bind,show (program).run P w= .ok P w from rfl]
 simp only[Result.andThen_ok,hf,h1,h2,Bool.false_eq_true,if_false,Sem.run_pure]
theorem aq.callG{m:OM}{ops:Array Oper}{l:List Oper}{K:St→Prop}{d:Option Tmp}{op:Op}{f:FuncId}{ty:Nat}{pos:String}{aft:Array Edge}{gd:Option (Nat×Bool)}(hw:cH ops S gd=bE gd)(heff:jP P op=true)
 (xs:List AV)(hev:∀a w,ep C S a w→∃vals:List Value,rr w (Fz C S.heap w) xs vals∧execOp a.eval ⟨d,op,ty,pos,aft,gd⟩=callFunc f vals.toArray)
 (fz pass ks:List Nat){as_:List AV}{os0 os:List HO}{H1:List (Nat×HO)}{R:AV→List HO→Prop}
 (hspec:aQ P f as_ os R)(hargs:gU (oD S.heap fz) xs as_)(htk:kY (eP S.heap fz) pass=some (os0,H1))(hos:rR (oD S.heap fz) os0 os)
 (hd:z5 S d=true)(hm:m.oke d pass=true)
 (h:∀r os',R r os'→ks.length=os'.length∧aq m P C ops l (St.putO ⟨S.n,S.slots,ks.zip os'++H1⟩ d r) K):
 aq m P C ops (⟨d,op,ty,pos,aft,gd⟩::l) S K:=by
 refine aq.act hw pass hm heff fun a w hs RR Q hK' _=>?_
 obtain⟨hd1,hfr⟩:=ep.dels fz hs
 obtain⟨t1,t2,t3,t4⟩:=nT htk hd1.nd
 obtain⟨o1,o2⟩:=qN hfr hos
 have hF1:∀b,Fz C S.heap w b→Fz C (eP S.heap fz) w b:=fun b hb=>by
  have hsub:∀(r:List Nat) (H:List (Nat×HO)) b,b∈cC (eP H r)→b∈cC H:=by
   intro r
   induction r with
   |nil=>exact fun H b hb=>hb
   |cons k r ih=>
    intro H b hb
    unfold eP at hb
    split at hb
    ·rename_i hg2
     exact(dl hg2).1 b (ih _ b hb)
    ·exact ih _ b hb
  exact⟨hb.1,fun hin=>hb.2.1 (hsub fz _ b hin),hb.2.2⟩
 obtain⟨fn,f1,f2,f3⟩:=hspec.fn
 unfold Oper.wp
 obtain⟨vals,hvals,hexec⟩:=hev a w hs
 rw[hexec,sf f1 f2 f3]
 refine Calls.mono (hspec.run w vals (Fz C (eP S.heap fz) w) (fun b hb=>⟨hb.1,fun hin=>hb.2.1 (t2 b (List.mem_append.2 (.inl (by rw[o1] at hin;exact hin))))⟩) ⟨o2 (fun o ho=>?_),?_,fun b hb=>?_⟩ ?_) ?_
 ·obtain⟨p,hp,_,rfl⟩:=t3 o ho
  exact hd1.heap p hp
 ·rw[o1];exact(List.nodup_append.1 t1).1
 ·rw[o1] at hb;exact(hd1.lt b (t2 b (List.mem_append.2 (.inl hb)))).1
 ·exact qY hfr hargs ⟨hvals.1,fun i x v hx hv=>fN hF1 (fun _ _=>rfl) _ _ (hvals.2 i x v hx hv)⟩
 ·rintro e w' ⟨v,r,os',rfl,hR,hm,hown,hbs,hv⟩
  obtain⟨hkl,hK2⟩:=h r os' hR
  have hb0:cC (ks.zip os'++H1)=ct os'++cC H1:=by rw[cx,wF ks os' hkl]
  have hlt:∀b∈cC (ks.zip os'++H1),b<w'.heap.size∧(b∈cC (eP S.heap fz)∨w.heap.size≤b):=by
   intro b hb
   rw[hb0] at hb
   rcases List.mem_append.1 hb with hb|hb
   ·refine⟨hown.lt b hb,?_⟩
    rcases hbs b hb with h1|h1
    ·rw[o1] at h1;exact .inl (t2 b (List.mem_append.2 (.inl h1)))
    ·exact .inr h1
   ·have h2:=t2 b (List.mem_append.2 (.inr hb))
    exact⟨Nat.lt_of_lt_of_le (hd1.lt b h2).1 hm.size,.inl h2⟩
  have hT:∀b,b<w.heap.size→b∈ct os→b∈cC (eP S.heap fz):=fun b _ hb=>by rw[o1] at hb;exact t2 b (List.mem_append.2 (.inl hb))
  have hFA:∀b,pL w w' (Fz C (eP S.heap fz) w) os os' b→Fz C (ks.zip os'++H1) w' b:=by
   intro b hb
   refine⟨hb.1,fun hin=>?_,?_⟩
   ·rw[hb0] at hin
    rcases List.mem_append.1 hin with h1|h1
    ·exact hb.2.1 h1
    ·rcases hb.2.2 with h2|h2|h2
     ·exact h2.2.1 (t2 b (List.mem_append.2 (.inr h1)))
     ·have:=(hd1.lt b (t2 b (List.mem_append.2 (.inr h1)))).1;omega
     ·rw[o1] at h2
      exact(List.nodup_append.1 t1).2.2 b h2 b h1 Z
   ·rcases hb.2.2 with h2|h2|h2
    ·exact h2.2.2
    ·exact .inr (.inl (Nat.le_trans hs.mod.size h2))
    ·rw[o1] at h2
     exact .inr (hd1.lt b (t2 b (List.mem_append.2 (.inl h2)))).2
  have hs2:ep C ⟨S.n,S.slots,ks.zip os'++H1⟩ a w':=by
   refine hd1.move _ _ hm hT ?_ hlt ?_
   ·rw[hb0]
    refine List.nodup_append.2 ⟨hown.nd,(List.nodup_append.1 t1).2.1,fun b hb c hc hbc=>?_⟩
    subst hbc
    rcases hbs b hb with h1|h1
    ·rw[o1] at h1;exact(List.nodup_append.1 t1).2.2 b h1 b hc Z
    ·have:=(hd1.lt b (t2 b (List.mem_append.2 (.inr hc)))).1;omega
   ·intro p hp
    rcases List.mem_append.1 hp with hp|hp
    ·exact jI hFA (hown.ok p.2 (List.of_mem_zip hp).2)
    ·refine hd1.keepHO hm hT hlt (hd1.heap p (t4 p hp)) (fun b hb hin=>?_)
     rw[o1] at hin
     have:b∈cC H1:=List.mem_flatMap.2 ⟨p,hp,hb⟩
     exact(List.nodup_append.1 t1).2.2 b hin b this Z
  have hd':z5 (⟨S.n,S.slots,ks.zip os'++H1⟩:St) d=true:=by cases d<;>exact hd
  have hin:∀p∈eP S.heap fz,p∈S.heap:=by
   have:∀(r:List Nat) (H:List (Nat×HO)) p,p∈eP H r→p∈H:=by
    intro r
    induction r with
    |nil=>exact fun H p hp=>hp
    |cons k r ih=>
     intro H p hp
     unfold eP at hp
     split at hp
     ·rename_i hg2
      exact(dl hg2).2.2 p (ih _ p hp)
     ·exact ih _ p hp
   exact this fz _
  have hold:∀b,b∈ct os→sv S.heap pass b:=fun b hb=>by
   rw[o1] at hb
   obtain⟨o,ho,hob⟩:=List.mem_flatMap.1 hb
   obtain⟨p,hp,hk,rfl⟩:=t3 o ho
   exact⟨p,hin p hp,hk,hob⟩
  refine hK' _ v w' r hs2 hd' (fN hFA (fun _ _=>rfl) _ _ hv) ⟨hm.mono (fun b _ hb=>hold b hb),fun tk htk b hlt' ⟨p,hp,hpk,hpb⟩=>?_⟩ hK2
  rcases List.mem_append.1 hp with hp|hp
  ·have hb:b∈ct os':=List.mem_flatMap.2 ⟨p.2,(List.of_mem_zip hp).2,hpb⟩
   rcases hbs b hb with h1|h1
   ·exact uD htk (hold b h1)
   ·omega
  ·exact⟨p,hin p (t4 p hp),hpk,hpb⟩
theorem aq.call{m:OM}{ops:Array Oper}{l:List Oper}{K:St→Prop}{d:Option Tmp}{f:FuncId}{args:Array Operand}{ats:Array TypeId}{ty:Nat}{pos:String}{aft:Array Edge}{gd:Option (Nat×Bool)}(hw:cH ops S gd=bE gd)
 (fz pass ks:List Nat){as_:List AV}{os0 os:List HO}{H1:List (Nat×HO)}{R:AV→List HO→Prop}
 (hspec:aQ P f as_ os R)(hargs:gU (oD S.heap fz) (args.toList.map (ev S)) as_)(htk:kY (eP S.heap fz) pass=some (os0,H1))(hos:rR (oD S.heap fz) os0 os)
 (hd:z5 S d=true)(hm:m.oke d pass=true)
 (h:∀r os',R r os'→ks.length=os'.length∧aq m P C ops l (St.putO ⟨S.n,S.slots,ks.zip os'++H1⟩ d r) K):
 aq m P C ops (⟨d,.call ⟨.value (.func f),args,ats⟩,ty,pos,aft,gd⟩::l) S K:=by
 refine aq.callG hw Z (args.toList.map (ev S)) (fun a w hs=>⟨args.toList.map a.eval,⟨by simp,fun i x v hx hv=>?_⟩,?_⟩) fz pass ks hspec hargs htk hos hd hm h
 ·rw[List.getElem?_map] at hx hv
  cases hq:args.toList[i]? with
  |none=>rw[hq] at hx;cases hx
  |some o=>
   rw[hq] at hx hv
   simp only[Option.map_some,Option.some.injEq] at hx hv
   subst hx;subst hv
   exact bg hs o
 ·rw[execOp_call_go]
  congr 1
  apply Array.ext'
  simp[Array.toList_map]
end
def fG{α:Type}:List α→Option (List α)
 |[]=>some []
 |x::r=>match fG r with
  |some r'=>some (x::r')
  |none=>none
theorem ew{α:Type}:∀(l l':List α),fG l=some l'→l=l'
 |[],l',h=>by simp[fG] at h;exact h.symm
 |x::r,l',h=>by
  unfold fG at h
  cases hr:fG r with
  |none=>rw[hr] at h;cases h
  |some r'=>
   rw[hr] at h
   simp only[Option.some.injEq] at h
   rw[←h,ew r r' hr]
mutual
def fL:AV→Option AV
 |.any=>some .any
 |.b t=>some (.b t)
 |.i k n=>some (.i k n)
 |.s x=>some (.s x)
 |.sl sz xs=>some (.sl sz xs)
 |.nil=>some .nil
 |.agg fs=>match lw fs with
  |some gs=>some (.agg gs)
  |none=>none
 |.arr sz n xs=>some (.arr sz n xs)
 |.ptr k b p o=>some (.ptr k b p o)
 |.nilp=>some .nilp
 |.own k v=>some (.own k v)
 |.vw k b p st o n c=>some (.vw k b p st o n c)
 |.cp a=>some (.cp a)
 |.fn f c=>some (.fn f c)
 |.nilf=>some .nilf
 |.ifc t a=>some (.ifc t a)
 |.nili=>some .nili
 |.tup xs=>some (.tup xs)
def lw:List AV→Option (List AV)
 |[]=>some []
 |x::r=>match fL x,lw r with
  |some x',some r'=>some (x'::r')
  |_,_=>none
end
mutual
theorem yj:∀(a b:AV),fL a=some b→a=b
 |.agg fs,b,h=>by
  simp only[fL] at h
  cases hf:lw fs with
  |none=>rw[hf] at h;cases h
  |some gs=>
   rw[hf] at h
   simp only[Option.some.injEq] at h
   rw[←h,om fs gs hf]
 |.any,b,h=>by simpa [fL] using h
 |.b _,b,h=>by simpa [fL] using h
 |.i _ _,b,h=>by simpa [fL] using h
 |.s _,b,h=>by simpa [fL] using h
 |.sl _ _,b,h=>by simpa [fL] using h
 |.nil,b,h=>by simpa [fL] using h
 |.arr _ _ _,b,h=>by simpa [fL] using h
 |.ptr _ _ _ _,b,h=>by simpa [fL] using h
 |.nilp,b,h=>by simpa [fL] using h
 |.own _ _,b,h=>by simpa [fL] using h
 |.vw _ _ _ _ _ _ _,b,h=>by simpa [fL] using h
 |.cp _,b,h=>by simpa [fL] using h
 |.fn _ _,b,h=>by simpa [fL] using h
 |.nilf,b,h=>by simpa [fL] using h
 |.ifc _ _,b,h=>by simpa [fL] using h
 |.nili,b,h=>by simpa [fL] using h
 |.tup _,b,h=>by simpa [fL] using h
theorem om:∀(l l':List AV),lw l=some l'→l=l'
 |[],l',h=>by simpa [lw] using h
 |x::r,l',h=>by
  simp only[lw] at h
  cases hx:fL x with
  |none=>simp[hx] at h
  |some x'=>cases hr:lw r with
   |none=>simp[hx,hr] at h
   |some r'=>
    simp only[hx,hr,Option.some.injEq] at h
    rw[←h,yj x x' hx,om r r' hr]
end
section
variable {m:OM} {P:Program} {T:List (Nat×TI)} {C:il} {ops:Array Oper} {l:List Oper} {K:St→Prop} {n:Nat} {sl:List (Nat×AV)} {hp:List (Nat×HO)} {d:Nat} {ty:Nat} {pos:String} {aft:Array Edge}
theorem OA{p:Prop}(h:p:=by first|exact J|exact⟨rfl,rfl,rfl,rfl⟩|exact⟨rfl,J⟩|exact⟨rfl,rfl⟩|exact⟨rfl,rfl,rfl⟩|exact rfl|exact⟨fun h0=>by cases h0,rfl⟩|exact(fun h0=>by cases h0)|exact⟨rfl,by omega⟩|exact⟨Nat.succ_ne_zero _,rfl⟩|omega):p:=h
theorem dr{gd:Option (Nat×Bool)}(hw:cH ops ⟨n,sl,hp⟩ gd=bE gd)(hT:cP P T){op:Op}{need gain:Prop}{rd:Option (Option Nat)}{x:AV}
 (hc:cv T hp (ev ⟨n,sl,hp⟩) op=some ⟨need,gain,rd,x⟩)(hm:m.okc (some d) rd=true)(hd:Nat.blt d n=true)(hn:need)(h:gain→aq m P C ops l ⟨n,(d,x)::sl,hp⟩ K):aq m P C ops (⟨some d,op,ty,pos,aft,gd⟩::l) ⟨n,sl,hp⟩ K:=
 iU hT hw hc hm hd hn h
theorem qt(x:Int)(h: -9223372036854775808≤x∧x≤9223372036854775807):IntKind.i64.wrap x=x:=IntWalk.i64_in x h
theorem bc{gd:Option (Nat×Bool)}(hw:cH ops ⟨n,sl,hp⟩ gd=bE gd){x y:Operand}{t t':Nat}{a b:Int}(hx:ev ⟨n,sl,hp⟩ x= .i .i64 a)(hy:ev ⟨n,sl,hp⟩ y= .i .i64 b)(hd:Nat.blt d n=true)(hr: -9223372036854775808≤a+b∧a+b≤9223372036854775807)
 (h:aq m P C ops l ⟨n,(d,.i .i64 (a+b))::sl,hp⟩ K):aq m P C ops (⟨some d,.binOp .add t x y t',ty,pos,aft,gd⟩::l) ⟨n,sl,hp⟩ K:=by
 refine iU (T:=[]) (fun p hp=>by cases hp) hw (x:=.i .i64 (a+b)) (need:=IntKind.i64=IntKind.i64∧True) (gain:=True) (rd:=none) ?_ cT hd ⟨rfl,trivial⟩ (fun _=>h)
 simp only[cv,hx,hy,qq,uj,CV.pure,qt _ hr]
theorem dW{gd:Option (Nat×Bool)}(hw:cH ops ⟨n,sl,hp⟩ gd=bE gd){x y:Operand}{t t':Nat}{a b:Int}(hx:ev ⟨n,sl,hp⟩ x= .i .i64 a)(hy:ev ⟨n,sl,hp⟩ y= .i .i64 b)(hd:Nat.blt d n=true)(hr: -9223372036854775808≤a - b∧a - b≤9223372036854775807)
 (h:aq m P C ops l ⟨n,(d,.i .i64 (a - b))::sl,hp⟩ K):aq m P C ops (⟨some d,.binOp .sub t x y t',ty,pos,aft,gd⟩::l) ⟨n,sl,hp⟩ K:=by
 refine iU (T:=[]) (fun p hp=>by cases hp) hw (x:=.i .i64 (a - b)) (need:=IntKind.i64=IntKind.i64∧True) (gain:=True) (rd:=none) ?_ cT hd ⟨rfl,trivial⟩ (fun _=>h)
 simp only[cv,hx,hy,qq,uj,CV.pure,qt _ hr]
theorem kL{gd:Option (Nat×Bool)}(hw:cH ops ⟨n,sl,hp⟩ gd=bE gd){x y:Operand}{t t':Nat}{a b:Int}(hx:ev ⟨n,sl,hp⟩ x= .i .i64 a)(hy:ev ⟨n,sl,hp⟩ y= .i .i64 b)(hd:Nat.blt d n=true)(hr: -9223372036854775808≤a*b∧a*b≤9223372036854775807)
 (h:aq m P C ops l ⟨n,(d,.i .i64 (a*b))::sl,hp⟩ K):aq m P C ops (⟨some d,.binOp .mul t x y t',ty,pos,aft,gd⟩::l) ⟨n,sl,hp⟩ K:=by
 refine iU (T:=[]) (fun p hp=>by cases hp) hw (x:=.i .i64 (a*b)) (need:=IntKind.i64=IntKind.i64∧True) (gain:=True) (rd:=none) ?_ cT hd ⟨rfl,trivial⟩ (fun _=>h)
 simp only[cv,hx,hy,qq,uj,CV.pure,qt _ hr]
theorem vF{gd:Option (Nat×Bool)}(hw:cH ops ⟨n,sl,hp⟩ gd=bE gd){x y:Operand}{t t':Nat}{a b:Int}(hx:ev ⟨n,sl,hp⟩ x= .i .i64 a)(hy:ev ⟨n,sl,hp⟩ y= .i .i64 b)(hd:Nat.blt d n=true)(ha:0≤a∧a≤9223372036854775807)(hb:0<b)
 (h:aq m P C ops l ⟨n,(d,.i .i64 (a / b))::sl,hp⟩ K):aq m P C ops (⟨some d,.binOp .quo t x y t',ty,pos,aft,gd⟩::l) ⟨n,sl,hp⟩ K:=by
 have h1:a.tdiv b=a / b:=Int.tdiv_eq_ediv_of_nonneg ha.1
 have h2:0≤a / b:=Int.ediv_nonneg ha.1 (by omega)
 have h3:a / b≤a:=Int.ediv_le_self b ha.1
 refine iU (T:=[]) (fun p hp=>by cases hp) hw (x:=.i .i64 (a / b)) (need:=IntKind.i64=IntKind.i64∧b≠0) (gain:=True) (rd:=none) ?_ cT hd ⟨rfl,by omega⟩ (fun _=>h)
 simp only[cv,hx,hy,qq,uj,h1,qt (a / b) (by omega)]
theorem t6{gd:Option (Nat×Bool)}(hw:cH ops ⟨n,sl,hp⟩ gd=bE gd){x y:Operand}{t t':Nat}{a b:Int}(hx:ev ⟨n,sl,hp⟩ x= .i .i64 a)(hy:ev ⟨n,sl,hp⟩ y= .i .i64 b)(hd:Nat.blt d n=true)(ha:0≤a)(hb:0<b)
 (h:aq m P C ops l ⟨n,(d,.i .i64 (a%b))::sl,hp⟩ K):aq m P C ops (⟨some d,.binOp .rem t x y t',ty,pos,aft,gd⟩::l) ⟨n,sl,hp⟩ K:=by
 have h1:a.tmod b=a%b:=Int.tmod_eq_emod_of_nonneg ha
 refine iU (T:=[]) (fun p hp=>by cases hp) hw (x:=.i .i64 (a%b)) (need:=IntKind.i64=IntKind.i64∧b≠0) (gain:=True) (rd:=none) ?_ cT hd ⟨rfl,by omega⟩ (fun _=>h)
 simp only[cv,hx,hy,qq,uj,h1]
theorem br{gd:Option (Nat×Bool)}(hw:cH ops ⟨n,sl,hp⟩ gd=bE gd)(hT:cP P T){α:Type}{f:α→AV}{xs:List α}{x:Operand}{t e sz0 sz by_:Nat}{z:AV}(ht:bI T t=some ⟨.slice e,sz0,by_,z⟩)(hx:ev ⟨n,sl,hp⟩ x= .sl sz (xs.map f))(hd:Nat.blt d n=true)
 (h:xs.length≤9223372036854775807→aq m P C ops l ⟨n,(d,.i .i64 xs.length)::sl,hp⟩ K):aq m P C ops (⟨some d,.call ⟨.builtin .len,#[x],#[t]⟩,ty,pos,aft,gd⟩::l) ⟨n,sl,hp⟩ K:=by
 refine iU hT hw (x:=.i .i64 xs.length) (need:=True) (gain:=xs.length≤9223372036854775807) (rd:=none) ?_ cT hd trivial h
 simp[cv,B4,ht,hx]
theorem dA{gd:Option (Nat×Bool)}(hw:cH ops ⟨n,sl,hp⟩ gd=bE gd)(hT:cP P T){α:Type}{f:α→AV}{xs:List α}{x:Operand}{t e e' sz0 sz by_ k:Nat}{v:Value}{z:AV}(ht:bI T t=some ⟨.slice e,sz0,by_,z⟩)(hx:ev ⟨n,sl,hp⟩ x= .own k v)(hg:bU hp k=some (.row v e' sz (xs.map f)))(hd:Nat.blt d n=true)
 (h:xs.length≤9223372036854775807→aq m P C ops l ⟨n,(d,.i .i64 xs.length)::sl,hp⟩ K):aq m P C ops (⟨some d,.call ⟨.builtin .len,#[x],#[t]⟩,ty,pos,aft,gd⟩::l) ⟨n,sl,hp⟩ K:=by
 refine iU hT hw (x:=.i .i64 xs.length) (need:=v=v) (gain:=xs.length≤9223372036854775807) (rd:=none) ?_ cT hd Z h
 simp[cv,B4,ht,hx,hg]
theorem d9{op:Op}{j:Nat}{dj:Nat}(hj:(ops[j]?).bind (·.dst)=some dj)(hc:ge sl dj= .b false)(hd:Nat.blt d n=true)(_hcalm:m= .text∨jP P op=false)
 (h1:aq m P C ops l ⟨n,(d,.tup [])::sl,hp⟩ K):aq m P C ops (⟨some d,op,ty,pos,aft,some (j,true)⟩::l) ⟨n,sl,hp⟩ K:=
 aq.gdOff hj hc Z hd h1
theorem ib{op:Op}{j:Nat}{dj:Nat}(hj:(ops[j]?).bind (·.dst)=some dj)(hc:ge sl dj= .b true)(hd:Nat.blt d n=true)(_hcalm:m= .text∨jP P op=false)
 (h1:aq m P C ops l ⟨n,(d,.tup [])::sl,hp⟩ K):aq m P C ops (⟨some d,op,ty,pos,aft,some (j,false)⟩::l) ⟨n,sl,hp⟩ K:=
 aq.gdOff hj hc Z hd h1
theorem vG{op:Op}{j:Nat}{g:Bool}{dj:Nat}(hj:(ops[j]?).bind (·.dst)=some dj)(hc:ge sl dj= .tup [])(hd:Nat.blt d n=true)(_hcalm:m= .text∨jP P op=false)
 (h1:aq m P C ops l ⟨n,(d,.tup [])::sl,hp⟩ K):aq m P C ops (⟨some d,op,ty,pos,aft,some (j,g)⟩::l) ⟨n,sl,hp⟩ K:=
 aq.gdOffU hj hc hd h1
theorem LB{c:Bool}{dj:Nat}(hc:ge sl dj= .b c)(h:∀b,c=b→aq m P C ops l ⟨n,(dj,.b b)::sl,hp⟩ K):aq m P C ops l ⟨n,sl,hp⟩ K:=by
 refine⟨fun Q E a w hs hK=>?_⟩
 refine(h c Z).out Q E a w ?_ hK
 refine⟨hs.n,hs.df,fun i=>?_,hs.heap,hs.nd,hs.lt,hs.mod⟩
 show cL w _ (ge ((dj,.b c)::sl) i) _
 unfold ge
 cases hb:Nat.beq dj i with
 |true=>
  have:=Nat.eq_of_beq_eq_true hb
  subst this
  have h2:=hs.slots dj
  have h3:(⟨n,sl,hp⟩:St).slot dj= .b c:=hc
  rw[h3] at h2
  exact h2
 |false=>exact hs.slots i
theorem dM{op:Op}{j:Nat}{g:Bool}{dj:Nat}{dd:Option Tmp}{c:Bool}(_hj:(ops[j]?).bind (·.dst)=some dj)(hc:ge sl dj= .b c)
 (h1:c=true→aq m P C ops (⟨dd,op,ty,pos,aft,some (j,g)⟩::l) ⟨n,(dj,.b true)::sl,hp⟩ K)(h2:c=false→aq m P C ops (⟨dd,op,ty,pos,aft,some (j,g)⟩::l) ⟨n,(dj,.b false)::sl,hp⟩ K):
 aq m P C ops (⟨dd,op,ty,pos,aft,some (j,g)⟩::l) ⟨n,sl,hp⟩ K:=
 LB hc fun b hb=>match b,hb with|true,hb=>h1 hb|false,hb=>h2 hb
theorem aV{op:Op}{j:Nat}{g:Bool}{dj:Nat}{dd:Option Tmp}{p:Prop}[Decidable p](hj:(ops[j]?).bind (·.dst)=some dj)(hc:ge sl dj= .b (decide p))
 (h1:p→aq m P C ops (⟨dd,op,ty,pos,aft,some (j,g)⟩::l) ⟨n,(dj,.b true)::sl,hp⟩ K)(h2:¬ p→aq m P C ops (⟨dd,op,ty,pos,aft,some (j,g)⟩::l) ⟨n,(dj,.b false)::sl,hp⟩ K):
 aq m P C ops (⟨dd,op,ty,pos,aft,some (j,g)⟩::l) ⟨n,sl,hp⟩ K:=
 dM hj hc (fun h=>h1 (of_decide_eq_true h)) (fun h=>h2 (of_decide_eq_false h))
theorem ni{op:Op}{j:Nat}{g:Bool}{dj:Nat}{dd:Option Tmp}{x y:Int}(hj:(ops[j]?).bind (·.dst)=some dj)(hc:ge sl dj= .b (x==y))
 (h1:x=y→aq m P C ops (⟨dd,op,ty,pos,aft,some (j,g)⟩::l) ⟨n,(dj,.b true)::sl,hp⟩ K)(h2:¬ x=y→aq m P C ops (⟨dd,op,ty,pos,aft,some (j,g)⟩::l) ⟨n,(dj,.b false)::sl,hp⟩ K):
 aq m P C ops (⟨dd,op,ty,pos,aft,some (j,g)⟩::l) ⟨n,sl,hp⟩ K:=
 dM hj hc (fun h=>h1 (by simpa using h)) (fun h=>h2 (by simpa using h))
theorem eO{op:Op}{j:Nat}{g:Bool}{dj:Nat}{dd:Option Tmp}{x y:Int}(hj:(ops[j]?).bind (·.dst)=some dj)(hc:ge sl dj= .b (x !=y))
 (h1:¬ x=y→aq m P C ops (⟨dd,op,ty,pos,aft,some (j,g)⟩::l) ⟨n,(dj,.b true)::sl,hp⟩ K)(h2:x=y→aq m P C ops (⟨dd,op,ty,pos,aft,some (j,g)⟩::l) ⟨n,(dj,.b false)::sl,hp⟩ K):
 aq m P C ops (⟨dd,op,ty,pos,aft,some (j,g)⟩::l) ⟨n,sl,hp⟩ K:=
 dM hj hc (fun h=>h1 (by simpa using h)) (fun h=>h2 (by simpa using h))
theorem aY{α β:Type}{f:α→β}{xs:List α}{k:Nat}{x:α}(h:xs[k]?=some x):(xs.map f)[k]?=some (f x):=by rw[List.getElem?_map,h];rfl
theorem aE{α:Type}{xs:List α}{k:Nat}(h:k<xs.length):xs[((k:Nat):Int).toNat]?=some xs[k]:=by rw[Int.toNat_natCast];exact List.getElem?_eq_getElem h
theorem ol{α:Type}{xs:List α}{i:Int}(m:Nat)(h:i=m)(hm:m<xs.length):xs[i.toNat]?=some xs[m]:=by subst h;exact aE hm
theorem aK{gd:Option (Nat×Bool)}(hw:cH ops ⟨n,sl,hp⟩ gd=bE gd)(hT:cP P T){α:Type}{f:α→AV}{xs:List α}{t:Nat}{x ix:Operand}{sz:Nat}{y:α}{i:Int}{kk:IntKind}{e sz0 by_:Nat}{z:AV}{te:TI}
 (hx:ev ⟨n,sl,hp⟩ x= .sl sz (xs.map f))(hi:ev ⟨n,sl,hp⟩ ix= .i kk i)(ht:bI T t=some ⟨.slice e,sz0,by_,z⟩)(he:bI T e=some te)(hsz:te.sz=sz)
 (hd:Nat.blt d n=true)(h0:0≤i)(hy:xs[i.toNat]?=some y)(h:aq m P C ops l ⟨n,(d,.cp (f y))::sl,hp⟩ K):aq m P C ops (⟨some d,.indexAddr t x ix,ty,pos,aft,gd⟩::l) ⟨n,sl,hp⟩ K:=
 aq.indexSl hT hw hx hi ht he hsz hd h0 (aY hy) h
theorem aF{gd:Option (Nat×Bool)}(hw:cH ops ⟨n,sl,hp⟩ gd=bE gd)(hT:cP P T){t:Nat}{k:TK}{sz by_:Nat}{z:AV}(ht:bI T t=some ⟨k,sz,by_,z⟩)(hz:z.isVal=true)
 (hd:Nat.blt d n=true)(h:∀b,aq m P C ops l ⟨n,(d,.ptr d b [] 0)::sl,(d,.var b z)::hp⟩ K):aq m P C ops (⟨some d,.alloc t,ty,pos,aft,gd⟩::l) ⟨n,sl,hp⟩ K:=aq.alloc hT hw ht hz hd h
theorem c9{gd:Option (Nat×Bool)}(hw:cH ops ⟨n,sl,hp⟩ gd=bE gd){t:Nat}{x:Operand}{y:AV}(hx:ev ⟨n,sl,hp⟩ x=y)(hy:y.isVal=true)
 (hd:Nat.blt d n=true)(h:∀b,aq m P C ops l ⟨n,(d,.ptr d b [] 0)::sl,(d,.var b y)::hp⟩ K):aq m P C ops (⟨some d,.box t x,ty,pos,aft,gd⟩::l) ⟨n,sl,hp⟩ K:=by
 subst hx;exact aq.box hw hy hd h
theorem aD{gd:Option (Nat×Bool)}(hT:cP P T)(hw:cH ops ⟨n,sl,hp⟩ gd=bE gd){t:Nat}{x y:Operand}{u c':AV}{key b off o:Nat}{path:List Nat}{c old:AV}{ti:TI}{hp':List (Nat×HO)}
 (hx:ev ⟨n,sl,hp⟩ x= .ptr key b path off)(ht:bI T t=some ti)(hg:bU hp key=some (.var b c))(hsub:jL path c=some (o,old))(ho:o=off)(hu:CV.val_ (ev ⟨n,sl,hp⟩ y)=CV.pure u)(hf:fits ti u)(hold:gz old=ti.sz)(hy:u.isVal=true)(hm:m.oke none [key]=true)
 (hc':fL (kJ path c u)=some c')(hh:fG (eT hp key (.var b c'))=some hp')(h:aq m P C ops l ⟨n,sl,hp'⟩ K):aq m P C ops (⟨none,.store t x y,ty,pos,aft,gd⟩::l) ⟨n,sl,hp⟩ K:=by
 rw[CV.val_eq] at hu
 have hu:ev ⟨n,sl,hp⟩ y=u:=by simpa [CV.pure] using hu
 subst hu
 have hc':=yj _ _ hc'
 have hh:=ew _ _ hh
 subst hc'
 exact aq.store hT hw hx ht hg hsub ho hf hold hy hm (by rw[hh];exact h)
theorem bx{gd:Option (Nat×Bool)}(fz pass ks:List Nat)(hw:cH ops ⟨n,sl,hp⟩ gd=bE gd){f:FuncId}{args:Array Operand}{ats:Array TypeId}{as_:List AV}{os0 os:List HO}{H1:List (Nat×HO)}{R:AV→List HO→Prop}
 (hspec:aQ P f as_ os R)(hargs:gU (oD hp fz) (args.toList.map (ev ⟨n,sl,hp⟩)) as_)(htk:kY (eP hp fz) pass=some (os0,H1))(hos:rR (oD hp fz) os0 os)(hd:Nat.blt d n=true)(hm:m.oke (some d) pass=true)
 (h:∀r os',R r os'→∃H2,fG (ks.zip os'++H1)=some H2∧ks.length=os'.length∧aq m P C ops l ⟨n,(d,r)::sl,H2⟩ K):
 aq m P C ops (⟨some d,.call ⟨.value (.func f),args,ats⟩,ty,pos,aft,gd⟩::l) ⟨n,sl,hp⟩ K:=
 aq.call hw fz pass ks hspec hargs htk hos hd hm (fun r os' hr=>by
  obtain⟨H2,h1,h2,h3⟩:=h r os' hr
  have h1:=ew _ _ h1
  exact⟨h2,by rw[←h1] at h3;exact h3⟩)
theorem gg{gd:Option (Nat×Bool)}(hw:cH ops ⟨n,sl,hp⟩ gd=bE gd){f:FuncId}{args:Array Operand}{ats:Array TypeId}{as_:List AV}{R:AV→List HO→Prop}
 (hspec:aQ P f as_ [] R)(hargs:gU [] (args.toList.map (ev ⟨n,sl,hp⟩)) as_)(hd:Nat.blt d n=true)
 (h:∀r os',R r os'→os'=[]∧aq m P C ops l ⟨n,(d,r)::sl,hp⟩ K):
 aq m P C ops (⟨some d,.call ⟨.value (.func f),args,ats⟩,ty,pos,aft,gd⟩::l) ⟨n,sl,hp⟩ K:=
 aq.call hw [] [] [] hspec hargs Z trivial hd eZ (fun r os' hr=>by
  obtain⟨rfl,h1⟩:=h r os' hr
  exact⟨rfl,h1⟩)
end
section
variable {fr:Fr} {w:World}
theorem ai{k:IntKind}{a b:Int}(h:a=b):gY fr (.i k a) (.i k b):=kx (by rw[h])
theorem cY{a b:List UInt8}(h:a=b):gY fr (.s a) (.s b):=kx (by rw[h])
theorem gq{a b:Bool}(h:a=b):gY fr (.b a) (.b b):=kx (by rw[h])
theorem ay{sz:Nat}{a b:List AV}(h:a=b):gY fr (.sl sz a) (.sl sz b):=kx (by rw[h])
theorem af{k k' b:Nat}{p p':List Nat}{o:Nat}:gY fr (.ptr k b p o) (.ptr k' b p' o):=bu gK rfl
theorem aJ{k k':Nat}{v:Value}:gY fr (.own k v) (.own k' v):=bu gZ rfl
theorem dp{k:Nat}:gY fr .nil (.own k (.slice none 0 0)):=bu dz rfl
theorem sJ{sz:Nat}:gY fr .nil (.sl sz []):=bu cQ rfl
theorem bq{H:List (Nat×HO)}{k:Nat}{x y r}(hg:bU H k=some x)(h:aG fr x y)(hr:cr fr (dS H k) r):cr fr H ((k,y)::r):=.cons k hg h hr
end
section
variable {P:Program} {T:List (Nat×TI)} {C:il} {K:Exit→St→Prop} {S:St}
theorem mW{α β:Type}(f:α→Option β):∀(l:List α),(l.filterMap f).length=l.length→l.map f=(l.filterMap f).map some
 |[],_=>rfl
 |x::l,h=>by
  cases hx:f x with
  |none=>
   rw[List.filterMap_cons_none hx] at h
   have:=List.length_filterMap_le f l
   simp at h;omega
  |some y=>
   rw[List.filterMap_cons_some hx] at h ⊢
   rw[List.map_cons,List.map_cons,hx,mW f l (by simpa using h)]
theorem cg{ops:Array Oper}{l:List Oper}(id:Nat)(tk so qs is:List Nat)(hm:P.follows .mixedOrders=true)(hp:s6 P ops so qs is (Array.replicate ops.size false)=true)(hns:Region.noSelect ops=true)(hl:fG (is.filterMap (fun i=>ops[i]?))=some l)(hn:is.length=ops.size)(hll:l.length=is.length)
 (h:aq (.any tk so qs) P C ops l S (K .normal)):ag P C (.region id ops true) S K:=by
 have:=ew _ _ hl
 subst this
 exact ag.regionAny tk so qs is hm hp hns (mW _ is hll) hn h
theorem kv{ops:Array Oper}(id:Nat)(tk so qs:List Nat)(hm:P.follows .mixedOrders=true)(hns:Region.noSelect ops=true){n:Nat}{listed:Array Bool}(hn:ops.size=n)(hl:Array.replicate ops.size false=listed)
 (h:gO P C ops tk so qs n listed S (K .normal)):ag P C (.region id ops true) S K:=by
 subst hn;subst hl;exact ag.regionT tk so qs hm hns h
theorem dh{ops:Array Oper}{l:List Oper}{tk so qs:List Nat}{n:Nat}{listed:Array Bool}{S:St}{K:St→Prop}(is:List Nat)(n':Nat)(listed':List Bool)(hp:mK P ops so qs is listed=true)(hl:fG (is.filterMap (fun i=>ops[i]?))=some l)(hll:l.length=is.length)(hn:n=n'+is.length)(he:j5 is listed=listed'.toArray)
 (h:aq (.any tk so qs) P C ops l S (fun S'=>gO P C ops tk so qs n' listed'.toArray S' K)):gO P C ops tk so qs n listed S K:=by
 have:=ew _ _ hl
 subst this
 exact gO.path is hp (mW _ is hll) hn he h
theorem na{ops:Array Oper}{tk so qs:List Nat}{n:Nat}{listed:Array Bool}{S:St}{K:St→Prop}(hr:Region.ready .any ops listed=[])(h:K S):gO P C ops tk so qs n listed S K:=gO.fin hr h
theorem lO{ops:Array Oper}{o1 o2:Oper}{tk so qs:List Nat}{n n':Nat}{listed:Array Bool}{S:St}{K:St→Prop}(i1 i2:Nat)(l1 l2:List Bool)(hn:n=n'+1)(hr:Region.ready .any ops listed=[i1,i2])(h1:ops[i1]?=some o1)(h2:ops[i2]?=some o2)(e1:listed.setIfInBounds i1 true=l1.toArray)(e2:listed.setIfInBounds i2 true=l2.toArray)
 (k1:aq (.one tk so qs) P C ops [o1] S (fun S'=>gO P C ops tk so qs n' l1.toArray S' K))(k2:aq (.one tk so qs) P C ops [o2] S (fun S'=>gO P C ops tk so qs n' l2.toArray S' K)):gO P C ops tk so qs n listed S K:=by
 subst hn
 rw[←e1] at k1
 rw[←e2] at k2
 exact gO.two i1 i2 hr h1 h2 k1 k2
theorem ao{c:Operand}{x y:Code}{p:Prop}[Decidable p](hc:ev S c= .b (decide p))(h1:p→ag P C x S K)(h2:¬ p→ag P C y S K):ag P C (.cond c x y) S K:=
 ba hc (fun h=>h1 (of_decide_eq_true h)) (fun h=>h2 (of_decide_eq_false h))
theorem fk{c:Operand}{x y:Code}{a b:Int}(hc:ev S c= .b (a==b))(h1:a=b→ag P C x S K)(h2:¬ a=b→ag P C y S K):ag P C (.cond c x y) S K:=
 ba hc (fun h=>h1 (by simpa using h)) (fun h=>h2 (by simpa using h))
theorem bF{c:Operand}{x y:Code}{a b:Int}(hc:ev S c= .b (a !=b))(h1:¬ a=b→ag P C x S K)(h2:a=b→ag P C y S K):ag P C (.cond c x y) S K:=
 ba hc (fun h=>h1 (by simpa using h)) (fun h=>h2 (by simpa using h))
theorem aR{c:Operand}{x y:Code}(hc:ev S c= .b true)(h1:ag P C x S K):ag P C (.cond c x y) S K:=ba hc (fun _=>h1) (fun h=>by cases h)
theorem aB{c:Operand}{x y:Code}(hc:ev S c= .b false)(h2:ag P C y S K):ag P C (.cond c x y) S K:=ba hc (fun h=>by cases h) (fun _=>h2)
def DS(T:List (Nat×TI))(fn:Func)(R:AV→List HO→Prop):Exit→St→Prop:=fun e S'=>M4 T fn R e S'∧∀xs p,gR T S' fn.results.toList=some (p,xs)→qk xs
theorem aA(hT:cP P T){f:FuncId}{fn:Func}{c:Code}{args:List AV}{R:AV→List HO→Prop}{n:Nat}(os:List (Nat×HO)){sl:List (Nat×AV)}(hf:P.funcs[f]?=some fn)(hb:fn.body=some c)(hn:fn.ntmps=n)(hname:(fn.name== "runtime.NumGoroutine")=false)(hargs:Nat.ble args.length n=true)(hsl:nY 0 args=sl)
 (h:∀C,ag P C c ⟨n,sl,os⟩ (DS T fn R)){os':List HO}(hos:os.map (·.2)=os'):aQ P f args os' R:=by
 subst hsl;subst hos
 exact aQ.intro hT hf hb hn hname (Nat.le_of_ble_eq_true hargs) h
theorem bp{fn:Func}{R:AV→List HO→Prop}{t:Nat}{x r:AV}(hr:fn.results.toList=[.tmp t])(hx:S.slot t=x)(hx2:x.isVal=true)(ks:List Nat)(os':List (Nat×HO))(hle:aL (oD S.heap ks) x r)(hh:cr (oD S.heap ks) (eP S.heap ks) os')(h:R r (os'.map (·.2)))(e:Exit)(he:e= .ret∨e= .normal):DS T fn R e S:=by
 have h1:gR T S fn.results.toList=some (True∧True,[x]):=by rw[hr];simp only[gR,sN,hx]
 have h2:∀xs p,gR T S fn.results.toList=some (p,xs)→qk xs:=fun xs p hq=>by
  rw[h1] at hq
  simp only[Option.some.injEq,Prod.mk.injEq] at hq
  rw[←hq.2]
  refine⟨?_,trivial⟩
  cases x<;>simp[AV.isVal] at hx2<;>trivial
 rcases he with rfl|rfl<;>exact⟨⟨ks,_,_,r,os',h1,⟨trivial,trivial⟩,Cq.slot (bu hle hx2),hh,h⟩,h2⟩
theorem dC{fn:Func}{R:AV→List HO→Prop}(hr:fn.results.toList=[])(ks:List Nat)(os':List (Nat×HO))(hh:cr (oD S.heap ks) (eP S.heap ks) os')(h:R (.tup []) (os'.map (·.2)))(e:Exit)(he:e= .ret∨e= .normal):DS T fn R e S:=by
 have h1:gR T S fn.results.toList=some (True,[]):=by rw[hr];rfl
 have h2:∀xs p,gR T S fn.results.toList=some (p,xs)→qk xs:=fun xs p hq=>by
  rw[h1] at hq
  simp only[Option.some.injEq,Prod.mk.injEq] at hq
  rw[←hq.2];trivial
 rcases he with rfl|rfl<;>exact⟨⟨ks,_,_,.tup [],os',h1,trivial,fun _ _ _ _ h=>h,hh,h⟩,h2⟩
theorem cS{fn:Func}{R:AV→List HO→Prop}{p:Prop}{rs:List AV}(ks:List Nat)(os':List (Nat×HO))(r:AV)(hr:gR T S fn.results.toList=some (p,rs))(hp:p)(hn:qk rs)(hle:Cq (oD S.heap ks) (oV rs) r)(hh:cr (oD S.heap ks) (eP S.heap ks) os')(h:R r (os'.map (·.2)))(e:Exit)(he:e= .ret∨e= .normal):DS T fn R e S:=by
 have h2:∀xs q,gR T S fn.results.toList=some (q,xs)→qk xs:=fun xs q hq=>by
  rw[hr] at hq
  simp only[Option.some.injEq,Prod.mk.injEq] at hq
  rw[←hq.2];exact hn
 rcases he with rfl|rfl<;>exact⟨⟨ks,_,_,r,os',hr,hp,hle,hh,h⟩,h2⟩
theorem aW{fr:Fr}{a b c d:AV}(h1:aL fr a c)(h2:aL fr b d)(ha:a.isVal=true)(hb:b.isVal=true):Cq fr (oV [a,b]) (.tup [c,d]):=
 Cq.tup (xs:=[a,b]) (ys:=[c,d]) Z (fun i x y hx hy=>by
  match i with
  |0=>simp at hx hy;subst hx;subst hy;exact .inr ⟨ha,h1⟩
  |1=>simp at hx hy;subst hx;subst hy;exact .inr ⟨hb,h2⟩
  |i+2=>simp at hx)
theorem bX{fr:Fr}{a c:AV}(h1:aL fr a c)(ha:a.isVal=true):Cq fr (oV [a]) c:=bu h1 ha
end
theorem eo{p:Prop}(h:p:=by repeat' (first|exact J|exact rfl|refine⟨?_,?_⟩)):p:=h
theorem jh{p:Prop}(h:p:=by exact bp rfl rfl rfl [] [] (am rfl) .nil ⟨rfl,rfl⟩ _ (.inl rfl)):p:=h
theorem aP{fr:Fr}{x:AV}:gY fr x x:=kx rfl
theorem ax{P:Program}{C:il}{c:Code}{S:St}{K:Exit→St→Prop}(h:ag P C c S K):ag P C c S K:=h
theorem bC{T:List (Nat×TI)}{fn:Func}{R:AV→List HO→Prop}{e:Exit}{S:St}(h:DS T fn R e S):DS T fn R e S:=h
theorem db{α:Sort _}{p:α→Prop}(h:Exists p):Exists p:=h
theorem au{m:OM}{P:Program}{C:il}{ops:Array Oper}{l:List Oper}{K:St→Prop}{n:Nat}{sl:List (Nat×AV)}{hp:List (Nat×HO)}{d:Nat}{ty:Nat}{pos:String}{aft:Array Edge}{gd:Option (Nat×Bool)}(hw:cH ops ⟨n,sl,hp⟩ gd=bE gd){f:FuncId}{args:Array Operand}{ats:Array TypeId}{as_:List AV}{x:AV}(hspec:aQ P f as_ [] (fun v os=>v=x∧os=[]))(hargs:gU [] (args.toList.map (ev ⟨n,sl,hp⟩)) as_)(hd:Nat.blt d n=true)(h:aq m P C ops l ⟨n,(d,x)::sl,hp⟩ K):aq m P C ops (⟨some d,.call ⟨.value (.func f),args,ats⟩,ty,pos,aft,gd⟩::l) ⟨n,sl,hp⟩ K:=
 gg hw hspec hargs hd (fun _ _ ⟨e1,e2⟩=>by subst e1;subst e2;exact⟨rfl,h⟩)
theorem dt{p:Prop}(h:p:=by (repeat' (first|rw[List.length_append]|rw[List.length_map]|rw[List.length_cons]|rw[List.length_nil]|rw[List.length_take]|rw[List.length_drop]))<;>omega):p:=h
theorem dD{fr:Fr}:∀{l:List HO},rR fr l l
 |[]=>J
 |x::_=>⟨ak x,dD⟩
theorem az{fr:Fr}{H:List (Nat×HO)}(k:Nat){k':Nat}{x:HO}{r:List (Nat×HO)}(hg:bU H k=some x)(hr:cr fr (dS H k) r):cr fr H ((k',x)::r):=.cons k hg (ak _) hr
theorem aH{T:List (Nat×TI)}{S:St}{fn:Func}{R:AV→List HO→Prop}{p:Prop}{rs:List AV}(ks:List Nat)(os':List (Nat×HO))(r:AV)(hr:gR T S fn.results.toList=some (p,rs))(hle:Cq (oD S.heap ks) (oV rs) r)(hh:cr (oD S.heap ks) (eP S.heap ks) os')(h:R r (os'.map (·.2))){e:Exit}(hp:p:=by repeat' (first|exact J|exact rfl|refine⟨?_,?_⟩))(hn:qk rs:=by first|exact⟨trivial,trivial⟩|exact⟨trivial,trivial,trivial⟩|exact⟨trivial,trivial,trivial,trivial⟩)(he:e= .ret∨e= .normal:=by exact .inl rfl):DS T fn R e S:=cS ks os' r hr hp hn hle hh h e he
theorem aN{p:Prop}(h:p:=by kernel_rfl):p:=h
theorem aU{m:OM}{P:Program}{T:List (Nat×TI)}{C:il}{ops:Array Oper}{l:List Oper}{K:St→Prop}{n:Nat}{sl:List (Nat×AV)}{hp:List (Nat×HO)}{d:Nat}{ty:Nat}{pos:String}{aft:Array Edge}{gd:Option (Nat×Bool)}(hT:cP P T){op:Op}{need gain:Prop}{rd:Option (Option Nat)}{x:AV}(h:gain→aq m P C ops l ⟨n,(d,x)::sl,hp⟩ K)
 (hw:cH ops ⟨n,sl,hp⟩ gd=bE gd:=by exact rfl)(hc:cv T hp (ev ⟨n,sl,hp⟩) op=some ⟨need,gain,rd,x⟩:=by exact rfl)(hm:m.okc (some d) rd=true:=by exact rfl)(hd:Nat.blt d n=true:=by exact rfl)(hn:need:=by first|exact J|exact⟨rfl,rfl,rfl,rfl⟩|exact⟨rfl,J⟩|exact⟨rfl,rfl⟩|exact⟨rfl,rfl,rfl⟩|exact rfl|exact⟨fun h0=>by cases h0,rfl⟩|exact(fun h0=>by cases h0)|exact⟨rfl,by omega⟩|exact⟨Nat.succ_ne_zero _,rfl⟩|omega):aq m P C ops (⟨some d,op,ty,pos,aft,gd⟩::l) ⟨n,sl,hp⟩ K:=dr hw hT hc hm hd hn h
theorem cM{p:Prop}(h:p:=by first|exact .inl rfl|exact .inr rfl):p:=h
theorem bk{m:OM}{P:Program}{C:il}{ops:Array Oper}{l:List Oper}{K:St→Prop}{n:Nat}{sl:List (Nat×AV)}{hp:List (Nat×HO)}{d:Nat}{ty:Nat}{pos:String}{aft:Array Edge}{gd:Option (Nat×Bool)}(fz pass ks:List Nat)(hw:cH ops ⟨n,sl,hp⟩ gd=bE gd){f:FuncId}{args:Array Operand}{ats:Array TypeId}{as_:List AV}{os0 os:List HO}{H1:List (Nat×HO)}{x:AV}{os':List HO}
 (hspec:aQ P f as_ os (fun v o=>v=x∧o=os'))(hargs:gU (oD hp fz) (args.toList.map (ev ⟨n,sl,hp⟩)) as_)(htk:kY (eP hp fz) pass=some (os0,H1))(hos:rR (oD hp fz) os0 os)(hd:Nat.blt d n=true)(hm:m.oke (some d) pass=true){H2:List (Nat×HO)}
 (h:aq m P C ops l ⟨n,(d,x)::sl,H2⟩ K)(hf:fG (ks.zip os'++H1)=some H2:=by exact rfl)(hk:ks.length=os'.length:=by exact rfl):aq m P C ops (⟨some d,.call ⟨.value (.func f),args,ats⟩,ty,pos,aft,gd⟩::l) ⟨n,sl,hp⟩ K:=
 bx fz pass ks hw hspec hargs htk hos hd hm (fun _ _ ⟨e1,e2⟩=>by subst e1;subst e2;exact⟨_,hf,hk,h⟩)
end Go.Proofs.YtginkbjclkdglaaGreat
