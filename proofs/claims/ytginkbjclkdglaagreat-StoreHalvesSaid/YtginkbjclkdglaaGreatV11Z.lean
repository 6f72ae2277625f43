/- Rules: rows behind slices that the function owns: made, appended to, read, written; bytes and strings. No program in sight. -/
import Derived.Test.YtginkbjclkdglaaGreatV9Z
import Derived.Great.FillDense
import Derived.Lib.ConvBytes
import Derived.Lib.AppendStr
import Derived.Laws.IdiomStrings
import Derived.Laws.BytesArg
namespace Go.Proofs.YtginkbjclkdglaaGreat
open Go Go.RowKit
section
variable {P:Program} {T:List (Nat×TI)} {C:il} {S:St} {a:Act} {w:World} {F:Nat→Prop}
theorem r9(hT:cP P T){t e sz0 by0:Nat}{z0:AV}{k:TK}{sz bs:Nat}{z:AV}(ht:bI T t=some ⟨.slice e,sz0,by0,z0⟩)(he:bI T e=some ⟨k,sz,bs,z⟩)(hz:z.isVal=true)(hsz:gz z=sz)(hp:0<sz):Kk P t e sz bs:=by
 have h1:=aX hT he
 refine⟨ej (aX hT ht),?_,hp⟩
 obtain⟨i,hi,h2,h3⟩:=h1.inf
 rcases h1.zero with h0|⟨cs,h4,h5⟩
 ·have h0:z= .any:=h0
  rw[h0] at hz;cases hz
 ·rw[hi] at h5
  have hr:bw default (fun _=>True) z cs:=iw z cs h4
  exact⟨i,_,hi,h5,h2,h3,by rw[show (ch z cs).cells=cs.toArray from dV hr];simp only[List.size_toArray];rw[dF z cs hr];exact hsz⟩
theorem Ek{t e sz bs:Nat}(hE:Kk P t e sz bs)(ty:Nat){v:Value}{n:Nat}{xs:List Value}(hown:w.ownsRow 0 e sz v n xs)(A:Option Addr)(m c:Nat)(news:List Value)(hl:news.length=m*sz)
 (hA:m≠0→∃b off,A=some ⟨b,off,none⟩∧w.rangeAt b off news)(h1:∀u∈news,u.oneCell'=true)(h63:n+m≤maxLen)(hbytes:(n+m)*bs≤140737488355328):
 ∃v' w',(Builtin.append_ #[t,t] ty #[v,.slice A m c]).run P w= .ok v' w'∧w'.ownsRow 0 e sz v' (n+m) (xs++news)∧w.grownBy w' v.ownBlock∧(v'.ownBlock=v.ownBlock∨v'.ownBlock=some w.heap.size):=by
 obtain⟨i,z,hi,hz,hz1,hz2,hz3⟩:=hE.info
 rcases A with _|ad
 ·have hm:m=0:=by
   rcases Nat.eq_zero_or_pos m with h|h
   ·exact h
   ·obtain⟨b,off,h2,_⟩:=hA (by omega);cases h2
  subst hm
  have:news=[]:=List.eq_nil_of_length_eq_zero (by rw[hl];simp)
  subst this
  refine⟨v,w,?_,by simpa using hown,World.grownBy.refl w _,.inl Z⟩
  rcases hown.2 with ⟨rfl,h0⟩|⟨g,cap,cur,rfl,_,_,hnc,_⟩
  ·simp[Builtin.append_,run_underlying hE.ut,sizeOf,typeInfo,hi,Builtin.lenOf,Builtin.firstCells]
  ·simp[Builtin.append_,run_underlying hE.ut,sizeOf,typeInfo,hi,Builtin.lenOf,Builtin.firstCells,hnc,storeCells]
 ·obtain⟨v',w',hrun,h2,h3,_,h5⟩:=run_append_own_at (P:=P) w 0 t ty e i z sz bs hE.ut hi hz hz1 hz2 hz3 hE.pos v n xs hown ad m c news hl (fun j u hj=>by
   have hjl:=(List.getElem?_eq_some_iff.1 hj).1
   obtain⟨b,off,hb,hr⟩:=hA (by rintro rfl;rw[hl] at hjl;simp at hjl)
   injection hb with hb;subst hb
   rw[Addr.add_mid];exact hr j u hj) h1 h63 hbytes (Nat.zero_le _)
  exact⟨v',w',hrun,h2,h3,h5⟩
theorem mH{sz:Nat}:∀{xs ys:List AV} {c1 c2:List Value},dq w F sz xs c1→dq w F sz ys c2→dq w F sz (xs++ys) (c1++c2)
 |[],ys,c1,c2,h1,h2=>by simp only[dq] at h1;subst h1;simpa using h2
 |x::xs,ys,c1,c2,h1,h2=>by
  simp only[dq] at h1
  obtain⟨d1,d2,rfl,h3,h4,h5⟩:=h1
  rw[List.cons_append,List.append_assoc]
  simp only[dq]
  exact⟨d1,_,rfl,h3,h4,mH h5 h2⟩
theorem n5{b sz:Nat}:∀{xs:List AV} {off:Nat},d8 w F b off sz xs→∃cs,dq w F sz xs cs∧w.rangeAt b off cs
 |[],off,_=>⟨[],by simp only[dq],fun j u hj=>by simp at hj⟩
 |x::xs,off,h=>by
  simp only[d8] at h
  obtain⟨⟨c1,h1,h2,h3⟩,h4⟩:=h
  obtain⟨c2,h5,h6⟩:=n5 h4
  refine⟨c1++c2,by simp only[dq];exact⟨c1,c2,rfl,h1,h2,h5⟩,fun j u hj=>?_⟩
  by_cases hjl:j<c1.length
  ·rw[List.getElem?_append_left hjl] at hj;exact h3 j u hj
  ·rw[List.getElem?_append_right (by omega)] at hj
   have:=h6 (j - c1.length) u hj
   rwa [show off+sz+(j - c1.length)=off+j by omega] at this
theorem ep.grown(hs:ep C S a w){k:Nat}{v v':Value}{e e' sz:Nat}{xs xs':List AV}{w':World}{cells':List Value}(hg:bU S.heap k=some (.row v e sz xs))(hgr:w.grownBy w' v.ownBlock)
 (hrep:dq w (Fz C S.heap w) sz xs' cells')(hown:w'.ownsRow 0 e' sz v' xs'.length cells')(hv:v'.ownBlock=v.ownBlock∨v'.ownBlock=some w.heap.size):
 ep C ⟨S.n,S.slots,eT S.heap k (.row v' e' sz xs')⟩ a w':=by
 have hm:dE (fun b=>b∈HO.blk (.row v e sz xs)) w w':=(cD _ w).grown hgr (fun k hk _=>eY hk)
 have hlt':∀b,v'.ownBlock=some b→b<w'.heap.size:=fun b hb=>(World.ownsRow.lt hown b hb).2
 refine hs.swap hg _ hm ⟨cells',?_,hown⟩ (fun b hb=>?_)
 ·refine gP (F:=Fz C S.heap w) (fun b hb=>⟨Nat.lt_of_lt_of_le hb.1 hgr.size,fun hin=>?_,hb.2.2⟩) (fun b hb=>hm.block b hb.1 (fun he=>hb.2.1 (fH hg he))) _ _ _ hrep
  obtain⟨pre,q,post,e1,e2⟩:=ii hg
  rw[e2,cx,cI] at hin
  rcases List.mem_append.1 hin with h|h
  ·exact hb.2.1 (by rw[e1,cx];exact List.mem_append.2 (.inl h))
  ·rcases List.mem_append.1 h with h|h
   ·have h:v'.ownBlock=some b:=kH h
    rcases hv with h2|h2
    ·rw[h2] at h;exact hb.2.1 (fH hg (eY h))
    ·rw[h2] at h;injection h with h;have:=hb.1;omega
   ·exact hb.2.1 (by rw[e1,cx,cI];simp[h])
 ·have hb:v'.ownBlock=some b:=kH hb
  refine⟨hlt' b hb,?_⟩
  rcases hv with h2|h2
  ·rw[h2] at hb;exact .inl (eY hb)
  ·rw[h2] at hb;injection hb with hb;exact .inr (by omega)
theorem ep.newRow(hs:ep C S a w)(k:Nat){v:Value}{e sz:Nat}{xs:List AV}{w':World}{cells:List Value}(hm:dE lh w w')(hrep:dq w (Fz C S.heap w) sz xs cells)(hown:w'.ownsRow 0 e sz v xs.length cells)(hv:∀b,v.ownBlock=some b→w.heap.size≤b):
 ep C ⟨S.n,S.slots,(k,.row v e sz xs)::S.heap⟩ a w':=by
 have hlt:∀b,v.ownBlock=some b→b<w'.heap.size:=fun b hb=>(World.ownsRow.lt hown b hb).2
 refine hs.new k _ hm ⟨cells,?_,hown⟩ (fun b hb=>⟨hlt b (kH hb),hv b (kH hb)⟩)
 refine gP (F:=Fz C S.heap w) (fun b hb=>⟨Nat.lt_of_lt_of_le hb.1 hm.size,fun hin=>?_,hb.2.2⟩) (fun b hb=>hm.block b hb.1 (fun hf=>hf)) _ _ _ hrep
 rw[cI] at hin
 rcases List.mem_append.1 hin with h|h
 ·have:=hv b (kH h)
  have:=hb.1;omega
 ·exact hb.2.1 h
theorem zb{v:Value}{e sz n:Nat}{xs:List Value}(h:w.ownsRow 0 e sz v n xs):v.oneCell'=true:=by
 rcases h.2 with ⟨rfl,_⟩|⟨g,cap,cur,rfl,_⟩<;>rfl
end
def tM(H:List (Nat×HO)):AV→Option (Prop×Nat×List AV)
 |.sl sz xs=>some (True,sz,xs)
 |.own k v=>match bU H k with
  |some (.row v' _ sz xs)=>some (v'=v,sz,xs)
  |_=>none
 |_=>none
section
variable {m:OM} {P:Program} {T:List (Nat×TI)} {C:il} {S:St} {a:Act} {w:World} {ops:Array Oper} {l:List Oper} {K:St→Prop} {d:Nat} {ty:Nat} {pos:String} {aft:Array Edge}
theorem FC(hs:ep C S a w){x:AV}{p:Prop}{sz:Nat}{xs:List AV}(h:tM S.heap x=some (p,sz,xs))(hp:p){v:Value}(hv:cL w (Fz C S.heap w) x v):
 ∃A c cells,v= .slice A xs.length c∧xs.length≤c∧c≤maxLen∧dq w (Fz C S.heap w) sz xs cells∧(xs.length≠0→∃b off,A=some ⟨b,off,none⟩∧w.rangeAt b off cells):=by
 unfold tM at h
 split at h
 ·rename_i sz' xs'
  simp only[Option.some.injEq,Prod.mk.injEq] at h
  obtain⟨_,rfl,rfl⟩:=h
  rw[iW] at hv
  obtain⟨A,cap,rfl,h1,h2,h3⟩:=hv
  rcases xs' with _|⟨y,ys⟩
  ·exact⟨A,cap,[],rfl,h1,h2,by simp only[dq],fun h=>absurd Z h⟩
  ·obtain⟨b,off,rfl,_,hr⟩:=h3 (by simp)
   obtain⟨cs,h4,h5⟩:=n5 hr
   exact⟨_,cap,cs,rfl,h1,h2,h4,fun _=>⟨b,off,rfl,h5⟩⟩
 ·rename_i k v0
  split at h
  ·rename_i v' e' sz' xs' hg
   simp only[Option.some.injEq,Prod.mk.injEq] at h
   obtain⟨rfl,rfl,rfl⟩:=h
   subst hp
   rw[cf] at hv
   obtain⟨rfl,_⟩:=hv
   obtain⟨cells,h1,h2⟩:=hs.getHeap hg
   have hrow:=h2
   rcases h2.2 with ⟨rfl,h0⟩|⟨g,cap,cur,rfl,_,hgg,h3,h4,h5,h6⟩
   ·exact⟨none,0,cells,by rw[h0],by omega,Nat.zero_le _,h1,fun h=>absurd h0 h⟩
   ·refine⟨_,cap,cells,rfl,h3,h4,h1,fun _=>⟨g,0,rfl,fun j u hj=>?_⟩⟩
    have hb:iJ w g e' cur:=hgg
    rw[hb.cell,←Array.getElem?_toList,Nat.zero_add]
    rw[←h6,List.getElem?_take] at hj
    split at hj
    ·exact hj
    ·cases hj
  ·cases h
 ·cases h
theorem aq.append(hT:cP P T){gd:Option (Nat×Bool)}(hw:cH ops S gd=bE gd){x y:Operand}{t e sz0 by0:Nat}{z0:AV}{tk:TK}{sz bs:Nat}{z:AV}{k:Nat}{v:Value}{xs ys:List AV}{p:Prop}
 (ht:bI T t=some ⟨.slice e,sz0,by0,z0⟩)(he:bI T e=some ⟨tk,sz,bs,z⟩)(hz:z.isVal=true)(hsz:gz z=sz)(hpos:0<sz)
 (hx:ev S x= .own k v)(hg:bU S.heap k=some (.row v e sz xs))(hy:tM S.heap (ev S y)=some (p,sz,ys))(hp:p)
 (hd:Nat.blt d S.n=true)(hm:m.oke (some d) [k]=true)(hlen:(xs.length+ys.length)*bs≤140737488355328)(hlen2:xs.length+ys.length≤9223372036854775807)
 (h:∀v',aq m P C ops l ⟨S.n,(d,.own k v')::S.slots,eT S.heap k (.row v' e sz (xs++ys))⟩ K):aq m P C ops (⟨some d,.call ⟨.builtin .append,#[x,y],#[t,t]⟩,ty,pos,aft,gd⟩::l) S K:=by
 refine eD hw [k] hm Z fun a w hs=>?_
 have hE:=r9 hT ht he hz hsz hpos
 have Ex:=bg hs x
 rw[hx,cf] at Ex
 obtain⟨A,c,news,hv,h1,h2,h3,h4⟩:=FC hs hy hp (bg hs y)
 obtain⟨cells,h5,h6⟩:=hs.getHeap hg
 have hnl:news.length=ys.length*sz:=jZ sz ys news h3
 obtain⟨v',w',r1,r2,r3,r4⟩:=Ek hE ty h6 A ys.length c news hnl h4 (rx sz ys news h3) (by unfold maxLen;omega) hlen
 rw[←List.length_append] at r2
 refine⟨v',w',_,.own k v',?_,hs.grown hg r3 (mH h5 h3) r2 r4,hd,cf.2 ⟨rfl,zb r2⟩,fV hg ((cD _ w).grown r3 (fun k hk _=>eY hk)) (fun b hb=>by
  have hb:v'.ownBlock=some b:=kH hb
  rcases r4 with h|h
  ·rw[h] at hb;exact .inl (eY hb)
  ·rw[h] at hb;injection hb with hb;exact .inr (by omega)),h v'⟩
 simp only[execOp,resolve,invoke,builtin,Sem.run_bind,Sem.run_pure,Result.andThen_ok,List.map_toArray,List.map_cons,List.map_nil,Ex.1,hv,r1]
def oc(S:St):Nat→List (Nat×Operand)→Option (List AV)
 |_,[]=>some []
 |i,(j,x)::r=>bif Nat.beq i j then match oc S (i+1) r with
  |some xs=>some (ev S x::xs)
  |none=>none
  else none
def Fo(sz:Nat):List AV→Prop
 |[]=>True
 |x::xs=>(gz x=sz∧x.isVal=true)∧Fo sz xs
theorem tX(hs:ep C S a w){sz:Nat}:∀(ps:List (Nat×Operand)) (i:Nat) (xs:List AV),oc S i ps=some xs→Fo sz xs→
 ∃vs:List Value,ps.map (fun p=>(p.1,a.eval p.2))=(vs.zipIdx i).map (fun x=>(x.2,x.1))∧vs.length=xs.length∧∃cells,dq w (Fz C S.heap w) sz xs cells∧(∀v∈vs,v.cells.size=sz)∧cells=vs.flatMap (fun v=>v.cells.toList)
 |[],i,xs,h,_=>by
  simp only[oc,Option.some.injEq] at h;subst h
  exact⟨[],rfl,rfl,[],by simp only[dq],fun v hv=>by simp at hv,rfl⟩
 |(j,x)::r,i,xs,h,hall=>by
  simp only[oc] at h
  cases hb:Nat.beq i j with
  |false=>rw[hb] at h;simp at h
  |true=>
   rw[hb] at h
   have hij:=Nat.eq_of_beq_eq_true hb
   subst hij
   cases hr:oc S (i+1) r with
   |none=>rw[hr] at h;simp at h
   |some ys=>
    rw[hr] at h
    simp only[cond_true,Option.some.injEq] at h
    subst h
    obtain⟨vs,h1,h2,cells,h3,h4,h5⟩:=tX hs r (i+1) ys hr hall.2
    obtain⟨cs,c1,c2⟩:=i7 hall.1.2 (bg hs x)
    have hcells:=dV c1
    have hsz:cs.length=sz:=by rw[dF _ _ c1];exact hall.1.1
    refine⟨a.eval x::vs,by simp[h1],by simp[h2],cs++cells,by simp only[dq];exact⟨cs,cells,rfl,c1,hsz,h3⟩,fun v hv=>?_,by rw[List.flatMap_cons,c2,hcells,h5]⟩
    rcases List.mem_cons.1 hv with rfl|hv
    ·rw[c2,hcells];simpa using hsz
    ·exact h4 v hv
theorem Iz{sz:Nat}(hp:0<sz)(vs:List Value)(cells:Array Value)(hv:∀v∈vs,v.cells.size=sz)(hc:cells.size=vs.length*sz):
 Instr.fill (fun i=>some (i*sz,sz)) cells ((vs.zipIdx 0).map fun x=>(x.2,x.1))=some (vs.flatMap (fun v=>v.cells.toList)).toArray:=by
 obtain⟨r,h1,h2,h3⟩:=Go.Great.fill_dense hp vs 0 cells hv (by rw[Nat.zero_add];omega)
 simp only[Nat.zero_add,Nat.zero_mul] at h3
 rw[h1]
 congr 1
 apply Array.ext_getElem?
 intro k
 rw[h3 k]
 have hfl:(vs.flatMap (fun v=>v.cells.toList)).length=vs.length*sz:=by
  have:∀(l:List Value),(∀v∈l,v.cells.size=sz)→(l.flatMap (fun v=>v.cells.toList)).length=l.length*sz:=by
   intro l
   induction l with
   |nil=>intro _;simp
   |cons y ys ih=>intro h;rw[List.flatMap_cons,List.length_append,ih (fun v hv=>h v (by simp[hv])),Array.length_toList,h y (by simp),List.length_cons,Nat.add_mul];omega
  exact this vs hv
 rw[show (vs.flatMap (fun v=>v.cells.toList)).toArray[k]?=(vs.flatMap (fun v=>v.cells.toList))[k]? from List.getElem?_toArray]
 by_cases hk:k<vs.length*sz
 ·rw[if_pos (by omega),Nat.sub_zero]
  have bU:∀(l:List Value),(∀v∈l,v.cells.size=sz)→∀(q j:Nat),j<sz→(l.flatMap (fun v=>v.cells.toList))[q*sz+j]?=(l[q]?).bind fun v=>v.cells[j]?:=by
   intro l
   induction l with
   |nil=>intro _ q j _;simp
   |cons y ys ih=>
    intro h q j hj
    have hy:=h y (by simp)
    cases q with
    |zero=>simp[List.getElem?_append_left,hy,hj,←Array.getElem?_toList]
    |succ q=>
     rw[List.flatMap_cons,List.getElem?_append_right (by rw[Array.length_toList,hy,Nat.add_mul];omega),Array.length_toList,hy,show (q+1)*sz+j - sz=q*sz+j by rw[Nat.add_mul];omega,ih (fun v hv=>h v (by simp[hv])) q j hj]
     simp
  have hq:=bU vs hv (k / sz) (k%sz) (Nat.mod_lt _ hp)
  rw[show k / sz*sz+k%sz=k by rw[Nat.mul_comm];exact Nat.div_add_mod k sz] at hq
  rw[hq]
 ·rw[if_neg (by omega),Array.getElem?_eq_none (by omega),List.getElem?_eq_none (by omega)]
theorem aq.buildSlice(hT:cP P T){gd:Option (Nat×Bool)}(hw:cH ops S gd=bE gd){t e sz0 by0:Nat}{z0:AV}{tk:TK}{sz bs:Nat}{z:AV}{n:Nat}{parts:Array (Nat×Operand)}{xs:List AV}
 (ht:bI T t=some ⟨.slice e,sz0,by0,z0⟩)(he:bI T e=some ⟨tk,sz,bs,z⟩)(hz:z.isVal=true)(hsz:gz z=sz)(hpos:0<sz)
 (hp:oc S 0 parts.toList=some xs)(hn:xs.length=n)(hall:Fo sz xs)(hle:n*sz≤16777216)
 (hd:Nat.blt d S.n=true)(h:∀v',aq m P C ops l ⟨S.n,(d,.own d v')::S.slots,(d,.row v' e sz xs)::S.heap⟩ K):aq m P C ops (⟨some d,.buildSlice t n parts,ty,pos,aft,gd⟩::l) S K:=by
 refine eD hw [] eZ Z fun a w hs=>?_
 obtain⟨vs,h1,h2,cells,h3,h4,h5⟩:=tX hs parts.toList 0 xs hp hall
 have hE:=r9 hT ht he hz hsz hpos
 obtain⟨i,zv,hi,hzv,hz1,hz2,hz3⟩:=hE.info
 have hcl:=jZ sz xs cells h3
 have hrun:(Instr.buildSlice t n (parts.map fun (i,x)=>(i,a.eval x))).run P w= .ok (.slice (some ⟨w.heap.size,0,none⟩) n n) (w.alloc (.cells cells.toArray e)):=by
  have hparts:(parts.map fun (i,x)=>(i,a.eval x)).toList=(vs.zipIdx 0).map fun x=>(x.2,x.1):=by rw[Array.toList_map];exact h1
  have hfill:∀arr:Array Value,arr.size=n*sz→Instr.fill (fun i=>some (i*sz,sz)) arr ((vs.zipIdx 0).map fun x=>(x.2,x.1))=some cells.toArray:=fun arr harr=>by
   rw[Iz hpos vs arr h4 (by rw[harr,h2,hn]),h5]
  unfold Instr.buildSlice
  rw[Sem.run_bind,run_underlying hE.ut]
  simp only[Result.andThen_ok,Sem.run_bind,(aX hT he).sizeRun]
  rw[if_neg (by omega)]
  by_cases h0:n*sz=0
  ·have hf:=hfill ((Array.range 0).map fun x=>(#[]:Array Value)[x%(#[]:Array Value).size]!) (by simp[h0])
   simp only[h0,if_true,Sem.run_bind,Sem.run_pure,Result.andThen_ok,hparts]
   rw[hf]
   simp[newRow,newObj,Sem.run]
  ·have hzr:(zeroValue e).run P w= .ok zv w:=by simp[zeroValue,typeInfo,hi,hzv]
   have hf:=hfill ((Array.range (n*sz)).map fun x=>zv.cells[x%zv.cells.size]!) (by simp)
   simp only[h0,if_false,Sem.run_bind,hzr,Sem.run_pure,Result.andThen_ok,hparts]
   rw[hf]
   simp[newRow,newObj,Sem.run]
 have hrow:(w.alloc (.cells cells.toArray e)).ownsRow 0 e sz (.slice (some ⟨w.heap.size,0,none⟩) n n) xs.length cells:=by
  refine⟨hcl,.inr ⟨w.heap.size,n,cells.toArray,by rw[hn],Nat.zero_le _,iJ.new w e _,by omega,?_,by simp[hcl,hn],?_⟩⟩
  ·have:n≤n*sz:=Nat.le_mul_of_pos_right n hpos
   unfold maxLen;omega
  ·rw[List.take_of_length_le (by simp[hcl])]
 refine⟨_,w.alloc (.cells cells.toArray e),_,.own d (.slice (some ⟨w.heap.size,0,none⟩) n n),?_,hs.newRow d ((cD _ w).alloc _) h3 (by rw[hn] at hrow ⊢;exact hrow) (fun b hb=>?_),hd,cf.2 ⟨rfl,rfl⟩,lz ((cD _ w).alloc _) (fun b hb=>by simp[HO.blk,Value.ownBlock] at hb;omega),h _⟩
 ·simp only[execOp,Sem.run_bind,hrun,Result.andThen_ok,Sem.run_pure]
 ·simp[Value.ownBlock] at hb;omega
end
def gy(c:UInt8):AV:=.i .u8 (c.toNat:Int)
section
variable {m:OM} {P:Program} {T:List (Nat×TI)} {C:il} {S:St} {a:Act} {w:World} {F:Nat→Prop} {ops:Array Oper} {l:List Oper} {K:St→Prop} {d:Nat} {ty:Nat} {pos:String} {aft:Array Edge}
theorem aq.indexOwn(hT:cP P T){gd:Option (Nat×Bool)}(hw:cH ops S gd=bE gd){t:Nat}{x ix:Operand}{k:Nat}{v:Value}{e0 sz:Nat}{xs:List AV}{n:Int}{kk:IntKind}{e sz0 by_:Nat}{z:AV}{te:TI}
 (hx:ev S x= .own k v)(hg:bU S.heap k=some (.row v e0 sz xs))(hi:ev S ix= .i kk n)(ht:bI T t=some ⟨.slice e,sz0,by_,z⟩)(he:bI T e=some te)(hsz:te.sz=sz)
 (hd:Nat.blt d S.n=true)(h0:0≤n)(hn:n<xs.length)(h:∀b,v.ownBlock=some b→aq m P C ops l (S.put d (.ptr k b [n.toNat] (n.toNat*sz))) K):aq m P C ops (⟨some d,.indexAddr t x ix,ty,pos,aft,gd⟩::l) S K:=by
 refine⟨fun Q E a w hs hK=>?_⟩
 have hrow:=hs.getHeap hg
 have hob:∃b,v.ownBlock=some b:=by
  obtain⟨cells,h1,h2⟩:=hrow
  rcases h2.2 with ⟨rfl,h0'⟩|⟨g,cap,cur,rfl,_⟩
  ·omega
  ·exact⟨g,rfl⟩
 obtain⟨b,hb⟩:=hob
 refine(eI (d:=some d) hw none cT hd Z (fun a w hs=>?_) (h b hb)).out Q E a w hs hK
 have Ex:=bg hs x;have Ei:=bg hs ix
 rw[hx,cf] at Ex
 rw[hi,cq] at Ei
 obtain⟨cells,h1,h2⟩:=hs.getHeap hg
 rcases h2.2 with ⟨rfl,h0'⟩|⟨g,cap,cur,rfl,_,hgg,h3,h4,h5,h6⟩
 ·omega
 ·have hgb:g=b:=by simpa [Value.ownBlock] using hb
  subst hgb
  refine⟨_,dg.2 Z,fun w' _=>?_⟩
  have:=jD (aX hT ht) (aX hT he) g 0 xs.length cap n kk h0 hn w'
  rw[Nat.zero_add,hsz] at this
  simp only[execOp,Ex.1,Ei,Sem.run_bind,this,Result.andThen_ok,Sem.run_pure]
theorem pO{v:Value}{e sz:Nat}{xs:List AV}{b:Nat}(h:oG w F (.row v e sz xs))(hb:v.ownBlock=some b):∃cells cap cur,dq w F sz xs cells∧v= .slice (some ⟨b,0,none⟩) xs.length cap∧iJ w b e cur∧xs.length≤cap∧cap≤maxLen∧cur.size=cap*sz∧cur.toList.take (xs.length*sz)=cells:=by
 obtain⟨cells,h1,h2⟩:=h
 rcases h2.2 with ⟨rfl,h0⟩|⟨g,cap,cur,rfl,_,hgg,h3,h4,h5,h6⟩
 ·simp[Value.ownBlock] at hb
 ·simp[Value.ownBlock] at hb;subst hb
  exact⟨cells,cap,cur,h1,rfl,hgg,h3,h4,h5,h6⟩
theorem aq.loadRow(hT:cP P T){gd:Option (Nat×Bool)}(hw:cH ops S gd=bE gd){t:Nat}{x:Operand}{k b i off o:Nat}{path:List Nat}{v:Value}{e sz:Nat}{xs:List AV}{x0 y:AV}{ti:TI}
 (hx:ev S x= .ptr k b (i::path) off)(hg:bU S.heap k=some (.row v e sz xs))(hb:v.ownBlock=some b)(hi:xs[i]?=some x0)(hsub:jL path x0=some (o,y))(ho:i*sz+o=off)(ht:bI T t=some ti)(hf:fits ti y)
 (hm:m.okc (some d) (some (some k))=true)(hd:Nat.blt d S.n=true)(h:aq m P C ops l (S.put d y) K):aq m P C ops (⟨some d,.load t x,ty,pos,aft,gd⟩::l) S K:=by
 refine eI (d:=some d) hw (some (some k)) hm hd Z (fun a w hs=>?_) h
 have Ex:=bg hs x
 rw[hx,dg] at Ex
 obtain⟨cells,cap,cur,h1,h2,h3,h4,h5,h6,h7⟩:=pO (hs.getHeap hg) hb
 obtain⟨pre,mid,post,e1,e2,e3,e4,_⟩:=uH sz xs i x0 cells h1 hi
 obtain⟨pre2,mid2,post2,f1,f2,f3,_⟩:=lD path x0 mid o y e3 hsub
 refine⟨_,ll f3,fun w' hrd=>?_⟩
 have hrd:w'.heap[b]?=w.heap[b]?:=hrd _ b hg (eY hb)
 have hr:w.rangeAt b off mid2:=by
  intro j u hj
  have hjl:=(List.getElem?_eq_some_iff.1 hj).1
  rw[h3.cell,←Array.getElem?_toList]
  have:cells[off+j]?=some u:=by
   rw[e1,f1,←ho]
   rw[List.append_assoc,List.getElem?_append_right (by omega),e2,show i*sz+o+j - i*sz=o+j by omega]
   rw[List.append_assoc,List.append_assoc,List.getElem?_append_right (by omega),f2,Nat.add_sub_cancel_left,List.getElem?_append_left hjl]
   exact hj
  rw[←h7,List.getElem?_take] at this
  split at this
  ·exact this
  ·cases this
 have:=vV (P:=P) (aX hT ht) hf f3 w' (j0 hr hrd)
 simp only[execOp,Ex,Sem.run_bind,this,Result.andThen_ok,Sem.run_pure]
theorem aq.storeRow(hT:cP P T){gd:Option (Nat×Bool)}(hw:cH ops S gd=bE gd){t:Nat}{x y:Operand}{k b i off o:Nat}{path:List Nat}{v:Value}{e sz:Nat}{xs:List AV}{x0 old:AV}{ti:TI}
 (hx:ev S x= .ptr k b (i::path) off)(hg:bU S.heap k=some (.row v e sz xs))(hb:v.ownBlock=some b)(hi:xs[i]?=some x0)(hsub:jL path x0=some (o,old))(ho:i*sz+o=off)(ht:bI T t=some ti)(hf:fits ti (ev S y))(hold:gz old=ti.sz)(hy:(ev S y).isVal=true)(hmk:m.oke none [k]=true)
 (h:aq m P C ops l ⟨S.n,S.slots,eT S.heap k (.row v e sz (xs.set i (kJ path x0 (ev S y))))⟩ K):aq m P C ops (⟨none,.store t x y,ty,pos,aft,gd⟩::l) S K:=by
 refine mq hw [k] hmk Z fun a w hs=>?_
 have Ex:=bg hs x
 rw[hx,dg] at Ex
 obtain⟨ys,hc,hv⟩:=i7 hy (bg hs y)
 obtain⟨cells,cap,cur,h1,h2,h3,h4,h5,h6,h7⟩:=pO (hs.getHeap hg) hb
 obtain⟨pre,mid,post,e1,e2,e3,e4,e5⟩:=uH sz xs i x0 cells h1 hi
 obtain⟨pre2,mid2,post2,f1,f2,f3,f4⟩:=lD path x0 mid o old e3 hsub
 have hl:ys.length=mid2.length:=by rw[dF _ _ hc,dF _ _ f3,hold,hf.1]
 have hcl:=jZ sz xs cells h1
 have hcl2:cells.length=pre.length+(pre2.length+mid2.length+post2.length)+post.length:=by rw[e1,f1];simp;omega
 have hle0:off+ys.length≤cells.length:=by omega
 have hcc:xs.length*sz≤cap*sz:=Nat.mul_le_mul_right sz h4
 have hle:off+ys.length≤cur.size:=by omega
 have hcur:cur.toList=cells++cur.toList.drop (xs.length*sz):=by rw[←h7];exact(List.take_append_drop _ _).symm
 have hm:dE (fun b'=>b'∈HO.blk (.row v e sz xs)) w (w.setCells b off ys):=fU (S:=fun b'=>b'∈HO.blk (.row v e sz xs)) (fun _=>eY hb) ys off (cD _ w)
 refine⟨w.setCells b off ys,_,?_,?_,fV hg (y:=.row v e sz (xs.set i (kJ path x0 (ev S y)))) hm (fun _ h=>.inl h),h⟩
 ·have:=oS (P:=P) (aX hT ht) hf hc (b:=b) (o:=off) (xA h3 hle)
  simp only[execOp,Ex,hv,Sem.run_bind,this,Result.andThen_ok,Sem.run_pure]
 ·have hset':bU S.heap k=some (.row v e sz xs):=hg
  refine hs.swap hset' (.row v e sz (xs.set i (kJ path x0 (ev S y)))) hm ⟨pre++(pre2++ys++post2)++post,?_,?_⟩ (fun b' hb'=>?_)
  ·have g1:=e5 _ _ (f4 (ev S y) ys hc hl) (by rw[←e4,f1];simp[hl])
   refine gP (F:=Fz C S.heap w) (fun b' hb'=>⟨Nat.lt_of_lt_of_le hb'.1 hm.size,by rw[qa hg (.row v e sz (xs.set i (kJ path x0 (ev S y)))) Z];exact hb'.2.1,hb'.2.2⟩) (fun b' hb'=>hm.block b' hb'.1 (fun he=>hb'.2.1 (fH hg he))) _ _ _ g1
  ·have hlen:(pre++(pre2++ys++post2)++post).length=cells.length:=by rw[hcl2];simp[hl];omega
   have hb2:=tQ w off ys h3 hle
   refine⟨by rw[hlen,hcl,List.length_set],.inr ⟨b,cap,_,by rw[List.length_set];exact h2,Nat.zero_le _,hb2,by rw[List.length_set];exact h4,h5,?_,?_⟩⟩
   ·rw[←h6];simp;omega
   ·rw[List.length_set,←hcl]
    have hoff:off=pre.length+pre2.length:=by omega
    simp only[]
    rw[hcur]
    have t1:(cells++cur.toList.drop (xs.length*sz)).take off=pre++pre2:=by
     rw[e1,f1,hoff,←List.length_append]
     rw[show pre++(pre2++mid2++post2)++post++cur.toList.drop (xs.length*sz)=(pre++pre2)++(mid2++(post2++(post++cur.toList.drop (xs.length*sz)))) by simp,List.take_left]
    have t2:(cells++cur.toList.drop (xs.length*sz)).drop (off+ys.length)=post2++(post++cur.toList.drop (xs.length*sz)):=by
     rw[e1,f1,hoff,hl,←List.length_append,←List.length_append]
     rw[show pre++(pre2++mid2++post2)++post++cur.toList.drop (xs.length*sz)=(pre++pre2++mid2)++(post2++(post++cur.toList.drop (xs.length*sz))) by simp,List.drop_left]
    rw[t1,t2,show pre++pre2++ys++(post2++(post++cur.toList.drop (xs.length*sz)))=(pre++(pre2++ys++post2)++post)++cur.toList.drop (xs.length*sz) by simp,←hlen,List.take_left]
  ·have hb':v.ownBlock=some b':=kH hb'
   have:b'=b:=by rw[hb] at hb';injection hb' with h;exact h.symm
   subst this
   exact⟨by have:=h3.lt;have:=hm.size;omega,.inl (eY hb)⟩
theorem lX{sz:Nat}{z:AV}{cs:List Value}(hz:bw w F z cs)(hl:cs.length=sz):∀n,dq w F sz (List.replicate n z) ((List.replicate n cs).flatten)
 |0=>by simp[dq]
 |n+1=>by
  rw[List.replicate_succ,List.replicate_succ,List.flatten_cons]
  simp only[dq]
  exact⟨cs,_,rfl,hz,hl,lX hz hl n⟩
theorem JQ(cs:List Value)(n:Nat)(hp:0<cs.length):(madeCells cs.toArray (n*cs.length)).toList=(List.replicate n cs).flatten:=by
 apply List.ext_getElem?
 intro k
 have hfl:∀n,((List.replicate n cs).flatten).length=n*cs.length:=by
  intro n
  induction n with
  |zero=>simp
  |succ n ih=>rw[List.replicate_succ,List.flatten_cons,List.length_append,ih,Nat.add_mul];omega
 have bU:∀n k,k<n*cs.length→((List.replicate n cs).flatten)[k]?=cs[k%cs.length]?:=by
  intro n
  induction n with
  |zero=>intro k hk;omega
  |succ n ih=>
   intro k hk
   rw[List.replicate_succ,List.flatten_cons]
   by_cases h:k<cs.length
   ·rw[List.getElem?_append_left h,Nat.mod_eq_of_lt h]
   ·rw[List.getElem?_append_right (by omega),ih (k - cs.length) (by rw[Nat.add_mul] at hk;omega)]
    rw[Nat.mod_eq_sub_mod (a:=k) (by omega)]
 have hsz:(madeCells cs.toArray (n*cs.length)).size=n*cs.length:=size_madeCells _ _
 by_cases hk:k<n*cs.length
 ·rw[bU n k hk]
  unfold madeCells
  rw[Array.getElem?_toList,Array.getElem?_map]
  have:(Array.range (n*cs.length))[k]?=some k:=by simp[hk]
  rw[this]
  have hm:k%cs.length<cs.length:=Nat.mod_lt _ hp
  simp[hm]
 ·rw[List.getElem?_eq_none (by rw[Array.length_toList,hsz];omega),List.getElem?_eq_none (by rw[hfl];omega)]
theorem aq.makeSlice(hT:cP P T){gd:Option (Nat×Bool)}(hw:cH ops S gd=bE gd){t e sz0 by0:Nat}{z0:AV}{tk:TK}{sz bs:Nat}{z:AV}{x y:Operand}{kl kc:IntKind}{n:Nat}
 (ht:bI T t=some ⟨.slice e,sz0,by0,z0⟩)(he:bI T e=some ⟨tk,sz,bs,z⟩)(hz:z.isVal=true)(hsz:gz z=sz)(hpos:0<sz)
 (hx:ev S x= .i kl (n:Int))(hy:ev S y= .i kc (n:Int))(hlen:bs*n≤281474976710656)(hlen2:n≤9223372036854775807)
 (hd:Nat.blt d S.n=true)(h:∀v',aq m P C ops l ⟨S.n,(d,.own d v')::S.slots,(d,.row v' e sz (List.replicate n z))::S.heap⟩ K):aq m P C ops (⟨some d,.makeSlice t x y,ty,pos,aft,gd⟩::l) S K:=by
 refine eD hw [] eZ Z fun a w hs=>?_
 have hE:=r9 hT ht he hz hsz hpos
 have Ex:=bg hs x;have Ey:=bg hs y
 rw[hx,cq] at Ex;rw[hy,cq] at Ey
 rcases (aX hT he).zero with h0|⟨cs,h1,h2⟩
 ·have h0:z= .any:=h0
  rw[h0] at hz;cases hz
 have hrep:bw w (Fz C S.heap w) z cs:=iw z cs h1
 have hcs:cs.length=sz:=by rw[dF _ _ hrep,hsz]
 obtain⟨i,zv,hi,hzv,hz1,hz2,hz3⟩:=hE.info
 have hzv2:zv=ch z cs:=by rw[hi] at h2;simp only[Option.bind_some,hzv,Option.some.injEq] at h2;exact h2
 have hb:(i.bytes:Int)*(n:Int)≤281474976710656:=by
  have h:((i.bytes*n:Nat):Int)≤281474976710656:=by rw[hz2];omega
  rwa [Int.natCast_mul] at h
 have hrun:=run_make (P:=P) w t e i zv hE.ut hi hzv kl kc (n:Int) (n:Int) (by omega) (by omega) hb (by omega)
 simp only[Int.toNat_natCast] at hrun
 have hcells:zv.cells=cs.toArray:=by rw[hzv2];exact dV hrep
 rw[hcells,hz1,←hcs] at hrun
 have hmade:=JQ cs n (by omega)
 have hfl:=jZ sz _ _ (lX (w:=w) (F:=Fz C S.heap w) hrep hcs n)
 rw[List.length_replicate] at hfl
 have hrow:(w.alloc (.cells (madeCells cs.toArray (n*cs.length)) e)).ownsRow 0 e sz (.slice (some ⟨w.heap.size,0,none⟩) n n) n ((List.replicate n cs).flatten):=by
  refine⟨hfl,.inr ⟨w.heap.size,n,madeCells cs.toArray (n*cs.length),rfl,Nat.zero_le _,iJ.new w e _,by omega,by unfold maxLen;omega,by rw[size_madeCells,hcs],?_⟩⟩
  rw[hmade,List.take_of_length_le (by omega)]
 refine⟨_,_,_,.own d (.slice (some ⟨w.heap.size,0,none⟩) n n),?_,hs.newRow d ((cD _ w).alloc _) (lX hrep hcs n) (by rw[List.length_replicate];exact hrow) (fun b hb=>?_),hd,cf.2 ⟨rfl,rfl⟩,lz ((cD _ w).alloc _) (fun b hb=>by simp[HO.blk,Value.ownBlock] at hb;omega),h _⟩
 ·simp only[execOp,Ex,Ey,Sem.run_bind,hrun,Result.andThen_ok,Sem.run_pure]
 ·simp[Value.ownBlock] at hb;omega
theorem n8{b:Nat}:∀(l:List UInt8) (off:Nat),(∀j c,l[j]?=some c→w.cell? ⟨b,off+j,none⟩=some (.int .u8 (c.toNat:Int)))→d8 w F b off 1 (l.map gy)
 |[],_,_=>by simp[d8]
 |c::l,off,h=>by
  rw[List.map_cons]
  simp only[d8]
  refine⟨⟨[.int .u8 (c.toNat:Int)],by simp[gy,bw],rfl,fun j u hj=>?_⟩,n8 l (off+1) (fun j c' hc=>?_)⟩
  ·cases j with
   |zero=>simp at hj;subst hj;exact h 0 c Z
   |succ j=>simp at hj
  ·have:=h (j+1) c' (by simpa using hc)
   rwa [show off+(j+1)=off+1+j by omega] at this
theorem pF{sz:Nat}:∀(l:List UInt8) (cells:List Value),dq w F sz (l.map gy) cells→cells=l.map fun c=>Value.int .u8 (c.toNat:Int)
 |[],cells,h=>by simp only[List.map_nil,dq] at h;simpa using h
 |c::l,cells,h=>by
  rw[List.map_cons] at h
  simp only[dq,gy,bw] at h
  obtain⟨c1,c2,rfl,rfl,_,h4⟩:=h
  rw[pF l c2 h4];rfl
theorem aq.toBytes(hT:cP P T){gd:Option (Nat×Bool)}(hw:cH ops S gd=bE gd){src dst e:Nat}{x:Operand}{s:List UInt8}{k1:TI}{sz0 by0:Nat}{z0:AV}{sz1 by1:Nat}{z1:AV}
 (hx:ev S x= .s s)(h1:bI T src=some k1)(h2:bI T dst=some ⟨.slice e,sz0,by0,z0⟩)(h3:bI T e=some ⟨.int .u8,sz1,by1,z1⟩)
 (hd:Nat.blt d S.n=true)(h:aq m P C ops l (S.put d (.sl 1 (s.map gy))) K):aq m P C ops (⟨some d,.convert src dst x,ty,pos,aft,gd⟩::l) S K:=by
 refine eD hw [] eZ (by simp[jP,ej (aX hT h2)]) fun a w hs=>?_
 have Ex:=bg hs x
 rw[hx,gS] at Ex
 obtain⟨ds,hds,_⟩:=(aX hT h1).desc
 have hrun:=Lib.run_convert_string_bytes (P:=P) w src dst e (bf s) hds (ej (aX hT h2)) (nR (aX hT h3))
 have hm:dE lh w (Lib.bytesWorld w e (bf s)):=dE.of_below ⟨rfl,rfl,rfl,by rw[Lib.bytesWorld_size];omega,fun k hk=>Lib.bytesWorld_at_old w e (bf s) k hk⟩
 have hs2:ep C ⟨S.n,S.slots,S.heap⟩ a (Lib.bytesWorld w e (bf s)):=
  hs.move S.heap lh hm (fun _ _ hf=>hf.elim) hs.nd (fun b hb=>⟨Nat.lt_of_lt_of_le (hs.lt b hb).1 hm.size,.inl hb⟩) (fun p hp=>hs.keepHO hm (fun _ _ hf=>hf.elim) (fun b hb=>⟨Nat.lt_of_lt_of_le (hs.lt b hb).1 hm.size,.inl hb⟩) (hs.heap p hp) (fun _ _ hf=>hf))
 refine⟨.slice (some ⟨w.heap.size,0,none⟩) (bf s).size (grownCap w (bf s).size 0 e),Lib.bytesWorld w e (bf s),S,.sl 1 (s.map gy),?_,hs2,hd,?_,m6.same hm,h⟩
 ·simp only[execOp,Ex.1,Sem.run_bind,hrun,Result.andThen_ok,Sem.run_pure]
 ·rw[iW]
  have hcap:s.length≤grownCap w (bf s).size 0 e∧grownCap w (bf s).size 0 e≤maxLen:=by
   have h63:(bf s).size<9223372036854775808:=by have:=Ex.2;unfold maxLen at this;show s.length<_;omega
   unfold grownCap Question.cut
   have:(2:Nat)^63=9223372036854775808:=by decide
   have h5:=Nat.mod_lt (w.tape w.drawn (.appendCap (bf s).size 0 e)) (show 0<2^63 - (bf s).size by omega)
   have h6:(bf s).size=s.length:=rfl
   simp only[]
   constructor
   ·omega
   ·unfold maxLen;omega
  refine⟨_,grownCap w (bf s).size 0 e,by rw[List.length_map];rfl,by rw[List.length_map];exact hcap.1,hcap.2,fun _=>⟨w.heap.size,0,rfl,⟨by rw[Lib.bytesWorld_size];omega,fun hin=>?_,.inr (.inl hs.mod.size)⟩,?_⟩⟩
  ·have:=(hs.lt _ hin).1;omega
  ·refine n8 s 0 (fun j c hj=>?_)
   have hjl:=(List.getElem?_eq_some_iff.1 hj).1
   rw[Nat.zero_add,Lib.bytesWorld_cell w e (bf s) j hjl]
   simp[bf,hj,List.getD]
def Lp:AV→Option (Option Nat)
 |.own k _=>some (some k)
 |_=>some none
theorem CP(hs:ep C S a w){x:AV}{p:Prop}{sz:Nat}{xs:List AV}(h:tM S.heap x=some (p,sz,xs))(hp:p){v:Value}(hv:cL w (Fz C S.heap w) x v):
 ∃A c cells,v= .slice A xs.length c∧xs.length≤c∧c≤maxLen∧dq w (Fz C S.heap w) sz xs cells∧(xs.length≠0→∃b off,A=some ⟨b,off,none⟩∧w.rangeAt b off cells)∧
  ∀w',ur C S.heap w w' (Lp x)→∀b off,A=some ⟨b,off,none⟩→w'.rangeAt b off cells:=by
 unfold tM at h
 split at h
 ·rename_i sz' xs'
  simp only[Option.some.injEq,Prod.mk.injEq] at h
  obtain⟨_,rfl,rfl⟩:=h
  rw[iW] at hv
  obtain⟨A,cap,rfl,h1,h2,h3⟩:=hv
  rcases xs' with _|⟨y,ys⟩
  ·exact⟨A,cap,[],rfl,h1,h2,by simp only[dq],fun h=>absurd Z h,fun w' _ b off _ j u hj=>by simp at hj⟩
  ·obtain⟨b,off,rfl,hF,hr⟩:=h3 (by simp)
   obtain⟨cs,h4,h5⟩:=n5 hr
   exact⟨_,cap,cs,rfl,h1,h2,h4,fun _=>⟨b,off,rfl,h5⟩,fun w' hR b' off' he=>by
    injection he with he;injection he with e1 e2;subst e1;subst e2
    exact j0 h5 (hR b hF)⟩
 ·rename_i k v0
  split at h
  ·rename_i v' e' sz' xs' hg
   simp only[Option.some.injEq,Prod.mk.injEq] at h
   obtain⟨rfl,rfl,rfl⟩:=h
   subst hp
   rw[cf] at hv
   obtain⟨rfl,_⟩:=hv
   obtain⟨cells,h1,h2⟩:=hs.getHeap hg
   rcases h2.2 with ⟨rfl,h0⟩|⟨g,cap,cur,rfl,_,hgg,h3,h4,h5,h6⟩
   ·exact⟨none,0,cells,by rw[h0],by omega,Nat.zero_le _,h1,fun h=>absurd h0 h,fun _ _ _ _ he=>by cases he⟩
   ·have hra:w.rangeAt g 0 cells:=fun j u hj=>by
     have hb:iJ w g e' cur:=hgg
     rw[hb.cell,←Array.getElem?_toList,Nat.zero_add]
     rw[←h6,List.getElem?_take] at hj
     split at hj
     ·exact hj
     ·cases hj
    refine⟨_,cap,cells,rfl,h3,h4,h1,fun _=>⟨g,0,rfl,hra⟩,fun w' hR b' off' he=>?_⟩
    injection he with he;injection he with e1 e2;subst e1;subst e2
    exact j0 hra (hR _ g hg (eY Z))
  ·cases h
 ·cases h
theorem aq.toString(hT:cP P T){gd:Option (Nat×Bool)}(hw:cH ops S gd=bE gd){src dst e:Nat}{x:Operand}{s:List UInt8}{p:Prop}{sz0 by0:Nat}{z0:AV}{sz1 by1:Nat}{z1:AV}{sz2 by2:Nat}{z2:AV}
 (hx:tM S.heap (ev S x)=some (p,1,s.map gy))(hp:p)(h1:bI T src=some ⟨.slice e,sz0,by0,z0⟩)(h2:bI T dst=some ⟨.string,sz2,by2,z2⟩)(h3:bI T e=some ⟨.int .u8,sz1,by1,z1⟩)
 (rd:Option (Option Nat))(hrd:Lp (ev S x)=rd)(hm:m.okc (some d) rd=true)(hd:Nat.blt d S.n=true)(h:aq m P C ops l (S.put d (.s s)) K):aq m P C ops (⟨some d,.convert src dst x,ty,pos,aft,gd⟩::l) S K:=by
 refine eI (d:=some d) hw rd hm hd (by simp[jP,eX (aX hT h2)]) (fun a w hs=>?_) h
 obtain⟨A,c,cells,hv,g1,g2,g3,g4,g5⟩:=CP hs hx hp (bg hs x)
 rw[List.length_map] at hv g1 g4
 have hcells:=pF s cells g3
 refine⟨_,gS.2 ⟨rfl,by omega⟩,fun w' hR=>?_⟩
 rw[←hrd] at hR
 have hsl:=ej (aX hT h1)
 have hst:=eX (aX hT h2)
 have hu8:=nR (aX hT h3)
 have hrun:(convert src dst (.slice A s.length c)).run P w'= .ok (.string (bf s)) w':=by
  rcases A with _|ad
  ·have h0:s=[]:=by
    rcases s with _|⟨q,s⟩
    ·rfl
    ·obtain⟨b,off,h5,_⟩:=g4 (by simp);cases h5
   subst h0
   exact run_convert_bytes_nil w' src e hsl hu8 _ _ dst hst
  ·refine run_convert_bytes_back w' src dst e ad c s hsl hu8 hst fun j hj=>?_
   obtain⟨b,off,h5,h6⟩:=g4 (by omega)
   have h5':=h5
   injection h5' with h5';subst h5'
   rw[Addr.add_mid]
   exact g5 w' hR b off h5 j _ (by rw[hcells,List.getElem?_map,List.getElem?_eq_getElem hj];rfl)
 simp only[execOp,hv,Sem.run_bind,hrun,Result.andThen_ok,Sem.run_pure]
end
def L0(T:List (Nat×TI))(fs:List (Nat×Nat)):List (Nat×AV)→List AV→Option (Prop×List AV)
 |[],cur=>some (True,cur)
 |(i,y)::r,cur=>match fs[i]? with
  |some (o,ft)=>match bI T ft with
   |some ti=>match cur[i]? with
    |some old=>match L0 T fs r (cur.set i y) with
     |some (p,res)=>some ((AQ cur i=o∧ti.sz=gz old∧ti.sz=gz y∧y.isVal=true)∧p,res)
     |none=>none
    |none=>none
   |none=>none
  |none=>none
section
variable {m:OM} {P:Program} {T:List (Nat×TI)} {C:il} {S:St} {a:Act} {w:World} {F:Nat→Prop} {ops:Array Oper} {l:List Oper} {K:St→Prop} {d:Nat} {ty:Nat} {pos:String} {aft:Array Edge}
theorem yk:∀(ys mid pre post:List Value) (done:List Value),ys.length=mid.length→
 (ys.zipIdx done.length).foldl (fun (cs:Array Value) (x:Value×Nat)=>cs.setIfInBounds (pre.length+x.2) x.1) (pre++done++mid++post).toArray=(pre++done++ys++post).toArray
 |[],mid,pre,post,done,h=>by
  have:mid=[]:=List.eq_nil_of_length_eq_zero (by simpa using h.symm)
  subst this;simp
 |y::ys,[],pre,post,done,h=>by simp at h
 |y::ys,m::mid,pre,post,done,h=>by
  rw[List.zipIdx_cons,List.foldl_cons]
  have h1:(pre++done++(m::mid)++post).toArray.setIfInBounds (pre.length+done.length) y=(pre++(done++[y])++mid++post).toArray:=by
   apply Array.ext'
   rw[Array.toList_setIfInBounds]
   simp only[List.append_assoc]
   rw[List.set_append_right _ _ (by omega),show pre.length+done.length - pre.length=done.length by omega,List.set_append_right _ _ (by omega),Nat.sub_self]
   simp
  have ih:=yk ys mid pre post (done++[y]) (by simpa using h)
  rw[List.length_append,List.length_singleton] at ih
  rw[h1,ih]
  simp
theorem Ch{fields:Array Field}{places:List (Nat×Nat)}(hpl:fields.toList.mapM (fun f=>(P.info? f.type).map fun i=>(f.offset,i.size))=some places)(hT:cP P T):
 ∀(ps:List (Nat×AV)) (vs:List (Nat×Value)) (cur res:List AV) (p:Prop) (cs:List Value),L0 T (fields.toList.map fun f=>(f.offset,f.type)) ps cur=some (p,res)→p→fK w F cur cs→
  ps.length=vs.length→(∀(i:Nat) x v,ps[i]?=some x→vs[i]?=some v→x.1=v.1∧cL w F x.2 v.2)→∃cs',Instr.fill (places.toArray[·]?) cs.toArray vs=some cs'.toArray∧fK w F res cs'
 |[],[],cur,res,p,cs,h,hp,hc,_,_=>by
  simp only[L0,Option.some.injEq,Prod.mk.injEq] at h
  obtain⟨_,rfl⟩:=h
  exact⟨cs,rfl,hc⟩
 |[],v::vs,cur,res,p,cs,h,hp,hc,hl,_=>by simp at hl
 |x::ps,[],cur,res,p,cs,h,hp,hc,hl,_=>by simp at hl
 |(i,y)::ps,(i',v)::vs,cur,res,p,cs,h,hp,hc,hl,hv=>by
  obtain⟨hi,hy⟩:=hv 0 (i,y) (i',v) Z Z
  simp only at hi hy
  subst hi
  simp only[L0] at h
  cases h1:(fields.toList.map fun f=>(f.offset,f.type))[i]? with
  |none=>simp[h1] at h
  |some q=>
   obtain⟨o,ft⟩:=q
   cases h2:bI T ft with
   |none=>simp[h1,h2] at h
   |some ti=>
    cases h3:cur[i]? with
    |none=>simp[h1,h2,h3] at h
    |some old=>
     cases h4:L0 T (fields.toList.map fun f=>(f.offset,f.type)) ps (cur.set i y) with
     |none=>simp[h1,h2,h3,h4] at h
     |some q2=>
      obtain⟨p2,res2⟩:=q2
      simp only[h1,h2,h3,h4,Option.some.injEq,Prod.mk.injEq] at h
      obtain⟨rfl,rfl⟩:=h
      obtain⟨⟨k1,k2,k3,k4⟩,k5⟩:=hp
      obtain⟨ys,hys,hvy⟩:=i7 k4 hy
      obtain⟨pre,mid,post,e1,e2,e3,e4⟩:=ru cur i old cs hc h3
      have hcells:=dV hys
      have hyl:ys.length=mid.length:=by rw[dF _ _ hys,dF _ _ e3];omega
      rw[List.getElem?_map] at h1
      cases hq:fields.toList[i]? with
      |none=>rw[hq] at h1;cases h1
      |some fl=>
       rw[hq] at h1
       simp only[Option.map_some,Option.some.injEq,Prod.mk.injEq] at h1
       obtain⟨rfl,rfl⟩:=h1
       obtain⟨inf,hinf,hs1,_⟩:=(aX hT h2).inf
       have hplace:places[i]?=some (fl.offset,ti.sz):=by
        have:∀(fl':List Field) (pl:List (Nat×Nat)),fl'.mapM (fun f=>(P.info? f.type).map fun i=>(f.offset,i.size))=some pl→∀(j:Nat) f,fl'[j]?=some f→∃inf,P.info? f.type=some inf∧pl[j]?=some (f.offset,inf.size):=by
         intro fl'
         induction fl' with
         |nil=>intro pl _ j f hf;simp at hf
         |cons g gs ih=>
          intro pl hpl j f hf
          simp only[List.mapM_cons,Option.bind_eq_bind,Option.pure_def] at hpl
          cases hgi:P.info? g.type with
          |none=>simp[hgi] at hpl
          |some gi=>
           cases hr:gs.mapM (fun f=>(P.info? f.type).map fun i=>(f.offset,i.size)) with
           |none=>simp[hgi,hr] at hpl
           |some rest=>
            simp[hgi,hr] at hpl
            subst hpl
            cases j with
            |zero=>simp at hf;subst hf;exact⟨gi,hgi,rfl⟩
            |succ j=>exact ih rest hr j f (by simpa using hf)
        obtain⟨inf2,g1,g2⟩:=this _ _ hpl i fl hq
        rw[hinf] at g1;injection g1 with g1;subst g1
        rw[g2,hs1]
       have hfold:=yk ys mid pre post [] hyl
       simp only[List.length_nil,List.append_nil] at hfold
       obtain⟨cs',f1,f2⟩:=Ch hpl hT ps vs (cur.set i y) res2 p2 (pre++ys++post) h4 k5 (e4 y ys hys) (by simpa using hl) (fun j x u hx hu=>hv (j+1) x u (by simpa using hx) (by simpa using hu))
       refine⟨cs',?_,f2⟩
       have hsize:v.cells.size=ti.sz:=by rw[hvy,hcells,List.size_toArray,dF _ _ hys];exact k3.symm
       have hcl:cs.length=pre.length+mid.length+post.length:=by rw[e1];simp;omega
       have hoff:fl.offset=pre.length:=by rw[←k1,e2]
       unfold Instr.fill
       have hpa:places.toArray[i]?=some (fl.offset,ti.sz):=by rw[List.getElem?_toArray];exact hplace
       rw[hpa]
       simp only
       rw[if_neg (by simp[hsize,hcl,hoff];have:=dF _ _ e3;omega)]
       rw[←f1]
       congr 1
       rw[hvy,hcells,hoff,e1,←Array.foldl_toList,Array.toList_zipIdx]
       exact hfold
theorem aq.build(hT:cP P T){gd:Option (Nat×Bool)}(hw:cH ops S gd=bE gd){t:Nat}{fs:List (Nat×Nat)}{sz by_:Nat}{zs res:List AV}{parts:Array (Nat×Operand)}{p:Prop}
 (ht:bI T t=some ⟨.struct fs,sz,by_,.agg zs⟩)(hb:L0 T fs (parts.toList.map fun q=>(q.1,ev S q.2)) zs=some (p,res))(hp:p)(hall:∀q∈fs,(bI T q.2).isSome=true)
 (hd:Nat.blt d S.n=true)(h:aq m P C ops l (S.put d (.agg res)) K):aq m P C ops (⟨some d,.build t parts,ty,pos,aft,gd⟩::l) S K:=by
 refine eI (d:=some d) hw none cT hd Z (fun a w hs=>?_) h
 have h0:=aX hT ht
 obtain⟨ds,hds,hk⟩:=h0.desc
 cases ds<;>simp[Cu] at hk
 rename_i fields
 subst hk
 rcases h0.zero with hz|⟨cs,h1,h2⟩
 ·cases hz
 ·obtain⟨it,hit,_,_⟩:=h0.inf
  rw[hit] at h2
  have hzv:it.zero=some (ch (.agg zs) cs):=h2
  have hrep:bw w (Fz C S.heap w) (.agg zs) cs:=iw _ cs h1
  have hzc:(ch (.agg zs) cs).cells=cs.toArray:=dV hrep
  have hpl:∃places,fields.toList.mapM (fun f=>(P.info? f.type).map fun i=>(f.offset,i.size))=some places:=by
   have:∀fl:List Field,(∀f∈fl,(bI T f.type).isSome=true)→∃pl,fl.mapM (fun f=>(P.info? f.type).map fun i=>(f.offset,i.size))=some pl:=by
    intro fl
    induction fl with
    |nil=>exact fun _=>⟨[],rfl⟩
    |cons g gs ih=>
     intro hg
     obtain⟨pl,hpl⟩:=ih (fun f hf=>hg f (by simp[hf]))
     cases hq:bI T g.type with
     |none=>have:=hg g (by simp);rw[hq] at this;cases this
     |some ti=>
      obtain⟨inf,hinf,_⟩:=(aX hT hq).inf
      exact⟨(g.offset,inf.size)::pl,by simp[List.mapM_cons,hinf,hpl]⟩
   exact this _ (fun f hf=>hall (f.offset,f.type) (List.mem_map.2 ⟨f,hf,rfl⟩))
  obtain⟨places,hpl⟩:=hpl
  simp only[bw] at hrep
  obtain⟨cs',g1,g2⟩:=Ch hpl hT _ ((parts.map fun (i,x)=>(i,a.eval x)).toList) zs res p cs hb hp hrep (by simp) (fun i x v hx hv=>by
   rw[Array.toList_map,List.getElem?_map] at hv
   rw[List.getElem?_map] at hx
   cases hq:parts.toList[i]? with
   |none=>rw[hq] at hx;cases hx
   |some q=>
    rw[hq] at hx hv
    simp only[Option.map_some,Option.some.injEq] at hx hv
    subst hx;subst hv
    exact⟨rfl,bg hs q.2⟩)
  refine⟨.agg cs'.toArray,AE.2 ⟨cs'.toArray,rfl,by simpa using g2⟩,fun w' _=>?_⟩
  have hbuilt:P.built t (parts.map fun (i,x)=>(i,a.eval x)).toList=some cs'.toArray:=by
   unfold Program.built
   rw[hit,hds]
   simp only[hzv,hpl,hzc]
   exact g1
  have:=run_build (P:=P) w' t _ _ hbuilt
  simp only[execOp,Sem.run_bind,this,Result.andThen_ok,Sem.run_pure]
end
end Go.Proofs.YtginkbjclkdglaaGreat
