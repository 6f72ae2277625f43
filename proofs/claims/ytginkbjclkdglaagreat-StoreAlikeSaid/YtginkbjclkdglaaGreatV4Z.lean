/- The evaluation of V3 is right. No program in sight. -/
import Derived.Test.YtginkbjclkdglaaGreatV2Z
import Derived.Laws.Small
namespace Go.Proofs.YtginkbjclkdglaaGreat
open Go Go.RowKit
section
variable {P:Program} {T:List (Nat×TI)} {w:World}
theorem d7.sizeRun{t:Nat}{ti:TI}(h:d7 P t ti)(w:World):(sizeOf t).run P w= .ok ti.sz w:=by
 obtain⟨i,hi,h1,_⟩:=h.inf
 simp[sizeOf,typeInfo,hi,h1]
theorem d7.aggRun{t:Nat}{ti:TI}(h:d7 P t ti)(w:World):(isAgg t).run P w= .ok ti.k.isAgg w:=by
 obtain⟨d,hd,hk⟩:=h.desc
 unfold isAgg
 rw[Sem.run_bind,run_underlying hd w,←hk]
 cases d<;>simp[Cu,TK.isAgg]
theorem Br{d:TypeDesc}:d.isRow=(Cu d).isAgg:=by cases d<;>rfl
theorem pq{w:World}{F:Nat→Prop}{y:AV}{cs:List Value}(h:bw w F y cs)(hy:y.isAgg=false):∃u,cs=[u]:=by
 have:=dF y cs h
 cases y<;>simp[AV.isAgg] at hy<;>simp only[gz] at this<;>first
  |exact List.length_eq_one_iff.1 this
  |simp only[bw] at h
theorem vV{t:Nat}{ti:TI}(h:d7 P t ti){F:Nat→Prop}{y:AV}(hf:fits ti y){b o:Nat}{vs:List Value}(hr:bw w F y vs)(w':World)(hv:w'.rangeAt b o vs):
 (Instr.loadAt t (.pointer (some ⟨b,o,none⟩))).run P w'= .ok (ch y vs) w':=by
 have hsz:=dF y vs hr
 cases hy:y.isAgg with
 |true=>
  obtain⟨d,hd,hk⟩:=h.desc
  obtain⟨i,hi,h1,_⟩:=h.inf
  rw[run_loadAt_mid w' b o t vs d hv hd (by rw[Br,hk,hf.2,hy]) (by rw[hi];simp[h1,hf.1,hsz])]
  simp[ch,hy]
 |false=>
  obtain⟨u,rfl⟩:=pq hr hy
  have hc:w'.cell? ⟨b,o,none⟩=some u:=by have:=hv 0 u Z;simpa using this
  simp only[Instr.loadAt,Instr.sureAddr,Sem.run_bind,Sem.run_pure,Result.andThen_ok]
  unfold loadVar
  rw[Sem.run_bind,h.aggRun,hf.2,hy]
  simp[load,Sem.run,hc,ch,hy]
theorem HC{t:Nat}{ti:TI}(h:d7 P t ti){F:Nat→Prop}{y:AV}(hf:fits ti y){pre vs post:List Value}(hr:bw w F y vs)(w':World):
 (part t (pre++vs++post).toArray pre.length).run P w'= .ok (ch y vs) w':=by
 have hsz:=dF y vs hr
 unfold part
 rw[Sem.run_bind,h.aggRun,hf.2]
 cases hy:y.isAgg with
 |true=>
  simp only[Result.andThen_ok,if_true,Sem.run_bind,h.sizeRun,Sem.run_pure,ch,hy]
  congr 2
  apply Array.ext'
  rw[Array.toList_extract,hf.1,←hsz]
  simp
 |false=>
  obtain⟨u,rfl⟩:=pq hr hy
  simp[ch,hy]
end
section
variable {P:Program} {T:List (Nat×TI)} {C:il} {H:List (Nat×HO)} {w:World} {F:Nat→Prop}
theorem xn(op:BinOp)(t:Nat)(k:IntKind)(a b:Int)(r:CV)(h:uj op k a b=some r)(hn:r.need)(x y:Operand):
 ∃u,cL w F r.val u∧r.gain∧r.rd=none∧∀w',((do eqGuard op t x y (.int k a) (.int k b);binOp op t (.int k a) (.int k b):Sem Value)).run P w'= .ok u w':=by
 cases op<;>simp only[uj,CV.pure,Option.some.injEq,reduceCtorEq] at h<;>subst h<;>simp only at hn ⊢<;>first
  |(refine⟨_,gr.2 Z,trivial,trivial,fun w'=>?_⟩;simp[eqGuard,binOp,Op.intCmp];done)
  |(refine⟨_,cq.2 Z,trivial,trivial,fun w'=>?_⟩;simp[eqGuard,binOp,Op.intArith];done)
  |(refine⟨_,cq.2 Z,trivial,trivial,fun w'=>?_⟩;simp[eqGuard,binOp,Op.intDiv,hn];done)
  |(refine⟨_,cq.2 Z,trivial,trivial,fun w'=>?_⟩;simp[eqGuard,binOp,Op.intBits,eB];done)
theorem xm(op:BinOp)(t:Nat)(a b:List UInt8)(r:CV)(h:IQ op a b=some r)(hn:r.need)(x y:Operand):
 ∃u,cL w F r.val u∧r.gain∧r.rd=none∧∀w',((do eqGuard op t x y (.string (bf a)) (.string (bf b));binOp op t (.string (bf a)) (.string (bf b)):Sem Value)).run P w'= .ok u w':=by
 have e1:∀l:List UInt8,(bf l).toList=l:=fun l=>ByteArray.toList_eq _
 have e2:∀l:List UInt8,(bf l).size=l.length:=fun l=>rfl
 have e3:bf a++bf b=bf (a++b):=by
  have h:(bf a++bf b).data=(bf (a++b)).data:=by
   rw[ByteArray.data_append];simp[bf]
  cases hx:bf a++bf b;rw[hx] at h;cases hy:bf (a++b);rw[hy] at h;simp at h;rw[h]
 cases op<;>simp only[IQ,CV.pure,Option.some.injEq,reduceCtorEq] at h<;>subst h<;>simp only at hn ⊢<;>first
  |(refine⟨_,gr.2 Z,trivial,trivial,fun w'=>?_⟩;simp[eqGuard,binOp,Op.stringOp,e1];done)
  |skip
 refine⟨_,gS.2 ⟨rfl,by simpa using hn⟩,trivial,trivial,fun w'=>?_⟩
 have h1:=run_string_add_sum (P:=P) (w:=w') (bf a) (bf b) (by rw[e2,e2];unfold maxLen at hn;exact hn)
 rw[e3] at h1
 simp[eqGuard,binOp,h1]
theorem wH(hT:cP P T)(op:BinOp)(t:Nat)(a b:Bool)(r:CV)(h:qq T op t (.b a) (.b b)=some r)(x y:Operand):
 ∃u,cL w F r.val u∧r.gain∧r.rd=none∧∀w',((do eqGuard op t x y (.bool a) (.bool b);binOp op t (.bool a) (.bool b):Sem Value)).run P w'= .ok u w':=by
 simp only[qq] at h
 split at h
 ·rename_i sz by_ z ht
  obtain⟨d,hd,hk⟩:=(aX hT ht).desc
  have hd2:d= .bool:=by cases d<;>simp[Cu] at hk;rfl
  subst hd2
  cases op<;>simp only[CV.pure,Option.some.injEq,reduceCtorEq] at h<;>subst h
  ·refine⟨_,gr.2 Z,trivial,rfl,fun w'=>?_⟩
   have h1:=run_equal_bool w' t a b hd
   have h2:(eqGuard .eql t x y (.bool a) (.bool b)).run P w'= .ok () w':=by simp[eqGuard]
   rw[Sem.run_bind,h2]
   simp only[Result.andThen_ok,binOp,Sem.run_bind,h1]
   rfl
  ·refine⟨_,gr.2 Z,trivial,rfl,fun w'=>?_⟩
   have h1:=run_equal_bool w' t a b hd
   have h2:(eqGuard .neq t x y (.bool a) (.bool b)).run P w'= .ok () w':=by simp[eqGuard]
   rw[Sem.run_bind,h2]
   simp only[Result.andThen_ok,binOp,Sem.run_bind,h1]
   rfl
 ·cases h
theorem GK(hT:cP P T)(op:BinOp)(t:Nat)(A B:AV)(r:CV)(h:qq T op t A B=some r)(hn:r.need)(x y:Operand)(u v:Value)(hu:cL w F A u)(hv:cL w F B v):
 ∃z,cL w F r.val z∧r.gain∧r.rd=none∧∀w',((do eqGuard op t x y u v;binOp op t u v:Sem Value)).run P w'= .ok z w':=by
 have h0:=h
 unfold qq at h
 split at h
 ·rename_i k a k' b
  rw[cq] at hu hv
  subst hu;subst hv
  split at h
  ·simp only[Option.some.injEq] at h;subst h
   simp only at hn
   refine⟨_,cq.2 Z,trivial,rfl,fun w'=>?_⟩
   have:¬ b<0:=by omega
   simp[eqGuard,binOp,Op.shift,this]
  ·simp only[Option.some.injEq] at h;subst h
   simp only at hn
   refine⟨_,cq.2 Z,trivial,rfl,fun w'=>?_⟩
   have:¬ b<0:=by omega
   simp[eqGuard,binOp,Op.shift,this]
  ·split at h
   ·rename_i p g rd v hr
    simp only[Option.some.injEq] at h;subst h
    simp only at hn
    obtain⟨rfl,hn⟩:=hn
    exact xn op t k a b ⟨p,g,rd,v⟩ hr hn x y
   ·cases h
 ·rename_i a b
  rw[gS] at hu hv
  obtain⟨rfl,_⟩:=hu;obtain⟨rfl,_⟩:=hv
  exact xm op t a b r h hn x y
 ·rename_i a b
  rw[gr] at hu hv
  subst hu;subst hv
  exact wH hT op t a b r h0 x y
 ·cases h
theorem ui{s f:Nat}{fs:List (Nat×Nat)}{sz by_:Nat}{z:AV}(h:d7 P s ⟨.struct fs,sz,by_,z⟩){o ft:Nat}(hf:fs[f]?=some (o,ft)){ti:TI}(ht:d7 P ft ti)(hz:ti.sz≠0)(b off:Nat)(w':World):
 (Instr.fieldAt s (.pointer (some ⟨b,off,none⟩)) f).run P w'= .ok (.pointer (some ⟨b,off+o,none⟩)) w':=by
 obtain⟨d,hd,hk⟩:=h.desc
 cases d<;>simp[Cu] at hk
 rename_i fields
 subst hk
 rw[List.getElem?_map] at hf
 cases hq:fields.toList[f]? with
 |none=>rw[hq] at hf;cases hf
 |some fl=>
  rw[hq] at hf
  simp only[Option.map_some,Option.some.injEq,Prod.mk.injEq] at hf
  obtain⟨rfl,rfl⟩:=hf
  have hq':fields[f]?=some fl:=by rw[←Array.getElem?_toList];exact hq
  simp[Instr.fieldAt,run_underlying hd,hq',Instr.sureAddr,fieldPlace,ht.sizeRun,hz,Addr.add]
  try (intro h0;rw[h0])
theorem Gy{s f:Nat}{fs:List (Nat×Nat)}{sz by_:Nat}{z:AV}(h:d7 P s ⟨.struct fs,sz,by_,z⟩){o ft:Nat}(hf:fs[f]?=some (o,ft)){ti:TI}(ht:d7 P ft ti){y:AV}(hfit:fits ti y)
 {pre vs post:List Value}(hr:bw w F y vs)(ho:pre.length=o)(w':World):
 (Instr.field s (.agg (pre++vs++post).toArray) f).run P w'= .ok (ch y vs) w':=by
 obtain⟨d,hd,hk⟩:=h.desc
 cases d<;>simp[Cu] at hk
 rename_i fields
 subst hk
 rw[List.getElem?_map] at hf
 cases hq:fields.toList[f]? with
 |none=>rw[hq] at hf;cases hf
 |some fl=>
  rw[hq] at hf
  simp only[Option.map_some,Option.some.injEq,Prod.mk.injEq] at hf
  obtain⟨rfl,rfl⟩:=hf
  have hq':fields[f]?=some fl:=by rw[←Array.getElem?_toList];exact hq
  have hp:=HC ht hfit hr w' (pre:=pre) (post:=post)
  rw[ho] at hp
  simp only[Instr.field,Sem.run_bind,run_underlying hd,Result.andThen_ok,hq',asAgg,Sem.run_pure,hp]
theorem eX{t:Nat}{sz by_:Nat}{z:AV}(h:d7 P t ⟨.string,sz,by_,z⟩):P.underlying t=some .string:=by
 obtain⟨d,hd,hk⟩:=h.desc
 cases d<;>simp[Cu] at hk;exact hd
theorem ej{t e:Nat}{sz by_:Nat}{z:AV}(h:d7 P t ⟨.slice e,sz,by_,z⟩):P.underlying t=some (.slice e):=by
 obtain⟨d,hd,hk⟩:=h.desc
 cases d<;>simp[Cu] at hk;subst hk;exact hd
theorem m8{t n e:Nat}{sz by_:Nat}{z:AV}(h:d7 P t ⟨.array n e,sz,by_,z⟩):P.underlying t=some (.array n e):=by
 obtain⟨d,hd,hk⟩:=h.desc
 cases d<;>simp[Cu] at hk;obtain⟨rfl,rfl⟩:=hk;exact hd
theorem nR{t:Nat}{k:IntKind}{sz by_:Nat}{z:AV}(h:d7 P t ⟨.int k,sz,by_,z⟩):P.underlying t=some (.int k):=by
 obtain⟨d,hd,hk⟩:=h.desc
 cases d<;>simp[Cu] at hk;subst hk;exact hd
end
def L6(P:Program)(C:il)(H:List (Nat×HO))(w:World)(ρ:Operand→Value)(o:Oper)(r:CV):Prop:=
 r.gain∧∃v,cL w (Fz C H w) r.val v∧∀w',ur C H w w' r.rd→(execOp ρ o).run P w'= .ok (.value v) w'
section
variable {P:Program} {T:List (Nat×TI)} {C:il} {S:St} {a:Act} {w:World}
theorem Fd(hT:cP P T)(hs:ep C S a w){t:Nat}{A:AV}{r:CV}(h:tF T S.heap t A=some r)(hn:r.need){v:Value}(hv:cL w (Fz C S.heap w) A v):
 r.gain∧∃u,cL w (Fz C S.heap w) r.val u∧∀w',ur C S.heap w w' r.rd→(Instr.loadAt t v).run P w'= .ok u w':=by
 unfold tF at h
 split at h
 ·rename_i key b path off
  split at h
  ·rename_i ti ht
   split at h
   ·rename_i b' c hg
    split at h
    ·rename_i o y hy
     simp only[Option.some.injEq] at h;subst h
     simp only at hn ⊢
     obtain⟨rfl,rfl,hf⟩:=hn
     rw[dg] at hv;subst hv
     obtain⟨t2,cs,hb,hc⟩:=hs.getHeap hg
     obtain⟨pre,mid,post,e1,e2,e3,_⟩:=lD path c _ o y hc hy
     refine⟨trivial,_,ll e3,fun w' hr=>vV (aX hT ht) hf e3 w' ?_⟩
     have hr:w'.heap[b']?=w.heap[b']?:=hr _ b' hg (List.mem_singleton.2 Z)
     intro j u hj
     have hblk:iJ w' b' t2 cs:=by unfold iJ;rw[hr];exact hb
     rw[hblk.cell,←Array.getElem?_toList,e1,←e2]
     have hjl:=(List.getElem?_eq_some_iff.1 hj).1
     rw[List.append_assoc,List.getElem?_append_right (by omega),Nat.add_sub_cancel_left,List.getElem?_append_left hjl]
     exact hj
    ·cases h
   ·cases h
  ·cases h
 ·rename_i y
  split at h
  ·rename_i ti ht
   simp only[Option.some.injEq] at h;subst h
   simp only at hn ⊢
   rw[n0] at hv
   obtain⟨b,off,vs,rfl,hb,hc,hra⟩:=hv
   refine⟨trivial,_,ll hc,fun w' hr=>vV (aX hT ht) hn hc w' ?_⟩
   have hr:∀b,Fz C S.heap w b→w'.heap[b]?=w.heap[b]?:=hr
   exact j0 hra (hr b hb)
  ·cases h
 ·cases h
theorem zD(hT:cP P T){s f:Nat}{A:AV}{r:CV}(h:pD T s f A=some r)(hn:r.need){F:Nat→Prop}{v:Value}(hv:cL w F A v):
 r.gain∧r.rd=none∧∃u,cL w F r.val u∧∀w',(Instr.fieldAt s v f).run P w'= .ok u w':=by
 unfold pD at h
 split at h
 ·rename_i key b path off
  split at h
  ·rename_i fs sz by_ z hs
   split at h
   ·rename_i o ft hf
    split at h
    ·rename_i ti ht
     simp only[Option.some.injEq] at h;subst h
     simp only at hn ⊢
     rw[dg] at hv;subst hv
     exact⟨trivial,trivial,_,dg.2 Z,fun w'=>ui (aX hT hs) hf (aX hT ht) hn b off w'⟩
    ·cases h
   ·cases h
  ·cases h
 ·rename_i xs
  split at h
  ·rename_i fs sz by_ z hs
   split at h
   ·rename_i o ft hf
    split at h
    ·rename_i ti ht
     split at h
     ·rename_i y hy
      simp only[Option.some.injEq] at h;subst h
      simp only at hn ⊢
      obtain⟨hz,rfl⟩:=hn
      rw[n0] at hv
      obtain⟨b,off,vs,rfl,hb,hc,hra⟩:=hv
      simp only[bw] at hc
      obtain⟨pre,mid,post,e1,e2,e3,_⟩:=ru xs f y vs hc hy
      refine⟨trivial,trivial,_,n0.2 ⟨b,off+AQ xs f,mid,rfl,hb,e3,?_⟩,fun w'=>ui (aX hT hs) hf (aX hT ht) hz b off w'⟩
      intro j u hj
      have hjl:=(List.getElem?_eq_some_iff.1 hj).1
      have:=hra (AQ xs f+j) u (by rw[e1,←e2,List.append_assoc,List.getElem?_append_right (by omega),Nat.add_sub_cancel_left,List.getElem?_append_left hjl];exact hj)
      rw[←Nat.add_assoc] at this;exact this
     ·cases h
    ·cases h
   ·cases h
  ·cases h
 ·cases h
theorem IP(hT:cP P T){s f:Nat}{A:AV}{r:CV}(h:zE T s f A=some r)(hn:r.need){F:Nat→Prop}{v:Value}(hv:cL w F A v):
 r.gain∧r.rd=none∧∃u,cL w F r.val u∧∀w',(Instr.field s v f).run P w'= .ok u w':=by
 unfold zE at h
 split at h
 ·rename_i xs
  split at h
  ·rename_i fs sz by_ z hs
   split at h
   ·rename_i o ft hf
    split at h
    ·rename_i ti ht
     split at h
     ·rename_i y hy
      simp only[Option.some.injEq] at h;subst h
      simp only at hn ⊢
      obtain⟨rfl,hfit⟩:=hn
      rw[AE] at hv
      obtain⟨cs,rfl,hc⟩:=hv
      obtain⟨pre,mid,post,e1,e2,e3,_⟩:=ru xs f y _ hc hy
      refine⟨trivial,trivial,_,ll e3,fun w'=>?_⟩
      have:=Gy (aX hT hs) hf (aX hT ht) hfit e3 e2 w' (post:=post)
      rw[←e1] at this
      simpa using this
     ·cases h
    ·cases h
   ·cases h
  ·cases h
 ·cases h
theorem JB{F:Nat→Prop}{v:Value}{e sz:Nat}{xs:List AV}(h:oG w F (.row v e sz xs)):∃A cap,v= .slice A xs.length cap∧xs.length≤cap∧cap≤maxLen:=by
 obtain⟨cells,h1,h2⟩:=h
 rcases h2.2 with ⟨rfl,h0⟩|⟨g,cap,cur,rfl,_,_,h3,h4,_⟩
 ·exact⟨none,0,by rw[h0],by omega,Nat.zero_le _⟩
 ·exact⟨_,cap,rfl,h3,h4⟩
theorem LZ(hT:cP P T)(hs:ep C S a w){t:Nat}{A:AV}{r:CV}(h:B4 T S.heap t A=some r)(hn:r.need){v:Value}(hv:cL w (Fz C S.heap w) A v)(ats:Array Nat)(hat:ats[0]?=some t)(ty:Nat)(vs:Array Value)(hvs:vs[0]?=some v):
 r.gain∧r.rd=none∧∃u,cL w (Fz C S.heap w) r.val u∧∀w',(Builtin.len_ ats ty vs).run P w'= .ok u w':=by
 unfold B4 at h
 split at h
 ·rename_i sz by_ z ht
  have hu:=eX (aX hT ht)
  split at h
  ·rename_i x
   simp only[Option.some.injEq] at h;subst h
   rw[gS] at hv;obtain⟨rfl,hm⟩:=hv
   unfold maxLen at hm
   refine⟨hm,rfl,_,cq.2 Z,fun w'=>?_⟩
   simp only[Builtin.len_,hat,hvs,Sem.run_bind,run_underlying hu,Result.andThen_ok,Sem.run_pure,goInt]
   rfl
  ·cases h
 ·rename_i e sz by_ z ht
  have hu:=ej (aX hT ht)
  split at h
  ·rename_i sz2 xs
   simp only[Option.some.injEq] at h;subst h
   rw[iW] at hv
   obtain⟨A,cap,rfl,h1,h2,_⟩:=hv
   refine⟨by unfold maxLen at h2;exact Nat.le_trans h1 h2,rfl,_,cq.2 Z,fun w'=>?_⟩
   simp only[Builtin.len_,hat,hvs,Sem.run_bind,run_underlying hu,Result.andThen_ok,Sem.run_pure,goInt]
  ·simp only[CV.pure,Option.some.injEq] at h;subst h
   rw[lW] at hv;subst hv
   refine⟨trivial,rfl,_,cq.2 Z,fun w'=>?_⟩
   simp only[Builtin.len_,hat,hvs,Sem.run_bind,run_underlying hu,Result.andThen_ok,Sem.run_pure,goInt]
   rfl
  ·simp only[CV.pure,Option.some.injEq] at h;subst h
   rw[Jz] at hv;obtain⟨rfl,_⟩:=hv
   refine⟨trivial,rfl,_,cq.2 Z,fun w'=>?_⟩
   simp only[Builtin.len_,hat,hvs,Sem.run_bind,run_underlying hu,Result.andThen_ok,Sem.run_pure,goInt]
  ·rename_i k v0
   split at h
   ·rename_i v' e' sz' xs hg
    simp only[Option.some.injEq] at h;subst h
    simp only at hn;subst hn
    rw[cf] at hv;obtain⟨rfl,_⟩:=hv
    obtain⟨A,cap,rfl,h1,h2⟩:=JB (hs.getHeap hg)
    refine⟨by unfold maxLen at h2;exact Nat.le_trans h1 h2,rfl,_,cq.2 Z,fun w'=>?_⟩
    simp only[Builtin.len_,hat,hvs,Sem.run_bind,run_underlying hu,Result.andThen_ok,Sem.run_pure,goInt]
   ·cases h
  ·cases h
 ·rename_i n e sz by_ z ht
  have hu:=m8 (aX hT ht)
  simp only[CV.pure,Option.some.injEq] at h;subst h
  refine⟨trivial,rfl,_,cq.2 Z,fun w'=>?_⟩
  simp only[Builtin.len_,hat,hvs,Sem.run_bind,run_underlying hu,Result.andThen_ok,Sem.run_pure,goInt]
 ·cases h
theorem J2(hT:cP P T){s d:Nat}{A:AV}{r:CV}(h:wt T s d A=some r){F:Nat→Prop}{v:Value}(hv:cL w F A v):
 r.gain∧r.rd=none∧∃u,cL w F r.val u∧∀w',(convert s d v).run P w'= .ok u w':=by
 unfold wt at h
 split at h
 ·rename_i k n
  split at h
  ·rename_i ti k2 sz by_ z h1 h2
   simp only[CV.pure,Option.some.injEq] at h;subst h
   rw[cq] at hv;subst hv
   obtain⟨ds,hds,_⟩:=(aX hT h1).desc
   refine⟨trivial,rfl,_,cq.2 Z,fun w'=>?_⟩
   simp only[convert,Sem.run_bind,run_underlying hds,Result.andThen_ok,run_underlying (nR (aX hT h2)),Conv.intToInt,Sem.run_pure]
  ·cases h
 ·rename_i x
  split at h
  ·rename_i ti sz by_ z h1 h2
   simp only[CV.pure,Option.some.injEq] at h;subst h
   have hv0:=hv
   rw[gS] at hv;obtain⟨rfl,hm⟩:=hv
   obtain⟨ds,hds,_⟩:=(aX hT h1).desc
   refine⟨trivial,rfl,_,hv0,fun w'=>?_⟩
   simp only[convert,Sem.run_bind,run_underlying hds,Result.andThen_ok,run_underlying (eX (aX hT h2)),Sem.run_pure]
  ·cases h
 ·cases h
end
section
variable {P:Program} {T:List (Nat×TI)} {C:il} {S:St} {a:Act} {w:World}
theorem IA{xs:Array Operand}{i:Nat}{x:Operand}(h:xs[i]?=some x)(ρ:Operand→Value):(xs.map ρ)[i]?=some (ρ x):=by
 rw[Array.getElem?_map,h];rfl
theorem Ht{F:Nat→Prop}{xs:List AV}{v:Value}{i:Nat}{x:AV}(h:cL w F (.tup xs) v)(hx:xs[i]?=some x):∃vs u,v= .tuple vs∧vs[i]?=some u∧cL w F x u:=by
 obtain⟨vs,rfl,hl,hc⟩:=h
 have hi:=(List.getElem?_eq_some_iff.1 hx).1
 refine⟨vs.toArray,vs[i],rfl,by rw[List.getElem?_toArray,List.getElem?_eq_getElem],?_⟩
 rcases hc i x vs[i] hx (List.getElem?_eq_getElem (by omega)) with rfl|⟨cs,h1,h2⟩
 ·exact J
 ·rw[h2];exact ll h1
theorem B0(hT:cP P T)(hs:ep C S a w)(dst:Option Tmp)(op:Op)(ty:Nat)(pos:String)(aft:Array Edge)(gd:Option (Nat×Bool)){r:CV}(h:cv T S.heap (ev S) op=some r)(hn:r.need):
 L6 P C S.heap w a.eval ⟨dst,op,ty,pos,aft,gd⟩ r:=by
 have E:∀x,cL w (Fz C S.heap w) (ev S x) (a.eval x):=bg hs
 unfold cv at h
 split at h
 ·rename_i x
  simp only[CV.val_eq,CV.pure,Option.some.injEq] at h;subst h
  exact⟨trivial,_,E x,fun w' _=>rfl⟩
 ·rename_i x
  simp only[CV.val_eq,CV.pure,Option.some.injEq] at h;subst h
  exact⟨trivial,_,E x,fun w' _=>rfl⟩
 ·rename_i c x y
  have Ec:=E c
  split at h
  ·rename_i hc
   simp only[CV.val_eq,CV.pure,Option.some.injEq] at h;subst h
   rw[hc,gr] at Ec
   exact⟨trivial,_,E x,fun w' _=>by simp[execOp,Ec,asBool]⟩
  ·rename_i hc
   simp only[CV.val_eq,CV.pure,Option.some.injEq] at h;subst h
   rw[hc,gr] at Ec
   exact⟨trivial,_,E y,fun w' _=>by simp[execOp,Ec,asBool]⟩
  ·cases h
 ·rename_i t x
  obtain⟨h1,u,h2,h3⟩:=Fd hT hs h hn (E x)
  exact⟨h1,u,h2,fun w' hr=>by simp only[execOp,Sem.run_bind,h3 w' hr,Result.andThen_ok,Sem.run_pure]⟩
 ·rename_i s x f
  obtain⟨h1,h0,u,h2,h3⟩:=zD hT h hn (E x)
  exact⟨h1,u,h2,fun w' _=>by simp only[execOp,Sem.run_bind,h3 w',Result.andThen_ok,Sem.run_pure]⟩
 ·rename_i s x f
  obtain⟨h1,h0,u,h2,h3⟩:=IP hT h hn (E x)
  exact⟨h1,u,h2,fun w' _=>by simp only[execOp,Sem.run_bind,h3 w',Result.andThen_ok,Sem.run_pure]⟩
 ·rename_i x
  have Ex:=E x
  split at h
  ·rename_i k b p o hx
   simp only[CV.pure,Option.some.injEq] at h;subst h
   have Ex0:=Ex
   rw[hx,dg] at Ex
   rw[hx] at Ex0
   exact⟨trivial,_,Ex0,fun w' _=>by simp[execOp,Ex]⟩
  ·rename_i y hx
   simp only[CV.pure,Option.some.injEq] at h;subst h
   have Ex0:=Ex
   rw[hx,n0] at Ex
   rw[hx] at Ex0
   obtain⟨b,off,vs,he,_⟩:=Ex
   exact⟨trivial,_,Ex0,fun w' _=>by simp[execOp,he]⟩
  ·cases h
 ·rename_i o t x y yt
  obtain⟨z,h1,h2,h0,h3⟩:=GK hT o t _ _ r h hn x y _ _ (E x) (E y)
  refine⟨h2,z,h1,fun w' _=>?_⟩
  have:=h3 w'
  show ((do pure (Next.value (←(do eqGuard o t x y (a.eval x) (a.eval y);binOp o t (a.eval x) (a.eval y))))):Sem Next).run P w'=_
  rw[Sem.run_bind,this];rfl
 ·rename_i o t x
  have Ex:=E x
  split at h
  ·rename_i b hx
   simp only[CV.pure,Option.some.injEq] at h;subst h
   rw[hx,gr] at Ex
   exact⟨trivial,_,gr.2 Z,fun w' _=>by simp[execOp,Ex,Op.unary]⟩
  ·rename_i k n hx
   simp only[CV.pure,Option.some.injEq] at h;subst h
   rw[hx,cq] at Ex
   exact⟨trivial,_,cq.2 Z,fun w' _=>by simp[execOp,Ex,Op.unary,Op.intArith]⟩
  ·rename_i k n hx
   simp only[CV.pure,Option.some.injEq] at h;subst h
   rw[hx,cq] at Ex
   exact⟨trivial,_,cq.2 Z,fun w' _=>by simp[execOp,Ex,Op.unary,Op.intBits,eB]⟩
  ·cases h
 ·rename_i s d x
  obtain⟨h1,h0,u,h2,h3⟩:=J2 hT h (E x)
  exact⟨h1,u,h2,fun w' _=>by simp only[execOp,Sem.run_bind,h3 w',Result.andThen_ok,Sem.run_pure]⟩
 ·rename_i t i
  have Et:=E t
  split at h
  ·rename_i xs hx
   split at h
   ·rename_i x hi
    simp only[CV.val_eq,CV.pure,Option.some.injEq] at h;subst h
    rw[hx] at Et
    obtain⟨vs,u,e1,e2,e3⟩:=Ht Et hi
    exact⟨trivial,_,e3,fun w' _=>by simp[execOp,e1,Instr.extract,e2]⟩
   ·cases h
  ·cases h
 ·rename_i args ats
  split at h
  ·rename_i x t hx ht
   obtain⟨h1,h0,u,h2,h3⟩:=LZ hT hs h hn (E x) ats ht ty (args.map a.eval) (IA hx _)
   exact⟨h1,u,h2,fun w' _=>by simp only[execOp,resolve,invoke,builtin,Sem.run_bind,Sem.run_pure,Result.andThen_ok,h3 w']⟩
  ·cases h
 ·rename_i args ats
  split at h
  ·rename_i x y hxy
   obtain rfl:args=#[x,y]:=by rw[←Array.toArray_toList (xs:=args),hxy]
   have Ex:=E x;have Ey:=E y
   split at h
   ·rename_i k p k' q hx hy
    simp only[CV.pure,Option.some.injEq] at h;subst h
    rw[hx,cq] at Ex;rw[hy,cq] at Ey
    exact⟨trivial,_,cq.2 Z,fun w' _=>by simp[execOp,resolve,invoke,builtin,Builtin.max_,Ex,Ey,Builtin.max2]⟩
   ·rename_i p q hx hy
    simp only[CV.pure,Option.some.injEq] at h;subst h
    rw[hx,gS] at Ex;rw[hy,gS] at Ey
    refine⟨trivial,.string (bf (if (!Op.bytesLess p q) then p else q)),gS.2 ⟨rfl,by split<;>first|exact Ex.2|exact Ey.2⟩,fun w' _=>?_⟩
    have e1:∀l:List UInt8,(bf l).toList=l:=fun l=>ByteArray.toList_eq _
    cases hb:Op.bytesLess p q<;>simp[execOp,resolve,invoke,builtin,Builtin.max_,Ex.1,Ey.1,Builtin.max2,Op.stringOp,e1,asBool,hb]
   ·cases h
  ·cases h
 ·rename_i args ats
  split at h
  ·rename_i x y hxy
   obtain rfl:args=#[x,y]:=by rw[←Array.toArray_toList (xs:=args),hxy]
   have Ex:=E x;have Ey:=E y
   split at h
   ·rename_i k p k' q hx hy
    simp only[CV.pure,Option.some.injEq] at h;subst h
    rw[hx,cq] at Ex;rw[hy,cq] at Ey
    exact⟨trivial,_,cq.2 Z,fun w' _=>by simp[execOp,resolve,invoke,builtin,Builtin.min_,Ex,Ey,Builtin.min2]⟩
   ·rename_i p q hx hy
    simp only[CV.pure,Option.some.injEq] at h;subst h
    rw[hx,gS] at Ex;rw[hy,gS] at Ey
    refine⟨trivial,.string (bf (if (Op.bytesLess p q||p==q) then p else q)),gS.2 ⟨rfl,by split<;>first|exact Ex.2|exact Ey.2⟩,fun w' _=>?_⟩
    have e1:∀l:List UInt8,(bf l).toList=l:=fun l=>ByteArray.toList_eq _
    cases hb:(Op.bytesLess p q||p==q)<;>simp only[execOp,resolve,invoke,builtin,Builtin.min_,List.map_toArray,List.map_cons,List.map_nil,Ex.1,Ey.1,List.foldlM_cons,List.foldlM_nil,Builtin.min2,Op.stringOp,e1,asBool,hb,Sem.run_bind,Sem.run_pure,Result.andThen_ok]<;>simp
   ·cases h
  ·cases h
 ·cases h
end
def jP(P:Program):Op→Bool
 |.move _|.assign _|.pick _ _ _|.load _ _|.fieldAddr _ _ _|.field _ _ _|.indexAddr _ _ _|.index _ _ _|.nilCheck _|.binOp _ _ _ _ _|.unOp _ _ _|.extract _ _|.slice _ _ _ _ _|.build _ _|.makeInterface _ _|.makeFunc _ _ _|.typeAssert _ _ _ _=>false
 |.convert _ dst _=>match P.underlying dst with
  |some (.slice _)=>true
  |_=>false
 |.call ⟨.builtin .len,_,_⟩|.call ⟨.builtin .cap,_,_⟩|.call ⟨.builtin .max,_,_⟩|.call ⟨.builtin .min,_,_⟩=>false
 |_=>true
theorem J3{P:Program}{T:List (Nat×TI)}(hT:cP P T){H:List (Nat×HO)}{e:Operand→AV}{op:Op}{r:CV}(h:cv T H e op=some r):jP P op=false:=by
 unfold cv at h
 split at h<;>first
  |rfl
  |skip
 ·rename_i s d x
  unfold wt at h
  split at h
  ·split at h
   ·rename_i h1 h2
    simp[jP,nR (aX hT h2)]
   ·cases h
  ·split at h
   ·rename_i h1 h2
    simp[jP,eX (aX hT h2)]
   ·cases h
  ·cases h
 ·cases h
end Go.Proofs.YtginkbjclkdglaaGreat
