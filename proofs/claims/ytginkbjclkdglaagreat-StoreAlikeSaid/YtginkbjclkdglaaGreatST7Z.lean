/- store.file and store.load by rules. -/
import Derived.Test.YtginkbjclkdglaaGreatDK9Z
import Derived.Test.YtginkbjclkdglaaGreatV49Z
import Derived.Test.YtginkbjclkdglaaGreatV13Z
import Derived.Test.YtginkbjclkdglaaGreatB2Z
import Derived.Shelf.RegionOpenPlain
import Derived.Lib.Walk
import Derived.Lib.SliceRun
import Derived.Lib.JoinLaws
import Derived.Lib.AppendZerosOnto
import Derived.Lib.Overlaps
import Derived.Laws.Externs
import Derived.Laws.IdiomCopy
import Derived.Laws.NewBlocks
set_option maxHeartbeats 16000000
set_option maxRecDepth 100000
namespace Go.Proofs.YtginkbjclkdglaaGreat
open Go Go.RowKit
theorem Kf{D:ez}{nm b:List UInt8}{q:Nat}(hl:D.fs.length≤4096):(fI D nm b q).fs.length≤4096:=by
 unfold fI
 by_cases hc:D.dead=true∨fg nm=false∨D.room - (D.used:Int)<b.length∨(D.get nm=none∧4096≤D.fs.length)
 ·rw[if_pos hc];exact hl
 ·rw[if_neg hc]
  dsimp only
  unfold uw
  cases hg:D.fs.find? (fun f=>f.nm==nm) with
  |none=>
   dsimp only
   have:D.get nm=none:=hg
   rw[List.length_append,List.length_singleton]
   have:¬ 4096≤D.fs.length:=fun h=>hc (.inr (.inr (.inr ⟨hg,h⟩)))
   omega
  |some f=>dsimp only;rw[List.length_map];exact hl
theorem Jw{D:ez}{nm:List UInt8}:(oC D nm).fs.length=D.fs.length:=by
 unfold oC
 split
 ·rfl
 ·dsimp only
  split
  ·unfold re;rw[List.length_map]
  ·rfl
def kQ(r:Int)(L:List (List UInt8×List UInt8)):Prop:=r<(fq L:Int)∨4096<L.length
theorem kQ.of{r:Int}{L L':List (List UInt8×List UInt8)}(h:kQ r L)(h1:fq L≤fq L')(h2:L.length≤L'.length):kQ r L':=by
 rcases h with h|h
 ·exact .inl (by omega)
 ·exact .inr (by omega)
theorem Vw.file{D:ez}{L:List (List UInt8×List UInt8)}(v:Vw D L){nm b:List UInt8}(q:Nat)(hn:fg nm=true)(_hu:(D.used:Int)≤D.room)(hl:D.fs.length≤4096):
 (Go.Proofs.YtginkbjclkdglaaGreat.appE D nm b=9∧fI D nm b q=D∧kQ D.room ((nm,b)::L))∨(Go.Proofs.YtginkbjclkdglaaGreat.appE D nm b=0∧Ak (fI D nm b q) nm=0∧Vw (oC (fI D nm b q) nm) (gD L nm b)∧(oC (fI D nm b q) nm).room=D.room∧((oC (fI D nm b q) nm).used:Int)≤(oC (fI D nm b q) nm).room∧(oC (fI D nm b q) nm).fs.length≤4096):=by
 have h1:=v.appE (nm:=nm) (b:=b) hn
 by_cases hc:D.room - (fq L:Int)<b.length∨(l5 L nm=none∧4096≤L.length)
 ·rw[if_pos hc] at h1
  refine .inl ⟨h1,v.full q hn (by rw[h1];decide),?_⟩
  rcases hc with h|⟨_,h⟩
  ·exact .inl (by rw[dN];dsimp only;omega)
  ·exact .inr (by rw[List.length_cons];omega)
 ·rw[if_neg hc] at h1
  have h2:=v.put q hn h1
  refine .inr ⟨h1,h2.1,h2.2.1,h2.2.2,?_,by rw[Jw];exact Kf hl⟩
  rw[h2.2.1.used,h2.2.2,sx]
  have:¬ D.room - (fq L:Int)<b.length:=fun h=>hc (.inl h)
  omega
theorem vl(B:gV)(o:eW)(mem:List aC)(msz:Int)(st:iH){D:ez}{L:List (List UInt8×List UInt8)}(v:Vw D L)(nm b:List UInt8)(hn:fg nm=true)(hu:(D.used:Int)≤D.room)(hr:D.room≤16777216)(hl:D.fs.length≤4096)(hb:b.length≤1000000000000):
 aQ Tryz.prog 95 [.ptr 104 B.bs [] 0,.s nm,.s b] [.var B.bd (cO B.bm D),.obj B.bm (cV D.es D.clk),bL (D.fs.map bZ.O),.var B.bs (dm B o mem msz st)]
  (fun r os=>∃D' e,((e=(9:Int)∧D'=D∧kQ D.room ((nm,b)::L))∨(e=0∧Vw D' (gD L nm b)∧D'.room=D.room∧(D'.used:Int)≤D'.room∧D'.fs.length≤4096))∧r= .i .i64 e∧os=[.var B.bd (cO B.bm D'),.obj B.bm (cV D'.es D'.clk),bL (D'.fs.map bZ.O),.var B.bs (dm B o mem msz st)]):=by
 have hnl:nm.length≤100:=by unfold fg at hn;simp at hn;exact hn.2
 have h1:=uo B.bd B.bm D nm b v.ok (by omega) (by omega) (by omega) (by rw[v.fuse];decide)
 have h2:=fun q=>xE B.bd B.bm (fI D nm b q) nm (sq v.ok).1 (by have:=(sq (nm:=nm) (b:=b) (q:=q) v.ok).2.1;omega) (by omega) (by
  unfold fI
  split
  ·rw[v.fuse];decide
  ·show (fw D.fuse D.dead).2.2.1<_;rw[v.fuse,v.dead];decide)
 have hfi:=fun q=>v.file (b:=b) q hn hu hl
 have hL:∀D:ez,dk B.bd B.bm D=[.var B.bd (cO B.bm D),.obj B.bm (cV D.es D.clk),bL (D.fs.map bZ.O)]:=fun _=>rfl
 simp only[hL] at h1 h2
 refine aA ab [(100,.var B.bd (cO B.bm D)),(101,.obj B.bm (cV D.es D.clk)),(102,bL (D.fs.map bZ.O)),(104,.var B.bs (dm B o mem msz st))] Tryz.func95 Z Tryz.ntmps95 aN Z Z (fun C=>?_) Z
 unfold dm e8 el iA
 obtain⟨E,hE⟩:∃E,appE D nm b=E:=⟨_,rfl⟩
 rw[hE] at h1 hfi
 generalize fI D nm b=A at h1 h2 hfi
 by_cases h0:E=0
 ·subst h0
  repeat' (first|refine ae ?_|refine aa ?_|refine ac (ax ?_)|refine ah (ax ?_)|refine ap (bC ?_)|refine aU ab (fun _=>?_)|refine aB Z ?_|(refine bx [] [100,101,102] [100,101,102] Z h1 ⟨af,aP,aP,J⟩ Z dD Z Z ?_;rintro _ _ ⟨q,rfl,rfl⟩;refine⟨_,rfl,rfl,?_⟩)|refine bk [] [100,101,102] [100,101,102] Z (h2 q) ⟨af,aP,J⟩ Z dD Z Z ?_)
  all_goals
   rcases hfi q with h|⟨_,h3,h4⟩
   ·exact absurd h.1 (by decide)
   exact aH [] [(100,_),(101,_),(102,_),(104,_)] (.i .i64 (Ak (A q) nm)) Z (bX (am Z) Z) (az 100 Z (az 101 Z (az 102 Z (az 104 Z .nil)))) ⟨_,_,.inr ⟨h3,h4⟩,rfl,rfl⟩
 ·repeat' (first|refine ae ?_|refine aa ?_|refine ac (ax ?_)|refine ap (bC ?_)|refine aU ab (fun _=>?_)|(refine bF Z (fun hc=>?_) (fun hc=>?_))<;>try omega|(refine bx [] [100,101,102] [100,101,102] Z h1 ⟨af,aP,aP,J⟩ Z dD Z Z ?_;rintro _ _ ⟨q,rfl,rfl⟩;refine⟨_,rfl,rfl,?_⟩))
  all_goals
   rcases hfi q with h|⟨h3,_⟩
   case inr=>exact absurd h3 h0
   exact aH [] [(100,_),(101,_),(102,_),(104,_)] (.i .i64 E) Z (bX (am Z) Z) (az 100 Z (az 101 Z (az 102 Z (az 104 Z .nil)))) ⟨_,_,.inl h,rfl,rfl⟩
theorem CT(B:gV)(o:eW)(S:ei)(p:Fl×List aC)(L:List (List UInt8×List UInt8))(v:Vw S.D L)(hu:S.D.used≤16777216)(hp:GO o.blk p)(hlk:l5 L (eM p.1.num.toNat)=some (mt p.2 o.blk).1)(hno:getT p.1.num S.ts=none):
 aQ Tryz.prog 25 [.ptr 104 B.bs [] 0,.i .i64 p.1.num] (dY B o S) (fun r os=>r= .i .i64 0∧os=dY B o ⟨S.D,S.now,S.mem,S.msz,S.st,S.ts++[(p.1.num,.cp (iY (jm o.blk p)),S.c)],S.c+1⟩):=by
 have hnm:=hp.num
 have h1:=jS p.1.num.toNat (by omega)
 rw[Int.toNat_of_nonneg hnm.1] at h1
 have h2:=ot B.bd B.bm S.D (eM p.1.num.toNat) (by omega) (by rw[m9];decide)
 have hrd:GP S.D (eM p.1.num.toNat)=((mt p.2 o.blk).1,0):=by rw[v.rd,hlk]
 rw[hrd] at h2
 have h3:=yb hp.made.1 hp.few hp.made.2
 have hT:jm o.blk p=pf p.2 (grp o.blk p.2 [] 0) (mt p.2 o.blk).1:=rfl
 rw[←hT] at h3
 have hL:dk B.bd B.bm S.D=[.var B.bd (cO B.bm S.D),.obj B.bm (cV S.D.es S.D.clk),bL (S.D.fs.map bZ.O)]:=rfl
 rw[hL] at h2
 generalize jm o.blk p=T at h3 ⊢
 generalize (mt p.2 o.blk).1=s at h2 h3
 generalize eM p.1.num.toNat=nm at h1 h2
 generalize p.1.num=num at h1 hno ⊢
 unfold dY
 refine aA ab [(100,.var B.bd (cO B.bm S.D)),(101,.obj B.bm (cV S.D.es S.D.clk)),(102,bL (S.D.fs.map bZ.O)),(103,eC B.bd B.bj S.now),(104,.var B.bs (dm B o S.mem S.msz S.st)),(105,io B.bt S.ts S.c)] Tryz.func25 Z Tryz.ntmps25 aN Z Z (fun C=>?_) Z
 unfold dm e8 el iA
 repeat' (first|refine ae ?_|refine aa ?_|refine ac (ax ?_)|refine ah (ax ?_)|refine ap (bC ?_)|refine aU ab (fun _=>?_)|refine aR Z ?_|refine aB Z ?_|refine cg 1 [100,101,102] [] [] [0,1,2,4,3,5,6,7,8,9,10,11] aN aN aN Z Z Z ?_|refine bk [] [100,101,102] [100,101,102] Z h2 ⟨af,aP,J⟩ Z dD Z Z ?_|(refine xX ab Z Z aN Z Z Z Z hno Z Z ?_)|refine au Z (h1) ⟨aP,J⟩ Z ?_|refine au Z (h3) ⟨aP,J⟩ Z ?_)
 all_goals
  exact aH [] [(100,_),(101,_),(102,_),(103,_),(104,_),(105,_)] (.i .i64 0) Z (bX (am Z) Z) (az 100 Z (az 101 Z (az 102 Z (az 103 Z (az 104 Z (az 105 Z .nil)))))) ⟨rfl,rfl⟩
def CL(B:gV)(o:eW)(S:ei):List HO:=[.var B.bd (cO B.bm S.D),.obj B.bm (cV S.D.es S.D.clk),bL (S.D.fs.map bZ.O),.var B.bs (.agg [.ptr 0 B.bd [] 0,el o,.nilp,e8 S.mem S.msz,iA S.st,.own 105 (.map (some B.bt))]),io B.bt S.ts S.c]
theorem Aw(B:gV)(o:eW)(S:ei)(p:Fl×List aC)(L:List (List UInt8×List UInt8))(v:Vw S.D L)(hu:S.D.used≤16777216)(hp:GO o.blk p)(hlk:l5 L (eM p.1.num.toNat)=some (mt p.2 o.blk).1)(hno:getT p.1.num S.ts=none):
 aQ Tryz.prog 25 [.ptr 104 B.bs [] 0,.i .i64 p.1.num] (CL B o S) (fun r os=>r= .i .i64 0∧os=CL B o ⟨S.D,S.now,S.mem,S.msz,S.st,S.ts++[(p.1.num,.cp (iY (jm o.blk p)),S.c)],S.c+1⟩):=by
 have hnm:=hp.num
 have h1:=jS p.1.num.toNat (by omega)
 rw[Int.toNat_of_nonneg hnm.1] at h1
 have h2:=ot B.bd B.bm S.D (eM p.1.num.toNat) (by omega) (by rw[m9];decide)
 have hrd:GP S.D (eM p.1.num.toNat)=((mt p.2 o.blk).1,0):=by rw[v.rd,hlk]
 rw[hrd] at h2
 have h3:=yb hp.made.1 hp.few hp.made.2
 have hT:jm o.blk p=pf p.2 (grp o.blk p.2 [] 0) (mt p.2 o.blk).1:=rfl
 rw[←hT] at h3
 have hL:dk B.bd B.bm S.D=[.var B.bd (cO B.bm S.D),.obj B.bm (cV S.D.es S.D.clk),bL (S.D.fs.map bZ.O)]:=rfl
 rw[hL] at h2
 generalize jm o.blk p=T at h3 ⊢
 generalize (mt p.2 o.blk).1=s at h2 h3
 generalize eM p.1.num.toNat=nm at h1 h2
 generalize p.1.num=num at h1 hno ⊢
 unfold CL
 refine aA ab [(100,.var B.bd (cO B.bm S.D)),(101,.obj B.bm (cV S.D.es S.D.clk)),(102,bL (S.D.fs.map bZ.O)),(104,.var B.bs (.agg [.ptr 0 B.bd [] 0,el o,.nilp,e8 S.mem S.msz,iA S.st,.own 105 (.map (some B.bt))])),(105,io B.bt S.ts S.c)] Tryz.func25 Z Tryz.ntmps25 aN Z Z (fun C=>?_) Z
 unfold el e8 iA
 repeat' (first|refine ae ?_|refine aa ?_|refine ac (ax ?_)|refine ah (ax ?_)|refine ap (bC ?_)|refine aU ab (fun _=>?_)|refine aR Z ?_|refine aB Z ?_|refine cg 1 [100,101,102] [] [] [0,1,2,4,3,5,6,7,8,9,10,11] aN aN aN Z Z Z ?_|refine bk [] [100,101,102] [100,101,102] Z h2 ⟨af,aP,J⟩ Z dD Z Z ?_|(refine xX ab Z Z aN Z Z Z Z hno Z Z ?_)|refine au Z (h1) ⟨aP,J⟩ Z ?_|refine au Z (h3) ⟨aP,J⟩ Z ?_)
 all_goals
  exact aH [] [(100,_),(101,_),(102,_),(104,_),(105,_)] (.i .i64 0) Z (bX (am Z) Z) (az 100 Z (az 101 Z (az 102 Z (az 104 Z (az 105 Z .nil))))) ⟨rfl,rfl⟩
section
variable {m:OM} {P:Program} {T:List (Nat×TI)} {C:il} {ops:Array Oper} {l:List Oper} {K:St→Prop} {n:Nat} {sl:List (Nat×AV)} {hp:List (Nat×HO)} {d:Nat} {ty:Nat} {pos:String} {aft:Array Edge} {gd:Option (Nat×Bool)}
theorem x4:∀{ts:List (Int×AV×Nat)},(ts.map (·.2.2)).Nodup→∀{a b:Int×AV×Nat},a∈ts→b∈ts→a.2.2=b.2.2→a=b
 |[],_,a,b,ha,_,_=>by cases ha
 |t::r,hn,a,b,ha,hb,h=>by
  rw[List.map_cons] at hn
  have h1:=List.nodup_cons.1 hn
  rcases List.mem_cons.1 ha with ea|ma
  ·rcases List.mem_cons.1 hb with eb|mb
   ·rw[ea,eb]
   ·exact(h1.1 (List.mem_map.2 ⟨b,mb,by rw[←h,ea]⟩)).elim
  ·rcases List.mem_cons.1 hb with eb|mb
   ·exact(h1.1 (List.mem_map.2 ⟨a,ma,by rw[h,eb]⟩)).elim
   ·exact x4 h1.2 ma mb h
theorem AZ(hw:cH ops ⟨n,sl,hp⟩ gd=bE gd){ki km r b c:Nat}{it:Operand}{ts:List (Int×AV×Nat)}{vis:List Nat}(e:Int×AV×Nat)
 (hx:ev ⟨n,sl,hp⟩ it= .ptr ki r [] 0)(hg:bU hp ki=some (.obj r (tl b c (vis++[e.2.2]))))(hgm:bU hp km=some (io b ts c))(he:e∈ts)(hnd:(ts.map (·.2.2)).Nodup)(hone:∀e∈ts,jN e.2.1=true∧e.2.1.isVal=true)(hd:Nat.blt d n=true)
 (h:aq m P C ops l ⟨n,(d,.tup [.i .i64 e.1,e.2.1])::sl,hp⟩ K):aq m P C ops (⟨some d,.entry it,ty,pos,aft,gd⟩::l) ⟨n,sl,hp⟩ K:=by
 refine eD hw [] eZ Z fun a w hs=>?_
 have Ex:=bg hs it
 rw[hx,dg] at Ex
 have hr:w.heap[r]?=some (tl b c (vis++[e.2.2])):=hs.getHeap hg
 obtain⟨us,hrep,hb⟩:=u5 (hs.getHeap hgm)
 have hb':∀(ts:List (Int×AV×Nat)) (us:List Value) (w:World) (F:Nat→Prop),qD w F ts us→(oI ts us).map (·.born)=ts.map (·.2.2):=by
  intro ts
  induction ts with
  |nil=>intro us w F _;cases us<;>rfl
  |cons t r ih=>
   rintro us w F ⟨u,us',rfl,_,h3⟩
   show t.2.2::(oI r us').map (·.born)=_
   rw[ih us' w F h3];rfl
 have hbn:=hb' ts us _ _ hrep
 obtain⟨u,hu⟩:=zg hrep e he
 obtain⟨e',he',u',hxe,hru⟩:=uB hrep _ hu
 have hee:e'=e:=by
  have h1:e.2.2=e'.2.2:=congrArg MapEntry.born hxe
  exact x4 hnd he' he h1.symm
 have huu:u=u':=congrArg MapEntry.val hxe
 subst hee
 subst huu
 have hseen:(vis++[e'.2.2]).toArray=(vis.toArray.push e'.2.2):=by simp
 unfold tl at hr
 rw[hseen] at hr
 have hn2:(((oI ts us).toArray.toList).map (·.born)).Nodup:=by
  have:((oI ts us).toArray.toList).map (·.born)=ts.map (·.2.2):=by simpa using hbn
  rw[this];exact hnd
 have hrun:=run_entry_at (P:=P) w r b c _ _ c (⟨vI e'.1,u,e'.2.2⟩:MapEntry) hr hb (by simpa using hu) hn2
 refine⟨.tuple #[vI e'.1,u],w,_,.tup [.i .i64 e'.1,e'.2.1],?_,hs,hd,?_,m6.same (cD _ w),h⟩
 ·simp only[execOp,Ex,Sem.run_bind,hrun,Result.andThen_ok,Sem.run_pure]
 ·refine⟨[vI e'.1,u],rfl,rfl,fun i x v hx hv=>?_⟩
  rcases i with _|_|i
  ·simp only[List.getElem?_cons_zero,Option.some.injEq] at hx hv
   subst hx;subst hv
   exact .inr ⟨[vI e'.1],by simp only[bw];rfl,rfl⟩
  ·simp only[List.getElem?_cons_succ,List.getElem?_cons_zero,Option.some.injEq] at hx hv
   subst hx;subst hv
   exact .inr ⟨[u],zc (hone e' he').1 (hone e' he').2 hru,by
    have:=(hone e' he').1
    cases hq:e'.2.1<;>rw[hq] at this<;>first|rfl|cases this⟩
  ·simp at hx
end
end Go.Proofs.YtginkbjclkdglaaGreat
set_option linter.unusedVariables false
set_option linter.unusedSimpArgs false
namespace Go.Proofs.YtginkbjclkdglaaGreat
open Go Go.RowKit Go.Lib
section
variable {P:Program}
theorem kD(w:World)(dT sT ty elem sz:Nat)(b o dLen dCap:Nat)(a:Addr)(sLen sCap k:Nat)(cs:List Value)
 (hu:P.underlying dT=some (.slice elem))(hs:(P.info? elem).map (·.size)=some sz)(hk:Nat.min sLen dLen=k)(hn:cs.length=k*sz)
 (hsrc:∀j v,cs[j]?=some v→w.cell? (a.add j)=some v)(hc:∀j,j<cs.length→(w.cell? ⟨b,o+j,none⟩).isSome=true)(hf:∀j,j<cs.length→w.frozen? ⟨b,o+j,none⟩=false)(h1:∀v∈cs,v.oneCell'=true):
 (Builtin.copy_ #[dT,sT] ty #[.slice (some ⟨b,o,none⟩) dLen dCap,.slice (some a) sLen sCap]).run P w= .ok (goInt k) (w.setCells b o cs):=by
 have hl:=run_loadCells_list (P:=P) w a cs hsrc
 have hst:=run_storeCells_cells (P:=P) b o cs 0 w (by simpa using hc) (by simpa using hf) h1
 cases hq:P.info? elem with
 |none=>simp[hq] at hs
 |some i=>
  have hi:i.size=sz:=by simpa [hq] using hs
  simp[Builtin.copy_,run_underlying hu,Builtin.lenOf,Builtin.firstCells,sizeOf,typeInfo,hq,hi,hk,←hn,hl,hst]
theorem z6(w:World){o:Oper}{a:Act}{K:Act→World→Prop}{Q:Exit→Act→World→Prop}(d s:Operand)(t t':TypeId)
 (ho:o.op= .call {callee:=.builtin .copy,args:=#[d,s],argTypes:=#[t,t']})(v u:Value)(hd:a.eval d=v)(hs:a.eval s=u){v':Value}{w':World}
 (hr:(Builtin.copy_ #[t,t'] o.type #[v,u]).run P w= .ok v' w')(h:K (a.put o.dst v') w'):o.wp P a w K Q:=by
 unfold Oper.wp execOp
 simp only[ho,resolve,invoke,builtin,Sem.run_bind,Sem.run_pure,Result.andThen_ok,List.map_toArray,List.map_cons,List.map_nil,hd,hs,hr]
 exact h
theorem kS(w:World){ops:Array Oper}{rest:List Oper}{o:Oper}{a:Act}{Q:Exit→Act→World→Prop}(hgd:o.guard=none)(d s:Operand)(t t':TypeId)
 (ho:o.op= .call {callee:=.builtin .copy,args:=#[d,s],argTypes:=#[t,t']})(v u:Value)(hd:a.eval d=v)(hs:a.eval s=u){v':Value}{w':World}
 (hr:(Builtin.copy_ #[t,t'] o.type #[v,u]).run P w= .ok v' w')(h:wpList P ops Q rest (a.put o.dst v') w'):wpList P ops Q (o::rest) a w:=
 wpList_plain hgd fun _ hK=>z6 w d s t t' ho v u hd hs hr (hK _ _ h)
theorem qi{ops:Array Oper}{o:Oper}{a:Act}{w:World}{K:Act→World→Prop}{Q:Exit→Act→World→Prop}{E:Prop}
 (hg:o.guard=none)(d x:Operand)(dT sT:TypeId)(hop:o.op=Op.call {callee:=Callee.builtin Builtin.copy,args:=#[d,x],argTypes:=#[dT,sT]})
 (v u:Value)(hd:a.eval d=v)(hx:a.eval x=u){v':Value}{w':World}(hr:(Builtin.copy_ #[dT,sT] o.type #[v,u]).run P w= .ok v' w')(hK:K (a.put o.dst v') w'):
 if Region.wanted o (yielded ops a.tmps)=true then Oper.wp P o a w K Q else E:=by
 have hw:Region.wanted o (yielded ops a.tmps)=true:=by simp[Region.wanted,hg]
 rw[if_pos hw]
 unfold Oper.wp
 simp[execOp,hop,resolve,invoke,builtin,hd,hx,hr,Result.andThen]
 exact hK
theorem ud(b:Nat)(vs:List Value)(o:Nat)(w:World)(h:∀j,j<vs.length→(w.cell? ⟨b,o+j,none⟩).isSome=true)(k:Nat)(hk:(w.cell? ⟨b,k,none⟩).isSome=true):((w.setCells b o vs).cell? ⟨b,k,none⟩).isSome=true:=by
 by_cases hin:o≤k∧k<o+vs.length
 ·have:=World.cell?_setCells_in b vs o w h (k - o) (by omega)
  rw[show o+(k - o)=k by omega] at this
  rw[this];rfl
 ·rw[World.cell?_setCells_out b vs o w ⟨b,k,none⟩ (fun _ _=>by show k<o∨o+vs.length≤k;omega)]
  exact hk
end
theorem sL{P:Program}(w:World)(tS tR e:TypeId)(ht:P.underlying tS=some (.slice e))(size:Nat)(hz:∀w,(Go.sizeOf e).run P w= .ok size w)
 (a b:Addr)(la ca lb cb:Nat)(hne:a.block≠b.block)(tA tB:TypeId)(kA kB:Nat)
 (hsa:w.shape? a.block=some (tA,kA))(hkA:kA≠0)(hsb:w.shape? b.block=some (tB,kB))(hkB:kB≠0)
 (hfb:w.frozen? b=false)(hfe:w.frozen? {block:=b.block,off:=kB}=false):
 (Extern.SlicesOverlaps.overlaps #[tS,tS] #[tR] #[.slice (some a) la ca,.slice (some b) lb cb]).run P w= .ok (.bool false) w:=by
 have hnb:(a.block !=b.block)=true:=by simpa using hne
 have hnb':(a.block==b.block)=false:=by simpa using hne
 change Sem.run P (α:=Value) (do
  let some t:=(#[tS,tS]:Array TypeId)[0]?|stuck "slices.overlaps: no parameter types"
  let .slice elem←underlying t|stuck "slices.overlaps: slice type expected"
  let size←sizeOf elem
  match (some a:Option Addr),(some b:Option Addr) with
  |some a,some b=>
   if la=0∨lb=0∨size=0 then pure (Value.bool false)
   else if a.block !=b.block&&(←frozen a)&&(←frozen b) then unsupported .addressObserved
   else do
    if a.block !=b.block then do
     noView a;noView b
     if←mayBeOne a b then return Value.bool ((←choose (.extern "sameAddr.stringBytes" 2))==1)
    pure (Value.bool (a.block==b.block&&a.off<b.off+lb*size&&b.off<a.off+la*size))
  |_,_=>pure (Value.bool false)) w=_
 by_cases h0:la=0∨lb=0∨size=0
 ·simp[run_underlying ht,hz,h0]
 ·cases kB with
  |zero=>exact absurd Z hkB
  |succ kB=>
   cases kA with
   |zero=>exact absurd Z hkA
   |succ kA=>
    cases hfa:w.frozen? a<;>cases hfa2:w.frozen? {block:=a.block,off:=kA+1}<;>
     simp[run_underlying ht,hz,h0,hnb,hnb',frozen,noView,viewAt,mayBeOne,stringish,shape,Sem.run,hsa,hsb,hfb,hfe,hfa,hfa2]
theorem zC:(Tryz.prog.info? 47).map (·.size)=some 3:=by
 obtain⟨i,hi,h1,_⟩:=(aX ab (t:=47) Z).inf
 rw[hi];exact congrArg some h1
theorem oq:Tryz.prog.underlying 35=some (.slice 47):=Tryz.underlying35
set_option maxHeartbeats 4000000 in
set_option maxRecDepth 100000 in
theorem Gp(b n c i vb voff m vc:Nat)(cs vs:List Value)(w:World)(hi:i<n)(hm:0<m)(hroom:n+m≤c)(hc63:c≤9223372036854775807)(hvb:vb≠b)
 (hcl:cs.length=n*3)(hvl:vs.length=m*3)
 (hcs:∀j v,cs[j]?=some v→w.cell? ⟨b,j,none⟩=some v)(hsp:∀j,j<(n+m)*3→(w.cell? ⟨b,j,none⟩).isSome=true)(hfz:∀j,j<(n+m)*3→w.frozen? ⟨b,j,none⟩=false)
 (hvs:∀j v,vs[j]?=some v→w.cell? ⟨vb,voff+j,none⟩=some v)(h1c:∀v∈cs,v.oneCell'=true)(h1v:∀v∈vs,v.oneCell'=true)
 (tA tB:TypeId)(kA kB:Nat)(hsa:w.shape? vb=some (tA,kA))(hkA:kA≠0)(hsb:w.shape? b=some (tB,kB))(hkB:kB≠0)(hfz2:∀j,w.frozen? ⟨b,j,none⟩=false):
 Calls Tryz.prog 75 #[.slice (some ⟨b,0,none⟩) n c,.int .i64 i,.slice (some ⟨vb,voff,none⟩) m vc] w fun e w'=>
  e= .returned (.slice (some ⟨b,0,none⟩) (n+m) c)∧w'=(w.drew.setCells b ((i+m)*3) (cs.drop (i*3))).setCells b (i*3) vs:=by
 have mixed:Tryz.prog.follows Departure.mixedOrders=true:=by kernel_rfl
 have hz1:¬ ((m:Int)=0):=by omega
 have hz2:¬ ((i:Int)=(n:Int)):=by omega
 have hov:∀lb cb,(callFunc 120 #[.slice (some ⟨vb,voff,none⟩) m vc,.slice (some ⟨b,(i+m)*3,none⟩) lb cb]).run Tryz.prog w= .ok (.value (.bool false)) w:=fun lb cb=>by
  rw[run_callFunc_extern Tryz.func120 aN aN aN (e:=Extern.SlicesOverlaps.overlaps #[35,35] #[4]) aN,
   sL w 35 4 47 oq 3 (fun w=>(aX ab (t:=47) Z).sizeRun w) ⟨vb,voff,none⟩ ⟨b,(i+m)*3,none⟩ m vc lb cb hvb tA tB kA kB hsa hkA hsb hkB (hfz2 _) (hfz2 _)]
  rfl
 have hdl:(cs.drop (i*3)).length=(n - i)*3:=by rw[List.length_drop,hcl];omega
 have hw1:IntKind.i64.wrap ((i:Int)+(m:Int))=(i:Int)+(m:Int):=by rw[IntKind.wrap_i64];omega
 have hb1:(0:Int)≤(i:Int)+(m:Int):=by omega
 have hin:i≤n:=by omega
 have htn:((i:Int)+(m:Int)).toNat=i+m:=by omega
 have hb2:¬ (c=i+m):=by omega
 have hb3:(i:Int)≤(n:Int)+(m:Int):=by omega
 have hb4:¬ (c=i):=by omega
 have hcp1:∀ty dc sc,(Builtin.copy_ #[35,35] ty #[.slice (some ⟨b,(i+m)*3,none⟩) (n+m - (i+m)) dc,.slice (some ⟨b,i*3,none⟩) (n+m - i) sc]).run Tryz.prog w.drew= .ok (goInt ((n - i:Nat):Int)) (w.drew.setCells b ((i+m)*3) (cs.drop (i*3))):=fun ty dc sc=>
  kD w.drew _ _ ty 47 3 b ((i+m)*3) (n+m - (i+m)) dc ⟨b,i*3,none⟩ (n+m - i) sc (n - i) (cs.drop (i*3)) oq zC (by simp only[Nat.min_def];split<;>omega) hdl
   (fun j v hj=>by rw[Addr.add_lit];exact hcs (i*3+j) v (by rwa [List.getElem?_drop] at hj))
   (fun j hj=>hsp _ (by omega)) (fun j hj=>hfz _ (by omega)) (fun v hv=>h1c v (List.mem_of_mem_drop hv))
 obtain⟨W1,hW1⟩:∃W1,W1=w.drew.setCells b ((i+m)*3) (cs.drop (i*3)):=⟨_,rfl⟩
 have hsp1:∀k,k<(n+m)*3→(W1.cell? ⟨b,k,none⟩).isSome=true:=fun k hk=>by
  rw[hW1]
  exact ud b (cs.drop (i*3)) ((i+m)*3) w.drew (fun j hj=>hsp _ (by rw[hdl] at hj;omega)) k (hsp k hk)
 have hcp2:∀(W:World),(∀x,W.cell? x=W1.cell? x)→(∀x,W.frozen? x=W1.frozen? x)→∀ty dc,(Builtin.copy_ #[35,35] ty #[.slice (some ⟨b,i*3,none⟩) (n+m - i) dc,.slice (some ⟨vb,voff,none⟩) m vc]).run Tryz.prog W= .ok (goInt m) (W.setCells b (i*3) vs):=fun W hWc hWf ty dc=>
  kD W _ _ ty 47 3 b (i*3) (n+m - i) dc ⟨vb,voff,none⟩ m vc m vs oq zC (by simp only[Nat.min_def];split<;>omega) hvl
   (fun j v hj=>by
    rw[Addr.add_lit,hWc,hW1,World.cell?_setCells_out b _ _ _ _ (fun h _=>absurd h hvb)]
    exact hvs j v hj)
   (fun j hj=>by rw[hWc];exact hsp1 _ (by omega)) (fun j hj=>by rw[hWf,hW1,World.frozen?_setCells];exact hfz _ (by omega)) h1v
 rw[←hW1] at hcp1
 go_enter Tryz.func75,Tryz.ntmps75
 go_wp2_with (simp only[hov])
 go_region_law_o (refine qi Z _ _ 35 35 Z _ _ (by simp[Act.eval,Act.put]) (by simp[Act.eval,Act.put]) (hcp1 _ _ _) ?_)
 go_wp2_with (at_builtin;refine kS _ Z _ _ 35 35 Z _ _ Z Z (hcp2 _ (fun _=>rfl) (fun _=>rfl) _ _) ?_)
 go_ret
 first|exact⟨rfl,rfl⟩|exact⟨rfl,by rw[hW1]⟩
theorem IC:Kk Tryz.prog 35 47 3 40:=J0 oq aN
set_option maxHeartbeats 4000000 in
set_option maxRecDepth 100000 in
theorem Ii(b n c i vb voff m vc:Nat)(cs vs:List Value)(w:World)(hi:i<n)(hm:0<m)(hnc:n≤c)(hroom:c<n+m)(hbig:(n+m)*40≤140737488355328)
 (hcl:cs.length=n*3)(hvl:vs.length=m*3)
 (hcs:∀j v,cs[j]?=some v→w.cell? ⟨b,j,none⟩=some v)
 (hvs:∀j v,vs[j]?=some v→w.cell? ⟨vb,voff+j,none⟩=some v)(h1c:∀v∈cs,v.oneCell'=true)(h1v:∀v∈vs,v.oneCell'=true):
 Calls Tryz.prog 75 #[.slice (some ⟨b,0,none⟩) n c,.int .i64 i,.slice (some ⟨vb,voff,none⟩) m vc] w fun e w'=>
  ∃(G:Nat) (ROW:Array Value),e= .returned (.slice (some ⟨w.heap.size,0,none⟩) (n+m) G)∧n+m≤G∧G≤maxLen∧ROW.size=G*3∧ROW.toList.take (i*3)=cs.take (i*3)∧
  w'=(((w.alloc (.cells ROW 47)).drew.setCells w.heap.size (i*3) vs).drew).setCells w.heap.size ((i+m)*3) (cs.drop (i*3)):=by
 have mixed:Tryz.prog.follows Departure.mixedOrders=true:=by kernel_rfl
 obtain⟨i0,z,hi0,hz0,hzs,hzb,hzc⟩:=IC.info
 have hz1:¬ ((m:Int)=0):=by omega
 have hz2:¬ ((i:Int)=(n:Int)):=by omega
 have hz3:(c:Int)<(n:Int)+(m:Int):=by omega
 have hbw:b<w.heap.size:=block_lt_of_cell (hcs 0 _ (List.getElem?_eq_getElem (by omega)))
 have hvw:vb<w.heap.size:=block_lt_of_cell (hvs 0 _ (List.getElem?_eq_getElem (by omega)))
 have hkk:(n:Int)+(m:Int) - (i:Int)=((n+m - i:Nat):Int):=by omega
 have hik:i+(n+m - i)=n+m:=by omega
 have hold:(Builtin.firstCells i0.size i (.slice (some ⟨b,0,none⟩) i c)).run Tryz.prog w.drew= .ok (cs.take (i*3)).toArray w.drew:=by
  rw[hzs]
  exact run_firstCells_some w.drew 3 i ⟨b,0,none⟩ i c (cs.take (i*3)) (by rw[List.length_take];omega) (fun j v hj=>by
   rw[Addr.add_lit,Nat.zero_add]
   rw[List.getElem?_take] at hj
   split at hj
   ·exact hcs j v hj
   ·cases hj)
 have hrz:∀ty,(Builtin.append_ #[35,3] ty #[.slice (some ⟨b,0,none⟩) i c,.int .i64 ((n:Int)+(m:Int) - (i:Int))]).run Tryz.prog w=
  .ok (.slice (some ⟨w.heap.size,0,none⟩) (n+m) (grownCap w (n+m) c 47)) (w.drew.alloc (.cells ((cs.take (i*3)).toArray++Builtin.zeroCells z.cells (n+m - i)++Builtin.zeroCells z.cells (grownCap w (n+m) c 47 - (n+m))) 47)):=fun ty=>by
  have h:=Lib.run_append_grow_zeros (P:=Tryz.prog) w 35 3 ty 47 i0 _ .i64 .i64 oq Tryz.underlying3 hi0 hz0 (some ⟨b,0,none⟩) i c (cs.take (i*3)) hold (n+m - i) (by omega) (by omega) (by omega) (by omega) (by rw[hzb];omega) (by rw[hzb,hik];exact growslice_fits hroom hbig)
  rw[hik] at h
  rw[hkk]
  exact h
 obtain⟨G,hG⟩:∃G,G=grownCap w (n+m) c 47:=⟨_,rfl⟩
 obtain⟨ROW,hROW⟩:∃ROW:Array Value,ROW=(cs.take (i*3)).toArray++Builtin.zeroCells z.cells (n+m - i)++Builtin.zeroCells z.cells (G - (n+m)):=⟨_,rfl⟩
 rw[←hG] at hrz
 rw[←hROW] at hrz
 have hGn:n+m≤G:=by rw[hG];exact grownCap_ge w _ _ _
 have hGm:G≤maxLen:=by rw[hG];exact grownCap_le_maxLen w (n+m) c 47 (by unfold maxLen;omega)
 have hRs:ROW.size=G*3:=by
  rw[hROW]
  simp only[Array.size_append,List.size_toArray,size_zeroCells,hzc,List.length_take]
  omega
 have hRt:ROW.toList.take (i*3)=cs.take (i*3):=by
  rw[hROW]
  simp only[Array.toList_append,List.append_assoc]
  rw[List.take_append_of_le_length (by rw[List.length_take];omega),List.take_take,Nat.min_self]
 have hRl:(n+m)*3≤ROW.size:=by omega
 obtain⟨W1,hW1⟩:∃W1,W1=w.drew.alloc (.cells ROW 47):=⟨_,rfl⟩
 rw[←hW1] at hrz
 have hN:∀j,j<(n+m)*3→(W1.cell? ⟨w.heap.size,j,none⟩).isSome=true:=fun j hj=>by
  rw[hW1,World.cell?_alloc_at (w:=w.drew) ROW _ w.heap.size j Z,Array.getElem?_eq_getElem (by omega)];rfl
 have hNf:∀j,W1.frozen? ⟨w.heap.size,j,none⟩=false:=fun j=>by rw[hW1];exact World.frozen?_alloc_at (w:=w.drew) ROW _ w.heap.size j Z
 have hOb:∀j v,w.cell? ⟨b,j,none⟩=some v→W1.cell? ⟨b,j,none⟩=some v:=fun j v h=>by rw[hW1,World.cell?_alloc_past (w:=w.drew) _ b j hbw];exact h
 have hOv:∀j v,w.cell? ⟨vb,j,none⟩=some v→W1.cell? ⟨vb,j,none⟩=some v:=fun j v h=>by rw[hW1,World.cell?_alloc_past (w:=w.drew) _ vb j hvw];exact h
 have hcpA:∀(W:World),(∀x,W.cell? x=W1.cell? x)→(∀x,W.frozen? x=W1.frozen? x)→∀ty dc,(Builtin.copy_ #[35,35] ty #[.slice (some ⟨w.heap.size,i*3,none⟩) (n+m - i) dc,.slice (some ⟨vb,voff,none⟩) m vc]).run Tryz.prog W= .ok (goInt m) (W.setCells w.heap.size (i*3) vs):=fun W hWc hWf ty dc=>
  kD W _ _ ty 47 3 w.heap.size (i*3) (n+m - i) dc ⟨vb,voff,none⟩ m vc m vs oq zC (by simp only[Nat.min_def];split<;>omega) hvl
   (fun j v hj=>by rw[Addr.add_lit,hWc];exact hOv _ v (hvs j v hj))
   (fun j hj=>by rw[hWc];exact hN _ (by omega)) (fun j hj=>by rw[hWf];exact hNf _) h1v
 have hG63:G≤9223372036854775807:=by unfold maxLen at hGm;omega
 have hGi:¬ (G=i):=by omega
 have hGim:¬ (G=i+m):=by omega
 have hci:¬ (c=i):=by omega
 have hbN:b≠w.heap.size:=by omega
 have hdl:(cs.drop (i*3)).length=(n - i)*3:=by rw[List.length_drop,hcl];omega
 have hcpB:∀(W:World),(∀x,W.cell? x=(W1.setCells w.heap.size (i*3) vs).cell? x)→(∀x,W.frozen? x=(W1.setCells w.heap.size (i*3) vs).frozen? x)→∀ty dc sc,(Builtin.copy_ #[35,35] ty #[.slice (some ⟨w.heap.size,(i+m)*3,none⟩) (n+m - (i+m)) dc,.slice (some ⟨b,i*3,none⟩) (n - i) sc]).run Tryz.prog W= .ok (goInt ((n - i:Nat):Int)) (W.setCells w.heap.size ((i+m)*3) (cs.drop (i*3))):=fun W hWc hWf ty dc sc=>
  kD W _ _ ty 47 3 w.heap.size ((i+m)*3) (n+m - (i+m)) dc ⟨b,i*3,none⟩ (n - i) sc (n - i) (cs.drop (i*3)) oq zC (by simp only[Nat.min_def];split<;>omega) hdl
   (fun j v hj=>by
    rw[Addr.add_lit,hWc,World.cell?_setCells_out _ _ _ _ _ (fun h _=>absurd h hbN)]
    exact hOb _ v (hcs (i*3+j) v (by rwa [List.getElem?_drop] at hj)))
   (fun j hj=>by rw[hWc];exact ud w.heap.size vs (i*3) W1 (fun t ht=>hN _ (by omega)) _ (hN _ (by omega)))
   (fun j hj=>by rw[hWf,World.frozen?_setCells];exact hNf _) (fun v hv=>h1c v (List.mem_of_mem_drop hv))
 subst hW1
 have hE1:∀x,((w.alloc (.cells ROW 47)).drew).cell? x=(w.drew.alloc (.cells ROW 47)).cell? x:=fun x=>rfl
 have hE2:∀x,((w.alloc (.cells ROW 47)).drew).frozen? x=(w.drew.alloc (.cells ROW 47)).frozen? x:=fun x=>rfl
 have hF1:∀x,(((w.alloc (.cells ROW 47)).drew.setCells w.heap.size (i*3) vs).drew).cell? x=((w.drew.alloc (.cells ROW 47)).setCells w.heap.size (i*3) vs).cell? x:=fun x=>rfl
 have hF2:∀x,(((w.alloc (.cells ROW 47)).drew.setCells w.heap.size (i*3) vs).drew).frozen? x=((w.drew.alloc (.cells ROW 47)).setCells w.heap.size (i*3) vs).frozen? x:=fun x=>rfl
 have hw1:IntKind.i64.wrap ((i:Int)+(m:Int))=(i:Int)+(m:Int):=by rw[IntKind.wrap_i64];omega
 have hb1:(0:Int)≤(i:Int)+(m:Int):=by omega
 have hin:i≤n:=by omega
 have htn:((i:Int)+(m:Int)).toNat=i+m:=by omega
 have hb3:(i:Int)≤(n:Int):=by omega
 clear hkk hik hold hROW hG hRl hi0 hz0 hzs hzb hzc
 go_enter Tryz.func75,Tryz.ntmps75
 go_wp2_with (first
  |(at_builtin;refine Lib.wpList_append_run _ Z _ _ _ _ Z _ _ Z Z _ _ (hrz _) ?_)
  |(at_builtin;refine kS _ Z _ _ 35 35 Z _ _ Z Z (hcpA _ hE1 hE2 _ _) ?_)
  |(at_builtin;refine kS _ Z _ _ 35 35 Z _ _ Z Z (hcpB _ (fun _=>rfl) (fun _=>rfl) _ _ _) ?_))
 go_region_law_o (refine qi Z _ _ 35 35 Z (.slice (some ⟨w.heap.size,(i+m)*3,none⟩) (n+m - (i+m)) (G - (i+m))) (.slice (some ⟨b,i*3,none⟩) (n - i) (c - i)) (by simp[Act.eval,Act.put]) (by simp[Act.eval,Act.put]) (hcpB _ hF1 hF2 3 (G - (i+m)) (c - i)) ?_)
 go_wp2
 go_ret
 exact⟨G,ROW,rfl,hGn,hGm,hRs,hRt,rfl⟩
end Go.Proofs.YtginkbjclkdglaaGreat
