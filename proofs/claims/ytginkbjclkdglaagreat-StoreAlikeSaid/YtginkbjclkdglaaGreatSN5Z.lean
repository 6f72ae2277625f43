/- A store that is in order; a flush leaves it so, with all that it has. -/
import Derived.Test.YtginkbjclkdglaaGreatSN3Z
import Derived.Test.YtginkbjclkdglaaGreatMM2Z
import Derived.Test.YtginkbjclkdglaaGreatST7Z
import Derived.Test.YtginkbjclkdglaaGreatKH4Z
import Derived.Test.YtginkbjclkdglaaGreatST9Z
import Derived.Test.YtginkbjclkdglaaGreatT7Z
set_option maxHeartbeats 4000000
namespace Go.Proofs.YtginkbjclkdglaaGreat
open Go Go.RowKit Mg
def ux(jl:List (Nat×List (List aC))):List aC:=jl.flatMap (fun p=>p.2.flatten)
structure cK(o:eW)(S:ei)(jl:List (Nat×List (List aC)))(m:Option (List UInt8))(fe:List (Fl×List aC)):Prop where
 x:dH o S jl m fe
 fs:S.st.fs=fe.map (·.1)
 chk:bT S.st=0
 man:(m=none∧S.st=zS)∨m=some (dP S.st).1
 jlog:∀p∈jl,S.st.log≤(p.1:Int)
 bat:∀p∈jl,∀b∈p.2,js b=0
 mem:S.mem=qm (ux jl)
 msz:S.msz=(gT S.mem:Nat)
 ent:∀p∈fe,∀x∈p.2,mL x
 lo:S.st.log≤(S.now:Int)
def dL(S:ei)(fe:List (Fl×List aC)):List aC:=cU (S.mem::fe.map (·.2)) true
def wT(ls:List (List aC)):Nat:=(ls.map kR).sum
def nE(S:ei)(fe:List (Fl×List aC)):Nat:=S.mem.length+cF (fe.map (·.2))
def tE(S:ei)(fe:List (Fl×List aC)):Nat:=kR S.mem+wT (fe.map (·.2))
def jB(jl:List (Nat×List (List aC))):Nat:=fq (de (iz jl))+jl.length
structure Ot(d:Nat)(S:ei)(fe:List (Fl×List aC))(jl:List (Nat×List (List aC)))(S':ei)(fe':List (Fl×List aC))(jl':List (Nat×List (List aC))):Prop where
 ne:nE S' fe'≤nE S fe
 te:tE S' fe'≤tE S fe
 jb:jB jl'≤jB jl
 nx:S.st.next≤S'.st.next∧S'.st.next≤S.st.next+d
 nw:S'.now≤S.now+d
 jn:jl'.length≤jl.length
theorem Ck:∀(l:List aC) (seen:List (List UInt8)),pJ seen l=0→∀x∈l,mL x
 |[],_,_,x,hx=>by cases hx
 |y::r,seen,h,x,hx=>by
  unfold pJ at h
  by_cases h1:di [y]=0
  ·rw[if_neg (fun g=>g h1)] at h
   split at h
   ·cases h
   ·rcases List.mem_cons.1 hx with rfl|hx
    ·exact J6.1 h1
    ·exact Ck r _ h x hx
  ·rw[if_pos h1] at h;exact absurd h h1
theorem kI{l:List aC}(h:js l=0):l.length≤256∧∀x∈l,mL x:=by
 unfold js at h
 split at h
 ·cases h
 ·exact⟨by omega,Ck l [] h⟩
theorem A3{x:aC}(h:mL x):d6 x=x:=by
 unfold d6
 split
 ·next hg=>rw[←h.2.2.2 hg]
 ·rfl
theorem LH:∀(l m:List aC),(∀x∈l,mL x)→(∀x∈m,mL x)→∀x∈l.foldl (fun m x=>ec (d6 x) m) m,mL x
 |[],m,_,hm,x,hx=>hm x hx
 |y::r,m,hl,hm,x,hx=>by
  refine LH r (ec (d6 y) m) (fun z hz=>hl z (List.mem_cons_of_mem _ hz)) (fun z hz=>?_) x hx
  rcases rJ hz with rfl|hz
  ·rw[A3 (hl y (List.mem_cons_self ..))];exact hl y (List.mem_cons_self ..)
  ·exact hm z hz
theorem cK.batK{o:eW}{S:ei}{jl:List (Nat×List (List aC))}{m:Option (List UInt8)}{fe:List (Fl×List aC)}(h:cK o S jl m fe):∀x∈ux jl,mL x:=fun x hx=>by
 unfold ux at hx
 obtain⟨p,hp,hx⟩:=List.mem_flatMap.1 hx
 obtain⟨b,hb,hx⟩:=List.mem_flatten.1 hx
 exact(kI (h.bat p hp b hb)).2 x hx
theorem cK.memK{o:eW}{S:ei}{jl:List (Nat×List (List aC))}{m:Option (List UInt8)}{fe:List (Fl×List aC)}(h:cK o S jl m fe):Up S.mem∧∀x∈S.mem,mL x:=by
 rw[h.mem]
 exact⟨(A8 _).1,LH _ [] h.batK (fun x hx=>by cases hx)⟩
theorem mL.sz{x:aC}(h:mL x):x.k.length≤110∧x.v.length≤4010:=⟨by have:=h.2.1;omega,by have:=h.2.2.1;omega⟩
theorem GO.pos{blk:Int}{p:Fl×List aC}(h:GO blk p):0<p.2.length:=by
 rcases Nat.eq_zero_or_pos p.2.length with h0|h0
 ·have:=h.mke
  unfold mt at this
  rw[if_pos h0] at this
  split at this<;>cases this
 ·exact h0
theorem cK.kok{o:eW}{S:ei}{jl:List (Nat×List (List aC))}{m:Option (List UInt8)}{fe:List (Fl×List aC)}(h:cK o S jl m fe):∀p∈fe,Kj p:=fun p hp=>by
 have:=h.x.tok p hp
 exact⟨this.up,this.pos,this.fst,this.lst⟩
theorem cK.rel{o:eW}{S:ei}{jl:List (Nat×List (List aC))}{m:Option (List UInt8)}{fe:List (Fl×List aC)}(h:cK o S jl m fe):(fe.map (·.1)).Pairwise sX:=by rw[←h.fs];exact(fZ.1 h.chk).2.2.rel
theorem cK.good{o:eW}{S:ei}{jl:List (Nat×List (List aC))}{m:Option (List UInt8)}{fe:List (Fl×List aC)}(h:cK o S jl m fe):∀p∈fe,0≤p.1.lev∧p.1.lev<4∧0≤p.1.num∧p.1.num<S.st.next:=fun p hp=>by
 have:=((fZ.1 h.chk).2.2.good p.1 (by rw[h.fs];exact List.mem_map.2 ⟨p,hp,rfl⟩)).1
 unfold kX at this
 omega
theorem IV{S:ei}{fe:List (Fl×List aC)}(hm:Up S.mem)(hr:(fe.map (·.1)).Pairwise sX)(hu:∀p∈fe,Up p.2)(e:aC):e∈dL S fe↔(e∈S.mem∨Em fe e∧∀y∈S.mem,e.k≠y.k)∧e.g=false:=by
 unfold dL
 rw[lq,cj _ _ hm,yN hr hu]
 cases e.g<;>simp
theorem cK.cont_iff{o:eW}{S:ei}{jl:List (Nat×List (List aC))}{m:Option (List UInt8)}{fe:List (Fl×List aC)}(h:cK o S jl m fe)(e:aC):e∈dL S fe↔(e∈S.mem∨Em fe e∧∀y∈S.mem,e.k≠y.k)∧e.g=false:=
 IV h.memK.1 h.rel (fun p hp=>(h.kok p hp).up) e
theorem Cb{S S':ei}{fe fe':List (Fl×List aC)}(h:∀e,e∈dL S fe↔e∈dL S' fe'):dL S fe=dL S' fe':=nW (dx _ _) (dx _ _) h
theorem uZ(x:aC):∀(l:List aC) (d:Bool),kR (gL x l d)≤kR l+(if d then 0 else eh x)
 |[],d=>by
  unfold gL
  cases d
  ·show kR [x]≤_;rw[fD];show eh x+0≤0+eh x;omega
  ·exact Nat.zero_le _
 |y::r,d=>by
  have ih:=uZ x r (d||!Op.bytesLess y.k x.k)
  unfold gL
  rw[ra,ra,fD]
  have h1:kR (if y.k=x.k then [] else [y])≤eh y:=by
   split
   ·exact Nat.zero_le _
   ·rw[fD];exact Nat.le_refl _
  cases d<;>cases hb:Op.bytesLess y.k x.k<;>rw[hb] at ih<;>simp only[Bool.not_true,Bool.not_false,Bool.and_true,Bool.and_false,Bool.or_true,Bool.or_false,if_true,if_false,Bool.false_eq_true] at ih ⊢
  all_goals first|(rw[fD];show eh x+0+_≤_;omega)|(show 0+_≤_;omega)
theorem z8:∀(l a:List aC),kR (l.foldl put a)≤kR a+kR l
 |[],a=>by show kR a≤kR a+0;omega
 |x::r,a=>by
  have h1:=z8 r (put a x)
  have h2:kR (put a x)≤kR a+eh x:=uZ x a false
  rw[fD]
  show kR (r.foldl put (put a x))≤_
  omega
theorem Es(l:List aC)(ls:List (List aC)):wT (l::ls)=kR l+wT ls:=by unfold wT;rw[List.map_cons,List.sum_cons]
theorem Cy(a b:List (List aC)):wT (a++b)=wT a+wT b:=by unfold wT;rw[List.map_append,List.sum_append]
theorem yJ{a b:List (List aC)}(h:a.Perm b):wT a=wT b:=(h.map _).sum_nat
theorem yK:∀gs:List (List aC),wT gs=kR gs.flatten
 |[]=>rfl
 |g::r=>by rw[Es,List.flatten_cons,ra,yK r]
theorem Ev:∀ls:List (List aC),kR (cZ ls)≤wT ls
 |[]=>Nat.le_refl _
 |l::r=>by
  have h1:=z8 l (cZ r)
  have h2:=Ev r
  rw[Es]
  show kR (l.foldl put (cZ r))≤_
  omega
theorem u0(p:aC→Bool):∀l:List aC,kR (l.filter p)≤kR l
 |[]=>Nat.le_refl _
 |x::r=>by
  have:=u0 p r
  rw[List.filter_cons]
  split
  ·rw[fD,fD];omega
  ·rw[fD];omega
theorem lN(l:List aC)(ls:List (List aC)):cF (l::ls)=l.length+cF ls:=by unfold cF;rw[List.map_cons,List.sum_cons]
theorem sD(a b:List (List aC)):cF (a++b)=cF a+cF b:=by unfold cF;rw[List.map_append,List.sum_append]
theorem qw{a b:List (List aC)}(h:a.Perm b):cF a=cF b:=(h.map _).sum_nat
theorem jR:∀gs:List (List aC),cF gs=gs.flatten.length
 |[]=>rfl
 |g::r=>by rw[lN,List.flatten_cons,List.length_append,jR r]
theorem l6(base lev blk:Int):∀(gs:List (List aC)) (i:Nat),(ff base lev blk gs i).map (·.2)=gs
 |[],_=>rfl
 |g::r,i=>by
  show g::(ff base lev blk r (i+1)).map (·.2)=_
  rw[l6 base lev blk r]
theorem ye{fe:List (Fl×List aC)}(h:∀p∈fe,0<p.2.length):fe.length≤cF (fe.map (·.2)):=by
 induction fe with
 |nil=>exact Nat.le_refl _
 |cons p r ih=>
  have h1:=h p (List.mem_cons_self ..)
  have h2:=ih (fun q hq=>h q (List.mem_cons_of_mem _ hq))
  rw[List.map_cons,lN,List.length_cons];omega
theorem Bp(l:List Fl):iR l []=l:=List.filter_eq_self.2 (fun _ _=>rfl)
set_option maxHeartbeats 16000000
set_option maxRecDepth 100000
def D6(fe:List (Fl×List aC))(n:Int):Nat:=((fe.find? (fun p=>p.1.num==n)).map (fun p=>p.2.length)).getD 0
theorem zM:∀{fe:List (Fl×List aC)},(fe.map (·.1.num)).Nodup→∀{p},p∈fe→D6 fe p.1.num=p.2.length
 |q::r,hn,p,hp=>by
  rw[List.map_cons] at hn
  have h1:=List.nodup_cons.1 hn
  unfold D6
  rw[List.find?_cons]
  rcases List.mem_cons.1 hp with e|hp
  ·rw[e,beq_self_eq_true];rfl
  ·have:(q.1.num==p.1.num)=false:=beq_eq_false_iff_ne.2 (fun e=>h1.1 (by rw[e];exact List.mem_map.2 ⟨p,hp,rfl⟩))
   rw[this]
   exact zM h1.2 hp
def Cs(fe:List (Fl×List aC))(q:List (Int×AV×Nat)):Nat:=(q.map (fun t=>D6 fe t.1)).sum
theorem Av{fe:List (Fl×List aC)}{a b:List (Int×AV×Nat)}(h:a.Perm b):Cs fe a=Cs fe b:=(h.map _).sum_nat
theorem uG(fe:List (Fl×List aC))(a b:List (Int×AV×Nat)):Cs fe (a++b)=Cs fe a+Cs fe b:=by unfold Cs;rw[List.map_append,List.sum_append]
theorem dH.tat{o:eW}{S:ei}{jl:List (Nat×List (List aC))}{m:Option (List UInt8)}{fx:List (Fl×List aC)}(h:dH o S jl m fx){t:Int×AV×Nat}(ht:t∈S.ts):∃p∈fx,t.1=p.1.num∧t.2.1= .cp (iY (jm o.blk p))∧D6 fx t.1=p.2.length:=by
 obtain⟨p,hp,he⟩:=List.mem_map.1 (h.tsp.mem_iff.1 (List.mem_map.2 ⟨t,ht,rfl⟩))
 have e1:p.1.num=t.1:=congrArg Prod.fst he
 have e2:AV.cp (iY (jm o.blk p))=t.2.1:=congrArg Prod.snd he
 exact⟨p,hp,e1.symm,e2.symm,by rw[←e1];exact zM h.nd hp⟩
theorem EH{o:eW}{S:ei}{jl:List (Nat×List (List aC))}{m:Option (List UInt8)}{fx:List (Fl×List aC)}(h:dH o S jl m fx):Cs fx S.ts=cF (fx.map (·.2)):=by
 have h1:(S.ts.map (·.1)).Perm (fx.map (·.1.num)):=by
  have:=h.tsp.map (·.1)
  rw[List.map_map,List.map_map] at this
  exact this
 have h2:=(h1.map (D6 fx)).sum_nat
 rw[List.map_map,List.map_map] at h2
 have h3:fx.map (D6 fx∘fun p=>p.1.num)=fx.map (List.length∘fun p=>p.2):=List.map_congr_left (fun p hp=>zM h.nd hp)
 unfold Cs cF
 rw[List.map_map,←h3]
 exact h2
theorem yL{ts q l:List (Int×AV×Nat)}(hq:(q++l).Perm ts){e:Int×AV×Nat}(he:e∈ts)(hv:e.2.2∉q.map (·.2.2)):∃l',l.Perm (e::l')∧(q++[e]++l').Perm ts:=by
 have hl:e∈l:=by
  rcases List.mem_append.1 (hq.mem_iff.2 he) with h|h
  ·exact absurd (List.mem_map.2 ⟨e,h,rfl⟩) hv
  ·exact h
 obtain⟨s,t,rfl⟩:=List.append_of_mem hl
 refine⟨s++t,List.perm_middle,?_⟩
 rw[List.append_assoc]
 exact List.Perm.trans (List.Perm.append_left q (List.perm_middle (a:=e) (l₁:=s) (l₂:=t)).symm) hq
theorem G4{ts q l:List (Int×AV×Nat)}(hq:(q++l).Perm ts)(bn:(ts.map (·.2.2)).Nodup)(h:∀e∈ts,e.2.2∈q.map (·.2.2)):l=[]:=by
 cases l with
 |nil=>rfl
 |cons f l=>
  exfalso
  have hf:f∈ts:=hq.mem_iff.1 (List.mem_append_right _ (List.mem_cons_self ..))
  have hnd:=(hq.map (·.2.2)).nodup_iff.2 bn
  rw[List.map_append,List.map_cons] at hnd
  exact(List.nodup_append.1 hnd).2.2 f.2.2 (h f hf) f.2.2 (List.mem_cons_self ..) Z
theorem Gj{o:eW}{S:ei}{jl:List (Nat×List (List aC))}{m:Option (List UInt8)}{fe:List (Fl×List aC)}(h:cK o S jl m fe)(hn:nE S fe≤250){q l:List (Int×AV×Nat)}(hq:(q++l).Perm S.ts){e:Int×AV×Nat}(he:e∈S.ts)(hv:e.2.2∉q.map (·.2.2)):
 ∃p:Fl×List aC,e.2.1= .cp (iY (jm o.blk p))∧((S.mem.length+Cs fe q:Nat):Int)+p.2.length≤250∧Cs fe (q++[e])=Cs fe q+p.2.length∧(∃l',(q++[e]++l').Perm S.ts)∧q.length<S.ts.length:=by
 obtain⟨p,_,_,h2,h3⟩:=h.x.tat he
 obtain⟨l',h4,h5⟩:=yL hq he hv
 have h6:=Av (fe:=fe) h5
 rw[EH h.x,uG,uG] at h6
 have h7:Cs fe [e]=p.2.length:=by rw[←h3];show D6 fe e.1+0=_;rfl
 have h8:=h5.length_eq
 rw[List.length_append,List.length_append,List.length_singleton] at h8
 unfold nE at hn
 exact⟨p,h2,by omega,by rw[uG,h7],⟨l',h5⟩,by omega⟩
theorem Gk(B:gV)(o:eW)(S:ei)(jl:List (Nat×List (List aC)))(m:Option (List UInt8))(fe:List (Fl×List aC))(h:cK o S jl m fe)(hn:nE S fe≤250):
 aQ Tryz.prog 22 [.ptr 104 B.bs [] 0] (dY B o S) (fun r os=>r= .i .i64 (nE S fe:Nat)∧os=dY B o S):=by
 have k1:=qC B o S.st S.mem S.msz (by unfold nE at hn;omega)
 have kc:∀p:Fl×List aC,aQ Tryz.prog 56 [.cp (iY (jm o.blk p))] [] (fun v os=>v= .i .i64 (p.2.length:Nat)∧os=[]):=fun p=>Ae (jm o.blk p)
 have hold:=h.x.tsb
 have hnd:=h.x.tbn
 have hone:∀e∈S.ts,jN e.2.1=true∧e.2.1.isVal=true:=fun e he=>by
  obtain⟨p,_,_,h2,_⟩:=h.x.tat he
  rw[h2];exact⟨rfl,rfl⟩
 refine aA ab [(100,.var B.bd (cO B.bm S.D)),(101,.obj B.bm (cV S.D.es S.D.clk)),(102,bL (S.D.fs.map bZ.O)),(103,eC B.bd B.bj S.now),(104,.var B.bs (dm B o S.mem S.msz S.st)),(105,io B.bt S.ts S.c)] Tryz.func22 Z Tryz.ntmps22 aN Z Z (fun C=>?_) Z
 repeat' (first|refine ae ?_|refine aj ?_|refine aa ?_|refine ac (ax ?_)|refine br Z ab Z Z Z (fun _=>?_)|refine aU ab (fun _=>?_)|refine bk [] [104] [104] Z k1 ⟨af,J⟩ Z dD Z Z ?_|(refine AW ab Z Z Z Z Z (fun r=>?_)))
 refine aO (fun q:List (Int×AV×Nat)=>⟨25,[(3,.i .i64 ((S.mem.length+Cs fe q:Nat):Int)),(15,.ptr 15 r [] 0)],[(100,.var B.bd (cO B.bm S.D)),(101,.obj B.bm (cV S.D.es S.D.clk)),(102,bL (S.D.fs.map bZ.O)),(103,eC B.bd B.bj S.now),(104,.var B.bs (dm B o S.mem S.msz S.st)),(105,io B.bt S.ts S.c),(15,.obj r (tl B.bt S.c (q.map (·.2.2))))]⟩) (fun q=>∃l,(q++l).Perm S.ts) (fun q=>S.ts.length - q.length) [] [] ⟨S.ts,List.Perm.refl _⟩ ?_ ?_
 ·exact⟨rfl,⟨ai (by simp[Cs]),af,J⟩,az 100 Z (az 101 Z (az 102 Z (az 103 Z (az 104 Z (az 105 Z (az 15 Z .nil))))))⟩
 rintro q ⟨l,hq⟩
 have hsum:=Av (fe:=fe) hq
 rw[uG,EH h.x] at hsum
 repeat' (first|refine ae ?_|refine aj ?_|refine aa ?_|refine ac (ax ?_)|refine ac (db ?_)|refine ah (ax ?_)|refine aw (ax ?_)|refine ap (bC ?_)|(refine bc Z Z Z Z ?_ ?_;omega)|refine aU ab (fun _=>?_)|refine aR Z ?_|refine aB Z ?_|(refine EU (km:=105) Z Z Z Z hold hone Z Z (fun e=>rfl) (fun hnone=>?_) (fun e he hnv=>?_))|(refine AZ (km:=105) Z e Z Z Z he hnd hone Z ?_;obtain⟨p,hp2,hbd,hsq,hpq,hlq⟩:=Gj h hn hq he hnv;rw[hp2])|refine au Z (kc p) ⟨aP,J⟩ Z ?_)
 ·have hl:=G4 hq hnd hnone
  subst hl
  have hz:Cs fe ([]:List (Int×AV×Nat))=0:=rfl
  rw[hz,Nat.add_zero] at hsum
  exact aH [] [(100,_),(101,_),(102,_),(103,_),(104,_),(105,_)] (.i .i64 ((S.mem.length+Cs fe q:Nat):Int)) Z (bX (am Z) Z) (az 100 Z (az 101 Z (az 102 Z (az 103 Z (az 104 Z (az 105 Z .nil)))))) ⟨by rw[hsum];rfl,rfl⟩
 all_goals exact⟨q++[e],[],hpq,by show S.ts.length - (q++[e]).length<S.ts.length - q.length;rw[List.length_append];simp only[List.length_singleton];omega,rfl,⟨ai (by rw[hsq];omega),af,J⟩,az 100 Z (az 101 Z (az 102 Z (az 103 Z (az 104 Z (az 105 Z (cr.cons 15 Z (by rw[List.map_append];exact ak _) .nil))))))⟩
theorem Gb{l:List (List UInt8)}{x:List UInt8}:x∈jv l↔x∈l:=by unfold jv;exact List.mem_mergeSort
theorem yO{o:eW}{S:ei}{jl:List (Nat×List (List aC))}{m:Option (List UInt8)}{fe:List (Fl×List aC)}(X:dH o S jl m fe){e:Int×AV×Nat}(he:e∈S.ts):0≤e.1∧e.1<1073741824:=by
 obtain⟨p,hp,h1,_,_⟩:=X.tat he
 rw[h1];exact(X.tok p hp).num
theorem Ha{o:eW}{S:ei}{jl:List (Nat×List (List aC))}{m:Option (List UInt8)}{fe:List (Fl×List aC)}(X:dH o S jl m fe){q l:List (Int×AV×Nat)}(hq:(q++l).Perm S.ts){e:Int×AV×Nat}(he:e∈S.ts)(hv:e.2.2∉q.map (·.2.2)):(q.map (fun t=>eM t.1.toNat)).contains (eM e.1.toNat)=false:=by
 rw[Bool.eq_false_iff]
 intro hc
 obtain⟨t,ht,h1⟩:=List.mem_map.1 (List.contains_iff_mem.1 hc)
 have hts:=hq.mem_iff.1 (List.mem_append_left _ ht)
 have h2:=yO X he
 have h3:=yO X hts
 have h4:=Aj (by omega) (by omega) h1
 have h5:t.1=e.1:=by omega
 obtain⟨l',_,hq'⟩:=yL hq he hv
 have hnd:=((hq'.map (·.1)).nodup_iff).2 X.ts_nd
 rw[List.map_append,List.map_append] at hnd
 exact(List.nodup_append.1 (List.nodup_append.1 hnd).1).2.2 t.1 (List.mem_map.2 ⟨t,ht,rfl⟩) e.1 (List.mem_cons_self ..) h5
theorem Jt{o:eW}{S:ei}{jl:List (Nat×List (List aC))}{m:Option (List UInt8)}{fe:List (Fl×List aC)}(X:dH o S jl m fe){q:List (Int×AV×Nat)}(hq:q.Perm S.ts):∀nm∈gX S.D,(nm==({data:=#[109,97,110,126]}:ByteArray).data.toList)=false∧nm.length≤100∧(nm.take 4=[116,97,98,45]→(q.map (fun t=>eM t.1.toNat)).contains nm=true):=by
 intro nm hnm
 rw[X.vw.list,Gb] at hnm
 unfold eN at hnm
 rw[List.map_append,List.mem_append] at hnm
 have hne:∀n:List UInt8,n≠mS→(n==({data:=#[109,97,110,126]}:ByteArray).data.toList)=false:=fun n h=>beq_eq_false_iff_ne.2 h
 rcases hnm with h|h
 ·have h:nm∈eN (de (iz jl)):=h
  rw[rP] at h
  obtain⟨n,_,rfl⟩:=List.mem_map.1 h
  refine⟨hne _ (fun e=>?_),by rw[ji];decide,fun e=>?_⟩
  ·have:=congrArg List.length e;rw[ji] at this;cases this
  ·exfalso
   unfold ci lr at e
   simp at e
 ·unfold dR at h
  rw[List.map_append,List.mem_append] at h
  rcases h with h|h
  ·cases m with
   |none=>cases h
   |some b=>
    rw[List.mem_singleton.1 h]
    refine⟨rfl,?_,fun e=>absurd e ?_⟩
    ·show mu.length≤100;decide
    ·show ¬ mu.take 4=[116,97,98,45];decide
  ·obtain⟨x,hx,rfl⟩:=List.mem_map.1 h
   obtain⟨p,hp,rfl⟩:=List.mem_map.1 hx
   refine⟨hne _ (EC _),by show (eM _).length≤100;rw[m9];decide,fun _=>?_⟩
   obtain⟨t,ht,he⟩:=List.mem_map.1 (X.tsp.mem_iff.2 (List.mem_map.2 ⟨p,hp,rfl⟩))
   have he1:t.1=p.1.num:=congrArg Prod.fst he
   exact List.contains_iff_mem.2 (List.mem_map.2 ⟨t,hq.mem_iff.2 ht,by show eM t.1.toNat=eM p.1.num.toNat;rw[he1]⟩)
theorem CF(B:gV)(o:eW)(S:ei)(jl:List (Nat×List (List aC)))(m:Option (List UInt8))(fe:List (Fl×List aC))(X:dH o S jl m fe)(hlo:∀p∈jl,S.st.log≤(p.1:Int)):
 aQ Tryz.prog 26 [.ptr 104 B.bs [] 0] (CL B o S) (fun r os=>r= .i .i64 0∧os=CL B o S):=by
 have hold:=X.tsb
 have hnd:=X.tbn
 have hone:∀e∈S.ts,jN e.2.1=true∧e.2.1.isVal=true:=fun e he=>by
  obtain⟨p,_,_,h2,_⟩:=X.tat he
  rw[h2];exact⟨rfl,rfl⟩
 have kt:=fun e (he:e∈S.ts)=>jS e.1.toNat (by have:=yO X he;omega)
 have kt:∀e∈S.ts,aQ Tryz.prog 64 [.i .i64 e.1] [] (fun v os=>v= .s (eM e.1.toNat)∧os=[]):=fun e he=>by
  have h1:=kt e he
  rw[Int.toNat_of_nonneg (yO X he).1] at h1
  exact h1
 have kl:=wn B.bd B.bm S.D X.vw.ok (by have:=X.room.2.2;omega)
 have ks:=sK B.bd B.bm S.D X.vw.ok (by have:=X.room.2.2;omega)
 have hsg:=CY X.vw X.jo.rise X.jlt (uI o.blk m fe)
 have hnm:=fun q (hq:q.Perm S.ts)=>Jt X (q:=q) hq
 have hL:∀D:ez,dk B.bd B.bm D=[.var B.bd (cO B.bm D),.obj B.bm (cV D.es D.clk),bL (D.fs.map bZ.O)]:=fun _=>rfl
 rw[hL] at kl ks
 have hNl:(gX S.D).length≤5000:=by
  rw[X.vw.list]
  have h1:=X.vw.len
  have h2:=X.room.2.2
  unfold jv eN
  rw[List.length_mergeSort,List.length_map]
  omega
 rw[hsg] at ks
 have hsl:((iz jl).map (·.1)).length≤5000:=by
  have h1:=X.vw.len
  have h2:=X.room.2.2
  rw[List.length_append] at h1
  unfold de at h1
  rw[List.length_map] at h1 ⊢
  omega
 have hge:∀n:Nat,n∈(iz jl).map (fun p=>p.1)→S.st.log≤(n:Int):=fun n hn=>by
  obtain⟨p,hp,rfl⟩:=List.mem_map.1 hn
  obtain⟨p2,hp2,rfl⟩:=List.mem_map.1 hp
  exact hlo p2 hp2
 generalize gX S.D=N at kl hnm hNl
 generalize (iz jl).map (·.1)=G at ks hsl hge
 unfold CL
 refine aA ab [(100,.var B.bd (cO B.bm S.D)),(101,.obj B.bm (cV S.D.es S.D.clk)),(102,bL (S.D.fs.map bZ.O)),(104,.var B.bs (.agg [.ptr 0 B.bd [] 0,el o,.nilp,e8 S.mem S.msz,iA S.st,.own 105 (.map (some B.bt))])),(105,io B.bt S.ts S.c)] Tryz.func26 Z Tryz.ntmps26 aN Z Z (fun C=>?_) Z
 repeat' (first|refine ae ?_|refine aj ?_|refine aa ?_|refine ac (ax ?_)|refine aU ab (fun _=>?_)|(refine lH Z Z (fun bm=>?_))|(refine AW ab Z Z Z Z Z (fun r=>?_)))
 refine aO (fun q:List (Int×AV×Nat)=>⟨84,[(16,.ptr 16 r [] 0),(3,.own 11 (.map (some bm))),(0,.ptr 104 B.bs [] 0)],[(100,.var B.bd (cO B.bm S.D)),(101,.obj B.bm (cV S.D.es S.D.clk)),(102,bL (S.D.fs.map bZ.O)),(104,.var B.bs (.agg [.ptr 0 B.bd [] 0,el o,.nilp,e8 S.mem S.msz,iA S.st,.own 105 (.map (some B.bt))])),(105,io B.bt S.ts S.c),(11,.obj bm (iC ((q.map (fun t=>eM t.1.toNat)).map vS))),(16,.obj r (tl B.bt S.c (q.map (·.2.2))))]⟩) (fun q=>∃l,(q++l).Perm S.ts) (fun q=>S.ts.length - q.length) [] [] ⟨S.ts,List.Perm.refl _⟩ ?_ ?_
 ·exact⟨rfl,⟨af,aJ,af,J⟩,az 100 Z (az 101 Z (az 102 Z (az 104 Z (az 105 Z (az 11 Z (az 16 Z .nil))))))⟩
 rintro q ⟨l,hq⟩
 repeat' (first|refine ae ?_|refine aj ?_|refine aa ?_|refine ac (ax ?_)|refine ac (db ?_)|refine ah (ax ?_)|refine aw (ax ?_)|refine br Z ab Z Z Z (fun _=>?_)|refine aU ab (fun _=>?_)|refine aR Z ?_|refine aB Z ?_|(refine EU (km:=105) Z Z Z Z hold hone Z Z (fun e=>rfl) (fun hnone=>?_) (fun e he hnv=>?_))|(refine AZ (km:=105) Z e Z Z Z he hnd hone Z ?_)|refine au Z (kt e he) ⟨aP,J⟩ Z ?_|(refine ia ab xd Z (q.map (fun t=>eM t.1.toNat)) (eM e.1.toNat) Z aN Z Z (fun w F u hu=>lj hu) Z Z Z (Ha X hq he hnv) ?_)|refine bk [] [100,101,102] [100,101,102] Z kl ⟨af,J⟩ Z dD Z Z ?_)
 rotate_left
 ·obtain⟨l',h1,h2⟩:=yL hq he hnv
  have h3:=h2.length_eq
  rw[List.length_append,List.length_append,List.length_singleton] at h3
  exact⟨q++[e],[],⟨l',h2⟩,by show S.ts.length - (q++[e]).length<S.ts.length - q.length;rw[List.length_append,List.length_singleton];omega,rfl,⟨af,aJ,af,J⟩,az 100 Z (az 101 Z (az 102 Z (az 104 Z (az 105 Z (cr.cons 11 Z (by rw[show (q++[e]).map (fun t=>eM t.1.toNat)=q.map (fun t=>eM t.1.toNat)++[eM e.1.toNat] from List.map_append];exact ak _) (cr.cons 16 Z (by rw[show (q++[e]).map (fun t=>t.2.2)=q.map (fun t=>t.2.2)++[e.2.2] from List.map_append];exact ak _) .nil))))))⟩
 have hl:=G4 hq hnd hnone
 subst hl
 rw[List.append_nil] at hq
 have hN:=hnm q hq
 generalize hM:q.map (fun t=>eM t.1.toNat)=M at hN ⊢
 refine aO (fun i:Nat=>⟨84,[(30,.i .i64 i),(29,.i .i64 N.length),(28,.sl 1 (N.map AV.s)),(3,.own 11 (.map (some bm))),(0,.ptr 104 B.bs [] 0)],[(100,.var B.bd (cO B.bm S.D)),(101,.obj B.bm (cV S.D.es S.D.clk)),(102,bL (S.D.fs.map bZ.O)),(104,.var B.bs (.agg [.ptr 0 B.bd [] 0,el o,.nilp,e8 S.mem S.msz,iA S.st,.own 105 (.map (some B.bt))])),(105,io B.bt S.ts S.c),(11,.obj bm (iC (M.map vS)))]⟩) (fun i=>i≤N.length) (fun i=>N.length - i) [] 0 (Nat.zero_le _) ?_ ?_
 ·exact⟨rfl,⟨ai Z,ai (by simp),ay Z,aJ,af,J⟩,az 100 Z (az 101 Z (az 102 Z (az 104 Z (az 105 Z (az 11 Z .nil)))))⟩
 rintro i hi
 by_cases hlt:i<N.length
 ·obtain⟨hne,hnl,hco⟩:=hN _ (List.getElem_mem hlt)
  have hsp:=CU N[i] [116,97,98,45] (by omega) (by decide)
  have e4:([116,97,98,45]:List UInt8).length=4:=rfl
  rw[e4] at hsp
  by_cases hp:N[i].take 4=[116,97,98,45]
  ·have hco:=hco hp
   rw[decide_eq_true hp] at hsp
   repeat' (first|(rw[hco])|(rw[hne])|refine ae ?_|refine aj ?_|refine aa ?_|refine ac (ax ?_)|refine ac (db ?_)|refine ah (ax ?_)|(refine bc Z Z Z Z ?_ ?_;omega)|refine aU ab (fun _=>?_)|(refine aK Z ab Z Z Z Z Z Z ?_ (aE ?_) ?_;omega;omega)|refine aB Z ?_|(refine ao Z (fun hc=>?_) (fun hc=>?_))<;>try omega|(refine fP ab xd Z M N[i] Z aN Z Z Z (fun w F u hu=>lj hu) Z ?_)|refine au Z (hsp) ⟨aP,aP,J⟩ Z ?_)
   all_goals exact⟨i+1,[],hlt,by show N.length - (i+1)<N.length - i;omega,rfl,⟨ai (by show (i:Int)+1=((i+1:Nat):Int);omega),ai Z,ay Z,aJ,af,J⟩,az 100 Z (az 101 Z (az 102 Z (az 104 Z (az 105 Z (az 11 Z .nil)))))⟩
  ·rw[decide_eq_false hp] at hsp
   repeat' (first|(rw[hne])|refine ae ?_|refine aj ?_|refine aa ?_|refine ac (ax ?_)|refine ac (db ?_)|refine ah (ax ?_)|refine gM Z Z Z ?_|(refine bc Z Z Z Z ?_ ?_;omega)|refine aU ab (fun _=>?_)|(refine aK Z ab Z Z Z Z Z Z ?_ (aE ?_) ?_;omega;omega)|refine aB Z ?_|(refine ao Z (fun hc=>?_) (fun hc=>?_))<;>try omega|refine au Z (hsp) ⟨aP,aP,J⟩ Z ?_)
   all_goals exact⟨i+1,[],hlt,by show N.length - (i+1)<N.length - i;omega,rfl,⟨ai (by show (i:Int)+1=((i+1:Nat):Int);omega),ai Z,ay Z,aJ,af,J⟩,az 100 Z (az 101 Z (az 102 Z (az 104 Z (az 105 Z (az 11 Z .nil)))))⟩
 repeat' (first|refine ae ?_|refine aj ?_|refine aa ?_|refine ac (ax ?_)|refine aw (ax ?_)|refine br Z ab Z Z Z (fun _=>?_)|refine aU ab (fun _=>?_)|(refine ao Z (fun hc=>?_) (fun hc=>?_))<;>try omega|refine bk [] [100,101,102] [100,101,102] Z ks ⟨af,J⟩ Z dD Z Z ?_)
 refine aO (fun j:Nat=>⟨84,[(62,.i .i64 j),(61,.i .i64 G.length),(60,.sl 1 (G.map Dh)),(0,.ptr 104 B.bs [] 0)],[(100,.var B.bd (cO B.bm S.D)),(101,.obj B.bm (cV S.D.es S.D.clk)),(102,bL (S.D.fs.map bZ.O)),(104,.var B.bs (.agg [.ptr 0 B.bd [] 0,el o,.nilp,e8 S.mem S.msz,iA S.st,.own 105 (.map (some B.bt))])),(105,io B.bt S.ts S.c)]⟩) (fun j=>j≤G.length) (fun j=>G.length - j) [] 0 (Nat.zero_le _) ?_ ?_
 ·exact⟨rfl,⟨ai Z,ai (by simp),ay Z,af,J⟩,az 100 Z (az 101 Z (az 102 Z (az 104 Z (az 105 Z .nil))))⟩
 rintro j hj
 by_cases hlj:j<G.length
 ·have hgj:=hge G[j] (List.getElem_mem hlj)
  have hnA:Dh G[j]= .i .i64 G[j]:=rfl
  repeat' (first|refine ae ?_|refine aj ?_|refine aa ?_|refine ac (ax ?_)|refine ac (db ?_)|refine ah (ax ?_)|(refine bc Z Z Z Z ?_ ?_;omega)|refine aU ab (fun _=>?_)|(refine aK Z ab Z Z Z Z Z Z ?_ (aE ?_) ?_;omega;omega)|(refine ao Z (fun hc=>?_) (fun hc=>?_))<;>try omega)
  all_goals exact⟨j+1,[],hlj,by show G.length - (j+1)<G.length - j;omega,rfl,⟨ai (by show (j:Int)+1=((j+1:Nat):Int);omega),ai Z,ay Z,af,J⟩,az 100 Z (az 101 Z (az 102 Z (az 104 Z (az 105 Z .nil))))⟩
 repeat' (first|refine ae ?_|refine aa ?_|refine ac (ax ?_)|refine aw (ax ?_)|refine ap (bC ?_)|refine aU ab (fun _=>?_)|(refine ao Z (fun hc=>?_) (fun hc=>?_))<;>try omega)
 all_goals
  exact aH [] [(100,_),(101,_),(102,_),(104,_),(105,_)] (.i .i64 0) Z (bX (am Z) Z) (az 100 Z (az 101 Z (az 102 Z (az 104 Z (az 105 Z .nil))))) ⟨rfl,rfl⟩
set_option maxHeartbeats 4000000
theorem Cf:∀G:List (List aC),(∀g∈G,(dw g g.length).length≤9+4200*g.length)→(iT G).length≤17*G.length+4200*G.flatten.length
 |[],_=>Nat.le_refl _
 |g::r,h=>by
  have h1:=h g (List.mem_cons_self ..)
  have h2:=Cf r (fun x hx=>h x (List.mem_cons_of_mem _ hx))
  have h3:(sj g).length=8+(dw g g.length).length:=ek _
  rw[lL,List.length_append,List.length_cons,List.flatten_cons,List.length_append];omega
theorem xz{l:List aC}{blk:Int}(h:(mt l blk).2=0)(hl:l.length≤300)(hm:∀e∈l,e.k.length≤110∧e.v.length≤4010):(mt l blk).1.length≤6500*l.length:=by
 have M:=rb l blk h
 generalize (mt l blk).1=s at M ⊢
 generalize grp blk l [] 0=G at M
 obtain⟨hps,hlt⟩:=zj M hl hm
 have hmg:∀g∈G,∀e∈g,e.k.length≤110∧e.v.length≤4010:=fun g hg e he=>hm e (by rw[←M.flat];exact List.mem_flatten.2 ⟨g,hg,he⟩)
 have hlen:=ng G 0
 have hfew:=M.few
 have hpos:=M.pos
 have h1:=Cf G (fun g hg=>sF g (hmg g hg) (by have:=(M.sz g hg).2;omega) g.length (Nat.le_refl _))
 rw[M.flat] at h1
 have hpl:=ER (lY G 0) (fun p hp=>⟨by have:=(hlt p hp).1;omega,(hlt p hp).2⟩)
 have hnl:=bz (lY G 0).length (by omega)
 have hfl:=nB l (iT G) hl hm (by omega)
 have e:=congrArg List.length M.hs
 unfold wW at e
 rw[←hlen] at e
 rw[List.length_append,List.length_append,List.length_append,ek,ek,show (three _).length=3 from rfl,List.length_append] at e
 omega
theorem sG{blk:Int}:∀fx:List (Fl×List aC),(∀p∈fx,(mt p.2 blk).1.length≤6500*p.2.length)→fq (fx.map (Ac blk))≤6500*cF (fx.map (·.2))
 |[],_=>Nat.zero_le _
 |p::r,h=>by
  have h1:=h p (List.mem_cons_self ..)
  have h2:=sG r (fun x hx=>h x (List.mem_cons_of_mem _ hx))
  have h3:(Ac blk p).2=(mt p.2 blk).1:=rfl
  rw[List.map_cons,dN,List.map_cons,lN,h3];omega
theorem EY{s:iH}(hc:bT s=0)(hs:s.fs.length≤250):(dP s).1.length≤69000:=by
 have h3:=jT hc hs s.fs.length (Nat.le_refl _)
 unfold dP
 rw[if_neg (by rw[hc];exact fun h=>h Z)]
 show (bo _).length≤_
 rw[mD];omega
def Jf(o:eW)(j n:Nat):Prop:=o.rm<((j+13000*n+140000:Nat):Int)∨4096<j+2*n+2
theorem Jf.mono{o:eW}{j j2 n n2:Nat}(h:Jf o j n)(hj:j≤j2)(hn:n≤n2):Jf o j2 n2:=by
 unfold Jf at h ⊢;omega
theorem vY:∀fx:List (Fl×List aC),(∀p∈fx,0<p.2.length)→fx.length≤cF (fx.map (·.2))
 |[],_=>Nat.zero_le _
 |p::r,h=>by
  have h1:=h p (List.mem_cons_self ..)
  have h2:=vY r (fun x hx=>h x (List.mem_cons_of_mem _ hx))
  rw[List.map_cons,lN,List.length_cons];omega
theorem cK.used{o:eW}{S:ei}{jl:List (Nat×List (List aC))}{m:Option (List UInt8)}{fe:List (Fl×List aC)}(h:cK o S jl m fe)(hf:fe.length≤250):fq (de (iz jl)++dR o.blk m fe)+jl.length≤jB jl+69000+6500*cF (fe.map (·.2))∧(de (iz jl)++dR o.blk m fe).length≤jl.length+1+cF (fe.map (·.2)):=by
 have h1:=sG fe (fun p hp=>xz (h.x.tok p hp).mke (h.x.tok p hp).few (h.x.tok p hp).made.2)
 have h2:fq (Dm m)≤69000∧(Dm m).length≤1:=by
  rcases h.man with ⟨rfl,_⟩|rfl
  ·exact⟨Nat.zero_le _,Nat.zero_le _⟩
  ·have:=EY h.chk (by rw[h.fs,List.length_map];exact hf)
   exact⟨by unfold Dm;rw[dN];show (dP S.st).1.length+0≤_;omega,Nat.le_refl _⟩
 have h3:=vY fe (fun p hp=>(h.x.tok p hp).pos)
 unfold jB dR
 rw[eH,eH,List.length_append,List.length_append,List.length_map]
 have h4:(de (iz jl)).length=jl.length:=by unfold de iz;rw[List.length_map,List.length_map]
 omega
theorem cK.tight{o:eW}{S:ei}{jl:List (Nat×List (List aC))}{m:Option (List UInt8)}{fe:List (Fl×List aC)}(h:cK o S jl m fe)(hf:fe.length≤250){P:List (Fl×List aC)}(hP:∀p∈P,(mt p.2 o.blk).2=0∧p.2.length≤300∧(∀e∈p.2,mL e)∧0<p.2.length){st':iH}(hc:bT st'=0)(hs:st'.fs.length≤250)
 (t:kQ o.rm ((mS,(dP st').1)::(de (iz jl)++dR o.blk m (fe++P)))){n:Nat}(hn:cF (fe.map (·.2))+cF (P.map (·.2))≤2*n):Jf o (jB jl) n:=by
 have h1:=h.used hf
 have h2:=sG P (fun p hp=>xz (hP p hp).1 (hP p hp).2.1 (fun e he=>((hP p hp).2.2.1 e he).sz))
 have h3:=vY P (fun p hp=>(hP p hp).2.2.2)
 have h4:=EY hc hs
 have h5:jl.length≤jB jl:=by unfold jB;omega
 unfold kQ at t
 have e:de (iz jl)++dR o.blk m (fe++P)=(de (iz jl)++dR o.blk m fe)++P.map (Ac o.blk):=by
  unfold dR;simp only[List.map_append,List.append_assoc]
 rw[e,dN,eH,List.length_cons,List.length_append,List.length_map] at t
 dsimp only at t
 unfold Jf
 omega
set_option maxHeartbeats 8000000
structure mC(d:Nat)(o:eW)(S:ei)(jl:List (Nat×List (List aC)))(fe:List (Fl×List aC))(S':ei)(jl':List (Nat×List (List aC)))(m':Option (List UInt8))(fe':List (Fl×List aC)):Prop where
 ok:cK o S' jl' m' fe'
 co:dL S' fe'=dL S fe
 le:Ot d S fe jl S' fe' jl'
theorem cK.same{o:eW}{S S':ei}{jl:List (Nat×List (List aC))}{m:Option (List UInt8)}{fe:List (Fl×List aC)}(h:cK o S jl m fe)(X:dH o S' jl m fe)(hm:S'.mem=S.mem)(hz:S'.msz=S.msz)(hs:S'.st=S.st)(hn:S.now≤S'.now)(hn2:S'.now≤S.now+1):mC 250 o S jl fe S' jl m fe:=by
 refine⟨⟨X,by rw[hs];exact h.fs,by rw[hs];exact h.chk,by rw[hs];exact h.man,by rw[hs];exact h.jlog,h.bat,by rw[hm];exact h.mem,by rw[hz,hm];exact h.msz,h.ent,by rw[hs];have:=h.lo;omega⟩,?_,?_⟩
 ·unfold dL;rw[hm]
 ·exact⟨by unfold nE;rw[hm];exact Nat.le_refl _,by unfold tE;rw[hm];exact Nat.le_refl _,Nat.le_refl _,by rw[hs];omega,by omega,Nat.le_refl _⟩
theorem cK.lens{o:eW}{S:ei}{jl:List (Nat×List (List aC))}{m:Option (List UInt8)}{fe:List (Fl×List aC)}(h:cK o S jl m fe)(hn:nE S fe≤250):S.mem.length≤250∧fe.length≤250∧S.mem.length+fe.length≤250:=by
 have:=ye (fun p hp=>(h.x.tok p hp).pos)
 unfold nE at hn
 omega
theorem jE(B:gV)(o:eW)(S:ei)(jl:List (Nat×List (List aC)))(m:Option (List UInt8))(fe:List (Fl×List aC))(h:cK o S jl m fe)(hg:kO o)(hn:nE S fe≤250)(hx:S.st.next≤1073741000)(hw:S.now<1073741000):
 aQ Tryz.prog 18 [.ptr 104 B.bs [] 0] (dY B o S) (fun r os=>∃S' jl' m' fe' e,(e=(0:Int)∨e=9)∧((e=0→S'.mem=[]∧∀p∈fe',p∈fe∨p.1.lev=0)∧(e=9→Jf o (jB jl) (nE S fe)))∧mC 250 o S jl fe S' jl' m' fe'∧r= .i .i64 e∧os=dY B o S'):=by
 obtain⟨hmu,hmk⟩:=h.memK
 obtain⟨hl1,hl2,hl3⟩:=h.lens hn
 have hgb:1≤o.blk∧o.blk≤16384:=⟨hg.2.2.1,hg.2.2.2.1⟩
 have hgk:=EG (size:=o.tab) hgb (by omega:S.mem.length≤300) hmu hmk
 have hgf:=sH o.tab S.mem
 have hgl:=uF o.tab S.mem [] 0
 have hgm:=ri o.tab S.mem [] 0
 obtain⟨gs,hgs⟩:∃gs,wY o.tab S.mem [] 0=gs:=⟨_,rfl⟩
 rw[hgs] at hgk hgf hgl hgm
 obtain⟨hh,_,hGS⟩:=fZ.1 h.chk
 have hn0:0≤S.st.next∧0≤S.st.log:=by unfold gG at hh;omega
 have hgo:∀g∈gs,∀x∈g,mL x:=fun g hg2 x hx2=>hmk x (((hgm g hg2).2 x hx2).resolve_left (by simp))
 have hfr:=yf (base:=S.st.next) (lev:=0) hgk hgo hn0.1 (by omega) (by decide)
 have hpr:=Bl (base:=S.st.next) (lev:=0) (blk:=o.blk) (fun g hg2=>(hgk g hg2).pos) (by rw[hgf];exact hmu)
 have hPl:=iP S.st.next 0 o.blk gs 0
 have hfl:S.st.fs.length=fe.length:=by rw[h.fs,List.length_map]
 have hap:=wN (s:=S.st) (gone:=[]) (fresh:=(ff S.st.next 0 o.blk gs 0).map (fun p=>p.1)) (log:=((S.now+1:Nat):Int)) h.chk (by omega) (fun n hn2=>by cases hn2) (by omega) hfr hpr.1 hpr.2 (fun q hq f hf e h0=>by
  obtain⟨p,hp,rfl⟩:=List.mem_map.1 hf
  obtain⟨i,_,hpe⟩:=fE hp
  rw[hpe] at e
  have e:q.lev=0:=e
  omega) (by rw[Bp,List.length_map];omega)
 have hperm:(mV S.st [] ((ff S.st.next 0 o.blk gs 0).map (fun p=>p.1)) ((S.now+1:Nat):Int)).fs.Perm ((fe++ff S.st.next 0 o.blk gs 0).map (fun p=>p.1)):=by
  show (cE (eu jK) _).Perm _
  refine(nX _).trans ?_
  rw[Bp,h.fs,List.map_append]
 have hnx:=rG ((ff S.st.next 0 o.blk gs 0).map (fun p=>p.1)) S.st.next
 have hnm:=rF ((ff S.st.next 0 o.blk gs 0).map (fun p=>p.1)) S.st.next (S.st.next+250) (by omega) (fun f hf=>by
  obtain⟨p,hp,rfl⟩:=List.mem_map.1 hf
  have:=rM S.st.next 0 o.blk gs 0 p hp
  omega)
 have hsl:(mV S.st [] ((ff S.st.next 0 o.blk gs 0).map (fun p=>p.1)) ((S.now+1:Nat):Int)).fs.length≤250:=by
  rw[hperm.length_eq,List.length_map,List.length_append];omega
 have hstn:(mV S.st [] ((ff S.st.next 0 o.blk gs 0).map (fun p=>p.1)) ((S.now+1:Nat):Int)).next=iO S.st.next ((ff S.st.next 0 o.blk gs 0).map (fun p=>p.1)):=rfl
 have hstl:(mV S.st [] ((ff S.st.next 0 o.blk gs 0).map (fun p=>p.1)) ((S.now+1:Nat):Int)).log=((S.now+1:Nat):Int):=rfl
 generalize mV S.st [] ((ff S.st.next 0 o.blk gs 0).map (fun p=>p.1)) ((S.now+1:Nat):Int)=st' at hap hperm hsl hstn hstl
 have hf:=Ay B o S jl m fe h.x hg (by omega) (fun e he=>(hmk e he).sz) gs hgs hgk (by omega) hn0.1 (by omega) (fun p hp=>(h.good p hp).2.2.2) (by omega) (by omega) st' (fun _=>hap.1) (fun _=>hap.2) (fun _=>hsl)
 refine hf.mono ?_
 rintro r os ⟨S',e,hc,hr,ho⟩
 rcases hc with ⟨rfl,htt,X,hs⟩|⟨rfl,hm0,rfl⟩|⟨rfl,X,h1,h2,h3,h4⟩
 ·exact⟨S',jl,m,fe,9,.inr Z,⟨fun h0=>(by cases h0),fun _=>h.tight hl2 (fun p hp=>by
   obtain⟨i,hi,_⟩:=fE hp
   have hgi:=List.mem_of_getElem? hi
   exact⟨(hgk _ hgi).mke,(hgk _ hgi).few,hgo _ hgi,(hgk _ hgi).pos⟩) hap.2 hsl htt (by rw[l6,jR gs,hgf];unfold nE;omega)⟩,h.same X hs.mem hs.msz hs.st (by rw[hs.now];exact Nat.le_succ _) (by rw[hs.now];exact Nat.le_refl _),hr,ho⟩
 ·exact⟨S',jl,m,fe,0,.inl Z,⟨fun _=>⟨hm0,fun p hp=>.inl hp⟩,fun h0=>(by cases h0)⟩,h.same h.x rfl rfl rfl (Nat.le_refl _) (Nat.le_succ _),hr,ho⟩
 ·obtain⟨fe',hp,hfe⟩:=oa (fun p:Fl×List aC=>p.1) hperm.symm
  have X':=X.perm hp
  have hcm:ux ([]:List (Nat×List (List aC)))=[]:=rfl
  have hok:cK o S' [] (some (dP st').1) fe':=by
   refine⟨X',by rw[h4,hfe],by rw[h4];exact hap.2,.inr (by rw[h4]),fun p hp=>(by cases hp),fun p hp=>(by cases hp),by rw[h2];rfl,by rw[h3,h2];rfl,fun p hp2 x hx2=>?_,by rw[h4,hstl,h1];exact Int.le_refl _⟩
   rcases List.mem_append.1 (hp.mem_iff.2 hp2) with hp2|hp2
   ·exact h.ent p hp2 x hx2
   ·obtain⟨i,hi,_⟩:=fE hp2
    exact hgo _ (List.mem_of_getElem? hi) x hx2
  refine⟨S',[],_,fe',0,.inl Z,⟨fun _=>⟨h2,fun p hp2=>by
   rcases List.mem_append.1 (hp.mem_iff.2 hp2) with hp2|hp2
   ·exact .inl hp2
   ·obtain⟨i,_,hpe⟩:=fE hp2
    rw[hpe];exact .inr Z⟩,fun h0=>(by cases h0)⟩,⟨hok,?_,?_⟩,hr,ho⟩
  ·refine Cb (fun x=>?_)
   rw[hok.cont_iff,h.cont_iff,h2,←Em.perm hp,Gv hmu hgf (fun p hp=>⟨(h.good p hp).1,(h.good p hp).2.2.2⟩)]
   constructor
   ·rintro⟨h5|⟨h5,_⟩,h6⟩
    ·cases h5
    ·exact⟨h5,h6⟩
   ·rintro⟨h5,h6⟩
    exact⟨.inr ⟨h5,fun y hy=>(by cases hy)⟩,h6⟩
  ·have hw1:wT (fe'.map (·.2))=wT (fe.map (·.2))+kR S.mem:=by
    rw[←yJ (hp.map _),List.map_append,Cy,l6,yK gs,hgf]
   have hw2:cF (fe'.map (·.2))=cF (fe.map (·.2))+S.mem.length:=by
    rw[←qw (hp.map _),List.map_append,sD,l6,jR gs,hgf]
   refine⟨?_,?_,Nat.zero_le _,?_,by rw[h1];omega,Nat.zero_le _⟩
   ·unfold nE;rw[h2,hw2,List.length_nil];omega
   ·unfold tE;rw[h2,hw1];show 0+_≤_;omega
   ·rw[h4,hstn];exact⟨hnx.1,hnm⟩
end Go.Proofs.YtginkbjclkdglaaGreat
set_option maxHeartbeats 16000000
namespace Go.Proofs.YtginkbjclkdglaaGreat
open Go Go.RowKit
theorem xD{blk:Int}{p:Fl×List aC}(h:GO blk p)(fr to:List UInt8):aQ Tryz.prog 38 [.cp (iY (jm blk p)),.s fr,.s to] [] (fun v os=>v= .tup [.sl 3 ((p.2.filter (bJ fr to)).map eA),.i .i64 0]∧os=[]):=by
 have h1:=h.made
 have h2:=z9 (pe h1.1 h.few h1.2).1 fr to
 have h3:=oP (grp blk p.2 [] 0) [] fr to (pW h1.1) h1.1.chn
 rw[h3,h1.1.flat] at h2
 exact h2
theorem CZ(B:gV)(o:eW)(S:ei)(jl:List (Nat×List (List aC)))(m:Option (List UInt8))(fe:List (Fl×List aC))(X:dH o S jl m fe)(hfs:S.st.fs=fe.map (fun p=>p.1))(hl:fe.length≤1000)(nums:List Int)(hn:nums.length≤100000):
 aQ Tryz.prog 105 [.ptr 104 B.bs [] 0,.sl 1 (nums.map (AV.i .i64))] (dY B o S) (fun r os=>r= .tup [.sl 1 ((fe.filter (fun p=>nums.contains p.1.num)).map (fun p=>rV p.2)),.i .i64 0]∧os=dY B o S):=by
 have hst:iA S.st= .agg [.i .i64 S.st.next,.i .i64 S.st.log,.sl 5 (fe.map (fun p=>eF p.1))]:=by unfold iA;rw[hfs,List.map_map];rfl
 refine aA ab [(100,.var B.bd (cO B.bm S.D)),(101,.obj B.bm (cV S.D.es S.D.clk)),(102,bL (S.D.fs.map bZ.O)),(103,eC B.bd B.bj S.now),(104,.var B.bs (dm B o S.mem S.msz S.st)),(105,io B.bt S.ts S.c)] Tryz.func105 Z Tryz.ntmps105 aN Z Z (fun C=>?_) Z
 have hSV:dm B o S.mem S.msz S.st= .agg [.ptr 0 B.bd [] 0,el o,.ptr 3 B.bj [] 0,e8 S.mem S.msz,.agg [.i .i64 S.st.next,.i .i64 S.st.log,.sl 5 (fe.map (fun p=>eF p.1))],.own 105 (.map (some B.bt))]:=by unfold dm;rw[hst]
 have hsL:dY B o S=[.var B.bd (cO B.bm S.D),.obj B.bm (cV S.D.es S.D.clk),bL (S.D.fs.map bZ.O),eC B.bd B.bj S.now,.var B.bs (dm B o S.mem S.msz S.st),io B.bt S.ts S.c]:=rfl
 rw[hsL,hSV]
 repeat' (first|refine ae ?_|refine aj ?_|refine aa ?_|refine ac (ax ?_)|refine br Z ab Z Z Z (fun _=>?_)|refine aU ab (fun _=>?_))
 refine aO (fun q:Nat×Value=>⟨45,[(17,.i .i64 q.1),(16,.i .i64 fe.length),(15,.sl 5 (fe.map (fun p=>eF p.1))),(6,.own 6 q.2),(0,.ptr 104 B.bs [] 0),(1,.sl 1 (nums.map (AV.i .i64)))],[(100,.var B.bd (cO B.bm S.D)),(101,.obj B.bm (cV S.D.es S.D.clk)),(102,bL (S.D.fs.map bZ.O)),(103,eC B.bd B.bj S.now),(104,.var B.bs (.agg [.ptr 0 B.bd [] 0,el o,.ptr 3 B.bj [] 0,e8 S.mem S.msz,.agg [.i .i64 S.st.next,.i .i64 S.st.log,.sl 5 (fe.map (fun p=>eF p.1))],.own 105 (.map (some B.bt))])),(105,io B.bt S.ts S.c),(6,.row q.2 35 1 (((fe.take q.1).filter (fun p=>nums.contains p.1.num)).map (fun p=>rV p.2)))]⟩)
  (fun q=>q.1≤fe.length) (fun q=>fe.length - q.1) [] (0,.slice none 0 0) (Nat.zero_le _) ?_ ?_
 ·exact⟨rfl,⟨ai Z,ai (by simp),ay Z,dp,af,ay Z,J⟩,az 100 Z (az 101 Z (az 102 Z (az 103 Z (az 104 Z (az 105 Z (cr.none .nil))))))⟩
 rintro⟨k,v⟩ hk
 dsimp only at hk ⊢
 by_cases hlt:k<fe.length
 ·have hmem:=List.getElem_mem hlt
  have hct:=kG nums fe[k].1.num hn
  have hrg:=xD (X.tok _ hmem) [] []
  rw[i9] at hrg
  have hgt:=X.getT hmem
  have hfl:(((fe.take k).filter (fun p=>nums.contains p.1.num)).map (fun p=>rV p.2)).length≤1000:=by
   rw[List.length_map]
   refine Nat.le_trans (List.length_filter_le _ _) ?_
   rw[List.length_take];omega
  have hfl2:((fe.take k).filter (fun p=>nums.contains p.1.num)).length≤1000:=by rw[List.length_map] at hfl;exact hfl
  generalize hcur:(fe.take k).filter (fun p=>nums.contains p.1.num)=cur at hfl hfl2 ⊢
  have htk:((fe.take (k+1)).filter (fun p=>nums.contains p.1.num)).map (fun p=>rV p.2)=if nums.contains fe[k].1.num=true then cur.map (fun p=>rV p.2)++[rV fe[k].2] else cur.map (fun p=>rV p.2):=by
   rw[←hcur,List.take_succ_eq_append_getElem hlt,List.filter_append,List.filter_cons,List.filter_nil]
   split
   ·rw[List.map_append];rfl
   ·rw[List.append_nil]
  have heF:eF fe[k].1= .agg [.i .i64 fe[k].1.num,.i .i64 fe[k].1.lev,.i .i64 fe[k].1.size,.s fe[k].1.first,.s fe[k].1.last]:=rfl
  generalize jm o.blk fe[k]=T at hrg hgt
  have hgA:rV fe[k].2= .sl 3 (fe[k].2.map eA):=rfl
  cases hc0:nums.contains fe[k].1.num
  ·rw[hc0] at hct
   rw[hc0,if_neg (by decide)] at htk
   repeat' (first|refine ae ?_|refine aj ?_|refine aa ?_|refine ac (ax ?_)|refine ac (db ?_)|refine ah (ax ?_)|(refine bc Z Z Z Z ?_ ?_;omega)|refine aU ab (fun _=>?_)|refine aF (d:=8) Z ab Z Z Z (fun b8=>?_)|refine aD ab Z Z Z Z Z Z Z ⟨rfl,rfl⟩ Z Z Z Z Z ?_|(refine aK Z ab Z Z Z Z Z Z ?_ (aE ?_) ?_;omega;omega)|refine aB Z ?_|(refine ao Z (fun hc=>?_) (fun hc=>?_))<;>try omega|refine au Z (hct) ⟨aP,aP,J⟩ Z ?_)
   exact⟨(k+1,v),[],hlt,by show fe.length - (k+1)<fe.length - k;omega,rfl,⟨ai (by show (k:Int)+1=((k+1:Nat):Int);omega),ai Z,ay Z,aJ,af,ay Z,J⟩,az 100 Z (az 101 Z (az 102 Z (az 103 Z (az 104 Z (az 105 Z (cr.cons 6 Z (by rw[htk];exact ak _) .nil))))))⟩
  ·rw[hc0] at hct
   rw[hc0,if_pos Z] at htk
   repeat' (first|refine ae ?_|refine aj ?_|refine aa ?_|refine ac (ax ?_)|refine ac (db ?_)|refine ah (ax ?_)|(refine bc Z Z Z Z ?_ ?_;omega)|refine aU ab (fun _=>?_)|refine aF (d:=8) Z ab Z Z Z (fun b8=>?_)|refine aD ab Z Z Z Z Z Z Z ⟨rfl,rfl⟩ Z Z Z Z Z ?_|(refine aK Z ab Z Z Z Z Z Z ?_ (aE ?_) ?_;omega;omega)|refine aI ab Z Z Z Z Z Z Z Z Z Z Z eo (fun _=>?_)|(refine bH ab Z Z Z Z Z Z Z Z Z (by first|exact J|exact rfl) Z Z (fun _=>rfl) ?_ ?_ (fun _=>?_);(exact dt);(exact dt))|refine aR Z ?_|refine aB Z ?_|(refine ao Z (fun hc=>?_) (fun hc=>?_))<;>try omega|refine cg 6 [6] [29,31] [] [0,1,2,4,3,5,6,7,8,9,10,11,12] aN aN aN Z Z Z ?_|(refine pQ ab Z Z aN Z Z Z hgt Z ?_)|refine au Z (hct) ⟨aP,aP,J⟩ Z ?_|refine au Z (hrg) ⟨aP,aP,aP,J⟩ Z ?_)
   all_goals exact⟨(k+1,_),[],hlt,by show fe.length - (k+1)<fe.length - k;omega,rfl,⟨ai (by show (k:Int)+1=((k+1:Nat):Int);omega),ai Z,ay Z,aJ,af,ay Z,J⟩,az 100 Z (az 101 Z (az 102 Z (az 103 Z (az 104 Z (az 105 Z (cr.cons 6 Z (by rw[htk];exact ak _) .nil))))))⟩
 ·rw[List.take_of_length_le (by omega)]
  repeat' (first|refine ae ?_|refine aa ?_|refine ac (ax ?_)|refine aw (ax ?_)|refine ap (bC ?_)|refine aU ab (fun _=>?_)|(refine ao Z (fun hc=>?_) (fun hc=>?_))<;>try omega)
  all_goals
   exact aH [6] [(100,_),(101,_),(102,_),(103,_),(104,_),(105,_)] (.tup [.sl 1 ((fe.filter (fun p=>nums.contains p.1.num)).map (fun p=>rV p.2)),.i .i64 0]) Z (aW (bP (.head _)) (am Z) Z Z) (az 100 Z (az 101 Z (az 102 Z (az 103 Z (az 104 Z (az 105 Z .nil)))))) ⟨rfl,rfl⟩
end Go.Proofs.YtginkbjclkdglaaGreat
