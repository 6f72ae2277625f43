/- law08.BloomMakes by rules. -/
import Derived.Test.YtginkbjclkdglaaGreatKH4Z
import Derived.Test.YtginkbjclkdglaaGreatKFZ
import Derived.Test.YtginkbjclkdglaaGreatBPZ
import Derived.Test.YtginkbjclkdglaaGreatB2Z
import Derived.Lib.SliceRun
import Derived.Test.YtginkbjclkdglaaGreatV13Z
import Derived.Test.YtginkbjclkdglaaGreatV18Z
set_option maxHeartbeats 4000000
namespace Go.Proofs.YtginkbjclkdglaaGreat
open Go Go.RowKit
theorem zA{p:Nat}{b:List UInt8}(hg:mO p (cX b).length=true):pn (md p b).1=((p:Int),b,0):=by
 have hf:md p b=(ar p++gl b,0):=by unfold md;rw[if_pos hg];rfl
 rw[hf]
 have hg2:=hg
 rw[gb,j8] at hg2
 have hl1:=bz p (by omega)
 have hl2:(gl b).length≤9000:=by unfold gl;rw[List.length_append];have:=bz b.length (by omega);omega
 have hsl:(ar p++gl b).length=(ar p).length+(gl b).length:=List.length_append
 have ho:RS.open (ar p++gl b)=⟨ar p++gl b,0,0⟩:=by unfold RS.open;rw[if_neg (by omega)]
 have h1:=RS.number_reads ⟨ar p++gl b,0,0⟩ Z p (by omega) (gl b) (by unfold RS.rest;rfl)
 have h2:=RS.text_reads ⟨ar p++gl b,0+(ar p).length,0⟩ Z b (by omega) [] (by
  unfold RS.rest
  rw[Nat.zero_add]
  show List.drop (ar p).length (ar p++gl b)=_
  rw[List.drop_left,List.append_nil];rfl)
 have hn:(RS.open (ar p++gl b)).number=(p,⟨ar p++gl b,0+(ar p).length,0⟩):=by rw[ho];exact h1
 have ht:(RS.open (ar p++gl b)).number.2.text=(b,⟨ar p++gl b,0+(ar p).length+(bK b).length,0⟩):=by rw[hn];exact h2
 have hd:(RS.open (ar p++gl b)).number.2.text.2.done=0:=by
  rw[ht]
  unfold RS.done
  rw[if_neg]
  rintro⟨_,h3⟩
  have h4:0+(ar p).length+(gl b).length<(ar p++gl b).length:=h3
  omega
 unfold pn
 rw[if_neg (fun h=>h hd),if_pos (by rw[hn] at ht ⊢;rw[show (((p,(⟨ar p++gl b,0+(ar p).length,0⟩:RS)):Nat×RS).2.text)=_ from ht];exact hg)]
 rw[ht,hn]
set_option maxHeartbeats 16000000
set_option maxRecDepth 100000
theorem Hb(n:Nat)(h:n<16777216):n3 (UInt8.ofNat (n / 65536)) (UInt8.ofNat (n / 256)) (UInt8.ofNat n)=n:=by
 unfold n3;rw[ofNat_toNat,ofNat_toNat,ofNat_toNat];omega
theorem DL{α:Type}{xs:List α}{i:Int}{x:α}(m:Nat)(h:i=m)(hq:xs[m]?=some x):xs[i.toNat]?=some x:=by subst h;exact hq
theorem NR(A:List UInt8)(a b c:UInt8):(A++[a,b,c])[A.length]?=some a∧(A++[a,b,c])[A.length+1]?=some b∧(A++[a,b,c])[A.length+2]?=some c:=by
 refine⟨?_,?_,?_⟩
 ·rw[List.getElem?_append_right (Nat.le_refl _),Nat.sub_self];rfl
 ·rw[List.getElem?_append_right (by omega),show A.length+1 - A.length=1 by omega];rfl
 ·rw[List.getElem?_append_right (by omega),show A.length+2 - A.length=2 by omega];rfl
def NB(l:List aC)(ps:List tJ)(s:List UInt8):Jg:=⟨s,ps,7,vO (ig l) 10,l.length,qo l⟩
theorem DN(l:List aC)(text:List UInt8)(hl:l.length≤300)(hm:∀e∈l,e.k.length≤110∧e.v.length≤4010)(ht:text.length≤100000000):
 (RS.open (jO l text)).ok∧∃r1 r2 r3 r4,(RS.open (jO l text)).number=(text.length,r1)∧r1.ok∧r1.text=(l8 l,r2)∧r2.ok∧r2.number=(l.length,r3)∧r3.ok∧r3.text=(qo l,r4)∧r4.done=0:=by
 have hfl:=nB l text hl hm (by omega)
 have hok0:=RS.ok_open (s:=jO l text) (by omega)
 have hr0:RS.open (jO l text)=⟨jO l text,0,0⟩:=by unfold RS.open;rw[if_neg (by omega)]
 have hrr:(RS.open (jO l text)).rest=ar text.length++(gl (l8 l)++(ar l.length++(gl (qo l)++[]))):=by
  rw[hr0];show jO l text=_;unfold jO;rw[List.append_nil,List.append_assoc,List.append_assoc]
 have h1:=r7 l hl
 have h2:=zx l hm
 obtain⟨r1,a1,b1,c1,d1⟩:=ze (by rw[hr0]) hok0 (by omega) hrr
 obtain⟨r2,a2,b2,c2,d2⟩:=CA b1 c1 (by omega) d1
 obtain⟨r3,a3,b3,c3,d3⟩:=ze b2 c2 (by omega) d2
 obtain⟨r4,a4,b4,c4,d4⟩:=CA b3 c3 (by omega) d3
 exact⟨hok0,r1,r2,r3,r4,a1,c1,a2,c2,a3,c3,a4,BU b4 d4⟩
theorem yP(b:Nat)(l:List aC)(text:List UInt8)(ps:List tJ)(hl:l.length≤300)(hm:∀e∈l,e.k.length≤110∧e.v.length≤4010)(ht:text.length≤90000000)
 (hp:Ki ps text.length)(hc:ps.length≤l.length)(hil:(ar ps.length++rz ps).length≤65536)(s:List UInt8)(hs:s=wW l (ar ps.length++rz ps) text):
 aQ Tryz.prog 114 [.ptr 0 b [] 0] [.var b (.agg [.s s,.nil,uf 0 [],.i .i64 0,.s []])] (fun v os=>v= .tup [.i .i64 text.length,.i .i64 0]∧∃vp,os=[.var b (.agg [.s s,.own 1 vp,uf (7:Nat) (vO (ig l) 10),.i .i64 l.length,.s (qo l)]),.row vp 146 2 (ps.map oz)]):=by
 refine aA ab [(0,.var b (.agg [.s s,.nil,uf 0 [],.i .i64 0,.s []]))] Tryz.func114 Z Tryz.ntmps114 aN Z Z (fun C=>?_) Z
 have hfl:=nB l text hl hm (by omega)
 obtain⟨ok0,r1,r2,r3,r4,n1,ok1,n2,ok2,n3',ok3,n4,dn⟩:=DN l text hl hm (by omega)
 have hix:=fun b=>Ab b s (vO (ig l) 10) (qo l) 7 l.length text.length ps hp hc (by omega) (by omega) hil
 have hwl1:=ek (ar ps.length++rz ps)
 have hwl2:=ek (jO l text)
 generalize hI:ar ps.length++rz ps=idx at*
 have ho1:=lR (jO l text) [] (by omega)
 have ho2:=lR idx [] (by omega)
 rw[List.append_nil] at ho1 ho2
 unfold wW at hs
 have hfr:=zA (BO l hl)
 rw[yp l hl] at hfr
 have hfs:=DM (l8 l) (by have:=r7 l hl;omega)
 rw[hfr] at hfs
 dsimp only at hfs
 generalize jO l text=ft at*
 generalize vO (ig l) 10=F at*
 generalize l8 l=fB at*
 generalize qo l=hK at*
 have hS1:=lS (bo ft) (by omega)
 have hS2:=lS (bo idx) (by omega)
 rw[ho1] at hS1
 rw[ho2] at hS2
 dsimp only at hS1 hS2
 have hRO:=jW ft
 have hN1:=fun b=>dX b (RS.open ft) ok0
 rw[n1] at hN1
 have hT1:=fun b=>fX b r1 ok1
 rw[n2] at hT1
 have hN2:=fun b=>dX b r2 ok2
 rw[n3'] at hN2
 have hT2:=fun b=>fX b r3 ok3
 rw[n4] at hT2
 have hD:=fun b=>fY b r4
 rw[dn] at hD
 dsimp only at hN1 hT1 hN2 hT2 hD
 generalize RS.open ft=r0 at hRO hN1
 generalize bo ft=SF at*
 generalize bo idx=SI at*
 have hsl:s.length=text.length+SI.length+SF.length+3:=by rw[hs];simp[three,Nat.add_assoc]
 have hthree:=Hb SF.length (by omega)
 have hAl:(text++SI++SF).length=text.length+SI.length+SF.length:=by rw[List.length_append,List.length_append]
 obtain⟨g0,g1,g2⟩:=NR (text++SI++SF) (UInt8.ofNat (SF.length / 65536)) (UInt8.ofNat (SF.length / 256)) (UInt8.ofNat SF.length)
 have hs3:s=(text++SI++SF)++[UInt8.ofNat (SF.length / 65536),UInt8.ofNat (SF.length / 256),UInt8.ofNat SF.length]:=hs
 rw[←hs3,hAl] at g0 g1 g2
 clear hs3
 have c1:(s.take (text.length+SI.length+SF.length)).drop (text.length+SI.length)=SF:=by
  rw[hs,List.take_append_of_le_length (by simp;omega),List.take_of_length_le (by simp;omega),List.drop_append_of_le_length (by simp),List.drop_of_length_le (by simp)];rfl
 have c2:(s.take (text.length+SI.length)).drop text.length=SI:=by
  rw[hs,List.append_assoc,List.append_assoc,←List.append_assoc text,List.take_append_of_le_length (by simp),List.take_of_length_le (by simp),List.drop_left]
 clear hs
 generalize UInt8.ofNat (SF.length / 65536)=x0 at*
 generalize UInt8.ofNat (SF.length / 256)=x1 at*
 generalize UInt8.ofNat SF.length=x2 at*
 have hn3:=Kq x0 x1 x2
 rw[hthree] at hn3
 clear hthree ho1 ho2 hfr n1 n2 n3' n4 dn hAl
 repeat' (first|(rw[hn3])|refine ae ?_|refine aa ?_|refine ac (ax ?_)|refine ah (ax ?_)|refine ap (bC ?_)|(refine bc Z Z Z Z ?_ ?_;omega)|(refine dW Z Z Z Z ?_ ?_;omega)|refine gW Z ab Z Z Z Z ?_|refine aU ab (fun _=>?_)|refine aD ab Z Z Z Z Z Z Z ⟨rfl,rfl⟩ Z Z Z Z Z ?_|refine aB Z ?_|(refine ao Z (fun hc=>?_) (fun hc=>?_))<;>try omega|(refine bF Z (fun hc=>?_) (fun hc=>?_))<;>try omega|(refine cg 4 [] [] [] [0,1,2,4,8,9,10,12,13,18,19,20,22,23,3,5,6,7,11,14,15,16,17,21,24,25,26,27] aN aN aN Z Z Z ?_;(try dsimp only[List.getElem_toArray,List.getElem_cons_zero,List.getElem_cons_succ]))|(refine gE ab Z Z Z Z Z ?_ (DL (text.length+SI.length+SF.length) ?_ g0) ?_;omega;omega)|(refine gE ab Z Z Z Z Z ?_ (DL (text.length+SI.length+SF.length+1) ?_ g1) ?_;omega;omega)|(refine gE ab Z Z Z Z Z ?_ (DL (text.length+SI.length+SF.length+2) ?_ g2) ?_;omega;omega)|(refine dK ab Z (text.length+SI.length) (text.length+SI.length+SF.length) Z Z Z (cn Z ?_) (cn Z ?_) ?_ ?_ ?_;omega;omega;omega;omega;rw[c1])|(refine dK ab Z text.length (text.length+SI.length) Z Z Z (cn Z ?_) (cn Z ?_) ?_ ?_ ?_;omega;omega;omega;omega;rw[c2])|(refine pS Z hRO ⟨aP,J⟩ Z (fun bN=>?_))|(refine bx [] [0] [0,1] Z (hix _) ⟨af,aP,aP,J⟩ Z dD Z Z ?_;rintro _ _ ⟨rfl,vp,rfl⟩;refine⟨_,rfl,rfl,?_⟩)|refine au Z (hS1) ⟨aP,J⟩ Z ?_|refine au Z (hS2) ⟨aP,J⟩ Z ?_|refine au Z (hfs) ⟨aP,J⟩ Z ?_|(refine bh Z Z Z Z (hN1 _) ⟨af,J⟩ (ak _) Z Z ?_;rintro _ _ ⟨rfl,rfl⟩;refine⟨_,rfl,_,rfl,?_⟩)|(refine bh Z Z Z Z (hT1 _) ⟨af,J⟩ (ak _) Z Z ?_;rintro _ _ ⟨rfl,rfl⟩;refine⟨_,rfl,_,rfl,?_⟩)|(refine bh Z Z Z Z (hN2 _) ⟨af,J⟩ (ak _) Z Z ?_;rintro _ _ ⟨rfl,rfl⟩;refine⟨_,rfl,_,rfl,?_⟩)|(refine bh Z Z Z Z (hT2 _) ⟨af,J⟩ (ak _) Z Z ?_;rintro _ _ ⟨rfl,rfl⟩;refine⟨_,rfl,_,rfl,?_⟩)|(refine bh Z Z Z Z (hD _) ⟨af,J⟩ (ak _) Z Z ?_;rintro _ _ ⟨rfl,rfl⟩;refine⟨_,rfl,_,rfl,?_⟩))
 exact aH [] [(0,_),(1,_)] (.tup [.i .i64 text.length,.i .i64 0]) Z (aW (av _) (av _) Z Z) (bq Z (ak _) (bq Z (ak _) .nil)) ⟨rfl,vp,rfl⟩
theorem CB(l:List aC)(text:List UInt8)(ps:List tJ)(hl:l.length≤300)(hm:∀e∈l,e.k.length≤110∧e.v.length≤4010)(ht:text.length≤90000000)
 (hp:Ki ps text.length)(hc:ps.length≤l.length)(hil:(ar ps.length++rz ps).length≤65536)(s:List UInt8)(hs:s=wW l (ar ps.length++rz ps) text):
 aQ Tryz.prog 65 [.s s] [] (fun v os=>v= .tup [.cp (iY (NB l ps s)),.i .i64 0]∧os=[]):=by
 refine aA ab [] Tryz.func65 Z Tryz.ntmps65 aN Z Z (fun C=>?_) Z
 have hft:=fun b=>yP b l text ps hl hm ht hp hc hil s hs
 have hT:iY (NB l ps s)= .agg [.s s,.sl 2 (ps.map oz),uf (7:Nat) (vO (ig l) 10),.i .i64 l.length,.s (qo l)]:=rfl
 rw[hT]
 generalize vO (ig l) 10=F at hft ⊢
 generalize qo l=hK at hft ⊢
 repeat' (first|refine ae ?_|refine aa ?_|refine ac (ax ?_)|refine aU ab (fun _=>?_)|refine c9 (d:=9) Z Z Z Z (fun b9=>?_)|refine cd ab Z Z Z Z Z Z eo ?_)
 refine bx [] [9] [9,1] Z (hft _) ⟨af,J⟩ Z ⟨bW (bS (.cons (av _) (.cons (av _) (.cons (bS (.cons (av _) (.cons cQ .nil))) (.cons (av _) (.cons (av _) .nil)))))),J⟩ Z Z ?_
 rintro _ _ ⟨rfl,vp,rfl⟩;refine⟨_,rfl,rfl,?_⟩
 refine gJ [1] (S':=⟨19,[(12,.tup [.i .i64 text.length,.i .i64 0]),(4,.ptr 9 b9 [] 0)],[(9,.var b9 (.agg [.s s,.sl 2 (ps.map oz),uf (7:Nat) F,.i .i64 l.length,.s hK]))]⟩) ⟨rfl,⟨aP,af,J⟩,cr.cons 9 Z (bW (bS (.cons (av _) (.cons (bP (.head _)) (.cons (av _) (.cons (av _) (.cons (av _) .nil))))))) .nil⟩ ?_
 repeat' (first|(refine qc 9 4 Z Z Z ?_)|refine ae ?_|refine aa ?_|refine ac (ax ?_)|refine ah (ax ?_)|refine ap (bC ?_)|refine aU ab (fun _=>?_)|refine aB Z ?_)
 exact aH [] [] (.tup [.cp (.agg [.s s,.sl 2 (ps.map oz),uf (7:Nat) F,.i .i64 l.length,.s hK]),.i .i64 0]) Z (aW (av _) (av _) Z Z) .nil ⟨rfl,rfl⟩
theorem rk{P:Program}(isS:Bool)(len cap:Nat)(lo hi mx:Option Value)(n m q:Nat)(hlo:lo=none∧n=0∨∃k,lo=some (.int k (n:Int)))(hhi:∃k,hi=some (.int k (m:Int)))(hmx:∃k,mx=some (.int k (q:Int)))(hnm:n≤m)(hmq:m≤q)(hq:q≤cap)(w':World):
 (Instr.sliceBounds isS len cap lo hi mx).run P w'= .ok (n,m,q) w':=by
 have h1:(n:Int)≤(m:Int):=by omega
 have h2:(m:Int)≤(q:Int):=by omega
 have h3:(q:Int)≤(cap:Int):=by omega
 obtain⟨k3,rfl⟩:=hmx
 obtain⟨k',rfl⟩:=hhi
 rcases hlo with ⟨rfl,rfl⟩|⟨k,rfl⟩<;>simp[Instr.sliceBounds,Instr.sliceBound,asIntOf,Sem.run_pure,h3,hnm,hmq]
section
variable {m:OM} {P:Program} {T:List (Nat×TI)} {C:il} {ops:Array Oper} {l:List Oper} {K:St→Prop} {n:Nat} {sl:List (Nat×AV)} {hp:List (Nat×HO)} {d:Nat} {ty:Nat} {pos:String} {aft:Array Edge} {gd:Option (Nat×Bool)}
theorem De(hT:cP P T)(hw:cH ops ⟨n,sl,hp⟩ gd=bE gd){t:Nat}{x mx hi:Operand}{lo:Option Operand}{sz:Nat}{α:Type}{f:α→AV}{xs:List α}(i j q:Nat){e sz0 by_:Nat}{z:AV}{te:TI}{kq kh:IntKind}{iq ih:Int}
 (hx:ev ⟨n,sl,hp⟩ x= .sl sz (xs.map f))(ht:bI T t=some ⟨.slice e,sz0,by_,z⟩)(he:bI T e=some te)(hsz:te.sz=sz)(hd:Nat.blt d n=true)(hlo:si ⟨n,sl,hp⟩ lo 0 i)(hhi:ev ⟨n,sl,hp⟩ hi= .i kh ih)(hih:ih=j)(hmx:ev ⟨n,sl,hp⟩ mx= .i kq iq)(hiq:iq=q)(hij:i≤j)(hjq:j≤q)(hq:q≤xs.length)
 (h:aq m P C ops l ⟨n,(d,.sl sz (((xs.take j).drop i).map f))::sl,hp⟩ K):aq m P C ops (⟨some d,.slice t x lo (some hi) (some mx),ty,pos,aft,gd⟩::l) ⟨n,sl,hp⟩ K:=by
 subst hiq;subst hih
 rw[List.map_drop,List.map_take] at h
 refine eI (d:=some d) hw none cT hd Z (fun a w hs=>?_) h
 have Ex:=bg hs x
 rw[hx,iW] at Ex
 obtain⟨A,cap,e1,h1,h2,h3⟩:=Ex
 have hxl:(xs.map f).length=xs.length:=List.length_map ..
 generalize xs.map f=ys at*
 have hl:((ys.take j).drop i).length=j - i:=by rw[List.length_drop,List.length_take];omega
 have hhv:∃k,(some hi).map a.eval=some (.int k (j:Int)):=by
  have:=bg hs hi
  rw[hhi,cq] at this
  exact⟨kh,by rw[Option.map_some,this]⟩
 have hmv:∃k,(some mx).map a.eval=some (.int k (q:Int)):=by
  have:=bg hs mx
  rw[hmx,cq] at this
  exact⟨kq,by rw[Option.map_some,this]⟩
 refine⟨.slice (if q=i then A else A.map (·.add (i*sz))) (j - i) (q - i),iW.2 ⟨_,q - i,by rw[hl],by omega,by omega,fun hne=>?_⟩,fun w' _=>?_⟩
 ·have hlt:i<j:=by
   rcases Nat.lt_or_ge i j with h|h
   ·exact h
   ·exfalso;apply hne;apply List.eq_nil_of_length_eq_zero;omega
  obtain⟨b,off,rfl,hF,hr⟩:=h3 (by rintro rfl;simp at hxl;omega)
  refine⟨b,off+i*sz,?_,hF,o4 i (oZ j hr)⟩
  rw[if_neg (by omega)]
  simp[Addr.add]
 ·have hb:=rk (P:=P) true ys.length cap _ _ _ i j q (mg hs hlo) hhv hmv hij hjq (by omega) w'
  have hu:=ej (aX hT ht)
  have hsz':=(aX hT he).sizeRun w'
  rw[hsz] at hsz'
  simp only[execOp,e1,Instr.sliceAt,Instr.slice,Sem.run_bind,run_underlying hu,Result.andThen_ok,hb,hsz',Sem.run_pure]
end
structure Fq(t:Jg)(G:List (List aC)):Prop where
 len:t.parts.length=G.length
 few:G.length≤300
 txt:t.text.length≤100000000
 fbl:t.fb.length≤1000000000
 rd:∀i (h:i<G.length) (h2:i<t.parts.length),t.parts[i].a≤t.text.length∧(∃n,qr (t.text.drop t.parts[i].a)=(G[i],n,0))∧np G[i]=t.parts[i].l
 grp:∀g∈G,0<g.length∧g.length≤256∧g.Pairwise (fun a b=>Op.bytesLess a.k b.k=true)
 sz:∀g∈G,∀e∈g,e.k.length≤110∧e.v.length≤4010
theorem Ai{t:Jg}{G:List (List aC)}(h:Fq t G)(i:Nat)(hi:i<G.length):aQ Tryz.prog 80 [.cp (iY t),.i .i64 i] [] (fun v os=>v= .tup [.sl 3 (G[i].map eA),.i .i64 0]∧os=[]):=by
 have h2:i<t.parts.length:=by rw[h.len];exact hi
 obtain⟨h3,⟨n,h4⟩,h5⟩:=h.rd i hi h2
 exact CD t i h2 G[i] n h.txt h3 h4 (h.grp _ (List.getElem_mem hi)).1 h5
def tL:List (List aC)→List UInt8→aC×Bool
 |[],_=>(iB,false)
 |g::r,k=>if GR k (np g)=true then (mw g k (eG g k),iv g k (eG g k)) else tL r k
theorem CH(G:List (List aC))(i:Nat)(h:i<G.length)(k:List UInt8):tL (G.drop i) k=if GR k (np G[i])=true then (mw G[i] k (eG G[i] k),iv G[i] k (eG G[i] k)) else tL (G.drop (i+1)) k:=by
 rw[List.drop_eq_getElem_cons h];rfl
def oQ(t:Jg)(G:List (List aC))(k:List UInt8):aC×Bool:=if Be (t.fp:Nat) (cX t.fb) (ed k)=true then tL G k else (iB,false)
theorem CG{t:Jg}{G:List (List aC)}(h:Fq t G)(key:List UInt8):aQ Tryz.prog 41 [.cp (iY t),.s key] [] (fun v os=>v= .tup [eA (oQ t G key).1,.b (oQ t G key).2,.i .i64 0]∧os=[]):=by
 refine aA ab [] Tryz.func41 Z Tryz.ntmps41 aN Z Z (fun C=>?_) Z
 have hmy:=Gc (t.fp:Nat) t.fb key h.fbl
 have hF:oQ t G key=if Be (t.fp:Nat) (cX t.fb) (ed key)=true then tL G key else (iB,false):=rfl
 generalize oQ t G key=q at hF ⊢
 generalize Be (t.fp:Nat) (cX t.fb) (ed key)=my at hmy hF
 have hlen:=h.len
 cases my
 ·rw[if_neg (by decide)] at hF
  subst hF
  repeat' (first|refine ae ?_|refine aj ?_|refine aa ?_|refine ac (ax ?_)|refine ac (db ?_)|refine ac (bC ?_)|refine ah (ax ?_)|refine ah (bC ?_)|refine ah (db ?_)|refine aw (ax ?_)|refine aw (db ?_)|refine aw (bC ?_)|refine ap (bC ?_)|(refine bc Z Z Z Z ?_ ?_;omega)|refine br Z ab Z Z Z (fun _=>?_)|refine dA Z ab Z Z Z Z (fun _=>?_)|refine aU ab (fun _=>?_)|refine aF Z ab Z Z Z (fun bA=>?_)|refine aD ab Z Z Z Z Z Z Z ⟨rfl,rfl⟩ Z Z Z Z Z ?_|(refine aK Z ab Z Z Z Z Z Z ?_ (aE ?_) ?_;omega;omega)|(refine bD ab Z Z Z Z Z Z Z Z _ Z ?_ (fun bO hbO=>?_);(exact dt))|(refine bR ab Z Z Z Z Z (by assumption) (aY (List.getElem?_eq_getElem ?_)) Z Z (by first|exact Nat.add_zero _|rfl) ⟨rfl,rfl⟩ ?_;omega)|(refine dr Z ab Z Z Z ?_ (fun _=>?_);(show List.length _+List.length _≤9223372036854775807;exact dt))|(refine bQ ab Z Z Z Z Z Z (by assumption) (aY (List.getElem?_eq_getElem ?_)) Z Z (by first|exact Nat.add_zero _|rfl) ⟨rfl,rfl⟩ Z Z ?_;omega)|refine cd ab Z Z Z Z Z Z eo ?_|refine mM ab Z Z Z Z ?_|refine aR Z ?_|refine aB Z ?_|(refine ao Z (fun hc=>?_) (fun hc=>?_))<;>try omega|(refine fk Z (fun hc=>?_) (fun hc=>?_))<;>try omega|(refine bF Z (fun hc=>?_) (fun hc=>?_))<;>try omega|(refine ba Z (fun hc=>?_) (fun hc=>?_))|refine au Z (hmy) ⟨aP,aP,J⟩ Z ?_)
  exact aH [] [] (.tup [eA iB,.b false,.i .i64 0]) Z (dI (am Z) (av _) (av _) Z Z Z) .nil ⟨rfl,rfl⟩
 ·rw[if_pos Z] at hF
  repeat' (first|refine ae ?_|refine aj ?_|refine aa ?_|refine ac (ax ?_)|refine ac (db ?_)|refine ac (bC ?_)|refine ah (ax ?_)|refine ah (bC ?_)|refine ah (db ?_)|refine aw (ax ?_)|refine aw (db ?_)|refine aw (bC ?_)|refine ap (bC ?_)|(refine bc Z Z Z Z ?_ ?_;omega)|refine br Z ab Z Z Z (fun _=>?_)|refine dA Z ab Z Z Z Z (fun _=>?_)|refine aU ab (fun _=>?_)|refine aF (d:=4) Z ab Z Z Z (fun b4=>?_)|refine aF (d:=8) Z ab Z Z Z (fun b8=>?_)|refine aF (d:=11) Z ab Z Z Z (fun b11=>?_)|refine aD ab Z Z Z Z Z Z Z ⟨rfl,rfl⟩ Z Z Z Z Z ?_|(refine aK Z ab Z Z Z Z Z Z ?_ (aE ?_) ?_;omega;omega)|(refine bD ab Z Z Z Z Z Z Z Z _ Z ?_ (fun bO hbO=>?_);(exact dt))|(refine bR ab Z Z Z Z Z (by assumption) (aY (List.getElem?_eq_getElem ?_)) Z Z (by first|exact Nat.add_zero _|rfl) ⟨rfl,rfl⟩ ?_;omega)|(refine dr Z ab Z Z Z ?_ (fun _=>?_);(show List.length _+List.length _≤9223372036854775807;exact dt))|(refine bQ ab Z Z Z Z Z Z (by assumption) (aY (List.getElem?_eq_getElem ?_)) Z Z (by first|exact Nat.add_zero _|rfl) ⟨rfl,rfl⟩ Z Z ?_;omega)|refine cd ab Z Z Z Z Z Z eo ?_|refine mM ab Z Z Z Z ?_|refine aR Z ?_|refine aB Z ?_|(refine ao Z (fun hc=>?_) (fun hc=>?_))<;>try omega|(refine fk Z (fun hc=>?_) (fun hc=>?_))<;>try omega|(refine bF Z (fun hc=>?_) (fun hc=>?_))<;>try omega|(refine ba Z (fun hc=>?_) (fun hc=>?_))|refine au Z (hmy) ⟨aP,aP,J⟩ Z ?_)
  refine aO (fun i:Nat=>⟨55,[(26,.i .i64 i),(25,.i .i64 t.parts.length),(24,.sl 2 (t.parts.map oz)),(4,.ptr 4 b4 [] 0),(0,.cp (iY t)),(1,.s key)],[(4,.var b4 (.agg [.s [],.s [],.b false]))]⟩) (fun i=>i≤G.length∧tL (G.drop i) key=q) (fun i=>G.length - i) [] 0 ⟨Nat.zero_le _,hF.symm⟩ ?_ ?_
  ·exact⟨rfl,⟨ai Z,ai Z,ay Z,af,aP,cY Z,J⟩,az 4 Z .nil⟩
  rintro i ⟨hi,hst⟩
  by_cases hlt:i<G.length
  ·rw[CH G i hlt] at hst
   have hlt2:i<t.parts.length:=by omega
   obtain⟨_,_,hls⟩:=h.rd i hlt hlt2
   have hld:=Ai h i hlt
   obtain⟨hg0,hg1,hg2⟩:=h.grp _ (List.getElem_mem hlt)
   have hbf:=wI G[i] key (by omega) (fun a b ha hb hab=>jf hg2 key a b ha hb hab)
   rw[hls] at hst
   generalize mw G[i] key (eG G[i] key)=fe at hbf hst
   generalize iv G[i] key (eG G[i] key)=fb at hbf hst
   repeat' (first|refine ae ?_|refine aj ?_|refine aa ?_|refine ac (ax ?_)|refine ac (db ?_)|refine ac (bC ?_)|refine ah (ax ?_)|refine ah (bC ?_)|refine ah (db ?_)|refine aw (ax ?_)|refine aw (db ?_)|refine aw (bC ?_)|refine ap (bC ?_)|(refine bc Z Z Z Z ?_ ?_;omega)|refine br Z ab Z Z Z (fun _=>?_)|refine dA Z ab Z Z Z Z (fun _=>?_)|refine aU ab (fun _=>?_)|refine aF (d:=4) Z ab Z Z Z (fun b4=>?_)|refine aF (d:=8) Z ab Z Z Z (fun b8=>?_)|refine aF (d:=11) Z ab Z Z Z (fun b11=>?_)|refine aD ab Z Z Z Z Z Z Z ⟨rfl,rfl⟩ Z Z Z Z Z ?_|(refine aK Z ab Z Z Z Z Z Z ?_ (aE ?_) ?_;omega;omega)|(refine bD ab Z Z Z Z Z Z Z Z _ Z ?_ (fun bO hbO=>?_);(exact dt))|(refine bR ab Z Z Z Z Z (by assumption) (aY (List.getElem?_eq_getElem ?_)) Z Z (by first|exact Nat.add_zero _|rfl) ⟨rfl,rfl⟩ ?_;omega)|(refine dr Z ab Z Z Z ?_ (fun _=>?_);(show List.length _+List.length _≤9223372036854775807;exact dt))|(refine bQ ab Z Z Z Z Z Z (by assumption) (aY (List.getElem?_eq_getElem ?_)) Z Z (by first|exact Nat.add_zero _|rfl) ⟨rfl,rfl⟩ Z Z ?_;omega)|refine cd ab Z Z Z Z Z Z eo ?_|refine mM ab Z Z Z Z ?_|refine aR Z ?_|refine aB Z ?_|(refine ao Z (fun hc=>?_) (fun hc=>?_))<;>try omega|(refine fk Z (fun hc=>?_) (fun hc=>?_))<;>try omega|(refine bF Z (fun hc=>?_) (fun hc=>?_))<;>try omega|(refine ba Z (fun hc=>?_) (fun hc=>?_))|refine au Z (hld) ⟨aP,aP,J⟩ Z ?_|refine au Z (hbf) ⟨aP,aP,J⟩ Z ?_)
   ·rw[if_pos (show GR key t.parts[i].l=true from hc)] at hst
    subst hst
    exact aH [] [] (.tup [eA fe,.b fb,.i .i64 0]) Z (dI (am Z) (av _) (av _) Z Z Z) .nil ⟨rfl,rfl⟩
   ·rw[if_neg (by unfold GR;rw[hc];decide)] at hst
    exact⟨i+1,[],⟨hlt,hst⟩,by omega,rfl,⟨ai (by omega),ai Z,ay Z,af,aP,cY Z,J⟩,az 4 Z .nil⟩
  ·have hil:i=G.length:=by omega
   subst hil
   rw[List.drop_length] at hst
   have hst:(iB,false)=q:=hst
   subst hst
   repeat' (first|refine ae ?_|refine aj ?_|refine aa ?_|refine ac (ax ?_)|refine ac (db ?_)|refine ac (bC ?_)|refine ah (ax ?_)|refine ah (bC ?_)|refine ah (db ?_)|refine aw (ax ?_)|refine aw (db ?_)|refine aw (bC ?_)|refine ap (bC ?_)|(refine bc Z Z Z Z ?_ ?_;omega)|refine br Z ab Z Z Z (fun _=>?_)|refine dA Z ab Z Z Z Z (fun _=>?_)|refine aU ab (fun _=>?_)|refine aF (d:=4) Z ab Z Z Z (fun b4=>?_)|refine aF (d:=8) Z ab Z Z Z (fun b8=>?_)|refine aF (d:=11) Z ab Z Z Z (fun b11=>?_)|refine aD ab Z Z Z Z Z Z Z ⟨rfl,rfl⟩ Z Z Z Z Z ?_|(refine aK Z ab Z Z Z Z Z Z ?_ (aE ?_) ?_;omega;omega)|(refine bD ab Z Z Z Z Z Z Z Z _ Z ?_ (fun bO hbO=>?_);(exact dt))|(refine bR ab Z Z Z Z Z (by assumption) (aY (List.getElem?_eq_getElem ?_)) Z Z (by first|exact Nat.add_zero _|rfl) ⟨rfl,rfl⟩ ?_;omega)|(refine dr Z ab Z Z Z ?_ (fun _=>?_);(show List.length _+List.length _≤9223372036854775807;exact dt))|(refine bQ ab Z Z Z Z Z Z (by assumption) (aY (List.getElem?_eq_getElem ?_)) Z Z (by first|exact Nat.add_zero _|rfl) ⟨rfl,rfl⟩ Z Z ?_;omega)|refine cd ab Z Z Z Z Z Z eo ?_|refine mM ab Z Z Z Z ?_|refine aR Z ?_|refine aB Z ?_|(refine ao Z (fun hc=>?_) (fun hc=>?_))<;>try omega|(refine fk Z (fun hc=>?_) (fun hc=>?_))<;>try omega|(refine bF Z (fun hc=>?_) (fun hc=>?_))<;>try omega|(refine ba Z (fun hc=>?_) (fun hc=>?_)))
   exact aH [] [] (.tup [eA iB,.b false,.i .i64 0]) Z (dI (am Z) (av _) (av _) Z Z Z) .nil ⟨rfl,rfl⟩
end Go.Proofs.YtginkbjclkdglaaGreat
