/- law13.StoreAlike, by rules. -/
import Derived.Test.YtginkbjclkdglaaGreatSQ1Z
import Derived.Test.YtginkbjclkdglaaGreatSTM
set_option maxHeartbeats 8000000
set_option maxRecDepth 100000
namespace Go.Proofs.YtginkbjclkdglaaGreat
open Go Go.RowKit Mg
theorem G3{c:Nat}:∀{l:List aC},(∀e∈l,eh e≤c)→kR l≤c*l.length
 |[],_=>Nat.zero_le _
 |x::r,h=>by
  have h1:=h x (List.mem_cons_self ..)
  have h2:=G3 (l:=r) (fun e he=>h e (List.mem_cons_of_mem _ he))
  rw[fD,List.length_cons,Nat.mul_add];omega
theorem Fb(l:List aC):kR (iG l 5)≤20640:=by
 have h1:=l9 l 5
 have h2:=G3 (c:=4128) (l:=iG l 5) (fun e he=>by have:=wj l 5 e he;unfold eh;omega)
 omega
structure qZ(o:eW)(i:Nat)(S:ei)(jl:List (Nat×List (List aC)))(m:Option (List UInt8))(fe:List (Fl×List aC)):Prop where
 ok:cK o S jl m fe
 ne:nE S fe≤5*i
 nx:S.st.next≤1500*i+1
 nw:S.now≤1500*i+1
 jb:jB jl≤20800*i
 jn:jl.length≤i
 te:tE S fe≤20700*i
theorem qZ.wait{o:eW}{i:Nat}{S:ei}{jl:List (Nat×List (List aC))}{m:Option (List UInt8)}{fe:List (Fl×List aC)}(h:qZ o i S jl m fe):qZ o (i+1) S jl m fe:=by
 have h1:=h.ne;have h2:=h.nx;have h3:=h.nw;have h4:=h.jb;have h5:=h.jn;have h6:=h.te
 exact⟨h.ok,by omega,by omega,by omega,by omega,by omega,by omega⟩
theorem qZ.keep{d:Nat}{o:eW}{i:Nat}{S:ei}{jl:List (Nat×List (List aC))}{m:Option (List UInt8)}{fe:List (Fl×List aC)}(h:qZ o i S jl m fe){S':ei}{jl':List (Nat×List (List aC))}{m':Option (List UInt8)}{fe':List (Fl×List aC)}(r:mC d o S jl fe S' jl' m' fe')(hd:d≤1500):qZ o (i+1) S' jl' m' fe':=by
 have h1:=h.ne;have h2:=h.nx;have h3:=h.nw;have h4:=h.jb;have h5:=h.jn;have h6:=h.te
 have r1:=r.le.ne;have r2:=r.le.nx;have r3:=r.le.nw;have r4:=r.le.jb;have r5:=r.le.jn;have r6:=r.le.te
 exact⟨r.ok,by omega,by omega,by omega,by omega,by omega,by omega⟩
theorem qZ.write{o:eW}{i:Nat}{S:ei}{jl:List (Nat×List (List aC))}{m:Option (List UInt8)}{fe:List (Fl×List aC)}(h:qZ o i S jl m fe)(hi:i<30)(hr:o.rm=16777216){l:List aC}{S':ei}{jl':List (Nat×List (List aC))}{m':Option (List UInt8)}{fe':List (Fl×List aC)}{e:Int}(w:Cp o S jl fe (iG l 5) S' jl' m' fe' e):
 qZ o (i+1) S' jl' m' fe'∧e=js (iG l 5)∧dL S' fe'=if js (iG l 5)=0 then Kl (dL S fe) (iG l 5) else dL S fe:=by
 have h1:=h.ne;have h2:=h.nx;have h3:=h.nw;have h4:=h.jb;have h5:=h.jn;have h6:=h.te
 have r1:=w.ne;have r2:=w.nx;have r3:=w.nw;have r4:=w.jb;have r5:=w.jn;have r6:=w.te
 have ht:=Fb l
 have hl:=l9 l 5
 refine⟨⟨w.ok,by omega,by omega,by omega,by omega,by omega,by omega⟩,?_⟩
 by_cases hb:js (iG l 5)=0
 ·have hbs:=mj hl (kI hb).2
  have hf:=h.ok.fits (k:=(ey (iG l 5)).length+8) (by omega) (by rw[hr];omega) (by omega)
  have he:=w.room hb (by omega) hf.2
  refine⟨he.trans hb.symm,?_⟩
  rw[if_pos hb]
  rcases w.good hb with h7|h7
  ·exact h7.2
  ·rw[he] at h7;cases h7.1
 ·rw[if_neg hb];exact w.bad hb
structure Kh(o:eW)(i:Nat)(S:ei)(jl:List (Nat×List (List aC)))(m:Option (List UInt8)):Prop where
 q:qZ o i S jl m []
 st:S.st=zS
def oB:eW:=⟨1048576,16384,32768,100,1073741824,16777216⟩
theorem EV:kO oB:=by unfold kO oB;dsimp only;decide
theorem Kh.write{i:Nat}{S:ei}{jl:List (Nat×List (List aC))}{m:Option (List UInt8)}(h:Kh oB i S jl m)(hi:i<30){l:List aC}{S':ei}{jl':List (Nat×List (List aC))}{m':Option (List UInt8)}{fe':List (Fl×List aC)}{e:Int}(w:Cp oB S jl [] (iG l 5) S' jl' m' fe' e):fe'=[]∧Kh oB (i+1) S' jl' m':=by
 have h1:=h.q.te
 have hz:=h.q.ok.msz
 rw[uR] at hz
 have ht:=Fb l
 have hte:tE S []=kR S.mem+0:=rfl
 have hk:=w.kp (by show S.msz+_<1048576;omega)
 obtain⟨h2,rfl⟩:=hk
 exact⟨rfl,(h.q.write hi Z w).1,h2.trans h.st⟩
abbrev NT:=Nat×(gV×ei×List (Nat×List (List aC))×Option (List UInt8)×List (Fl×List aC))×gV×ei×List (Nat×List (List aC))×Option (List UInt8)
theorem qZ.start{o:eW}{S:ei}(h:cK o S [] none []∧dL S []=dL (jJ o.rm) []∧S.st=(jJ o.rm).st∧S.now≤(jJ o.rm).now+1∧S.D=(jJ o.rm).D∧S.mem=(jJ o.rm).mem):qZ o 0 S [] none []∧dL S []=[]∧S.st=zS:=by
 obtain⟨h1,h2,h3,h4,_,h6⟩:=h
 exact⟨⟨h1,by unfold nE;rw[h6];exact Nat.le_refl _,by rw[h3];show (0:Int)≤_;decide,h4,Nat.le_refl _,Nat.le_refl _,by unfold tE;rw[h6];exact Nat.le_refl _⟩,h2.trans Z,h3⟩
theorem zV(o0:eW)(acts:List mr)(hal:∀a∈acts,a.l.length≤9223372036854775807):aQ Tryz.prog 5 [el o0,.sl 7 (acts.map qg)] [] (fun v os=>v= .b true∧os=[]):=by
 obtain⟨o,ho,hrm⟩:∃o:eW,el o0=el o∧o.rm=16777216:=⟨⟨o0.mem,o0.blk,o0.tab,o0.cnt,o0.size,16777216⟩,rfl,rfl⟩
 rw[ho]
 have ka:=ow
 have kg:=vj o
 by_cases hg:kO o
 rotate_left
 ·have kg:aQ Tryz.prog 16 [el o] [] (fun v os=>v= .b false∧os=[]):=kg.mono (by
   rintro v os ⟨b,hb,rfl,rfl⟩
   cases b
   ·exact⟨rfl,rfl⟩
   ·exact absurd (hb.1 Z) hg)
  refine aA ab [] Tryz.func5 Z Tryz.ntmps5 aN Z Z (fun C=>?_) Z
  unfold el at kg ⊢
  repeat' (first|refine ae ?_|refine aa ?_|refine ac (ax ?_)|refine ap (bC ?_)|refine aU ab (fun _=>?_)|refine c9 (d:=2) Z Z Z Z (fun b2=>?_)|refine aR Z ?_|(refine gg Z (ka) J Z ?_;rintro _ _ ⟨rfl,rfl⟩;refine⟨rfl,?_⟩)|refine au Z (kg) ⟨aP,J⟩ Z ?_)
  all_goals exact jh
 have kg:aQ Tryz.prog 16 [el o] [] (fun v os=>v= .b true∧os=[]):=kg.mono (by
  rintro v os ⟨b,hb,rfl,rfl⟩
  rw[hb.2 hg];exact⟨rfl,rfl⟩)
 have k1:=p8 16777216
 have k3:=fun bd bm=>i8 bd bm o (jJ o.rm) [] none [] (rh (by rw[hrm];decide) (by rw[hrm];decide)) hg (by show 0≤250;decide) (by show (0:Int)≤_;decide) (by show 0<_;decide)
 have k4:=fun bd bm=>i8 bd bm oB (jJ oB.rm) [] none [] (rh (by decide) (by decide)) EV (by show 0≤250;decide) (by show (0:Int)≤_;decide) (by show 0<_;decide)
 have hL:∀bd bm,dk bd bm (jJ o.rm).D=[.var bd (cO bm (fc 16777216)),.obj bm (cV (fc 16777216).es (fc 16777216).clk),bL ((fc 16777216).fs.map bZ.O)]:=fun _ _=>by rw[hrm];rfl
 have hL1:∀bd bm,dk bd bm (fc 16777216)=[.var bd (cO bm (fc 16777216)),.obj bm (cV (fc 16777216).es (fc 16777216).clk),bL ((fc 16777216).fs.map bZ.O)]:=fun _ _=>rfl
 have hL2:∀bd bm,dk bd bm (jJ oB.rm).D=[.var bd (cO bm (fc 16777216)),.obj bm (cV (fc 16777216).es (fc 16777216).clk),bL ((fc 16777216).fs.map bZ.O)]:=fun _ _=>rfl
 simp only[hL] at k3
 simp only[hL2] at k4
 simp only[hL1] at k1
 have hsA:=fun S h=>qZ.start (o:=o) (S:=S) h
 have hsB:=fun S h=>qZ.start (o:=oB) (S:=S) h
 generalize fc 16777216=D0 at k1 k3 k4
 refine aA ab [] Tryz.func5 Z Tryz.ntmps5 aN Z Z (fun C=>?_) Z
 unfold el at kg k3 ⊢
 repeat' (first|(refine qc 2 2 Z Z Z ?_)|refine ae ?_|refine aj ?_|refine aa ?_|refine ac (ax ?_)|refine ah (ax ?_)|refine aU ab (fun _=>?_)|refine c9 (d:=2) Z Z Z Z (fun b2=>?_)|refine cd ab Z Z Z Z Z Z eo ?_|refine fQ ab Z Z Z Z Z ?_|refine aB Z ?_|refine cg 3 [100,101,102] [] [] [1,0,2,3,4,5,6,7] aN aN aN Z Z Z ?_|(refine bx (d:=18) [] [] [100,101,102] Z k1 ⟨aP,J⟩ Z J Z Z ?_;rintro _ _ ⟨bd,bm,rfl,rfl⟩;refine⟨_,rfl,rfl,?_⟩)|(refine bx (d:=24) [] [] [110,111,112] Z k1 ⟨aP,J⟩ Z J Z Z ?_;rintro _ _ ⟨be,bn,rfl,rfl⟩;refine⟨_,rfl,rfl,?_⟩)|(refine bx (d:=20) [] [100,101,102] [100,101,102,103,104,105] Z (k3 bd bm) ⟨af,aP,J⟩ Z dD Z Z ?_;rintro _ _ ⟨BA,SA,hA1,hA2,hOA,rfl,rfl⟩;refine⟨_,rfl,rfl,?_⟩)|(refine bx (d:=27) [] [110,111,112] [110,111,112,113,114,115] Z (k4 be bn) ⟨af,aP,J⟩ Z dD Z Z ?_;rintro _ _ ⟨BB,SB,hB1,hB2,hOB,rfl,rfl⟩;refine⟨_,rfl,rfl,?_⟩)|refine au Z (kg) ⟨aP,J⟩ Z ?_)
 obtain⟨qA,cA,_⟩:=hsA SA hOA
 obtain⟨qB,cB,sB⟩:=hsB SB hOB
 clear k1 k3 k4 hsA hsB hOA hOB hL hL1 hL2
 refine aO (fun q:NT=>⟨109,[(9,.i .i64 q.1),(7,.ptr 114 q.2.2.1.bs [] 0),(5,.ptr 104 q.2.1.1.bs [] 0),(1,.sl 7 (acts.map qg))],[(100,.var q.2.1.1.bd (cO q.2.1.1.bm q.2.1.2.1.D)),(101,.obj q.2.1.1.bm (cV q.2.1.2.1.D.es q.2.1.2.1.D.clk)),(102,bL (q.2.1.2.1.D.fs.map bZ.O)),(103,eC q.2.1.1.bd q.2.1.1.bj q.2.1.2.1.now),(104,.var q.2.1.1.bs (dm q.2.1.1 o q.2.1.2.1.mem q.2.1.2.1.msz q.2.1.2.1.st)),(105,io q.2.1.1.bt q.2.1.2.1.ts q.2.1.2.1.c),(110,.var q.2.2.1.bd (cO q.2.2.1.bm q.2.2.2.1.D)),(111,.obj q.2.2.1.bm (cV q.2.2.2.1.D.es q.2.2.2.1.D.clk)),(112,bL (q.2.2.2.1.D.fs.map bZ.O)),(113,eC q.2.2.1.bd q.2.2.1.bj q.2.2.2.1.now),(114,.var q.2.2.1.bs (dm q.2.2.1 oB q.2.2.2.1.mem q.2.2.2.1.msz q.2.2.2.1.st)),(115,io q.2.2.1.bt q.2.2.2.1.ts q.2.2.2.1.c)]⟩)
  (fun q=>(q.1≤acts.length∧q.1≤30)∧qZ o q.1 q.2.1.2.1 q.2.1.2.2.1 q.2.1.2.2.2.1 q.2.1.2.2.2.2∧Kh oB q.1 q.2.2.2.1 q.2.2.2.2.1 q.2.2.2.2.2∧dL q.2.1.2.1 q.2.1.2.2.2.2=dL q.2.2.2.1 []) (fun q=>acts.length - q.1) [] (0,(BA,SA,[],none,[]),BB,SB,[],none) ⟨⟨Nat.zero_le _,Nat.zero_le _⟩,qA,⟨qB,sB⟩,cA.trans cB.symm⟩ ?_ ?_
 ·exact⟨rfl,⟨ai Z,af,af,ay Z,J⟩,az 100 Z (az 101 Z (az 102 Z (az 103 Z (az 104 Z (az 105 Z (az 110 Z (az 111 Z (az 112 Z (az 113 Z (az 114 Z (az 115 Z (.nil))))))))))))⟩
 clear qA qB cA cB sB
 rintro⟨i,⟨BA,SA,jA,mA,fA⟩,BB,SB,jB,mB⟩ ⟨⟨hi1,hi2⟩,qA,qB,hco⟩
 dsimp only at hi1 hi2 qA qB hco ⊢
 have a1:=qA.ne
 have a2:=qA.nx
 have a3:=qA.nw
 have b1:=qB.q.ne
 have b2:=qB.q.nx
 have b3:=qB.q.nw
 by_cases hlt:i<acts.length∧i<30
 ·obtain⟨hl1,hl2⟩:=hlt
  have kf:=qR acts[i].l (hal _ (List.getElem_mem hl1)) 5 (by decide)
  have fl:=l9 acts[i].l 5
  have fm:=wj acts[i].l 5
  have kwA:=ju BA o SA jA mA fA qA.ok hg (iG acts[i].l 5) fl fm (by omega) (by omega) (by omega)
  have kwB:=ju BB oB SB jB mB [] qB.q.ok EV (iG acts[i].l 5) fl fm (by omega) (by omega) (by omega)
  have kfl:=jE BA o SA jA mA fA qA.ok hg (by omega) (by omega) (by omega)
  have kst:=oT BA o SA jA mA fA qA.ok hg (by omega) (by omega) (by omega)
  have kwh:=nP BA o SA jA mA fA qA.ok hg (by omega) (by omega) (by omega)
  have wA:=fun li S' jl' m' fe' e (w:Cp o SA jA fA (iG li 5) S' jl' m' fe' e)=>qA.write hl2 hrm w
  have wB:=fun li S' jl' m' fe' e (w:Cp oB SB jB [] (iG li 5) S' jl' m' fe' e)=>qB.write hl2 w
  have wC:=fun li S' jl' m' fe' e (w:Cp oB SB jB [] (iG li 5) S' jl' m' fe' e)=>qB.q.write hl2 Z w
  repeat' (first|(refine qc 10 10 Z Z Z ?_)|refine ae ?_|refine aj ?_|refine aa ?_|refine ac (ax ?_)|refine ac (db ?_)|refine ah (ax ?_)|(refine bc Z Z Z Z ?_ ?_;omega)|refine br Z ab Z Z Z (fun _=>?_)|refine aU ab (fun _=>?_)|refine aF (d:=10) Z ab Z Z Z (fun b10=>?_)|refine aD ab Z Z Z Z Z Z Z ⟨rfl,rfl⟩ Z Z Z Z Z ?_|(refine aK Z ab Z Z Z Z Z Z ?_ (aE ?_) ?_;omega;omega)|(fail_if_success (refine aM Z cM ?_));(refine aV Z Z (fun hc=>?_) (fun hc=>?_)<;>try omega)|(refine ao Z (fun hc=>?_) (fun hc=>?_))<;>try omega|(refine bF Z (fun hc=>?_) (fun hc=>?_))<;>try omega|refine cg 13 [100,101,102,103,104,105,110,111,112,113,114,115] [64] [] [0,1,5,6,2,7,3,4,8,9,10] aN aN aN Z Z Z ?_|(refine bx (d:=66) [] [100,101,102,103,104,105] [100,101,102,103,104,105] Z kwA ⟨af,aP,J⟩ Z dD Z Z ?_;rintro _ _ ⟨SA2,jA2,mA2,fA2,eA2,hwA,rfl,rfl⟩;refine⟨_,rfl,rfl,?_⟩)|(refine bx (d:=71) [] [110,111,112,113,114,115] [110,111,112,113,114,115] Z kwB ⟨af,aP,J⟩ Z dD Z Z ?_;rintro _ _ ⟨SB2,jB2,mB2,fB2,eB2,hwB,rfl,rfl⟩;have hee:=(wA _ _ _ _ _ _ hwA).2.1.trans (wC _ _ _ _ _ _ hwB).2.1.symm;refine⟨_,rfl,rfl,?_⟩)|(refine bx [] [100,101,102,103,104,105] [100,101,102,103,104,105] Z kfl ⟨af,J⟩ Z dD Z Z ?_;rintro _ _ ⟨SA2,jA2,mA2,fA2,eA2,_,_,hRA,rfl,rfl⟩;refine⟨_,rfl,rfl,?_⟩)|(refine bx [] [100,101,102,103,104,105] [100,101,102,103,104,105] Z kst ⟨af,J⟩ Z dD Z Z ?_;rintro _ _ ⟨SA2,jA2,mA2,fA2,eA2,_,_,hRA,rfl,rfl⟩;refine⟨_,rfl,rfl,?_⟩)|(refine bx [] [100,101,102,103,104,105] [100,101,102,103,104,105] Z kwh ⟨af,J⟩ Z dD Z Z ?_;rintro _ _ ⟨SA2,jA2,mA2,fA2,eA2,_,hRA,_,rfl,rfl⟩;refine⟨_,rfl,rfl,?_⟩)|refine au Z (kf) ⟨aP,aP,J⟩ Z ?_)
  ·obtain⟨u1,_,u3⟩:=wA _ _ _ _ _ _ hwA
   obtain⟨_,_,v3⟩:=wC _ _ _ _ _ _ hwB
   obtain⟨rfl,u4⟩:=wB _ _ _ _ _ _ hwB
   exact⟨(i+1,(BA,SA2,jA2,mA2,fA2),BB,SB2,jB2,mB2),[],⟨⟨hl1,hl2⟩,u1,u4,by rw[u3,v3,hco]⟩,by show acts.length - (i+1)<acts.length - i;omega,rfl,⟨ai (by show (i:Int)+1=((i+1:Nat):Int);omega),af,af,ay Z,J⟩,az 100 Z (az 101 Z (az 102 Z (az 103 Z (az 104 Z (az 105 Z (az 110 Z (az 111 Z (az 112 Z (az 113 Z (az 114 Z (az 115 Z (.nil))))))))))))⟩
  ·exact⟨(i+1,(BA,SA2,jA2,mA2,fA2),BB,SB,jB,mB),[],⟨⟨hl1,hl2⟩,qA.keep hRA (by decide),⟨qB.q.wait,qB.st⟩,hRA.co.trans hco⟩,by show acts.length - (i+1)<acts.length - i;omega,rfl,⟨ai (by show (i:Int)+1=((i+1:Nat):Int);omega),af,af,ay Z,J⟩,az 100 Z (az 101 Z (az 102 Z (az 103 Z (az 104 Z (az 105 Z (az 110 Z (az 111 Z (az 112 Z (az 113 Z (az 114 Z (az 115 Z (.nil))))))))))))⟩
  ·exact⟨(i+1,(BA,SA2,jA2,mA2,fA2),BB,SB,jB,mB),[],⟨⟨hl1,hl2⟩,qA.keep hRA (by decide),⟨qB.q.wait,qB.st⟩,hRA.co.trans hco⟩,by show acts.length - (i+1)<acts.length - i;omega,rfl,⟨ai (by show (i:Int)+1=((i+1:Nat):Int);omega),af,af,ay Z,J⟩,az 100 Z (az 101 Z (az 102 Z (az 103 Z (az 104 Z (az 105 Z (az 110 Z (az 111 Z (az 112 Z (az 113 Z (az 114 Z (az 115 Z (.nil))))))))))))⟩
  ·exact⟨(i+1,(BA,SA2,jA2,mA2,fA2),BB,SB,jB,mB),[],⟨⟨hl1,hl2⟩,qA.keep hRA (by decide),⟨qB.q.wait,qB.st⟩,hRA.co.trans hco⟩,by show acts.length - (i+1)<acts.length - i;omega,rfl,⟨ai (by show (i:Int)+1=((i+1:Nat):Int);omega),af,af,ay Z,J⟩,az 100 Z (az 101 Z (az 102 Z (az 103 Z (az 104 Z (az 105 Z (az 110 Z (az 111 Z (az 112 Z (az 113 Z (az 114 Z (az 115 Z (.nil))))))))))))⟩
  ·exact⟨(i+1,(BA,SA,jA,mA,fA),BB,SB,jB,mB),[],⟨⟨hl1,hl2⟩,qA.wait,⟨qB.q.wait,qB.st⟩,hco⟩,by show acts.length - (i+1)<acts.length - i;omega,rfl,⟨ai (by show (i:Int)+1=((i+1:Nat):Int);omega),af,af,ay Z,J⟩,az 100 Z (az 101 Z (az 102 Z (az 103 Z (az 104 Z (az 105 Z (az 110 Z (az 111 Z (az 112 Z (az 113 Z (az 114 Z (az 115 Z (.nil))))))))))))⟩
 ·have ks:=jV BB oB SB jB mB [] qB.q.ok (by omega) [] []
  rw[vn qB.q.ok,i9,←hco] at ks
  have ksh:=qz BA o SA jA mA fA qA.ok (by omega) Me
  have kz:=CN BB oB SB (by rw[qB.st];decide)
  rw[qB.st] at kz
  repeat' (first|refine ae ?_|refine aa ?_|refine ac (ax ?_)|refine aw (ax ?_)|refine ap (bC ?_)|refine gM Z Z Z ?_|refine br Z ab Z Z Z (fun _=>?_)|refine aU ab (fun _=>?_)|refine cd ab Z Z Z Z Z Z eo ?_|(fail_if_success (refine aM Z cM ?_));(refine aV Z Z (fun hc=>?_) (fun hc=>?_)<;>try omega)|refine aB Z ?_|(refine ao Z (fun hc=>?_) (fun hc=>?_))<;>try omega|refine bk [] [110,111,112,113,114,115] [110,111,112,113,114,115] Z ks ⟨af,aP,aP,J⟩ Z dD Z Z ?_|(refine bx [] [100,101,102,103,104,105] [100,101,102,103,104,105] Z ksh ⟨af,aP,bu (bS (.cons (av _) (.cons cQ (.cons (av _) (.cons (av _) (.cons (av _) (.cons (av _) (.cons cQ .nil)))))))) Z,J⟩ Z dD Z Z ?_;rintro _ _ ⟨rfl,rfl⟩;refine⟨_,rfl,rfl,?_⟩)|refine bk [] [110,111,112,113,114,115] [110,111,112,113,114,115] Z kz ⟨af,J⟩ Z dD Z Z ?_|(refine gg Z (ka) J Z ?_;rintro _ _ ⟨rfl,rfl⟩;refine⟨rfl,?_⟩))
  all_goals exact jh
end Go.Proofs.YtginkbjclkdglaaGreat
