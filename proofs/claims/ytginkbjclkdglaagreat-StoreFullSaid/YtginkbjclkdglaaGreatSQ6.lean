/- law13.StoreFull, by rules. -/
import Derived.Test.YtginkbjclkdglaaGreatSQ1Z
set_option maxHeartbeats 8000000
set_option maxRecDepth 100000
namespace Go.Proofs.YtginkbjclkdglaaGreat
open Go Go.RowKit Mg
theorem BH(room:Int)(acts:List mr)(hal:∀a∈acts,a.l.length≤9223372036854775807):aQ Tryz.prog 3 [.i .i64 room,.sl 7 (acts.map qg)] [] (fun v os=>v= .b true∧os=[]):=by
 have ka:=ow
 by_cases hr:room<0∨4000<room
 ·refine aA ab [] Tryz.func3 Z Tryz.ntmps3 aN Z Z (fun C=>?_) Z
  repeat' (first|refine ae ?_|refine aa ?_|refine ac (ax ?_)|refine ap (bC ?_)|refine nj Z Z Z ?_|refine aU ab (fun _=>?_)|(fail_if_success (refine aM Z cM ?_));(refine aV Z Z (fun hc=>?_) (fun hc=>?_)<;>try omega)|refine aR Z ?_|(refine ao Z (fun hc=>?_) (fun hc=>?_))<;>try omega|(refine gg Z (ka) J Z ?_;rintro _ _ ⟨rfl,rfl⟩;refine⟨rfl,?_⟩))
  all_goals exact jh
 have hr0:0≤(oL room).rm:=by show 0≤room;omega
 have hr1:(oL room).rm≤16777216:=by show room≤_;omega
 have k1:=p8 room
 have k2:=sZ
 have k3:=fun bd bm=>i8 bd bm (oL room) (jJ room) [] none [] (rh (o:=oL room) hr0 hr1) (ln _) (by show 0≤250;decide) (by show (0:Int)≤_;decide) (by show 0<_;decide)
 have hL:∀bd bm,dk bd bm (jJ room).D=[.var bd (cO bm (fc room)),.obj bm (cV (fc room).es (fc room).clk),bL ((fc room).fs.map bZ.O)]:=fun _ _=>rfl
 have hL1:∀bd bm,dk bd bm (fc room)=[.var bd (cO bm (fc room)),.obj bm (cV (fc room).es (fc room).clk),bL ((fc room).fs.map bZ.O)]:=fun _ _=>rfl
 simp only[hL] at k3
 simp only[hL1] at k1
 have hst:=fun S h=>zY.start (o:=oL room) hr0 hr1 (S:=S) h
 have hgo:=ln room
 have hoo:el (oL 0)=el (oL room):=rfl
 rw[hoo] at k2
 refine aA ab [] Tryz.func3 Z Tryz.ntmps3 aN Z Z (fun C=>?_) Z
 repeat' (first|refine ae ?_|refine aj ?_|refine aa ?_|refine ac (ax ?_)|refine ah (ax ?_)|refine aU ab (fun _=>?_)|refine aF (d:=6) Z ab Z Z Z (fun b6=>?_)|refine aD ab Z Z Z Z Z Z Z ⟨rfl,rfl⟩ Z Z Z Z Z ?_|refine aI ab Z Z Z Z Z Z Z Z Z Z Z eo (fun _=>?_)|refine fQ ab Z Z Z Z Z ?_|(fail_if_success (refine aM Z cM ?_));(refine aV Z Z (fun hc=>?_) (fun hc=>?_)<;>try omega)|refine aB Z ?_|(refine ao Z (fun hc=>?_) (fun hc=>?_))<;>try omega|(refine bx [] [] [100,101,102] Z k1 ⟨aP,J⟩ Z J Z Z ?_;rintro _ _ ⟨bd,bm,rfl,rfl⟩;refine⟨_,rfl,rfl,?_⟩)|(refine bx [] [100,101,102] [100,101,102,103,104,105] Z (k3 bd bm) ⟨af,aP,J⟩ Z dD Z Z ?_;rintro _ _ ⟨B1,S1,hB1,hB2,hO1,rfl,rfl⟩;refine⟨_,rfl,rfl,?_⟩)|(refine gg Z (k2) J Z ?_;rintro _ _ ⟨rfl,rfl⟩;refine⟨rfl,?_⟩))
 clear k3 k1 k2
 refine aO (fun q:Nm=>⟨120,[(10,.i .i64 q.1),(9,.sl 3 ((dL q.2.2.1 q.2.2.2.2.2).map eA)),(7,.ptr 104 q.2.1.bs [] 0),(6,.ptr 6 b6 [] 0),(5,.ptr 0 bd [] 0),(1,.sl 7 (acts.map qg))],[(100,.var q.2.1.bd (cO q.2.1.bm q.2.2.1.D)),(101,.obj q.2.1.bm (cV q.2.2.1.D.es q.2.2.1.D.clk)),(102,bL (q.2.2.1.D.fs.map bZ.O)),(103,eC q.2.1.bd q.2.1.bj q.2.2.1.now),(104,.var q.2.1.bs (dm q.2.1 (oL room) q.2.2.1.mem q.2.2.1.msz q.2.2.1.st)),(105,io q.2.1.bt q.2.2.1.ts q.2.2.1.c),(6,.var b6 (el (oL room)))]⟩)
  (fun q=>(q.1≤acts.length∧q.1≤30)∧q.2.1.bd=bd∧zY (oL room) q.1 q.2.2.1 q.2.2.2.1 q.2.2.2.2.1 q.2.2.2.2.2) (fun q=>acts.length - q.1) [38] (0,B1,S1,[],none,[]) ⟨⟨Nat.zero_le _,Nat.zero_le _⟩,hB1,(hst S1 hO1).1⟩ ?_ ?_
 ·exact⟨rfl,⟨ai Z,by rw[(hst S1 hO1).2];exact bu (bP (.head _)) Z,af,af,af,ay Z,J⟩,az 100 Z (az 101 Z (az 102 Z (az 103 Z (az 104 Z (az 105 Z (az 6 Z .nil))))))⟩
 rintro⟨i,B,S,jl,m,fe⟩ ⟨⟨hi1,hi2⟩,hbd,hR⟩
 dsimp only at hi1 hi2 hbd hR ⊢
 have hne:=hR.ne
 have hnx:=hR.nx
 have hnw:=hR.nw
 clear hst hO1 hB1 hB2
 have kd:=fun a ha h1 h2 h3=>yu B (oL room) S jl m fe hR.ok hgo a (hal a ha) h1 h2 h3
 have ko:=i8 B.bd B.bm (oL room) S jl m fe hR.ok hgo (by omega) (by omega) (by omega)
 have hL2:dk B.bd B.bm S.D=[.var B.bd (cO B.bm S.D),.obj B.bm (cV S.D.es S.D.clk),bL (S.D.fs.map bZ.O)]:=rfl
 rw[hL2] at ko
 by_cases hlt:i<acts.length∧i<30
 ·obtain⟨hl1,hl2⟩:=hlt
  have kd:=kd acts[i] (List.getElem_mem hl1) (by omega) (by omega) (by omega)
  have ham:=hal acts[i] (List.getElem_mem hl1)
  repeat' (first|refine ae ?_|refine aj ?_|refine aa ?_|refine ac (ax ?_)|refine ah (ax ?_)|refine gM Z Z Z ?_|refine br Z ab Z Z Z (fun _=>?_)|refine aU ab (fun _=>?_)|refine aF (d:=11) Z ab Z Z Z (fun b11=>?_)|refine aD ab Z Z Z Z Z Z Z ⟨rfl,rfl⟩ Z Z Z Z Z ?_|(refine aK Z ab Z Z Z Z Z Z ?_ (aE ?_) ?_;omega;omega)|refine fQ ab Z Z Z Z Z ?_|(fail_if_success (refine aM Z cM ?_));(refine aV Z Z (fun hc=>?_) (fun hc=>?_)<;>try omega)|(fail_if_success (refine aM Z cM ?_));(refine eO Z Z (fun hc=>?_) (fun hc=>?_)<;>try omega)|refine aB Z ?_|(refine ao Z (fun hc=>?_) (fun hc=>?_))<;>try omega|(refine bx [] [100,101,102,103,104,105] [100,101,102,103,104,105] Z kd ⟨by rw[hbd];exact af,af,aP,aP,J⟩ Z dD Z Z ?_;rintro _ _ ⟨B2,S2,jl2,m2,fe2,e2,hB2,hD,rfl,rfl⟩;have hDe:=hD.er;refine⟨_,rfl,rfl,?_⟩))
  all_goals
   have hD1:=hD.co
   have hRn:=hR.does hD
   have hcl:=hR.ok.cont_len
   have hne2:=hRn.ne
   have ksh:=qz B2 (oL room) S2 jl2 m2 fe2 hD.ok (by omega) acts[i]
  ·have kf:=qR acts[i].l ham 5 (by decide)
   have kw:=AB (dL S fe) (iG acts[i].l 5) (by omega) (by have:=l9 acts[i].l 5;omega)
   rw[if_pos ⟨by assumption,by assumption⟩] at hD1
   rw[←hD1] at kw
   repeat' (first|refine ae ?_|refine aa ?_|refine ac (ax ?_)|refine ac (db ?_)|refine ah (ax ?_)|refine gM Z Z Z ?_|(refine bc Z Z Z Z ?_ ?_;omega)|refine aU ab (fun _=>?_)|(fail_if_success (refine aM Z cM ?_));(refine aV Z Z (fun hc=>?_) (fun hc=>?_)<;>try omega)|(fail_if_success (refine aM Z cM ?_));(refine eO Z Z (fun hc=>?_) (fun hc=>?_)<;>try omega)|refine aB Z ?_|refine bk [] [100,101,102,103,104,105] [100,101,102,103,104,105] Z ksh ⟨af,aP,aP,J⟩ Z dD Z Z ?_|refine au Z (kf) ⟨aP,aP,J⟩ Z ?_|refine au Z (kw) ⟨aP,aP,J⟩ Z ?_)
   all_goals exact⟨(i+1,B2,S2,jl2,m2,fe2),[],⟨⟨hl1,hl2⟩,hB2.trans hbd,hRn⟩,by show acts.length - (i+1)<acts.length - i;omega,rfl,⟨ai (by show (i:Int)+1=((i+1:Nat):Int);omega),ay Z,af,af,af,ay Z,J⟩,az 100 Z (az 101 Z (az 102 Z (az 103 Z (az 104 Z (az 105 Z (az 6 Z .nil))))))⟩
  all_goals
   rw[if_neg (by omega)] at hD1
   rw[←hD1]
   repeat' (first|refine aa ?_|refine ac (ax ?_)|refine ac (db ?_)|refine ah (ax ?_)|(refine bc Z Z Z Z ?_ ?_;omega)|refine aU ab (fun _=>?_)|refine aB Z ?_|refine bk [] [100,101,102,103,104,105] [100,101,102,103,104,105] Z ksh ⟨af,aP,aP,J⟩ Z dD Z Z ?_)
  all_goals exact⟨(i+1,B2,S2,jl2,m2,fe2),[],⟨⟨hl1,hl2⟩,hB2.trans hbd,hRn⟩,by show acts.length - (i+1)<acts.length - i;omega,rfl,⟨ai (by show (i:Int)+1=((i+1:Nat):Int);omega),ay Z,af,af,af,ay Z,J⟩,az 100 Z (az 101 Z (az 102 Z (az 103 Z (az 104 Z (az 105 Z (az 6 Z .nil))))))⟩
 ·repeat' (first|refine ae ?_|refine aa ?_|refine ac (ax ?_)|refine aw (ax ?_)|refine gM Z Z Z ?_|refine br Z ab Z Z Z (fun _=>?_)|refine aU ab (fun _=>?_)|refine cd ab Z Z Z Z Z Z eo ?_|(fail_if_success (refine aM Z cM ?_));(refine aV Z Z (fun hc=>?_) (fun hc=>?_)<;>try omega)|refine aB Z ?_|(refine ao Z (fun hc=>?_) (fun hc=>?_))<;>try omega|(refine rD ab Z Z Z Z Z Z ?_)|(refine bx [] [100,101,102] [100,101,102,103,104,105] Z ko ⟨by rw[hbd];exact af,aP,J⟩ Z dD Z Z ?_;rintro _ _ ⟨B3,S3,hB3,hB4,hO3,rfl,rfl⟩;refine⟨_,rfl,rfl,?_⟩)|(refine gg Z (ka) J Z ?_;rintro _ _ ⟨rfl,rfl⟩;refine⟨rfl,?_⟩))
  all_goals
   obtain⟨o1,o2,_,_,_,o6⟩:=hO3
   have o7:nE S3 fe=nE S fe:=by unfold nE;rw[o6]
   have ksh:=qz B3 (oL room) S3 jl m fe o1 (by omega) Me
   rw[o2] at ksh
   repeat' (first|refine ac (ax ?_)|refine ap (bC ?_)|refine aU ab (fun _=>?_)|(refine bx [] [100,101,102,103,104,105] [100,101,102,103,104,105] Z ksh ⟨af,aP,bu (bS (.cons (av _) (.cons cQ (.cons (av _) (.cons (av _) (.cons (av _) (.cons (av _) (.cons cQ .nil)))))))) Z,J⟩ Z dD Z Z ?_;rintro _ _ ⟨rfl,rfl⟩;refine⟨_,rfl,rfl,?_⟩))
  all_goals exact jh
end Go.Proofs.YtginkbjclkdglaaGreat
