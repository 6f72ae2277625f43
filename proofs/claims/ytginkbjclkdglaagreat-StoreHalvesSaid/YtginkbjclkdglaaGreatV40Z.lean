/- Room for more: cap and a cut of nil, append of so many zeros to nil, a cut of all of it (slices.Grow). -/
import Derived.Test.YtginkbjclkdglaaGreatB2Z
import Derived.Lib.AppendZeros
import Derived.Test.YtginkbjclkdglaaGreatV13Z
import Derived.Test.YtginkbjclkdglaaGreatSN3Z
import Derived.Test.YtginkbjclkdglaaGreatSN5Z
import Derived.Test.YtginkbjclkdglaaGreatL6Z
import Derived.Test.YtginkbjclkdglaaGreatMM2Z
namespace Go.Proofs.YtginkbjclkdglaaGreat
open Go Go.RowKit
section
variable {m:OM} {P:Program} {T:List (Nat×TI)} {C:il} {ops:Array Oper} {l:List Oper} {K:St→Prop} {n:Nat} {sl:List (Nat×AV)} {hp:List (Nat×HO)} {d:Nat} {ty:Nat} {pos:String} {aft:Array Edge} {gd:Option (Nat×Bool)}
theorem A0(hT:cP P T)(hw:cH ops ⟨n,sl,hp⟩ gd=bE gd){t e sz0 by0:Nat}{z0:AV}{x:Operand}(ht:bI T t=some ⟨.slice e,sz0,by0,z0⟩)(hx:ev ⟨n,sl,hp⟩ x= .nil)(hd:Nat.blt d n=true)
 (h:aq m P C ops l ⟨n,(d,.i .i64 0)::sl,hp⟩ K):aq m P C ops (⟨some d,.call ⟨.builtin .cap,#[x],#[t]⟩,ty,pos,aft,gd⟩::l) ⟨n,sl,hp⟩ K:=by
 refine eI (d:=some d) hw none cT hd Z (fun a w hs=>?_) h
 have Ex:=bg hs x
 rw[hx,lW] at Ex
 refine⟨.int .i64 0,cq.2 Z,fun w' _=>?_⟩
 have hu:=ej (aX hT ht)
 have hu2:P.underlying t=some (.slice (P.elem t)):=by rw[hu];simp[Program.elem,hu]
 have hr:=run_cap_slice (P:=P) (w:=w') t ty none 0 0 hu2
 simp only[execOp,resolve,invoke,builtin,Sem.run_bind,Sem.run_pure,Result.andThen_ok,List.map_toArray,List.map_cons,List.map_nil,Ex,hr]
 rfl
theorem Dd(hT:cP P T)(hw:cH ops ⟨n,sl,hp⟩ gd=bE gd){t:Nat}{x y:Operand}{e sz0 by_:Nat}{z:AV}{te:TI}(hx:ev ⟨n,sl,hp⟩ x= .nil)(hy:ev ⟨n,sl,hp⟩ y= .i .i64 0)(ht:bI T t=some ⟨.slice e,sz0,by_,z⟩)(he:bI T e=some te)
 (hd:Nat.blt d n=true)(h:aq m P C ops l ⟨n,(d,.nil)::sl,hp⟩ K):aq m P C ops (⟨some d,.slice t x none (some y) none,ty,pos,aft,gd⟩::l) ⟨n,sl,hp⟩ K:=by
 refine eI (d:=some d) hw none cT hd Z (fun a w hs=>?_) h
 have Ex:=bg hs x
 rw[hx,lW] at Ex
 have Ey:=bg hs y
 rw[hy,cq] at Ey
 refine⟨.slice none 0 0,lW.2 Z,fun w' _=>?_⟩
 have hb:=go (P:=P) true 0 0 none (some (.int .i64 0)) 0 0 (.inl ⟨rfl,rfl⟩) (.inr ⟨.i64,rfl⟩) (Nat.le_refl _) (Nat.le_refl _) w'
 have hu:=ej (aX hT ht)
 have hsz':=(aX hT he).sizeRun w'
 simp only[execOp,Ex,Ey,Instr.sliceAt,Instr.slice,Sem.run_bind,run_underlying hu,Result.andThen_ok,Option.map_none,Option.map_some,hb,hsz',Sem.run_pure]
 rfl
theorem F5(hT:cP P T)(hw:cH ops ⟨n,sl,hp⟩ gd=bE gd){t tn e sz0 by0 sz1 by1:Nat}{z0 z1:AV}{tk:TK}{sz bs:Nat}{z:AV}{x y:Operand}{kn kq:IntKind}{a:Int}
 (ht:bI T t=some ⟨.slice e,sz0,by0,z0⟩)(he:bI T e=some ⟨tk,sz,bs,z⟩)(htn:bI T tn=some ⟨.int kn,sz1,by1,z1⟩)(hz:z.isVal=true)(hsz:gz z=sz)(hpos:Nat.blt 0 sz=true)
 (hx:ev ⟨n,sl,hp⟩ x= .nil)(hy:ev ⟨n,sl,hp⟩ y= .i kq a)(hd:Nat.blt d n=true)(len:Nat)(hb:a=len)(h0:0<len)(hlen:bs*len≤281474976710656)(hlen2:len≤9223372036854775807)
 (h:∀b c,aq m P C ops l ⟨n,(d,.own d (.slice (some ⟨b,0,none⟩) len c))::sl,(d,.row (.slice (some ⟨b,0,none⟩) 0 c) e sz [])::hp⟩ K):aq m P C ops (⟨some d,.call ⟨.builtin .append,#[x,y],#[t,tn]⟩,ty,pos,aft,gd⟩::l) ⟨n,sl,hp⟩ K:=by
 subst hb
 have hpos:=pG hpos
 refine eD hw [] eZ Z fun a w hs=>?_
 have hE:=r9 hT ht he hz hsz hpos
 have Ex:=bg hs x;have Ey:=bg hs y
 rw[hx,lW] at Ex;rw[hy,cq] at Ey
 rcases (aX hT he).zero with h0'|⟨cs,h1,h2⟩
 ·have h0':z= .any:=h0'
  rw[h0'] at hz;cases hz
 have hrep:bw w (Fz C hp w) z cs:=iw z cs h1
 have hcs:cs.length=sz:=by rw[dF _ _ hrep,hsz]
 obtain⟨i,zv,hi,hzv,hz1,hz2,hz3⟩:=hE.info
 have hzv2:zv=ch z cs:=by rw[hi] at h2;simp only[Option.bind_some,hzv,Option.some.injEq] at h2;exact h2
 have hcells:zv.cells=cs.toArray:=by rw[hzv2];exact dV hrep
 have hrun:=Lib.run_append_nil_zeros (P:=P) w t tn ty e i zv kq kn hE.ut (nR (aX hT htn)) hi hzv len h0 (by omega) (by omega) (by rw[hz2,Nat.mul_comm];exact hlen)
 have hzs:zv.cells.size=sz:=by rw[hcells];simpa using hcs
 have hge:=grownCap_ge w len 0 e
 have hle:=grownCap_le_maxLen w len 0 e (by unfold maxLen;omega)
 generalize grownCap w len 0 e=G at hrun hge hle
 have hcz:(Builtin.zeroCells zv.cells len++Builtin.zeroCells zv.cells (G - len)).size=G*sz:=by
  rw[Array.size_append,size_zeroCells,size_zeroCells,hzs,←Nat.add_mul]
  congr 1;omega
 generalize Builtin.zeroCells zv.cells len++Builtin.zeroCells zv.cells (G - len)=cur at hrun hcz
 have hrow:(w.drew.alloc (.cells cur e)).ownsRow 0 e sz (.slice (some ⟨w.heap.size,0,none⟩) 0 G) 0 []:=by
  refine⟨by simp,.inr ⟨w.heap.size,G,cur,rfl,Nat.zero_le _,iJ.new w.drew e _,Nat.zero_le _,hle,hcz,by simp⟩⟩
 refine⟨_,_,_,.own d (.slice (some ⟨w.heap.size,0,none⟩) len G),?_,hs.newRow (S:=⟨n,sl,hp⟩) d ((cD _ w).drew.alloc _) (xs:=[]) (cells:=[]) (by simp[dq]) hrow (fun b hb=>?_),hd,cf.2 ⟨rfl,rfl⟩,lz (S:=⟨n,sl,hp⟩) ((cD _ w).drew.alloc _) (fun b hb=>by simp[HO.blk,Value.ownBlock] at hb;omega),h _ _⟩
 ·simp only[execOp,resolve,invoke,builtin,Sem.run_bind,Sem.run_pure,Result.andThen_ok,List.map_toArray,List.map_cons,List.map_nil,Ex,Ey,hrun]
 ·simp[Value.ownBlock] at hb;omega
theorem LC(hT:cP P T)(hw:cH ops ⟨n,sl,hp⟩ gd=bE gd){t:Nat}{x y:Operand}{k b len c:Nat}{e sz0 by_:Nat}{z:AV}{te:TI}(hx:ev ⟨n,sl,hp⟩ x= .own k (.slice (some ⟨b,0,none⟩) len c))(hy:ev ⟨n,sl,hp⟩ y= .i .i64 0)(ht:bI T t=some ⟨.slice e,sz0,by_,z⟩)(he:bI T e=some te)
 (hd:Nat.blt d n=true)(h:aq m P C ops l ⟨n,(d,.own k (.slice (some ⟨b,0,none⟩) 0 c))::sl,hp⟩ K):aq m P C ops (⟨some d,.slice t x none (some y) none,ty,pos,aft,gd⟩::l) ⟨n,sl,hp⟩ K:=by
 refine eI (d:=some d) hw none cT hd Z (fun a w hs=>?_) h
 have Ex:=bg hs x
 rw[hx,cf] at Ex
 have Ey:=bg hs y
 rw[hy,cq] at Ey
 refine⟨.slice (some ⟨b,0,none⟩) 0 c,cf.2 ⟨rfl,rfl⟩,fun w' _=>?_⟩
 have hb:=go (P:=P) true len c none (some (.int .i64 0)) 0 0 (.inl ⟨rfl,rfl⟩) (.inr ⟨.i64,rfl⟩) (Nat.le_refl _) (Nat.zero_le _) w'
 have hu:=ej (aX hT ht)
 have hsz':=(aX hT he).sizeRun w'
 simp only[execOp,Ex.1,Ey,Instr.sliceAt,Instr.slice,Sem.run_bind,run_underlying hu,Result.andThen_ok,Option.map_none,Option.map_some,hb,hsz',Sem.run_pure]
 simp[Addr.add]
end
set_option maxHeartbeats 8000000
set_option maxRecDepth 100000
def Nb(sz:Nat){α:Type}(f:α→AV)(l:List α):AV:=.sl sz (l.map f)
theorem Am{α:Type}(ls:List (List α)){i:Nat}(h:i<ls.length):(ls.take (i+1)).flatten=(ls.take i).flatten++ls[i]:=by
 rw[List.take_succ_eq_append_getElem h,List.flatten_append]
 simp
theorem CI{α:Type}(ls:List (List α))(i:Nat):(ls.take i).flatten.length≤ls.flatten.length:=by
 have h:(ls.take i++ls.drop i).flatten=ls.flatten:=by rw[List.take_append_drop]
 rw[←h,List.flatten_append,List.length_append];omega
theorem DJ(n:Nat)(hn:n≤1000000):aQ Tryz.prog 142 [.nil,.i .i64 n] [] (fun r os=>∃v,r= .own 0 v∧os=[.row v 3 1 []]):=by
 refine aA ab [] Tryz.func142 Z Tryz.ntmps142 aN Z Z (fun C=>?_) Z
 by_cases h0:n=0
 ·subst h0
  repeat' (first|refine ae ?_|refine aa ?_|refine ac (ax ?_)|refine ah (ax ?_)|refine ap (bC ?_)|(refine dW Z Z Z Z ?_ ?_;omega)|refine aU ab (fun _=>?_)|refine aB Z ?_|(refine A0 ab Z Z Z Z ?_))
  all_goals exact bp Z Z Z [] [(0,_)] (dz (k:=0)) (.none .nil) ⟨_,rfl,rfl⟩ _ (.inl Z)
 ·repeat' (first|(refine F5 ab Z Z Z Z Z Z Z Z Z Z n (by omega) (by omega) ?_ (by omega) (fun bG cG=>?_);omega)|refine ae ?_|refine aa ?_|refine ac (ax ?_)|refine ah (ax ?_)|refine ap (bC ?_)|(refine dW Z Z Z Z ?_ ?_;omega)|refine aU ab (fun _=>?_)|refine aB Z ?_|(refine ao Z (fun hc=>?_) (fun hc=>?_))<;>try omega|(refine A0 ab Z Z Z Z ?_)|(refine Dd ab Z Z Z Z Z Z ?_)|(refine LC ab Z Z Z Z Z Z ?_))
  all_goals exact bp Z Z Z [] [(0,_)] gZ (az 22 Z .nil) ⟨_,rfl,rfl⟩ _ (.inl Z)
theorem zL(ls:List (List (Int)))(hl:ls.length≤100000)(hn:ls.flatten.length≤100000):aQ Tryz.prog 104 [.sl 1 (ls.map (Nb 1 (AV.i .i64)))] [] (fun v os=>v= .sl 1 (ls.flatten.map (AV.i .i64))∧os=[]):=by
 refine aA ab [] Tryz.func104 Z Tryz.ntmps104 aN Z Z (fun C=>?_) Z
 have hfl:=CI ls
 repeat' (first|refine ae ?_|refine aj ?_|refine aa ?_|refine ac (ax ?_)|refine br Z ab Z Z Z (fun _=>?_)|refine aU ab (fun _=>?_))
 refine aO (fun i:Nat=>⟨36,[(11,.i .i64 i),(10,.i .i64 ls.length),(9,.sl 1 (ls.map (Nb 1 (AV.i .i64)))),(3,.i .i64 (ls.take i).flatten.length),(0,.sl 1 (ls.map (Nb 1 (AV.i .i64))))],[]⟩) (fun i=>i≤ls.length) (fun i=>ls.length - i) [] 0 (Nat.zero_le _) ?_ ?_
 ·exact⟨rfl,⟨ai Z,ai Z,ay Z,ai Z,ay Z,J⟩,.nil⟩
 intro i hi
 by_cases hlt:i<ls.length
 ·have hi1:((i:Int)+1=((i+1:Nat):Int)):=by omega
  have hst:=Am ls hlt
  have h2:=hfl (i+1)
  have hs2:((ls.take i).flatten.length:Int)+(ls[i].length:Int)=(((ls.take (i+1)).flatten.length:Nat):Int):=by rw[hst,List.length_append];omega
  rw[hst,List.length_append] at h2
  have hA:Nb 1 (AV.i .i64) ls[i]= .sl 1 (ls[i].map (AV.i .i64)):=rfl
  clear hst hfl
  generalize (ls.take i).flatten.length=a at*
  repeat' (first|refine ae ?_|refine aj ?_|refine aa ?_|refine ac (ax ?_)|refine ac (db ?_)|refine ah (ax ?_)|(refine bc Z Z Z Z ?_ ?_;omega)|refine br Z ab Z Z Z (fun _=>?_)|refine aU ab (fun _=>?_)|(refine aK Z ab Z Z Z Z Z Z ?_ (aE ?_) ?_;omega;omega)|refine aB Z ?_|(refine ao Z (fun hc=>?_) (fun hc=>?_))<;>try omega)
  all_goals exact⟨i+1,[],hlt,by omega,rfl,⟨ai hi1,ai Z,ay Z,ai hs2,ay Z,J⟩,.nil⟩
 have hie:i=ls.length:=by omega
 subst hie
 rw[List.take_length]
 have hg:=DJ ls.flatten.length (by omega)
 repeat' (first|refine ae ?_|refine aj ?_|refine aa ?_|refine ac (ax ?_)|refine aw (ax ?_)|refine br Z ab Z Z Z (fun _=>?_)|refine aU ab (fun _=>?_)|(refine ao Z (fun hc=>?_) (fun hc=>?_))<;>try omega|(refine jy Z hg ⟨aP,aP,J⟩ Z (fun vR=>?_)))
 refine aO (fun q:Nat×Value=>⟨36,[(27,.i .i64 q.1),(26,.i .i64 ls.length),(25,.sl 1 (ls.map (Nb 1 (AV.i .i64)))),(6,.own 24 q.2)],[(24,.row q.2 3 1 ((ls.take q.1).flatten.map (AV.i .i64)))]⟩) (fun q=>q.1≤ls.length) (fun q=>ls.length - q.1) [] (0,vR) (Nat.zero_le _) ?_ ?_
 ·exact⟨rfl,⟨ai Z,ai Z,ay Z,aJ,J⟩,az 24 Z .nil⟩
 rintro⟨i,v⟩ hi
 dsimp only at hi ⊢
 by_cases hlt:i<ls.length
 ·have hi1:((i:Int)+1=((i+1:Nat):Int)):=by omega
  have hst:=Am ls hlt
  have h2:=hfl (i+1)
  rw[hst,List.length_append] at h2
  clear hfl hg
  generalize (ls.take i).flatten=a at*
  repeat' (first|refine ae ?_|refine aj ?_|refine aa ?_|refine ac (ax ?_)|refine ac (db ?_)|refine ah (ax ?_)|(refine bc Z Z Z Z ?_ ?_;omega)|refine aU ab (fun _=>?_)|(refine aK Z ab Z Z Z Z Z Z ?_ (aE ?_) ?_;omega;omega)|(refine bH ab Z Z Z Z Z Z Z Z Z (by first|exact J|exact rfl) Z Z (fun _=>rfl) ?_ ?_ (fun _=>?_);(exact dt);(exact dt))|(refine ao Z (fun hc=>?_) (fun hc=>?_))<;>try omega)
  all_goals exact⟨(i+1,_),[],hlt,by show ls.length - (i+1)<ls.length - i;omega,rfl,⟨ai hi1,ai Z,ay Z,aJ,J⟩,cr.cons 24 Z (aZ (by rw[hst,List.map_append])) .nil⟩
 ·have hie:i=ls.length:=by omega
  subst hie
  rw[List.take_length]
  repeat' (first|refine ae ?_|refine aa ?_|refine ac (ax ?_)|refine aw (ax ?_)|refine ap (bC ?_)|refine aU ab (fun _=>?_)|(refine ao Z (fun hc=>?_) (fun hc=>?_))<;>try omega)
  all_goals
   refine bp Z Z Z [24] [] (bP ?_) .nil ⟨rfl,rfl⟩ _ (.inl Z)
   exact .head _
end Go.Proofs.YtginkbjclkdglaaGreat
set_option maxHeartbeats 16000000
namespace Go.Proofs.YtginkbjclkdglaaGreat
open Go Go.RowKit Mg
theorem G8{r blk:Int}{x:List UInt8×List UInt8}{A:List (List UInt8×List UInt8)}{m:Option (List UInt8)}{a b:List (Fl×List aC)}(h:a.Perm b)(t:kQ r (x::(A++dR blk m a))):kQ r (x::(A++dR blk m b)):=by
 have hp:(x::(A++dR blk m a)).Perm (x::(A++dR blk m b)):=List.Perm.cons _ ((List.Perm.refl _).append ((List.Perm.refl _).append (h.map _)))
 exact t.of (Nat.le_of_eq (uX hp)) (Nat.le_of_eq hp.length_eq)
theorem Hp(B:gV)(o:eW)(S:ei)(jl:List (Nat×List (List aC)))(m:Option (List UInt8))(fe gn keep:List (Fl×List aC))(X:dH o S jl m fe)(hfs:S.st.fs=fe.map (fun p=>p.1))(hl:fe.length≤1000)(hg:kO o)(j:Jb)
 (hgk0:fe.Perm (gn++keep))(hjn:j.fr++j.to=gn.map (fun p=>p.1.num))(hjl: -10≤j.lev∧j.lev≤9)
 (ml:List aC)(hml:ml=pg ((fe.filter (fun p=>(j.fr++j.to).contains p.1.num)).map (fun p=>p.2)) (iQ S.st.fs j))(hm0:ml.length≤300)(hm:∀e∈ml,e.k.length≤110∧e.v.length≤4010)(htot:cF ((fe.filter (fun p=>(j.fr++j.to).contains p.1.num)).map (fun p=>p.2))≤100000)
 (gs:List (List aC))(hgs:wY o.tab ml [] 0=gs)(hgk:∀g∈gs,L7 o.blk g)(hgl:gs.length≤300)(hn0:0≤S.st.next)(hn1:S.st.next+gs.length<1073741824)(hfx:∀p∈fe,p.1.num<S.st.next)
 (st':iH)(hap:ox S.st (gn.map (fun p=>p.1.num)) ((ff S.st.next (j.lev+1) o.blk gs 0).map (fun p=>p.1)) S.st.log=(st',0))(hck:bT st'=0)(hsl:st'.fs.length≤250):
 aQ Tryz.prog 53 [.ptr 104 B.bs [] 0,eJ j] (dY B o S) (fun r os=>∃S' e,
  ((e=(9:Int)∧kQ o.rm ((mS,(dP st').1)::(de (iz jl)++dR o.blk m (fe++ff S.st.next (j.lev+1) o.blk gs 0)))∧dH o S' jl m fe∧Kg S S')∨(e=0∧dH o S' jl (some (dP st').1) (keep++ff S.st.next (j.lev+1) o.blk gs 0)∧S'.now=S.now∧S'.mem=S.mem∧S'.msz=S.msz∧S'.st=st'))∧r= .i .i64 e∧os=dY B o S'):=by
 have hfl:j.fr.length≤1000∧j.to.length≤1000:=by
  have h1:=congrArg List.length hjn
  rw[List.length_append,List.length_map] at h1
  have h2:=hgk0.length_eq
  rw[List.length_append] at h2
  omega
 have k1:=zL [j.fr,j.to] (by show 2≤100000;decide) (by simp;omega)
 have hcc:[j.fr,j.to].flatten=j.fr++j.to:=by simp
 rw[hcc] at k1
 have k2:=CZ B o S jl m fe X hfs hl (j.fr++j.to) (by rw[List.length_append];omega)
 have k3:=Gi S.st j (by rw[hfs,List.length_map];exact hl) (by omega) (by omega) (by omega)
 have k4:=t8 ((fe.filter (fun p=>(j.fr++j.to).contains p.1.num)).map (fun p=>p.2)) (iQ S.st.fs j) (by
  rw[List.length_map];exact Nat.le_trans (List.length_filter_le _ _) hl) htot
 rw[←hml] at k4
 have hmA:Md ((fe.filter (fun p=>(j.fr++j.to).contains p.1.num)).map (fun p=>p.2))=(fe.filter (fun p=>(j.fr++j.to).contains p.1.num)).map (fun p=>rV p.2):=by unfold Md;rw[List.map_map];rfl
 rw[hmA] at k4
 generalize (fe.filter (fun p=>(j.fr++j.to).contains p.1.num)).map (fun p=>rV p.2)=LA at k2 k4
 generalize iQ S.st.fs j=la at k3 k4
 have k5:=xK B o S jl m fe X ml (j.lev+1) hg hm0 hm gs hgs hgk hgl hn0 hn1 hfx
 have hPl:=iP S.st.next (j.lev+1) o.blk gs 0
 generalize ff S.st.next (j.lev+1) o.blk gs 0=P at k5 hap hPl ⊢
 have k6:=fun S2 k (X2:dH o S2 jl m (fe++P.take k))=>qy B o S2 jl m fe (P.take k) X2 9 (by decide) (by rw[List.length_take];omega)
 have k7:=fun S2 (X2:dH o S2 jl m (fe++P)) (h2:S2.st=S.st)=>rn B o S2 jl m gn keep P (X2.perm (hgk0.append (List.Perm.refl _))) S.st.log st' (by rw[h2];exact hap) hck (by rw[h2,hfs,List.length_map];exact hl) (by have:=hgk0.length_eq;rw[List.length_append] at this;omega) (by omega) hsl
 have hPt:P.take gs.length=P:=List.take_of_length_le (by omega)
 rw[hjn] at k1 k2
 have hnA:((gn.map (fun p=>p.1.num)).map (AV.i .i64))=gn.map (fun p=>.i .i64 p.1.num):=by rw[List.map_map];rfl
 rw[hnA] at k1 k2
 refine aA ab [(100,.var B.bd (cO B.bm S.D)),(101,.obj B.bm (cV S.D.es S.D.clk)),(102,bL (S.D.fs.map bZ.O)),(103,eC B.bd B.bj S.now),(104,.var B.bs (dm B o S.mem S.msz S.st)),(105,io B.bt S.ts S.c)] Tryz.func53 Z Tryz.ntmps53 aN Z Z (fun C=>?_) Z
 unfold eJ at k3 ⊢
 repeat' (first|refine ae ?_|refine aa ?_|refine ac (ax ?_)|refine ah (ax ?_)|(refine bc Z Z Z Z ?_ ?_;omega)|refine aU ab (fun _=>?_)|refine c9 (d:=3) Z Z Z Z (fun b3=>?_)|refine aI ab Z Z Z Z Z Z Z Z Z Z Z eo (fun _=>?_)|refine aR Z ?_|refine aB Z ?_|refine cg 5 [100,101,102,103,104,105] [30,31] [] [0,1,2,3,4,9,5,6,10,11,7,8,12,13,14,15,16,17] aN aN aN Z Z Z ?_|(refine bx [13] [] [] Z k1 ⟨bu (bP (.head _)) Z,J⟩ Z J Z Z ?_;rintro _ _ ⟨rfl,rfl⟩;refine⟨_,rfl,rfl,?_⟩)|refine bk [] [100,101,102,103,104,105] [100,101,102,103,104,105] Z k2 ⟨af,aP,J⟩ Z dD Z Z ?_|(refine bx [] [100,101,102,103,104,105] [100,101,102,103,104,105] Z k5 ⟨af,aP,aP,J⟩ Z dD Z Z ?_;rintro _ _ ⟨S2,kk,e,⟨rfl,rfl⟩|⟨rfl,htt⟩,hX2,hS2,rfl,rfl⟩<;>refine⟨_,rfl,rfl,?_⟩)|refine au Z (k3) ⟨aP,aP,J⟩ Z ?_|refine au Z (k4) ⟨aP,aP,J⟩ Z ?_)
 rotate_left
 ·repeat' (first|refine ac (ax ?_)|refine ap (bC ?_)|refine aU ab (fun _=>?_)|(refine bx [] [100,101,102,103,104,105] [100,101,102,103,104,105] Z (k6 S2 kk hX2) ⟨af,aP,aP,J⟩ Z dD Z Z ?_;rintro _ _ ⟨S3,hX3,hS3,rfl,rfl⟩;refine⟨_,rfl,rfl,?_⟩))
  all_goals
   exact aH [] [(100,_),(101,_),(102,_),(103,_),(104,_),(105,_)] (.i .i64 9) Z (bX (am Z) Z) (az 100 Z (az 101 Z (az 102 Z (az 103 Z (az 104 Z (az 105 Z .nil)))))) ⟨S3,9,.inl ⟨rfl,htt.of (by rw[dN];omega) (by rw[List.length_cons];omega),hX3,hS2.trans hS3⟩,rfl,rfl⟩
 rw[hPt]
 rw[hPt] at hX2
 have hlg:S2.st.log=S.st.log:=by rw[hS2.st]
 repeat' (first|(rw[hlg])|refine ac (ax ?_)|refine ap (bC ?_)|refine aU ab (fun _=>?_)|(refine bx [] [100,101,102,103,104,105] [100,101,102,103,104,105] Z (k7 S2 hX2 hS2.st) ⟨af,aP,aP,aP,J⟩ Z dD Z Z ?_;rintro _ _ ⟨S3,e,⟨rfl,htt,hX3,hS3⟩|⟨rfl,hX3,h3n,h3m,h3z,h3s⟩,rfl,rfl⟩<;>refine⟨_,rfl,rfl,?_⟩))
 ·exact aH [] [(100,_),(101,_),(102,_),(103,_),(104,_),(105,_)] (.i .i64 9) Z (bX (am Z) Z) (az 100 Z (az 101 Z (az 102 Z (az 103 Z (az 104 Z (az 105 Z .nil)))))) ⟨S3,9,.inl ⟨rfl,G8 (hgk0.symm.append (List.Perm.refl P)) htt,hX3.perm hgk0.symm,hS2.trans hS3⟩,rfl,rfl⟩
 ·exact aH [] [(100,_),(101,_),(102,_),(103,_),(104,_),(105,_)] (.i .i64 0) Z (bX (am Z) Z) (az 100 Z (az 101 Z (az 102 Z (az 103 Z (az 104 Z (az 105 Z .nil)))))) ⟨S3,0,.inr ⟨rfl,hX3,h3n.trans hS2.now,h3m.trans hS2.mem,h3z.trans hS2.msz,h3s⟩,rfl,rfl⟩
set_option maxHeartbeats 8000000
theorem Dz{s:iH}{n:Int}{l:List Fl}(hck:bT s=0)(hl:∀x∈l,x∈jt s.fs n)(hnd:l.Nodup):((lu s.fs n l).fr++(lu s.fs n l).to).Nodup:=by
 have hnum:=uc hck
 have hfn:s.fs.Pairwise (fun a b=>a.num≠b.num):=(fZ.1 hck).2.2.nums
 refine List.nodup_append.2 ⟨?_,?_,fun a ha b hb e=>?_⟩
 ·show (l.map Fl.num).Nodup
  refine List.pairwise_map.2 ?_
  refine List.Pairwise.imp_of_mem ?_ hnd
  intro a b ha hb hab he
  exact hab (hnum a (gk.1 (hl a ha)).1 b (gk.1 (hl b hb)).1 he)
 ·show (((jt s.fs (n+1)).filter (fi (mE l))).map Fl.num).Nodup
  refine List.pairwise_map.2 ?_
  exact hfn.sublist ((List.filter_sublist).trans List.filter_sublist)
 ·obtain⟨f,hf,rfl⟩:=List.mem_map.1 ha
  obtain⟨g,hg,rfl⟩:=List.mem_map.1 hb
  have hg1:=(List.mem_filter.1 hg).1
  have:=hnum f (gk.1 (hl f hf)).1 g (gk.1 hg1).1 e
  subst this
  have h1:=(gk.1 (hl f hf)).2
  have h2:=(gk.1 hg1).2
  omega
theorem Ig{s:iH}{j:Jb}(hj:v4 s j):∀n∈j.fr++j.to,∃f∈s.fs,f.num=n:=fun n hn=>by
 obtain⟨_,k,l,rfl,hl,_⟩:=hj
 rcases List.mem_append.1 hn with h|h
 ·obtain⟨f,hf,rfl⟩:=List.mem_map.1 h
  exact⟨f,(gk.1 (hl f hf)).1,rfl⟩
 ·obtain⟨f,hf,rfl⟩:=List.mem_map.1 h
  exact⟨f,(gk.1 (List.mem_filter.1 hf).1).1,rfl⟩
theorem yv(B:gV)(o:eW)(S:ei)(jl:List (Nat×List (List aC)))(m:Option (List UInt8))(fe:List (Fl×List aC))(h:cK o S jl m fe)(hg:kO o)(hn:nE S fe≤250)(hx:S.st.next≤1073741000)(_hw:S.now<1073741000)
 (j:Jb)(hj:v4 S.st j)(hjl:0≤j.lev∧j.lev≤2)(hnd:(j.fr++j.to).Nodup):
 aQ Tryz.prog 53 [.ptr 104 B.bs [] 0,eJ j] (dY B o S) (fun r os=>∃S' m' fe' e,(e=(0:Int)∨e=9)∧mC 250 o S jl fe S' jl m' fe'∧S'.now=S.now∧S'.mem=S.mem∧((e=0→∀p∈fe',p∈uM fe j∨(p.1.lev=j.lev+1∧(iQ S.st.fs j=true→∀x∈p.2,x.g=false)))∧(e=9→Jf o (jB jl) (nE S fe)))∧r= .i .i64 e∧os=dY B o S'):=by
 obtain⟨hmu,hmk⟩:=h.memK
 obtain⟨hl1,hl2,hl3⟩:=h.lens hn
 have hgb:1≤o.blk∧o.blk≤16384:=⟨hg.2.2.1,hg.2.2.2.1⟩
 have hfx:=LR h.fs hj hjl.1
 have hkok:=h.kok
 have hinj:∀p∈fe,∀q∈fe,p.1.num=q.1.num→p=q:=fun p hp q hq he=>by
  obtain⟨a,ha,rfl⟩:=List.mem_iff_getElem.1 hp
  obtain⟨b,hb,rfl⟩:=List.mem_iff_getElem.1 hq
  have h1:=List.pairwise_iff_getElem.1 (List.pairwise_map.1 h.x.nd)
  rcases Nat.lt_trichotomy a b with h2|h2|h2
  ·exact absurd he (h1 a b ha hb h2)
  ·subst h2;rfl
  ·exact absurd he.symm (h1 b a hb ha h2)
 have hpm:((oA fe j).map (fun p=>p.1.num)).Perm (j.fr++j.to):=by
  refine(List.perm_ext_iff_of_nodup (h.x.nd.sublist (List.filter_sublist.map _)) hnd).2 (fun n=>⟨fun hm=>?_,fun hm=>?_⟩)
  ·obtain⟨p,hp,rfl⟩:=List.mem_map.1 hm
   exact List.mem_append.2 (ke.1 (f9.1 hp).2)
  ·obtain⟨f,hf,rfl⟩:=Ig hj n hm
   rw[h.fs] at hf
   obtain⟨p,hp,rfl⟩:=List.mem_map.1 hf
   exact List.mem_map.2 ⟨p,f9.2 ⟨hp,ke.2 (List.mem_append.1 hm)⟩,rfl⟩
 obtain⟨gn,hgp,hgm⟩:=oa (fun p:Fl×List aC=>p.1.num) hpm
 have hgp2:fe.Perm (gn++uM fe j):=(Iq fe j).trans (hgp.append (List.Perm.refl _))
 have hga:dG ((oA fe j).map (·.2)):=fun l hl=>by
  obtain⟨p,hp,rfl⟩:=List.mem_map.1 hl
  exact(hkok p (f9.1 hp).1).up
 have hml:=pX ((oA fe j).map (·.2)) (iQ S.st.fs j) hga
 have hMu:Up (cU ((oA fe j).map (·.2)) (iQ S.st.fs j)):=dx _ _
 have hMk:∀x∈cU ((oA fe j).map (·.2)) (iQ S.st.fs j),∃p∈oA fe j,x∈p.2:=fun x hx2=>by
  obtain⟨l,hl,hxl⟩:=kW _ hga x ((lq _ _ _).1 hx2).1
  obtain⟨p,hp,rfl⟩:=List.mem_map.1 hl
  exact⟨p,hp,hxl⟩
 have hMo:∀x∈cU ((oA fe j).map (·.2)) (iQ S.st.fs j),mL x:=fun x hx2=>by
  obtain⟨p,hp,hxp⟩:=hMk x hx2
  exact h.ent p (f9.1 hp).1 x hxp
 have htot:cF (fe.map (·.2))=cF ((oA fe j).map (·.2))+cF ((uM fe j).map (·.2)):=by
  rw[qw ((Iq fe j).map (·.2)),List.map_append,sD]
 have hwt:wT (fe.map (·.2))=wT ((oA fe j).map (·.2))+wT ((uM fe j).map (·.2)):=by
  rw[yJ ((Iq fe j).map (·.2)),List.map_append,Cy]
 have hMl:(cU ((oA fe j).map (·.2)) (iQ S.st.fs j)).length≤cF ((oA fe j).map (·.2)):=by rw[←hml];exact qK _ _
 have hMw:kR (cU ((oA fe j).map (·.2)) (iQ S.st.fs j))≤wT ((oA fe j).map (·.2)):=Nat.le_trans (u0 _ _) (Ev _)
 have hne:cF ((oA fe j).map (·.2))≤250:=by unfold nE at hn;omega
 have hMg:iQ S.st.fs j=true→∀x∈cU ((oA fe j).map (·.2)) (iQ S.st.fs j),x.g=false:=fun hla x hx2=>by
  have:=((lq _ _ _).1 hx2).2
  rw[hla] at this
  simpa using this
 have hjt:=fun base blk gs hgs e he=>JT (gs:=gs) h.rel hkok hfx hjl.1 hinj (iQ S.st.fs j) (JR h.fs hkok) hgs base blk e he
 obtain⟨M,hM⟩:∃M,cU ((oA fe j).map (·.2)) (iQ S.st.fs j)=M:=⟨_,rfl⟩
 rw[hM] at hml hMu hMk hMo hMl hMw hjt hMg
 have hgk:=EG (size:=o.tab) hgb (by omega:M.length≤300) hMu hMo
 have hgf:=sH o.tab M
 have hgl:=uF o.tab M [] 0
 have hgmm:=ri o.tab M [] 0
 obtain⟨gs,hgs⟩:∃gs,wY o.tab M [] 0=gs:=⟨_,rfl⟩
 rw[hgs] at hgk hgf hgl hgmm
 have hgo:∀g∈gs,∀x∈g,x∈M:=fun g hg2 x hx2=>((hgmm g hg2).2 x hx2).resolve_left (by simp)
 obtain⟨hh,_,hGS⟩:=fZ.1 h.chk
 have hn0:0≤S.st.next∧0≤S.st.log∧S.st.log≤1073741824:=by unfold gG at hh;omega
 have hfr:=yf (base:=S.st.next) (lev:=j.lev+1) hgk (fun g hg2 x hx2=>hMo x (hgo g hg2 x hx2)) hn0.1 (by omega) (by omega)
 have hpr:=Bl (base:=S.st.next) (lev:=j.lev+1) (blk:=o.blk) (fun g hg2=>(hgk g hg2).pos) (by rw[hgf];exact hMu)
 have hPl:=iP S.st.next (j.lev+1) o.blk gs 0
 have hkf:iR S.st.fs (j.fr++j.to)=(uM fe j).map (fun p=>p.1):=by
  unfold iR uM
  rw[h.fs,List.filter_map];rfl
 have hfl:S.st.fs.length=fe.length:=by rw[h.fs,List.length_map]
 have hkl:(uM fe j).length≤fe.length:=List.length_filter_le _ _
 have hap:=wN (s:=S.st) (gone:=j.fr++j.to) (fresh:=(ff S.st.next (j.lev+1) o.blk gs 0).map (fun p=>p.1)) (log:=S.st.log) h.chk hn0.2 (fun n hn2=>by
  obtain⟨f,hf,he⟩:=Ig hj n hn2
  unfold BC
  exact List.any_eq_true.2 ⟨f,hf,beq_iff_eq.2 he⟩) (by omega) hfr hpr.1 hpr.2 (fun q hq f hf e h0=>by
  rw[hkf] at hq
  obtain⟨q0,hq0,rfl⟩:=List.mem_map.1 hq
  obtain⟨p,hp,rfl⟩:=List.mem_map.1 hf
  obtain⟨i,hi,hpe⟩:=fE hp
  have hgi:=List.mem_of_getElem? hi
  rw[hpe] at e ⊢
  have e:q0.1.lev=j.lev+1:=e
  obtain⟨x,hx2,hxk⟩:=tC (hgk _ hgi).pos
  obtain⟨y,hy2,hyk⟩:=rK (hgk _ hgi).pos
  obtain⟨c,hc,hxc⟩:=hMk x (hgo _ hgi x hx2)
  obtain⟨d,hd,hyd⟩:=hMk y (hgo _ hgi y hy2)
  show Op.bytesLess q0.1.last (qo p.2)=true∨Op.bytesLess (np p.2) q0.1.first=true
  rw[←hxk,←hyk]
  rcases hfx.side q0 hq0 e with hs|hs
  ·exact .inl (gB (hs c hc) ((hkok c (f9.1 hc).1).cov hxc).1)
  ·exact .inr (ic ((hkok d (f9.1 hd).1).cov hyd).2 (hs d hd))) (by rw[hkf,List.length_map,List.length_map];omega)
 have hperm:(mV S.st (j.fr++j.to) ((ff S.st.next (j.lev+1) o.blk gs 0).map (fun p=>p.1)) S.st.log).fs.Perm ((uM fe j++ff S.st.next (j.lev+1) o.blk gs 0).map (fun p=>p.1)):=by
  show (cE (eu jK) _).Perm _
  refine(nX _).trans ?_
  rw[hkf,List.map_append]
 have hnx:=rG ((ff S.st.next (j.lev+1) o.blk gs 0).map (fun p=>p.1)) S.st.next
 have hkt:(uM fe j).length≤cF ((uM fe j).map (·.2)):=ye (fun p hp=>(hkok p (gF.1 hp).1).pos)
 have hnm:=rF ((ff S.st.next (j.lev+1) o.blk gs 0).map (fun p=>p.1)) S.st.next (S.st.next+250) (by omega) (fun f hf=>by
  obtain⟨p,hp,rfl⟩:=List.mem_map.1 hf
  have:=rM S.st.next (j.lev+1) o.blk gs 0 p hp
  omega)
 have hsl:(mV S.st (j.fr++j.to) ((ff S.st.next (j.lev+1) o.blk gs 0).map (fun p=>p.1)) S.st.log).fs.length≤250:=by
  rw[hperm.length_eq,List.length_map,List.length_append];unfold nE at hn;omega
 have hstn:(mV S.st (j.fr++j.to) ((ff S.st.next (j.lev+1) o.blk gs 0).map (fun p=>p.1)) S.st.log).next=iO S.st.next ((ff S.st.next (j.lev+1) o.blk gs 0).map (fun p=>p.1)):=rfl
 have hstl:(mV S.st (j.fr++j.to) ((ff S.st.next (j.lev+1) o.blk gs 0).map (fun p=>p.1)) S.st.log).log=S.st.log:=rfl
 generalize mV S.st (j.fr++j.to) ((ff S.st.next (j.lev+1) o.blk gs 0).map (fun p=>p.1)) S.st.log=st' at hap hperm hsl hstn hstl
 have hf:=Hp B o S jl m fe gn (uM fe j) h.x h.fs (by omega) hg j hgp2 hgm.symm (by omega) M hml.symm (by omega) (fun e he=>(hMo e he).sz) (by
  show cF ((oA fe j).map (·.2))≤_;omega) gs hgs hgk (by omega) hn0.1 (by omega) (fun p hp=>(h.good p hp).2.2.2) st' (by rw[hgm];exact hap.1) hap.2 hsl
 refine hf.mono ?_
 rintro r os ⟨S',e,hc,hr,ho⟩
 rcases hc with ⟨rfl,htt,X,hs⟩|⟨rfl,X,h1,h2,h3,h4⟩
 ·exact⟨S',m,fe,9,.inr Z,h.same X hs.mem hs.msz hs.st (by rw[hs.now];exact Nat.le_refl _) (by rw[hs.now];exact Nat.le_succ _),hs.now,hs.mem,⟨fun h0=>(by cases h0),fun _=>h.tight hl2 (fun p hp=>by
   obtain⟨i,hi,_⟩:=fE hp
   have hgi:=List.mem_of_getElem? hi
   exact⟨(hgk _ hgi).mke,(hgk _ hgi).few,fun x hx2=>hMo x (hgo _ hgi x hx2),(hgk _ hgi).pos⟩) hap.2 hsl htt (by rw[l6,jR gs,hgf];unfold nE;omega)⟩,hr,ho⟩
 ·obtain⟨fe',hp,hfe⟩:=oa (fun p:Fl×List aC=>p.1) hperm.symm
  have X':=X.perm hp
  have hok:cK o S' jl (some (dP st').1) fe':=by
   refine⟨X',by rw[h4,hfe],by rw[h4];exact hap.2,.inr (by rw[h4]),by rw[h4,hstl];exact h.jlog,h.bat,by rw[h2];exact h.mem,by rw[h3,h2];exact h.msz,fun p hp2 x hx2=>?_,by rw[h4,hstl,h1];exact h.lo⟩
   rcases List.mem_append.1 (hp.mem_iff.2 hp2) with hp2|hp2
   ·exact h.ent p (gF.1 hp2).1 x hx2
   ·obtain⟨i,hi,_⟩:=fE hp2
    exact hMo x (hgo _ (List.mem_of_getElem? hi) x hx2)
  refine⟨S',_,fe',0,.inl Z,⟨hok,?_,?_⟩,h1,h2,⟨fun _ p hp2=>?_,fun h0=>(by cases h0)⟩,hr,ho⟩
  ·refine Cb (fun x=>?_)
   rw[hok.cont_iff,h.cont_iff,h2,←Em.perm hp]
   constructor
   ·rintro⟨h5,h6⟩
    exact⟨h5.imp id (fun h7=>⟨(hjt S.st.next o.blk gs hgf x h6).2 h7.1,h7.2⟩),h6⟩
   ·rintro⟨h5,h6⟩
    exact⟨h5.imp id (fun h7=>⟨(hjt S.st.next o.blk gs hgf x h6).1 h7.1,h7.2⟩),h6⟩
  ·have hw1:wT (fe'.map (·.2))=wT ((uM fe j).map (·.2))+kR M:=by
    rw[←yJ (hp.map _),List.map_append,Cy,l6,yK gs,hgf]
   have hw2:cF (fe'.map (·.2))=cF ((uM fe j).map (·.2))+M.length:=by
    rw[←qw (hp.map _),List.map_append,sD,l6,jR gs,hgf]
   refine⟨?_,?_,Nat.le_refl _,?_,by rw[h1];omega,Nat.le_refl _⟩
   ·unfold nE;rw[h2,hw2];omega
   ·unfold tE;rw[h2,hw1];omega
   ·rw[h4,hstn];exact⟨hnx.1,hnm⟩
  ·rcases List.mem_append.1 (hp.mem_iff.2 hp2) with hp2|hp2
   ·exact .inl hp2
   ·obtain⟨i,hi,hpe⟩:=fE hp2
    exact .inr ⟨by rw[hpe];rfl,fun hla x hx2=>hMg hla x (hgo _ (List.mem_of_getElem? hi) x hx2)⟩
end Go.Proofs.YtginkbjclkdglaaGreat
