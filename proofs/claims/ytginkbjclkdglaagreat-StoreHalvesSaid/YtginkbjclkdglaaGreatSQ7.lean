/- law13.StoreHalves, by rules. -/
import Derived.Test.YtginkbjclkdglaaGreatSQ1Z
set_option maxHeartbeats 8000000
set_option maxRecDepth 100000
namespace Go.Proofs.YtginkbjclkdglaaGreat
open Go Go.RowKit Mg
theorem xu(key:List UInt8)(x:aC)(hk:key≠[]):bJ [] key x=Op.bytesLess x.k key:=by
 unfold bJ
 have h1:Op.bytesLess x.k []=false:=by cases x.k<;>rfl
 have h2:decide (key.length=0)=false:=by cases key with|nil=>exact absurd Z hk|cons a r=>rfl
 rw[h1,h2];rfl
theorem xv(key:List UInt8)(x:aC):bJ key [] x=!Op.bytesLess x.k key:=by
 unfold bJ
 rw[show decide (([]:List UInt8).length=0)=true from rfl,Bool.true_or,Bool.and_true]
theorem DG{c:List aC}(h:Up c){key:List UInt8}(hk:key≠[]):c.filter (bJ [] key)++c.filter (bJ key [])=c:=by
 obtain⟨h1,h2⟩:=sA h key
 have e1:c.filter (bJ [] key)=c.take (eG c key):=by rw[h1];congr 1;funext x;exact xu key x hk
 have e2:c.filter (bJ key [])=c.drop (eG c key):=by rw[h2];congr 1;funext x;exact xv key x
 rw[e1,e2,List.take_append_drop]
theorem Gq{a b c:List aC}{key:List UInt8}(hk:key≠[])(ha:a=c.filter (bJ [] key))(hb:b=c.filter (bJ key []))(hc:a++b=c){i:Nat}(hi:i<c.length):decide ((i:Int)<(a.length:Int))=Op.bytesLess c[i].k key:=by
 subst hc
 by_cases h:i<a.length
 ·have h1:(a++b)[i]∈a:=by rw[List.getElem_append_left h];exact List.getElem_mem h
  generalize (a++b)[i]=x at h1 ⊢
  rw[ha] at h1
  have h2:=(List.mem_filter.1 h1).2
  rw[xu key x hk] at h2
  rw[h2];exact decide_eq_true (by omega)
 ·have h1:(a++b)[i]∈b:=by rw[List.getElem_append_right (by omega)];exact List.getElem_mem _
  generalize (a++b)[i]=x at h1 ⊢
  rw[hb] at h1
  have h2:=(List.mem_filter.1 h1).2
  rw[xv key x] at h2
  have h3:Op.bytesLess x.k key=false:=by simpa using h2
  rw[h3];exact decide_eq_false (by omega)
theorem xg(acts:List mr)(key:List UInt8)(hal:∀a∈acts,a.l.length≤9223372036854775807):aQ Tryz.prog 4 [.sl 7 (acts.map qg),.s key] [] (fun v os=>v= .b true∧os=[]):=by
 have ka:=ow
 have hr0:0≤(oL 16777216).rm:=by decide
 have hr1:(oL 16777216).rm≤16777216:=by decide
 have k1:=p8 16777216
 have k2:=sZ
 have k3:=fun bd bm=>i8 bd bm (oL 16777216) (jJ 16777216) [] none [] (rh (o:=oL 16777216) hr0 hr1) (ln _) (by decide) (by decide) (by decide)
 have hL:∀bd bm,dk bd bm (jJ 16777216).D=[.var bd (cO bm (fc 16777216)),.obj bm (cV (fc 16777216).es (fc 16777216).clk),bL ((fc 16777216).fs.map bZ.O)]:=fun _ _=>rfl
 have hL1:∀bd bm,dk bd bm (fc 16777216)=[.var bd (cO bm (fc 16777216)),.obj bm (cV (fc 16777216).es (fc 16777216).clk),bL ((fc 16777216).fs.map bZ.O)]:=fun _ _=>rfl
 simp only[hL] at k3
 simp only[hL1] at k1
 have hst:=fun S h=>zY.start (o:=oL 16777216) hr0 hr1 (S:=S) h
 have hgo:=ln 16777216
 have hoo:el (oL 0)=el (oL 16777216):=rfl
 rw[hoo] at k2
 have hks:(key==({data:=#[]}:ByteArray).data.toList)=decide (key=[]):=by cases key<;>rfl
 refine aA ab [] Tryz.func4 Z Tryz.ntmps4 aN Z Z (fun C=>?_) Z
 repeat' (first|refine ae ?_|refine aj ?_|refine aa ?_|refine ac (ax ?_)|refine ah (ax ?_)|refine ap (bC ?_)|refine nj Z Z Z ?_|refine aU ab (fun _=>?_)|refine aF (d:=6) Z ab Z Z Z (fun b6=>?_)|refine aD ab Z Z Z Z Z Z Z ⟨rfl,rfl⟩ Z Z Z Z Z ?_|refine fQ ab Z Z Z Z Z ?_|(fail_if_success (refine aM Z cM ?_));(refine dM Z Z (fun hc=>?_) (fun hc=>?_))|refine aR Z ?_|(refine ao Z (fun hc=>?_) (fun hc=>?_))<;>try omega|(refine rD ab Z Z Z Z Z Z ?_)|(refine bx [] [] [100,101,102] Z k1 ⟨aP,J⟩ Z J Z Z ?_;rintro _ _ ⟨bd,bm,rfl,rfl⟩;refine⟨_,rfl,rfl,?_⟩)|(refine bx [] [100,101,102] [100,101,102,103,104,105] Z (k3 bd bm) ⟨af,aP,J⟩ Z dD Z Z ?_;rintro _ _ ⟨B1,S1,hB1,hB2,hO1,rfl,rfl⟩;refine⟨_,rfl,rfl,?_⟩)|(refine gg Z (ka) J Z ?_;rintro _ _ ⟨rfl,rfl⟩;refine⟨rfl,?_⟩)|(refine gg Z (k2) J Z ?_;rintro _ _ ⟨rfl,rfl⟩;refine⟨rfl,?_⟩))
 ·exact jh
 ·exact jh
 have hk0:key≠[]:=fun h=>by
  have h1:(key==({data:=#[]}:ByteArray).data.toList)=false:=by assumption
  rw[hks,h] at h1;cases h1
 clear k3 k1 k2
 refine aO (fun q:Nm=>⟨172,[(9,.i .i64 q.1),(7,.ptr 104 q.2.1.bs [] 0),(6,.ptr 6 b6 [] 0),(5,.ptr 0 bd [] 0),(0,.sl 7 (acts.map qg)),(1,.s key)],[(100,.var q.2.1.bd (cO q.2.1.bm q.2.2.1.D)),(101,.obj q.2.1.bm (cV q.2.2.1.D.es q.2.2.1.D.clk)),(102,bL (q.2.2.1.D.fs.map bZ.O)),(103,eC q.2.1.bd q.2.1.bj q.2.2.1.now),(104,.var q.2.1.bs (dm q.2.1 (oL 16777216) q.2.2.1.mem q.2.2.1.msz q.2.2.1.st)),(105,io q.2.1.bt q.2.2.1.ts q.2.2.1.c),(6,.var b6 (el (oL 16777216)))]⟩)
  (fun q=>(q.1≤acts.length∧q.1≤25)∧q.2.1.bd=bd∧zY (oL 16777216) q.1 q.2.2.1 q.2.2.2.1 q.2.2.2.2.1 q.2.2.2.2.2) (fun q=>acts.length - q.1) [] (0,B1,S1,[],none,[]) ⟨⟨Nat.zero_le _,Nat.zero_le _⟩,hB1,(hst S1 hO1).1⟩ ?_ ?_
 ·exact⟨rfl,⟨ai Z,af,af,af,ay Z,cY Z,J⟩,az 100 Z (az 101 Z (az 102 Z (az 103 Z (az 104 Z (az 105 Z (az 6 Z .nil))))))⟩
 rintro⟨i,B,S,jl,m,fe⟩ ⟨⟨hi1,hi2⟩,hbd,hR⟩
 dsimp only at hi1 hi2 hbd hR ⊢
 have hne:=hR.ne
 have hnx:=hR.nx
 have hnw:=hR.nw
 clear hst hO1 hB1 hB2
 by_cases hlt:i<acts.length∧i<25
 ·obtain⟨hl1,hl2⟩:=hlt
  have kd:=yu B (oL 16777216) S jl m fe hR.ok hgo acts[i] (hal _ (List.getElem_mem hl1)) (by omega) (by omega) (by omega)
  repeat' (first|refine ae ?_|refine aj ?_|refine aa ?_|refine ac (ax ?_)|refine ac (db ?_)|refine ah (ax ?_)|(refine bc Z Z Z Z ?_ ?_;omega)|refine br Z ab Z Z Z (fun _=>?_)|refine aU ab (fun _=>?_)|(refine aK Z ab Z Z Z Z Z Z ?_ (aE ?_) ?_;omega;omega)|refine fQ ab Z Z Z Z Z ?_|(fail_if_success (refine aM Z cM ?_));(refine aV Z Z (fun hc=>?_) (fun hc=>?_)<;>try omega)|(refine ao Z (fun hc=>?_) (fun hc=>?_))<;>try omega|refine cg 9 [100,101,102,103,104,105] [68,72] [] [0,1,3,4,5,2,6,7,8,9,10,11,12] aN aN aN Z Z Z ?_|(refine bx [] [100,101,102,103,104,105] [100,101,102,103,104,105] Z kd ⟨by rw[hbd];exact af,af,aP,aP,J⟩ Z dD Z Z ?_;rintro _ _ ⟨B2,S2,jl2,m2,fe2,e2,hB2,hD,rfl,rfl⟩;have hDe:=hD.er;refine⟨_,rfl,rfl,?_⟩))
  all_goals exact⟨(i+1,B2,S2,jl2,m2,fe2),[],⟨⟨hl1,hl2⟩,hB2.trans hbd,hR.does hD⟩,by show acts.length - (i+1)<acts.length - i;omega,rfl,⟨ai (by show (i:Int)+1=((i+1:Nat):Int);omega),af,af,af,ay Z,cY Z,J⟩,az 100 Z (az 101 Z (az 102 Z (az 103 Z (az 104 Z (az 105 Z (az 6 Z .nil))))))⟩
 ·have hcl:=hR.ok.cont_len
  have ks1:=jV B (oL 16777216) S jl m fe hR.ok (by omega) [] key
  have ks2:=jV B (oL 16777216) S jl m fe hR.ok (by omega) key []
  have ks3:=jV B (oL 16777216) S jl m fe hR.ok (by omega) [] []
  rw[vn hR.ok] at ks1 ks2 ks3
  rw[i9] at ks3
  have kg:=fun k=>tu B (oL 16777216) S jl m fe hR.ok (by omega) k
  have hgq:=fun k=>wb hR.ok k
  have hup:Up (dL S fe):=dx _ _
  have hall:=DG hup hk0
  have hlk:=fun i hi=>uK hup i hi
  generalize hc:dL S fe=c at hcl ks1 ks2 ks3 hgq hup hall hlk
  obtain⟨a,ha⟩:∃a,a=c.filter (bJ [] key):=⟨_,rfl⟩
  obtain⟨b,hb⟩:∃b,b=c.filter (bJ key []):=⟨_,rfl⟩
  rw[←ha] at ks1 hall
  rw[←hb] at ks2 hall
  have hat:=fun i hi=>Gq (i:=i) hk0 ha hb hall hi
  have hlen:a.length+b.length=c.length:=by rw[←hall,List.length_append]
  have hab:(([]:List AV)++a.map eA)++b.map eA=c.map eA:=by rw[List.nil_append,←List.map_append,hall]
  repeat' (first|refine ae ?_|refine aj ?_|refine aa ?_|refine ac (ax ?_)|refine ah (ax ?_)|refine aw (ax ?_)|refine gM Z Z Z ?_|(refine bc Z Z Z Z ?_ ?_;omega)|refine br Z ab Z Z Z (fun _=>?_)|refine aU ab (fun _=>?_)|refine aI ab Z Z Z Z Z Z Z Z Z Z Z eo (fun _=>?_)|(refine bH ab Z Z Z Z Z Z Z Z Z (by first|exact J|exact rfl) Z Z (fun _=>rfl) ?_ ?_ (fun _=>?_);(exact dt);(exact dt))|(fail_if_success (refine aM Z cM ?_));(refine aV Z Z (fun hc=>?_) (fun hc=>?_)<;>try omega)|refine aB Z ?_|(refine ao Z (fun hc=>?_) (fun hc=>?_))<;>try omega|(refine bF Z (fun hc=>?_) (fun hc=>?_))<;>try omega|refine bk [] [100,101,102,103,104,105] [100,101,102,103,104,105] Z ks1 ⟨af,aP,aP,J⟩ Z dD Z Z ?_|refine bk [] [100,101,102,103,104,105] [100,101,102,103,104,105] Z ks3 ⟨af,aP,aP,J⟩ Z dD Z Z ?_|refine bk [] [100,101,102,103,104,105] [100,101,102,103,104,105] Z ks2 ⟨af,aP,aP,J⟩ Z dD Z Z ?_)
  all_goals
   rw[hab]
   clear ks1 ks2 ks3
   refine aO (fun k:Nat=>⟨172,[(126,.i .i64 k),(125,.i .i64 c.length),(124,.sl 3 (c.map eA)),(7,.ptr 104 B.bs [] 0),(12,.sl 3 (a.map eA)),(16,.sl 3 (c.map eA)),(1,.s key)],[(100,.var B.bd (cO B.bm S.D)),(101,.obj B.bm (cV S.D.es S.D.clk)),(102,bL (S.D.fs.map bZ.O)),(103,eC B.bd B.bj S.now),(104,.var B.bs (dm B (oL 16777216) S.mem S.msz S.st)),(105,io B.bt S.ts S.c)]⟩) (fun k=>k≤c.length) (fun k=>c.length - k) [120] 0 (Nat.zero_le _) ?_ ?_
   ·exact⟨rfl,⟨ai Z,ai (by rw[List.length_map]),bu (bP (.head _)) Z,af,ay Z,ay Z,cY Z,J⟩,az 100 Z (az 101 Z (az 102 Z (az 103 Z (az 104 Z (az 105 Z (.nil))))))⟩
   rintro k hk
   by_cases hlt2:k<c.length
   ·have kg1:=kg c[k].k
    rw[(hgq _).1,(hgq _).2,hlk k hlt2] at kg1
    simp only[Option.getD_some,Option.isSome_some] at kg1
    have hat1:=hat k hlt2
    have hee:(!wm c[k] c[k])=false:=by rw[yr.2 Z];rfl
    have hvv:(!c[k].v==c[k].v)=false:=by simp
    have hdd:(!decide ((k:Int)<(a.length:Int))==Op.bytesLess c[k].k key)=false:=by rw[hat1];simp
    repeat' (first|(exact absurd (hdd.symm.trans hc) Bool.false_ne_true)|(exact absurd (hvv.symm.trans hc) Bool.false_ne_true)|refine ae ?_|refine aj ?_|refine aa ?_|refine ac (ax ?_)|refine ac (db ?_)|refine ah (ax ?_)|(refine bc Z Z Z Z ?_ ?_;omega)|refine br Z ab Z Z Z (fun _=>?_)|refine aU ab (fun _=>?_)|refine aF (d:=19) Z ab Z Z Z (fun b19=>?_)|refine aD ab Z Z Z Z Z Z Z ⟨rfl,rfl⟩ Z Z Z Z Z ?_|(refine aK Z ab Z Z Z Z Z Z ?_ (aE ?_) ?_;omega;omega)|(fail_if_success (refine aM Z cM ?_));(refine dM Z Z (fun hc=>?_) (fun hc=>?_))|(refine ao Z (fun hc=>?_) (fun hc=>?_))<;>try omega|(refine ba Z (fun hc=>?_) (fun hc=>?_))|(refine cg 22 [] [] [] [1,2,3,0,4,5,6,7,8,9,10,11,12,13,14,15,16,17,18,19,20,21,22,23,24,25,27,26,28,29,30] aN aN aN Z Z Z ?_;(try dsimp only[List.getElem_toArray,List.getElem_cons_zero,List.getElem_cons_succ]))|(refine AX Z c[k] c[k] Z Z Z ?_;rw[hee])|refine bk [] [100,101,102,103,104,105] [100,101,102,103,104,105] Z kg1 ⟨af,aP,J⟩ Z dD Z Z ?_)
    all_goals exact⟨k+1,[],hlt2,by show c.length - (k+1)<c.length - k;omega,rfl,⟨ai (by show (k:Int)+1=((k+1:Nat):Int);omega),ai Z,ay Z,af,ay Z,ay Z,cY Z,J⟩,az 100 Z (az 101 Z (az 102 Z (az 103 Z (az 104 Z (az 105 Z (.nil))))))⟩
   ·repeat' (first|refine ae ?_|refine aa ?_|refine ac (ax ?_)|refine aw (ax ?_)|refine ap (bC ?_)|refine aU ab (fun _=>?_)|(refine ao Z (fun hc=>?_) (fun hc=>?_))<;>try omega|(refine gg Z (ka) J Z ?_;rintro _ _ ⟨rfl,rfl⟩;refine⟨rfl,?_⟩))
    all_goals exact jh
end Go.Proofs.YtginkbjclkdglaaGreat
