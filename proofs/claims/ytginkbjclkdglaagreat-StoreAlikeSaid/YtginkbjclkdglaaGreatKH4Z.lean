/- ref08.Same, ref08.Of by rules. -/
import Derived.Test.YtginkbjclkdglaaGreatHPZ
import Derived.Test.YtginkbjclkdglaaGreatKWZ
import Derived.Test.YtginkbjclkdglaaGreatKR2Z
import Derived.Test.YtginkbjclkdglaaGreatKFZ
import Derived.Test.YtginkbjclkdglaaGreatB2Z
import Derived.Test.YtginkbjclkdglaaGreatS2Z
import Derived.ProofKit
set_option maxHeartbeats 4000000
namespace Go.Proofs.YtginkbjclkdglaaGreat
open Go Go.RowKit
def NV(p q:Int)(a b:List Bool):Bool:=decide (p=q)&&decide (a=b)
def Hg(s:List UInt8):AV:=.s s
theorem Lw(c:UInt8)(x:Nat):eB .or .u8 (c.toNat:Int) (IntKind.u8.wrap (1*2^(min ((x:Int)%8).toNat (IntKind.bits .u8))))=((AO c (x%8)).toNat:Int):=by
 have hc:=c.toNat_lt
 have hk:min ((x:Int)%8).toNat (IntKind.bits .u8)=x%8:=by rw[show IntKind.bits .u8=8 from rfl];omega
 have h2:2^(x%8)<256:=Nat.pow_lt_pow_right (a:=2) (n:=8) (by decide) (Nat.mod_lt _ (by decide))
 rw[hk,Int.one_mul,show (2:Int)^(x%8)=((2^(x%8):Nat):Int) by rw[Int.natCast_pow];rfl,nK,Nat.mod_eq_of_lt h2,N8 hc h2]
 unfold AO
 rw[UInt8.toNat_ofNat',Nat.mod_eq_of_lt (AN c (Nat.mod_lt _ (by decide)))]
def kU(n e:Nat):Nat:=(n*e+7) / 8+1
def GQ(e:Nat):Nat:=if e*7 / 10=0 then 1 else e*7 / 10
def vO(keys:List (List UInt8))(e:Nat):List UInt8:=kV (GQ e) (keys.map ed) (List.replicate (kU keys.length e) 0)
theorem Ge(keys:List (List UInt8))(e:Nat)(he:1≤e∧e≤32)(hk:keys.length≤2048)(hks:∀s∈keys,s.length≤1000000000000):aQ Tryz.prog 132 [.sl 1 (keys.map Hg),.i .i64 e] [] (fun v os=>v= .tup [uf (GQ e:Nat) (vO keys e),.i .i64 0]∧os=[]):=by
 refine aA ab [] Tryz.func132 Z Tryz.ntmps132 aN Z Z (fun C=>?_) Z
 have hp1:0≤(keys.length:Int)*(e:Int):=Int.mul_nonneg (by omega) (by omega)
 have hp2:(keys.length:Int)*(e:Int)≤65536:=by
  have h1:keys.length*e≤2048*32:=Nat.mul_le_mul hk he.2
  have h2:((keys.length*e:Nat):Int)≤65536:=by omega
  rw[Int.natCast_mul] at h2;exact h2
 repeat' (first|refine ae ?_|refine aa ?_|refine ac (ax ?_)|refine ah (ax ?_)|(refine bc Z Z Z Z ?_ ?_;omega)|(refine kL Z Z Z Z ?_ ?_;omega)|(refine vF Z Z Z Z ?_ ?_ ?_;omega;omega)|refine br Z ab Z Z Z (fun _=>?_)|refine aU ab (fun _=>?_)|refine aF (d:=4) Z ab Z Z Z (fun b4=>?_)|(fail_if_success (refine aM Z cM ?_));(refine aV Z Z (fun hc=>?_) (fun hc=>?_)<;>try omega)|(refine ao Z (fun hc=>?_) (fun hc=>?_))<;>try omega)
 refine AY ab Z Z Z Z Z Z Z Z Z (kU keys.length e) ?_ ?_ ?_ ?_ (fun v33=>?_)
 ·show ((keys.length:Int)*(e:Int)+7) / 8+1=_
  unfold kU;rw[←Int.natCast_mul];omega
 ·show ((keys.length:Int)*(e:Int)+7) / 8+1=_
  unfold kU;rw[←Int.natCast_mul];omega
 ·unfold kU;rw[←Int.natCast_mul] at hp2;omega
 ·unfold kU;rw[←Int.natCast_mul] at hp2;omega
 have hn1:0<kU keys.length e:=by unfold kU;omega
 have hn2:kU keys.length e≤65536:=by unfold kU;rw[←Int.natCast_mul] at hp2;omega
 have hpe:(if (e:Int)*7 / 10>1 then (e:Int)*7 / 10 else 1)=(GQ e:Nat):=by
  unfold GQ;split<;>split<;>omega
 have hpn:GQ e≤32:=by unfold GQ;split<;>omega
 have hF:vO keys e=kV (GQ e) (keys.map ed) (List.replicate (kU keys.length e) 0):=rfl
 rw[hpe,hF]
 clear hpe hF hp1 hp2
 have hz:(List.replicate (kU keys.length e) (0:UInt8)).length=kU keys.length e:=List.length_replicate
 rw[show List.replicate (kU keys.length e) (AV.i .u8 0)=(List.replicate (kU keys.length e) (0:UInt8)).map gy by rw[List.map_replicate];rfl]
 generalize List.replicate (kU keys.length e) (0:UInt8)=z at hz ⊢
 generalize kU keys.length e=nb at hz hn1 hn2 ⊢
 generalize GQ e=p at hpn ⊢
 repeat' (first|refine ae ?_|refine aj ?_|refine aa ?_|refine ac (ax ?_)|refine br Z ab Z Z Z (fun _=>?_)|refine aU ab (fun _=>?_)|refine aF (d:=6) Z ab Z Z Z (fun b6=>?_)|refine aD ab Z Z Z Z Z Z Z ⟨rfl,rfl⟩ Z Z Z Z Z ?_|refine cd ab Z Z Z Z Z Z eo ?_)
 refine aO (fun k:Nat=>⟨63,[(37,.i .i64 k),(36,.i .i64 keys.length),(35,.sl 1 (keys.map Hg)),(6,.ptr 6 b6 [] 0),(4,.ptr 4 b4 [] 0)],[(6,.var b6 (.agg [.i .i64 p,.own 33 v33])),(33,.row v33 5 1 ((kV p ((keys.take k).map ed) z).map gy)),(4,.var b4 (.agg [.i .i64 0,.nil]))]⟩) (fun k=>k≤keys.length) (fun k=>keys.length - k) [] 0 (Nat.zero_le _) ?_ ?_
 ·exact⟨rfl,⟨ai Z,ai Z,ay Z,af,af,J⟩,az 6 Z (az 33 Z (az 4 Z .nil))⟩
 intro k hk
 have hbl:=vP p ((keys.take k).map ed) z
 by_cases hlt:k<keys.length
 ·have hsu:kV p ((keys.take (k+1)).map ed) z=jw (kV p ((keys.take k).map ed) z) (dQ (ed keys[k]) p (8*(kV p ((keys.take k).map ed) z).length)):=by
   rw[List.take_succ_eq_append_getElem hlt,List.map_append];unfold kV;rw[List.foldl_append];rfl
  have hsk:=hks _ (List.getElem_mem hlt)
  rw[hbl,hz] at hsu
  rw[hz] at hbl
  generalize kV p ((keys.take k).map ed) z=bs at hbl hsu ⊢
  have hpl:=AM p bs keys[k] hsk (by omega) (by omega) (by omega)
  rw[hbl] at hpl
  have hf:∀z:List Nat,ik (z.map Kn)=true:=fun z=>wh (fun _=>rfl) z
  repeat' (first|refine ae ?_|refine aj ?_|refine aa ?_|refine ac (ax ?_)|refine ah (ax ?_)|refine dA Z ab Z Z Z Z (fun _=>?_)|refine aU ab (fun _=>?_)|(refine aK Z ab Z Z Z Z Z Z ?_ (aE ?_) ?_;omega;omega)|(refine ao Z (fun hc=>?_) (fun hc=>?_))<;>try omega|(refine HL Z hpl Z ⟨bu (bS (.cons (av _) (.cons (bP (.head _)) .nil))) Z,aP,J⟩ Z (hf _) (fun vR=>?_)))
  have hps:∀x∈dQ (ed keys[k]) p (8*nb),x<8*nb:=vC (by omega)
  have hpsn:=o9 (ed keys[k]) p (8*nb)
  generalize dQ (ed keys[k]) p (8*nb)=ps at hps hsu hpsn ⊢
  refine aO (fun j:Nat=>⟨63,[(45,.i .i64 j),(44,.i .i64 ps.length),(43,.sl 1 (ps.map Kn)),(37,.i .i64 k),(36,.i .i64 keys.length),(35,.sl 1 (keys.map Hg)),(6,.ptr 6 b6 [] 0),(4,.ptr 4 b4 [] 0)],[(6,.var b6 (.agg [.i .i64 p,.own 33 v33])),(33,.row v33 5 1 ((jw bs (ps.take j)).map gy)),(4,.var b4 (.agg [.i .i64 0,.nil]))]⟩) (fun j=>j≤ps.length) (fun j=>ps.length - j) [43] 0 (Nat.zero_le _) ?_ ?_
  ·exact⟨rfl,⟨ai Z,ai Z,bu (bP (.head _)) Z,ai Z,ai Z,ay Z,af,af,J⟩,az 6 Z (az 33 Z (az 4 Z .nil))⟩
  intro j hj
  by_cases hjl:j<ps.length
  ·have hx:=hps _ (List.getElem_mem hjl)
   have hcl:=oY (ps.take j) bs
   have hsj:jw bs (ps.take (j+1))=mU (jw bs (ps.take j)) ps[j]:=by
    rw[List.take_succ_eq_append_getElem hjl];unfold jw;rw[List.foldl_append];rfl
   generalize jw bs (ps.take j)=cs at hcl hsj ⊢
   have hx8:ps[j] / 8<cs.length:=by omega
   repeat' (first|refine ae ?_|refine aj ?_|refine aa ?_|refine ac (ax ?_)|refine ac (db ?_)|refine ah (ax ?_)|(refine bc Z Z Z Z ?_ ?_;omega)|(refine vF Z Z Z Z ?_ ?_ ?_;omega;omega)|(refine t6 Z Z Z Z ?_ ?_ ?_;omega;omega)|refine aU ab (fun _=>?_)|(refine aK Z ab Z Z Z Z Z Z ?_ (aE ?_) ?_;omega;omega)|(refine bD ab Z Z Z Z Z Z Z Z _ Z ?_ (fun bO hbO=>?_);(exact dt))|(refine bR ab Z Z Z Z Z (by assumption) (aY (List.getElem?_eq_getElem ?_)) Z Z (by first|exact Nat.add_zero _|rfl) ⟨rfl,rfl⟩ ?_;omega)|(refine bQ ab Z Z Z Z Z Z (by assumption) (aY (List.getElem?_eq_getElem ?_)) Z Z (by first|exact Nat.add_zero _|rfl) ⟨rfl,rfl⟩ Z Z ?_;omega)|(refine ao Z (fun hc=>?_) (fun hc=>?_))<;>try omega|refine cg 12 [33] [50,54] [] [0,2,3,6,7,8,1,4,5,9,10,11] aN aN aN Z Z Z ?_)
   refine⟨j+1,[],by omega,by omega,rfl,⟨ai (by omega),ai Z,ay Z,ai Z,ai Z,ay Z,af,af,J⟩,az 6 Z (cr.cons 33 Z (aZ ?_) (az 4 Z .nil))⟩
   rw[Lw,hsj]
   unfold mU
   rw[List.getD_eq_getElem?_getD,List.getElem?_eq_getElem hx8,List.map_set];rfl
  ·have hjk:j=ps.length:=by omega
   rw[hjk,List.take_length]
   repeat' (first|refine ae ?_|refine aa ?_|refine ac (ax ?_)|refine ac (db ?_)|refine aw (ax ?_)|(refine bc Z Z Z Z ?_ ?_;omega)|refine aU ab (fun _=>?_)|(refine ao Z (fun hc=>?_) (fun hc=>?_))<;>try omega)
   exact⟨k+1,[],by omega,by omega,rfl,⟨ai (by omega),ai Z,ay Z,af,af,J⟩,az 6 Z (cr.cons 33 Z (aZ (by rw[hsu])) (az 4 Z .nil))⟩
 ·have hkl:k=keys.length:=by omega
  rw[hkl,List.take_length] at hbl ⊢
  repeat' (first|refine ae ?_|refine aa ?_|refine ac (ax ?_)|refine aw (ax ?_)|refine ap (bC ?_)|refine aU ab (fun _=>?_)|refine aD ab Z Z Z Z Z Z Z ⟨rfl,rfl⟩ Z Z Z Z Z ?_|(refine ao Z (fun hc=>?_) (fun hc=>?_))<;>try omega)
  exact aH [33] [] (.tup [uf (p:Nat) (kV p (keys.map ed) z),.i .i64 0]) Z (aW (bS (.cons (av _) (.cons (bP (.head _)) .nil))) (av _) Z Z) .nil ⟨rfl,rfl⟩
def Oi(l:List (List UInt8))(n:Nat):List (List UInt8):=(l.take n).map (fun s=>s.take 100)
def md(p:Int)(b:List UInt8):List UInt8×Int:=if mO p (cX b).length then (ar p.toNat++gl b,0) else ([],3)
theorem Cx{p:Int}{b:List UInt8}(hg:mO p (cX b).length=true):(((⟨[],0⟩:WS).number p).text b).done=(ar p.toNat++gl b,0):=by
 rw[gb,j8] at hg
 have h1:=bz p.toNat (by omega)
 have h2:=bz b.length (by omega)
 have e1:(⟨[],0⟩:WS).number p=⟨ar p.toNat,0⟩:=by unfold WS.number;rw[if_neg (by omega)];rfl
 have e2:(⟨ar p.toNat,0⟩:WS).text b=⟨ar p.toNat++gl b,0⟩:=by
  unfold WS.text WS.number;rw[if_neg (by omega),if_neg (by omega)]
  unfold WS.put gl;rw[List.append_assoc];rfl
 rw[e1,e2]
 unfold WS.done
 have hl:(ar p.toNat++gl b).length≤65536:=by unfold gl;rw[List.length_append,List.length_append];omega
 rw[if_neg (fun h=>h Z),if_neg (by show ¬ 65536<(ar p.toNat++gl b).length;omega)]
theorem BP(p:Int)(b:List UInt8)(hb:b.length≤1000000000):aQ Tryz.prog 133 [uf p b] [] (fun v os=>v= .tup [.s (md p b).1,.i .i64 (md p b).2]∧os=[]):=by
 refine aA ab [] Tryz.func133 Z Tryz.ntmps133 aN Z Z (fun C=>?_) Z
 have hgd:=tt p b (by omega)
 cases hg:mO p (cX b).length
 ·have hF:md p b=([],3):=by unfold md;rw[hg];rfl
  rw[hF]
  rw[hg] at hgd
  repeat' (first|refine ae ?_|refine aa ?_|refine ac (ax ?_)|refine ap (bC ?_)|refine aU ab (fun _=>?_)|refine c9 (d:=1) Z Z Z Z (fun b1=>?_)|refine aR Z ?_|refine au Z hgd ⟨aP,J⟩ Z ?_)
  exact aH [] [] (.tup [.s [],.i .i64 3]) Z (aW (av _) (av _) Z Z) .nil ⟨rfl,rfl⟩
 ·have hF:md p b=(((⟨[],0⟩:WS).number p).text b).done:=by unfold md;rw[hg,Cx hg];rfl
  rw[hF]
  rw[hg] at hgd
  rw[j8] at hg
  have h0:(⟨[],0⟩:WS).bs.length≤1000000000000:=by decide
  have h1:=WS.len_number ⟨[],0⟩ p (by omega)
  have h10:(⟨[],0⟩:WS).bs.length=0:=rfl
  refine ae ?_
  repeat' (first|refine aa ?_|refine ac (ax ?_)|refine aU ab (fun _=>?_)|refine c9 (d:=1) Z Z Z Z (fun b1=>?_))
  refine qc 1 1 Z Z Z ?_
  repeat' (first|refine ae ?_|refine aa ?_|refine ac (ax ?_)|refine ah (ax ?_)|refine aU ab (fun _=>?_)|refine aF (d:=4) Z ab Z Z Z (fun b4=>?_)|refine aB Z ?_|refine au Z hgd ⟨aP,J⟩ Z ?_)
  refine gJ [] (S':=⟨18,[(9,.i .i64 p),(4,.ptr 4 b4 [] 0),(1,.cp (.agg [.i .i64 p,.sl 1 (b.map gy)]))],[(4,.var b4 (wV (.slice none 0 0) ⟨[],0⟩)),(1,.row (.slice none 0 0) 5 1 [])]⟩) ⟨rfl,⟨ai Z,af,aP,J⟩,cr.cons 4 Z (bW (bS (.cons dz (.cons (av _) .nil)))) (.none .nil)⟩ ?_
  repeat' (first|refine ae ?_|refine aa ?_|refine ac (ax ?_)|refine ap (bC ?_)|refine aU ab (fun _=>?_)|refine dJ ab Z Z Z Z Z (by first|exact J|exact rfl) Z Z Z Z ?_|(refine cJ Z Z Z Z Z (jQ _ _ _) ⟨af,J⟩ (ak _) (ak _) Z Z ?_;rintro _ _ ⟨rfl,wv,rfl⟩;refine⟨_,_,rfl,_,rfl,?_⟩)|(refine cJ Z Z Z Z Z (eK _ _ (by first|assumption|omega) _ _ (by first|assumption|omega)) ⟨af,aP,J⟩ (ak _) (ak _) Z Z ?_;rintro _ _ ⟨rfl,wv,rfl⟩;refine⟨_,_,rfl,_,rfl,?_⟩)|(refine cJ Z Z Z Z Z (g9 _ _ _ _ (by first|assumption|omega)) ⟨af,aP,J⟩ (ak _) (ak _) Z Z ?_;rintro _ _ ⟨rfl,wv,rfl⟩;refine⟨_,_,rfl,_,rfl,?_⟩))
  generalize (((⟨[],0⟩:WS).number p).text b).done=q
  exact aH [] [] (.tup [.s q.1,.i .i64 q.2]) Z (aW (av _) (av _) Z Z) .nil ⟨rfl,rfl⟩
def pn(s:List UInt8):Int×List UInt8×Int:=
 if (RS.open s).number.2.text.2.done≠0 then (0,[],(RS.open s).number.2.text.2.done)
 else if mO ((RS.open s).number.1:Nat) (cX (RS.open s).number.2.text.1).length then (((RS.open s).number.1:Nat),(RS.open s).number.2.text.1,0) else (0,[],3)
theorem DM(s:List UInt8)(hs:s.length≤1000000000):aQ Tryz.prog 147 [.s s] [] (fun v os=>v= .tup [uf (pn s).1 (pn s).2.1,.i .i64 (pn s).2.2]∧os=[]):=by
 refine aA ab [] Tryz.func147 Z Tryz.ntmps147 aN Z Z (fun C=>?_) Z
 have hok0:=RS.ok_open (s:=s) (by omega)
 have hok1:=RS.ok_number hok0
 have hok2:=RS.ok_text hok1
 have htl:(RS.open s).number.2.text.1.length≤1000000000000:=Nat.le_trans (u6 _) (by decide)
 repeat' (first|refine ae ?_|refine aa ?_|refine ac (ax ?_)|refine ah (ax ?_)|refine ap (bC ?_)|refine aU ab (fun _=>?_)|refine aF (d:=2) Z ab Z Z Z (fun b2=>?_)|refine aF (d:=5) Z ab Z Z Z (fun b5=>?_)|refine aD ab Z Z Z Z Z Z Z ⟨rfl,rfl⟩ Z Z Z Z Z ?_|refine cd ab Z Z Z Z Z Z eo ?_|refine fy ab Z Z Z Z Z Z ?_|(refine bF Z (fun hc=>?_) (fun hc=>?_))<;>try omega|(refine ba Z (fun hc=>?_) (fun hc=>?_))|(refine gg Z (tt _ _ (by first|assumption|omega)) ⟨aP,J⟩ Z ?_;rintro _ _ ⟨rfl,rfl⟩;refine⟨rfl,?_⟩)|(refine pS Z (jW _) ⟨aP,J⟩ Z (fun bN=>?_))|(refine bh Z Z Z Z (fY _ _) ⟨af,J⟩ (ak _) Z Z ?_;rintro _ _ ⟨rfl,rfl⟩;refine⟨_,rfl,_,rfl,?_⟩)|(refine bh Z Z Z Z (dX _ _ (by assumption)) ⟨af,J⟩ (ak _) Z Z ?_;rintro _ _ ⟨rfl,rfl⟩;refine⟨_,rfl,_,rfl,?_⟩)|(refine bh Z Z Z Z (fX _ _ (by assumption)) ⟨af,J⟩ (ak _) Z Z ?_;rintro _ _ ⟨rfl,rfl⟩;refine⟨_,rfl,_,rfl,?_⟩))
 ·have hF:pn s=(0,[],(RS.open s).number.2.text.2.done):=by unfold pn;rw[if_pos hc]
  rw[hF]
  exact aH [] [] (.tup [uf 0 [],.i .i64 (RS.open s).number.2.text.2.done]) Z (aW (bS (.cons (av _) (.cons cQ .nil))) (av _) Z Z) .nil ⟨rfl,rfl⟩
 ·have hF:pn s=(0,[],3):=by
   unfold pn;rw[if_neg (fun h=>h (by assumption)),if_neg (by intro h;rw[h] at hc;exact absurd hc (by decide))]
  rw[hF]
  exact aH [] [] (.tup [uf 0 [],.i .i64 3]) Z (aW (bS (.cons (av _) (.cons cQ .nil))) (av _) Z Z) .nil ⟨rfl,rfl⟩
 ·have hF:pn s=((((RS.open s).number.1:Nat):Int),(RS.open s).number.2.text.1,0):=by
   unfold pn;rw[if_neg (fun h=>h (by assumption)),if_pos (by simpa using hc)]
  rw[hF]
  exact aH [] [] (.tup [uf ((RS.open s).number.1:Nat) (RS.open s).number.2.text.1,.i .i64 0]) Z (aW (am Z) (av _) Z Z) .nil ⟨rfl,rfl⟩
end Go.Proofs.YtginkbjclkdglaaGreat
namespace Go.Proofs.YtginkbjclkdglaaGreat
end Go.Proofs.YtginkbjclkdglaaGreat
namespace Go.Proofs.YtginkbjclkdglaaGreat
open Go Go.RowKit
theorem JL(keys:List (List UInt8))(e:Nat)(x:Nat):(cX (vO keys e)).getD x true=((List.replicate (8*kU keys.length e) false).getD x true||(keys.map ed).any (fun H=>decide (x∈dQ H (GQ e) (8*kU keys.length e)))):=by
 unfold vO
 rw[A9,Ci,List.length_replicate,JM]
theorem rH(keys:List (List UInt8))(e:Nat):(vO keys e).length=kU keys.length e:=by
 unfold vO;rw[vP,List.length_replicate]
theorem JO(keys:List (List UInt8))(e:Nat)(k:List UInt8)(hk:k∈keys):Be (GQ e:Nat) (cX (vO keys e)) (ed k)=true:=by
 unfold Be
 have h:(dQ (ed k) (Int.toNat (GQ e:Nat)) (cX (vO keys e)).length).all (fun x=>(cX (vO keys e)).getD x true)=true:=by
  rw[List.all_eq_true]
  intro x hx
  rw[gb,rH] at hx
  show (cX (vO keys e)).getD x true=true
  rw[JL,Bool.or_eq_true,List.any_eq_true]
  exact .inr ⟨ed k,List.mem_map.2 ⟨k,hk,rfl⟩,by rw[decide_eq_true_eq];exact hx⟩
 rw[h,Bool.or_true]
set_option maxHeartbeats 8000000
set_option maxRecDepth 100000
def M9(bits:List Bool)(z:List UInt8):Nat→List UInt8
 |0=>z
 |j+1=>if bits.getD j false then mU (M9 bits z j) j else M9 bits z j
def ig(l:List aC):List (List UInt8):=l.map (·.k)
def l8(l:List aC):List UInt8:=ar 7++gl (vO (ig l) 10)
set_option maxHeartbeats 16000000
def GR(a b:List UInt8):Bool:=Op.bytesLess a b||a==b
def qo(g:List aC):List UInt8:=(g[0]?.map (·.k)).getD []
def np(g:List aC):List UInt8:=(g[g.length - 1]?.map (·.k)).getD []
theorem qP{g:List aC}(h:0<g.length):qo g=g[0].k:=by unfold qo;rw[List.getElem?_eq_getElem h];rfl
theorem th{g:List aC}(h:g.length - 1<g.length):np g=g[g.length - 1].k:=by unfold np;rw[List.getElem?_eq_getElem h];rfl
theorem rU(size:Int):∀(l g:List aC) (n:Nat),g.length≤255→∀h∈grp size l g n,0<h.length∧h.length≤256∧∀e∈h,e∈g∨e∈l
 |[],_,_,_,h,hh=>by cases hh
 |x::r,g,n,hg,h,hh=>by
  unfold grp at hh
  split at hh
  ·rcases List.mem_cons.1 hh with rfl|hh
   ·refine⟨by simp,by simp;omega,fun e he=>?_⟩
    rcases List.mem_append.1 he with he|he
    ·exact .inl he
    ·exact .inr (List.mem_cons.2 (.inl (List.mem_singleton.1 he)))
   ·obtain⟨h1,h2,h3⟩:=rU size r [] 0 (by decide) h hh
    refine⟨h1,h2,fun e he=>?_⟩
    rcases h3 e he with h4|h4
    ·cases h4
    ·exact .inr (List.mem_cons_of_mem _ h4)
  ·rename_i hc
   obtain⟨h1,h2,h3⟩:=rU size r (g++[x]) _ (by rw[List.length_append];show g.length+1≤255;omega) h hh
   refine⟨h1,h2,fun e he=>?_⟩
   rcases h3 e he with h4|h4
   ·rcases List.mem_append.1 h4 with h4|h4
    ·exact .inl h4
    ·exact .inr (List.mem_cons.2 (.inl (List.mem_singleton.1 h4)))
   ·exact .inr (List.mem_cons_of_mem _ h4)
theorem uP(size:Int):∀(l g:List aC) (n:Nat),(grp size l g n).length≤l.length
 |[],_,_=>Nat.le_refl _
 |x::r,g,n=>by
  unfold grp
  split
  ·exact Nat.succ_le_succ (uP size r [] 0)
  ·exact Nat.le_succ_of_le (uP size r _ _)
def nS:List (List aC)→List UInt8→List UInt8→List UInt8→(List UInt8×List UInt8)×Int
 |[],idx,text,_=>((idx,text),0)
 |g::r,idx,text,last=>if (jj g).2≠0 then (([],[]),(jj g).2) else if GR (qo g) last=true then (([],[]),3) else nS r (idx++(ar text.length++gl (np g))) (text++(jj g).1) (np g)
def three(n:Nat):List UInt8:=[UInt8.ofNat (n / 65536),UInt8.ofNat (n / 256),UInt8.ofNat n]
def jO(l:List aC)(text:List UInt8):List UInt8:=((ar text.length++gl (l8 l))++ar l.length)++gl (qo l)
def wW(l:List aC)(idx text:List UInt8):List UInt8:=((text++bo idx)++bo (jO l text))++three (bo (jO l text)).length
def mt(l:List aC)(size:Int):List UInt8×Int:=
 if size<1∨16384<size then ([],1) else if l.length=0 then ([],3) else
  if (nS (grp size l [] 0) (ar (grp size l [] 0).length) [] []).2≠0 then ([],(nS (grp size l [] 0) (ar (grp size l [] 0).length) [] []).2)
  else (wW l (nS (grp size l [] 0) (ar (grp size l [] 0).length) [] []).1.1 (nS (grp size l [] 0) (ar (grp size l [] 0).length) [] []).1.2,0)
theorem xB(G:List (List aC))(i:Nat)(h:i<G.length)(idx text last:List UInt8):nS (G.drop i) idx text last=
 if (jj G[i]).2≠0 then (([],[]),(jj G[i]).2) else if GR (qo G[i]) last=true then (([],[]),3) else nS (G.drop (i+1)) (idx++(ar text.length++gl (np G[i]))) (text++(jj G[i]).1) (np G[i]):=by
 rw[List.drop_eq_getElem_cons h];rfl
theorem Gf(g:List aC):(jj g).1.length≤65544:=by
 unfold jj
 split
 ·exact Nat.zero_le _
 ·split
  ·exact Nat.zero_le _
  ·show (bo _).length≤_
   unfold bo
   rw[List.length_append,List.length_append,pk,pp];omega
theorem r7(l:List aC)(hl:l.length≤300):(l8 l).length≤1000:=by
 have h1:=rH (ig l) 10
 have h2:kU (ig l).length 10≤400:=by unfold kU ig;rw[List.length_map];omega
 have h3:=eL (vO (ig l) 10) (by omega)
 have h4:=bz 7 (by decide)
 unfold l8;rw[List.length_append];omega
theorem ek(t:List UInt8):(bo t).length=8+t.length:=by
 unfold bo
 rw[List.length_append,List.length_append,pk,pp]
theorem zx(g:List aC)(hm:∀e∈g,e.k.length≤110∧e.v.length≤4010):(qo g).length≤110:=by
 by_cases h:0<g.length
 ·rw[qP h];exact(hm _ (List.getElem_mem h)).1
 ·have:g=[]:=List.length_eq_zero_iff.1 (by omega)
  subst this;exact Nat.zero_le _
theorem EZ(g:List aC)(hm:∀e∈g,e.k.length≤110∧e.v.length≤4010):(np g).length≤110:=by
 by_cases h:g.length - 1<g.length
 ·rw[th h];exact(hm _ (List.getElem_mem h)).1
 ·have:g=[]:=List.length_eq_zero_iff.1 (by omega)
  subst this;exact Nat.zero_le _
theorem nB(l:List aC)(text:List UInt8)(hl:l.length≤300)(hm:∀e∈l,e.k.length≤110∧e.v.length≤4010)(ht:text.length<9223372036854775808):(jO l text).length≤2000:=by
 have h1:=r7 l hl
 have h2:=bz text.length ht
 have h3:=bz l.length (by omega)
 have h4:=zx l hm
 have h5:=eL (l8 l) (by omega)
 have h6:=eL (qo l) (by omega)
 unfold jO
 rw[List.length_append,List.length_append,List.length_append];omega
structure tJ where
 a:Nat
 l:List UInt8
def oz(p:tJ):AV:=.agg [.i .i64 p.a,.s p.l]
structure Jg where
 text:List UInt8
 parts:List tJ
 fp:Nat
 fb:List UInt8
 count:Nat
 first:List UInt8
def iY(t:Jg):AV:=.agg [.s t.text,.sl 2 (t.parts.map oz),uf (t.fp:Nat) t.fb,.i .i64 t.count,.s t.first]
theorem Ae(t:Jg):aQ Tryz.prog 56 [.cp (iY t)] [] (fun v os=>v= .i .i64 t.count∧os=[]):=by
 refine aA ab [] Tryz.func56 Z Tryz.ntmps56 aN Z Z (fun C=>?_) Z
 repeat' (first|refine ae ?_|refine aa ?_|refine ac (ax ?_)|refine ap (bC ?_)|refine aU ab (fun _=>?_))
 exact jh
theorem CD(t:Jg)(i:Nat)(hi:i<t.parts.length)(g:List aC)(n:Nat)(ht:t.text.length≤100000000)(ha:t.parts[i].a≤t.text.length)(hb:qr (t.text.drop t.parts[i].a)=(g,n,0))(hg:0<g.length)(hl:np g=t.parts[i].l):
 aQ Tryz.prog 80 [.cp (iY t),.i .i64 i] [] (fun v os=>v= .tup [.sl 3 (g.map eA),.i .i64 0]∧os=[]):=by
 refine aA ab [] Tryz.func80 Z Tryz.ntmps80 aN Z Z (fun C=>?_) Z
 have hbr:=D9 (t.text.drop t.parts[i].a) (by rw[List.length_drop];omega)
 rw[hb] at hbr
 dsimp only at hbr
 have hlt:g.length - 1<g.length:=by omega
 rw[th hlt] at hl
 have hne:(!(g[g.length - 1].k==t.parts[i].l))=false:=by rw[hl];simp
 repeat' (first|(exact absurd (hc.symm.trans hne) (by decide))|refine ae ?_|refine aa ?_|refine ac (ax ?_)|refine ah (ax ?_)|refine ap (bC ?_)|(refine dW Z Z Z Z ?_ ?_;omega)|refine br Z ab Z Z Z (fun _=>?_)|refine aU ab (fun _=>?_)|(refine aK Z ab Z Z Z Z Z Z ?_ (aE ?_) ?_;omega;omega)|(fail_if_success (refine aM Z cM ?_));(refine aV Z Z (fun hc=>?_) (fun hc=>?_)<;>try omega)|refine aB Z ?_|(refine ba Z (fun hc=>?_) (fun hc=>?_))|refine cg 1 [] [] [] [0,1,2,4,5,6,8,3,7,9,10,11,12,13,14,15,16,17,18,19,20] aN aN aN Z Z Z ?_|refine cg 4 [] [] [] [0,1,2,3,4,5,6,7,8,9,11,12,13,15,10,14,16,17,18,19,20] aN aN aN Z Z Z ?_|(refine dK ab Z t.parts[i].a t.text.length Z Z Z (cn Z Z) da ha (Nat.le_refl _) ?_;rw[List.take_length])|(refine aK Z ab Z Z Z Z Z Z ?_ (ol (g.length-1) ?_ hlt) ?_;omega;omega)|refine au Z (hbr) ⟨aP,J⟩ Z ?_)
 exact aH [] [] (.tup [.sl 3 (g.map eA),.i .i64 0]) Z (aW (av _) (av _) Z Z) .nil ⟨rfl,rfl⟩
set_option maxHeartbeats 8000000
theorem ofNat_toNat(n:Nat):(UInt8.ofNat n).toNat=n%256:=UInt8.toNat_ofNat'
theorem lR(T more:List UInt8)(h:T.length≤65536):cN (bo T++more)=(T,8+T.length,0):=by
 have hx:=IT (eE T.length++T)
 have e:bo T++more=94::UInt8.ofNat (T.length / 65536)::UInt8.ofNat (T.length / 256)::UInt8.ofNat T.length::UInt8.ofNat (xl (eE T.length++T) / 16777216)::UInt8.ofNat (xl (eE T.length++T) / 65536)::UInt8.ofNat (xl (eE T.length++T) / 256)::UInt8.ofNat (xl (eE T.length++T))::(T++more):=by
  unfold bo Gt
  rw[List.append_assoc,List.append_assoc]
  generalize xl (eE T.length++T)=x
  rfl
 have hn:n3 (UInt8.ofNat (T.length / 65536)) (UInt8.ofNat (T.length / 256)) (UInt8.ofNat T.length)=T.length:=by
  unfold n3;rw[ofNat_toNat,ofNat_toNat,ofNat_toNat];omega
 have ht:(T++more).take T.length=T:=by rw[List.take_left]
 have hd:[94,UInt8.ofNat (T.length / 65536),UInt8.ofNat (T.length / 256),UInt8.ofNat T.length]=eE T.length:=rfl
 rw[e]
 unfold cN
 dsimp only
 rw[hn,ht,hd]
 generalize xl (eE T.length++T)=x at hx
 have h4:n4 (UInt8.ofNat (x / 16777216)) (UInt8.ofNat (x / 65536)) (UInt8.ofNat (x / 256)) (UInt8.ofNat x)=x:=by
  unfold n4;rw[ofNat_toNat,ofNat_toNat,ofNat_toNat,ofNat_toNat];omega
 rw[h4,if_neg (by rintro(h1|h1);exact h1 Z;omega),if_neg (by rw[List.length_append];omega),if_pos Z]
def N5:List aC:=[⟨[97,97],[49],false⟩,⟨[97,98],[],true⟩]
def N4:List UInt8:=[1,2,0,1,2,97,97,0,1,1,49,1,1,1,1,98,1]
def I8(o:List UInt8×Nat×Int):List aC×Nat×Int:=
 if o.2.2≠0 then ([],0,o.2.2) else
 match pH ((RS.open o.1).below 257).1 ((RS.open o.1).below 257).2 [] [] with
 |none=>([],0,3)
 |some (r,l)=>if r.done≠0 then ([],0,r.done) else if di l≠0 then ([],0,di l) else (l,o.2.1,0)
theorem Ka(s:List UInt8):qr s=I8 (cN s):=rfl
end Go.Proofs.YtginkbjclkdglaaGreat
