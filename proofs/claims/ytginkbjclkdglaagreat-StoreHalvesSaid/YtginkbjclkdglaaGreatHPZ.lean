/- Filters as plain Lean: bits, places, making, asking. No program in sight. -/
import Derived.Test.YtginkbjclkdglaaGreatV18Z
import Derived.Test.YtginkbjclkdglaaGreatKFZ
set_option maxHeartbeats 4000000
namespace Go.Proofs.YtginkbjclkdglaaGreat
open Go Go.RowKit
def AO(c:UInt8)(k:Nat):UInt8:=UInt8.ofNat (c.toNat|||2^k)
theorem AN(c:UInt8){k:Nat}(hk:k<8):c.toNat|||2^k<256:=
 Nat.or_lt_two_pow (n:=8) c.toNat_lt (Nat.pow_lt_pow_right (by decide) hk)
theorem Da(c:UInt8){k:Nat}(hk:k<8)(j:Nat):(AO c k).toNat.testBit j=(c.toNat.testBit j||decide (k=j)):=by
 unfold AO
 rw[UInt8.toNat_ofNat',Nat.mod_eq_of_lt (AN c hk),Nat.testBit_or,Nat.testBit_two_pow]
def cX(b:List UInt8):List Bool:=b.flatMap (fun c=>(List.range 8).map (fun k=>c.toNat.testBit k))
theorem Ef:cX []=[]:=rfl
theorem pI(c:UInt8)(b:List UInt8):cX (c::b)=(List.range 8).map (fun k=>c.toNat.testBit k)++cX b:=by simp[cX]
theorem gb:∀b:List UInt8,(cX b).length=8*b.length
 |[]=>rfl
 |c::b=>by rw[pI,List.length_append,gb b,List.length_map,List.length_range,List.length_cons];omega
theorem ov:∀(b:List UInt8) (p:Nat),(cX b)[p]?=(b[p / 8]?).map (fun c=>c.toNat.testBit (p%8))
 |[],p=>by simp[Ef]
 |c::b,p=>by
  rw[pI]
  by_cases hp:p<8
  ·rw[List.getElem?_append_left (by simpa using hp),List.getElem?_map,List.getElem?_range hp,Nat.div_eq_of_lt hp,Nat.mod_eq_of_lt hp];rfl
  ·rw[List.getElem?_append_right (by simp;omega),List.length_map,List.length_range,ov b (p - 8)]
   rw[show p / 8=(p - 8) / 8+1 by omega,List.getElem?_cons_succ,show (p - 8)%8=p%8 by omega]
def mU(b:List UInt8)(p:Nat):List UInt8:=b.set (p / 8) (AO (b.getD (p / 8) 0) (p%8))
theorem CX(b:List UInt8)(p:Nat):(mU b p).length=b.length:=by simp[mU]
theorem Az(b:List UInt8)(p:Nat):cX (mU b p)=(cX b).set p true:=by
 apply List.ext_getElem?
 intro j
 rw[ov,mU,List.getElem?_set,List.getElem?_set,ov]
 by_cases hd:p / 8=j / 8
 ·rw[if_pos hd]
  by_cases hl:p / 8<b.length
  ·rw[if_pos hl,Option.map_some,Da _ (Nat.mod_lt _ (by decide)),←hd,List.getElem?_eq_getElem hl]
   rw[List.getD_eq_getElem?_getD,List.getElem?_eq_getElem hl]
   by_cases hj:p=j
   ·rw[if_pos hj,if_pos (by rw[gb];omega)]
    subst hj;simp
   ·rw[if_neg hj]
    have:¬ p%8=j%8:=by omega
    simp[this]
  ·rw[if_neg hl]
   have hn:b[j / 8]?=none:=List.getElem?_eq_none (by omega)
   rw[hn]
   by_cases hj:p=j
   ·rw[if_pos hj,if_neg (by rw[gb];omega)];rfl
   ·rw[if_neg hj]
 ·rw[if_neg hd,if_neg (by intro h;exact hd (by rw[h]))]
def jw(b:List UInt8)(ps:List Nat):List UInt8:=ps.foldl mU b
theorem oY(ps:List Nat):∀b:List UInt8,(jw b ps).length=b.length:=by
 induction ps with
 |nil=>intro b;rfl
 |cons p ps ih=>intro b;exact(ih (mU b p)).trans (CX b p)
def AU(g:Nat):Nat:=if g%2=0 then g+1 else g
def y9(H i n:Nat):Nat:=((H+i*AU (H / 4294967296))%18446744073709551616)%n
def dQ(H p n:Nat):List Nat:=(List.range p).map (fun i=>y9 H i n)
theorem o9(H p n:Nat):(dQ H p n).length=p:=by simp[dQ]
theorem vC{H p n:Nat}(hn:0<n):∀x∈dQ H p n,x<n:=by
 intro x hx
 obtain⟨i,_,rfl⟩:=List.mem_map.1 hx
 exact Nat.mod_lt _ hn
theorem y8(H p n:Nat):dQ H (p+1) n=dQ H p n++[y9 H p n]:=by simp[dQ,List.range_succ]
def Mf(H:Nat):Nat→Nat
 |0=>H
 |k+1=>(Mf H k+AU (H / 4294967296))%18446744073709551616
theorem Lu(g:Nat):g|||1=AU g:=by
 apply Nat.eq_of_testBit_eq
 intro i
 rw[Nat.testBit_or]
 unfold AU
 cases i with
 |zero=>
  split
  ·rename_i h;simp[Nat.testBit_zero];omega
  ·rename_i h;simp[Nat.testBit_zero];omega
 |succ i=>
  rw[Nat.testBit_succ,Nat.testBit_succ,Nat.testBit_succ]
  split
  ·rename_i h;rw[show (g+1) / 2=g / 2 by omega];simp
  ·simp
def kV(p:Nat)(Hs:List Nat)(b:List UInt8):List UInt8:=Hs.foldl (fun b H=>jw b (dQ H p (8*b.length))) b
theorem vP(p:Nat)(Hs:List Nat):∀b,(kV p Hs b).length=b.length:=by
 induction Hs with
 |nil=>intro b;rfl
 |cons H Hs ih=>intro b;exact(ih _).trans (oY _ _)
def mJ(b:List Bool)(ps:List Nat):List Bool:=ps.foldl (fun b p=>b.set p true) b
def M8(p n:Nat)(Hs:List Nat)(b:List Bool):List Bool:=Hs.foldl (fun b H=>mJ b (dQ H p n)) b
theorem yW(ps:List Nat):∀b:List UInt8,cX (jw b ps)=mJ (cX b) ps:=by
 induction ps with
 |nil=>intro b;rfl
 |cons p ps ih=>
  intro b
  show cX (jw (mU b p) ps)=mJ ((cX b).set p true) ps
  rw[ih,Az]
theorem A9(p:Nat)(Hs:List Nat):∀b:List UInt8,cX (kV p Hs b)=M8 p (8*b.length) Hs (cX b):=by
 induction Hs with
 |nil=>intro b;rfl
 |cons H Hs ih=>
  intro b
  show cX (kV p Hs (jw b _))=M8 p _ Hs (mJ (cX b) _)
  rw[ih,yW,oY]
theorem Ci(n:Nat):cX (List.replicate n 0)=List.replicate (8*n) false:=by
 induction n with
 |zero=>rfl
 |succ n ih=>
  rw[List.replicate_succ,pI,ih,show 8*(n+1)=8+8*n by omega,←List.replicate_append_replicate]
  congr 1
def Od(p:Nat)(b:List Bool)(H:Nat):Bool:=(dQ H p b.length).all (fun x=>b.getD x true)
theorem AJ(ps:List Nat):∀(b:List Bool) (x:Nat),(mJ b ps).getD x true=(b.getD x true||decide (x∈ps)):=by
 induction ps with
 |nil=>intro b x;simp[mJ]
 |cons p ps ih=>
  intro b x
  show (mJ (b.set p true) ps).getD x true=_
  rw[ih,List.getD_eq_getElem?_getD,List.getElem?_set,List.getD_eq_getElem?_getD]
  by_cases hp:p=x
  ·subst hp
   rw[if_pos Z]
   by_cases hl:p<b.length
   ·rw[if_pos hl];simp
   ·rw[if_neg hl];simp
  ·rw[if_neg hp]
   simp[List.mem_cons,show ¬ x=p from fun h=>hp h.symm]
theorem JM(p n:Nat)(Hs:List Nat):∀(b:List Bool) (x:Nat),(M8 p n Hs b).getD x true=(b.getD x true||Hs.any (fun H=>decide (x∈dQ H p n))):=by
 induction Hs with
 |nil=>intro b x;simp[M8]
 |cons H Hs ih=>
  intro b x
  show (M8 p n Hs (mJ b _)).getD x true=_
  rw[ih,AJ,List.any_cons,Bool.or_assoc]
theorem Ng(H:Nat):(H:Int).fdiv (2^(min (Int.toNat 32) (IntKind.bits .u64)))=((H / 4294967296:Nat):Int):=EJ H (k:=32) (by decide)
theorem IK{H:Nat}(h:H<18446744073709551616):H / 4294967296<4294967296:=by omega
def uf(p:Int)(b:List UInt8):AV:=.agg [.i .i64 p,.sl 1 (b.map gy)]
def Kn(x:Nat):AV:=.i .i64 x
theorem Lr{H i n:Nat}(hH:H<18446744073709551616)(hi:i≤1000000000000):∀z:Int,z=n→(IntKind.u64.wrap ((H:Int)+IntKind.u64.wrap (IntKind.u64.wrap (i:Int)*eB .or .u64 ((H:Int).fdiv (2^(min (Int.toNat 32) (IntKind.bits .u64)))) 1))).tmod z=(y9 H i n:Nat):=by
 rintro _ rfl
 have hg:=IK hH
 have ho:H / 4294967296|||1=AU (H / 4294967296):=Lu _
 rw[Ng,oK (n:=i) (by omega),show (1:Int)=((1:Nat):Int) from rfl,NI (by omega) (by decide),ho,←Int.natCast_mul,m7,←Int.natCast_add,m7,Nat.add_mod_mod,Int.tmod_eq_emod_of_nonneg (by omega),←Int.natCast_emod]
 rfl
theorem rA(p:Nat)(b s:List UInt8)(hp:p≤1000000)(hb:0<b.length)(hb2:b.length≤1000000000):aQ Tryz.prog 125 [uf (p:Nat) b,.s s] [] (fun v os=>∃r,v= .own 0 r∧os=[.row r 3 1 ((dQ (ed s) p (8*b.length)).map Kn)]):=by
 refine aA ab [] Tryz.func125 Z Tryz.ntmps125 aN Z Z (fun C=>?_) Z
 unfold uf
 have hH:=Im s
 repeat' (first|refine ae ?_|refine aj ?_|refine aa ?_|refine ac (ax ?_)|refine ac (db ?_)|refine ac (bC ?_)|refine ah (ax ?_)|refine ah (bC ?_)|refine ah (db ?_)|refine aw (ax ?_)|refine aw (db ?_)|refine aw (bC ?_)|refine ap (bC ?_)|(refine bc Z Z Z Z ?_ ?_;omega)|(refine kL Z Z Z Z ?_ ?_;omega)|(refine t6 Z Z Z Z ?_ ?_ ?_;omega;omega)|refine br Z ab Z Z Z (fun _=>?_)|refine dA Z ab Z Z Z Z (fun _=>?_)|refine gW Z ab Z Z Z Z ?_|(refine iM Z ab Z Z Z Z ?_ ?_;omega)|refine aU ab (fun _=>?_)|refine c9 Z Z Z Z (fun bB=>?_)|(refine dr Z ab Z Z Z ?_ (fun _=>?_);(show List.length _+List.length _≤9223372036854775807;exact dt))|refine aI ab Z Z Z Z Z Z Z Z Z Z Z eo (fun _=>?_)|(refine bH ab Z Z Z Z Z Z Z Z Z (by first|exact J|exact rfl) Z Z (fun _=>rfl) ?_ ?_ (fun _=>?_);(exact dt);(exact dt))|(refine jg ab Z Z Z Z Z Z Z Z Z (fun _=>rfl) ?_ (fun _=>?_);(exact dt))|refine fy ab Z Z Z Z Z Z ?_|refine aR Z ?_|refine aB Z ?_|(refine ao Z (fun hc=>?_) (fun hc=>?_))<;>try omega|(refine fk Z (fun hc=>?_) (fun hc=>?_))<;>try omega|(refine bF Z (fun hc=>?_) (fun hc=>?_))<;>try omega|(refine ba Z (fun hc=>?_) (fun hc=>?_))|refine dJ ab Z Z Z Z Z (by first|exact J|exact rfl) Z Z Z Z ?_|refine cg 1 [] [] [] [0,2,3,4,5,6,1,7,8] aN aN aN Z Z Z ?_|refine au Z (wa _) ⟨aP,J⟩ Z ?_)
 have hsz:=oK (n:=8*b.length) (by omega)
 have hsz2:IntKind.u64.wrap (8*(b.length:Int))=((8*b.length:Nat):Int):=by rw[←hsz,Int.natCast_mul];rfl
 have hpl:=fun k (hk:k≤1000000000000)=>Lr (n:=8*b.length) hH hk _ hsz2
 have hlt:∀k,y9 (ed s) k (8*b.length)<8*b.length:=fun k=>Nat.mod_lt _ (by omega)
 have hsu:=fun k=>y8 (ed s) k (8*b.length)
 refine aO (fun q:Nat×Value=>⟨37,[(18,.i .i64 q.1),(17,.i .i64 p),(7,.own 7 q.2),(6,.i .u64 (IntKind.u64.wrap (8*b.length))),(5,.i .u64 (ed s:Nat))],[(7,.row q.2 3 1 ((dQ (ed s) q.1 (8*b.length)).map Kn))]⟩) (fun q=>q.1≤p) (fun q=>p - q.1) [] (0,.slice none 0 0) (Nat.zero_le _) ?_ ?_
 ·refine⟨rfl,⟨ai Z,ai Z,dp,ai Z,ai Z,J⟩,?_⟩
  exact cr.none .nil
 rintro⟨k,v⟩ hk
 dsimp only at hk ⊢
 have hplk:=hpl k (by omega)
 have hltk:=hlt k
 have hsuk:=hsu k
 have hlen:=o9 (ed s) k (8*b.length)
 have hpe:k=p→dQ (ed s) p (8*b.length)=dQ (ed s) k (8*b.length):=fun h=>by rw[h]
 generalize dQ (ed s) k (8*b.length)=ps at hsuk hlen hpe ⊢
 generalize ed s=H at hplk hltk hsuk hpe ⊢
 repeat' (first|refine ae ?_|refine aj ?_|refine aa ?_|refine ac (ax ?_)|refine ac (db ?_)|refine ac (bC ?_)|refine ah (ax ?_)|refine ah (bC ?_)|refine ah (db ?_)|refine aw (ax ?_)|refine aw (db ?_)|refine aw (bC ?_)|refine ap (bC ?_)|(refine bc Z Z Z Z ?_ ?_;omega)|(refine kL Z Z Z Z ?_ ?_;omega)|(refine t6 Z Z Z Z ?_ ?_ ?_;omega;omega)|refine br Z ab Z Z Z (fun _=>?_)|refine dA Z ab Z Z Z Z (fun _=>?_)|refine gW Z ab Z Z Z Z ?_|refine aU ab (fun _=>?_)|refine c9 Z Z Z Z (fun _=>?_)|(refine dr Z ab Z Z Z ?_ (fun _=>?_);(show List.length _+List.length _≤9223372036854775807;exact dt))|refine aI ab Z Z Z Z Z Z Z Z Z Z Z eo (fun _=>?_)|(refine bH ab Z Z Z Z Z Z Z Z Z (by first|exact J|exact rfl) Z Z (fun _=>rfl) ?_ ?_ (fun _=>?_);(exact dt);(exact dt))|(refine jg ab Z Z Z Z Z Z Z Z Z (fun _=>rfl) ?_ (fun _=>?_);(exact dt))|refine fy ab Z Z Z Z Z Z ?_|refine aR Z ?_|refine aB Z ?_|(refine ao Z (fun hc=>?_) (fun hc=>?_))<;>try omega|(refine fk Z (fun hc=>?_) (fun hc=>?_))<;>try omega|(refine bF Z (fun hc=>?_) (fun hc=>?_))<;>try omega|(refine ba Z (fun hc=>?_) (fun hc=>?_))|refine dJ ab Z Z Z Z Z (by first|exact J|exact rfl) Z Z Z Z ?_|refine cg 1 [] [] [] [0,2,3,4,5,6,1,7,8] aN aN aN Z Z Z ?_|refine au Z (wa _) ⟨aP,J⟩ Z ?_)
 ·refine⟨(k+1,_),[],by show k+1≤p;omega,by show p - (k+1)<p - k;omega,rfl,⟨ai (by omega),ai Z,aJ,ai Z,ai Z,J⟩,cr.cons 7 Z ?_ .nil⟩
  show aG _ (HO.row _ _ _ (List.map Kn ps++[AV.i .i64 (IntKind.i64.wrap _)])) _
  rw[hplk,rQ (by omega),hsuk,List.map_append]
  exact ak _
 ·have hkp:k=p:=by omega
  have hps:dQ H p (8*b.length)=ps:=hpe hkp
  refine bp (r:=.own 0 v) Z Z Z [] [(0,.row v 3 1 (ps.map Kn))] gZ (az 7 Z .nil) ⟨v,rfl,by rw[hps];rfl⟩ _ (.inl Z)
theorem AM(p:Nat)(b s:List UInt8)(_:s.length≤1000000000000)(hp:p≤1000000)(hb:0<b.length)(hb2:b.length≤1000000000):aQ Tryz.prog 125 [uf (p:Nat) b,.s s] [] (fun v os=>∃r,v= .own 0 r∧os=[.row r 3 1 ((dQ (ed s) p (8*b.length)).map Kn)]):=rA p b s hp hb hb2
def mO(p:Int)(n:Nat):Bool:=decide (1≤p)&&(decide (p≤16)&&(decide (1≤n)&&decide (n≤65536)))
theorem j8{p:Int}{n:Nat}:mO p n=true↔1≤p∧p≤16∧1≤n∧n≤65536:=by unfold mO;simp
theorem Gs{p:Int}{n:Nat}(h:¬ (1≤p∧p≤16∧1≤n∧n≤65536)):mO p n=false:=by
 cases hg:mO p n
 ·rfl
 ·exact absurd (j8.1 hg) h
def Om(x:Bool):AV:=.b x
def Oy(p:Int)(b:List Bool):AV:=.agg [.i .i64 p,.sl 1 (b.map Om)]
theorem tt(p:Int)(b:List UInt8)(hb:b.length≤1000000000000):aQ Tryz.prog 124 [uf p b] [] (fun v os=>v= .b (mO p (cX b).length)∧os=[]):=by
 refine aA ab [] Tryz.func124 Z Tryz.ntmps124 aN Z Z (fun C=>?_) Z
 unfold uf
 rw[gb]
 repeat' (first|refine ae ?_|refine aa ?_|refine ac (ax ?_)|refine ap (bC ?_)|refine d9 Z Z Z cM ?_|refine br Z ab Z Z Z (fun _=>?_)|refine aU ab (fun _=>?_)|refine c9 Z Z Z Z (fun bB=>?_)|(fail_if_success (refine aM Z cM ?_));(refine aV Z Z (fun hc=>?_) (fun hc=>?_)<;>try omega))
 all_goals refine bp Z Z Z [] [] (am ?_) .nil ⟨rfl,rfl⟩ _ (.inl Z)
 all_goals refine congrArg AV.b ?_
 all_goals first|exact(Gs (by omega)).symm|(rw[Bool.eq_iff_iff,decide_eq_true_eq,j8];omega)
theorem Jc(c:UInt8)(x:Nat):(eB .and .u8 ((c.toNat:Int).fdiv (2^(min ((x:Int)%8).toNat (IntKind.bits .u8)))) 1)=if c.toNat.testBit (x%8) then 1 else 0:=by
 have hc:=c.toNat_lt
 have hk:min ((x:Int)%8).toNat (IntKind.bits .u8)=x%8:=by rw[show IntKind.bits .u8=8 from rfl];omega
 have hl:c.toNat / 2^(x%8)<256:=Nat.lt_of_le_of_lt (Nat.div_le_self _ _) hc
 rw[hk,r8,show (1:Int)=((1:Nat):Int) from rfl,NS hl (by decide),Nat.and_one_is_mod,Nat.testBit_eq_decide_div_mod_eq]
 have:=Nat.mod_lt (c.toNat / 2^(x%8)) (show 2>0 by decide)
 by_cases h:c.toNat / 2^(x%8)%2=1
 ·rw[if_pos (by rw[decide_eq_true_eq];exact h),h]
 ·rw[if_neg (by rw[decide_eq_true_eq];exact h)];omega
theorem GJ(b:List UInt8)(x:Nat)(h:x / 8<b.length):(cX b).getD x true=(b[x / 8]'h).toNat.testBit (x%8):=by
 rw[List.getD_eq_getElem?_getD,ov,List.getElem?_eq_getElem h];rfl
def Be(p:Int)(b:List Bool)(H:Nat):Bool:=!(mO p b.length)||(dQ H p.toNat b.length).all (fun x=>b.getD x true)
theorem xq{α:Type}(f:α→Bool)(l:List α)(k:Nat)(x:α)(hx:l[k]?=some x):(l.take (k+1)).all f=((l.take k).all f&&f x):=by
 rw[List.take_add_one,hx];simp
theorem zU{α:Type}(f:α→Bool)(l:List α)(k:Nat)(x:α)(hx:l[k]?=some x)(h:f x=false):l.all f=false:=by
 rw[List.all_eq_false]
 exact⟨x,List.mem_of_getElem? hx,by rw[h];decide⟩
theorem Gc(p:Int)(b s:List UInt8)(hb:b.length≤1000000000):aQ Tryz.prog 84 [uf p b,.s s] [] (fun v os=>v= .b (Be p (cX b) (ed s))∧os=[]):=by
 refine aA ab [] Tryz.func84 Z Tryz.ntmps84 aN Z Z (fun C=>?_) Z
 have hgd:=tt p b (by omega)
 have hm:Be p (cX b) (ed s)=(!(mO p (cX b).length)||(dQ (ed s) p.toNat (cX b).length).all (fun x=>(cX b).getD x true)):=rfl
 cases hg:mO p (cX b).length
 ·rw[hg] at hgd hm
  rw[hm]
  unfold uf at hgd ⊢
  repeat' (first|refine ae ?_|refine aj ?_|refine aa ?_|refine ac (ax ?_)|refine ac (db ?_)|refine ac (bC ?_)|refine ah (ax ?_)|refine ah (bC ?_)|refine ah (db ?_)|refine aw (ax ?_)|refine aw (db ?_)|refine aw (bC ?_)|refine ap (bC ?_)|(refine bc Z Z Z Z ?_ ?_;omega)|(refine vF Z Z Z Z ?_ ?_ ?_;omega;omega)|(refine t6 Z Z Z Z ?_ ?_ ?_;omega;omega)|refine br Z ab Z Z Z (fun _=>?_)|refine dA Z ab Z Z Z Z (fun _=>?_)|refine aU ab (fun _=>?_)|refine c9 Z Z Z Z (fun bB=>?_)|(refine aK Z ab Z Z Z Z Z Z ?_ (aE ?_) ?_;omega;omega)|(refine bD ab Z Z Z Z Z Z Z Z _ Z ?_ (fun bO hbO=>?_);(exact dt))|(refine bR ab Z Z Z Z Z (by assumption) (aY (List.getElem?_eq_getElem ?_)) Z Z (by first|exact Nat.add_zero _|rfl) ⟨rfl,rfl⟩ ?_;omega)|(refine dr Z ab Z Z Z ?_ (fun _=>?_);(show List.length _+List.length _≤9223372036854775807;exact dt))|(refine bQ ab Z Z Z Z Z Z (by assumption) (aY (List.getElem?_eq_getElem ?_)) Z Z (by first|exact Nat.add_zero _|rfl) ⟨rfl,rfl⟩ Z Z ?_;omega)|refine fQ ab Z Z Z Z Z ?_|refine pd ab Z Z Z Z Z Z aN ?_|refine aR Z ?_|refine aB Z ?_|(refine ao Z (fun hc=>?_) (fun hc=>?_))<;>try omega|(refine fk Z (fun hc=>?_) (fun hc=>?_))<;>try omega|(refine bF Z (fun hc=>?_) (fun hc=>?_))<;>try omega|(refine ba Z (fun hc=>?_) (fun hc=>?_))|refine au Z hgd ⟨aP,J⟩ Z ?_)
  exact jh
 ·rw[hg] at hgd hm
  rw[gb] at hm
  rw[gb,j8] at hg
  obtain⟨p,rfl⟩:=Int.eq_ofNat_of_zero_le (show 0≤p by omega)
  have hpl:=rA p b s (by omega) (by omega) (by omega)
  rw[hm]
  unfold uf at hgd hpl ⊢
  repeat' (first|refine ae ?_|refine aj ?_|refine aa ?_|refine ac (ax ?_)|refine ac (db ?_)|refine ac (bC ?_)|refine ah (ax ?_)|refine ah (bC ?_)|refine ah (db ?_)|refine aw (ax ?_)|refine aw (db ?_)|refine aw (bC ?_)|refine ap (bC ?_)|(refine bc Z Z Z Z ?_ ?_;omega)|(refine vF Z Z Z Z ?_ ?_ ?_;omega;omega)|(refine t6 Z Z Z Z ?_ ?_ ?_;omega;omega)|refine br Z ab Z Z Z (fun _=>?_)|refine dA Z ab Z Z Z Z (fun _=>?_)|refine aU ab (fun _=>?_)|refine c9 Z Z Z Z (fun bB=>?_)|(refine aK Z ab Z Z Z Z Z Z ?_ (aE ?_) ?_;omega;omega)|(refine bD ab Z Z Z Z Z Z Z Z _ Z ?_ (fun bO hbO=>?_);(exact dt))|(refine bR ab Z Z Z Z Z (by assumption) (aY (List.getElem?_eq_getElem ?_)) Z Z (by first|exact Nat.add_zero _|rfl) ⟨rfl,rfl⟩ ?_;omega)|(refine dr Z ab Z Z Z ?_ (fun _=>?_);(show List.length _+List.length _≤9223372036854775807;exact dt))|(refine bQ ab Z Z Z Z Z Z (by assumption) (aY (List.getElem?_eq_getElem ?_)) Z Z (by first|exact Nat.add_zero _|rfl) ⟨rfl,rfl⟩ Z Z ?_;omega)|refine fQ ab Z Z Z Z Z ?_|refine pd ab Z Z Z Z Z Z aN ?_|refine aR Z ?_|refine aB Z ?_|(refine ao Z (fun hc=>?_) (fun hc=>?_))<;>try omega|(refine fk Z (fun hc=>?_) (fun hc=>?_))<;>try omega|(refine bF Z (fun hc=>?_) (fun hc=>?_))<;>try omega|(refine ba Z (fun hc=>?_) (fun hc=>?_))|refine au Z hgd ⟨aP,J⟩ Z ?_|(refine jy Z hpl ⟨aP,aP,J⟩ Z (fun vR=>?_)))
  have hps:∀x∈dQ (ed s) p (8*b.length),x<8*b.length:=vC (by omega)
  have hpn:=o9 (ed s) p (8*b.length)
  rw[show Int.toNat (p:Int)=p from rfl]
  generalize dQ (ed s) p (8*b.length)=ps at hps hpn ⊢
  refine aO (fun k:Nat=>⟨30,[(14,.i .i64 k),(13,.i .i64 ps.length),(12,.sl 1 (ps.map Kn)),(2,.ptr 2 bB [] 0)],[(2,.var bB (.agg [.i .i64 p,.sl 1 (b.map gy)]))]⟩) (fun k=>k≤ps.length∧(ps.take k).all (fun x=>(cX b).getD x true)=true) (fun k=>ps.length - k) [12] 0 ⟨Nat.zero_le _,rfl⟩ ?_ ?_
  ·exact⟨rfl,⟨ai Z,ai Z,bu (bP (.head _)) Z,af,J⟩,bq Z (ak _) .nil⟩
  rintro k ⟨hk,hall⟩
  by_cases hlt:k<ps.length
  ·have hx:=hps _ (List.getElem_mem hlt)
   have hx8:ps[k] / 8<b.length:=by omega
   have hbt:=Jc (b[ps[k] / 8]) ps[k]
   have hat:=GJ b ps[k] hx8
   have hsu:=xq (fun x=>(cX b).getD x true) ps k ps[k] (List.getElem?_eq_getElem hlt)
   have hfa:=zU (fun x=>(cX b).getD x true) ps k ps[k] (List.getElem?_eq_getElem hlt)
   have hz:eB .and .u8 ((b[ps[k] / 8].toNat:Int).fdiv (2^(min ((ps[k]:Int)%8).toNat (IntKind.bits .u8)))) 1=0→(cX b).getD ps[k] true=false:=by
    rw[hbt,hat];cases b[ps[k] / 8].toNat.testBit (ps[k]%8)<;>simp
   have hnz:¬ eB .and .u8 ((b[ps[k] / 8].toNat:Int).fdiv (2^(min ((ps[k]:Int)%8).toNat (IntKind.bits .u8)))) 1=0→(cX b).getD ps[k] true=true:=by
    rw[hbt,hat];cases b[ps[k] / 8].toNat.testBit (ps[k]%8)<;>simp
   clear hbt hat
   repeat' (first|refine ae ?_|refine aj ?_|refine aa ?_|refine ac (ax ?_)|refine ac (db ?_)|refine ac (bC ?_)|refine ah (ax ?_)|refine ah (bC ?_)|refine ah (db ?_)|refine aw (ax ?_)|refine aw (db ?_)|refine aw (bC ?_)|refine ap (bC ?_)|(refine bc Z Z Z Z ?_ ?_;omega)|(refine vF Z Z Z Z ?_ ?_ ?_;omega;omega)|(refine t6 Z Z Z Z ?_ ?_ ?_;omega;omega)|refine br Z ab Z Z Z (fun _=>?_)|refine dA Z ab Z Z Z Z (fun _=>?_)|refine aU ab (fun _=>?_)|refine c9 Z Z Z Z (fun _=>?_)|(refine aK Z ab Z Z Z Z Z Z ?_ (aE ?_) ?_;omega;omega)|(refine bD ab Z Z Z Z Z Z Z Z _ Z ?_ (fun bO hbO=>?_);(exact dt))|(refine bR ab Z Z Z Z Z (by assumption) (aY (List.getElem?_eq_getElem ?_)) Z Z (by first|exact Nat.add_zero _|rfl) ⟨rfl,rfl⟩ ?_;omega)|(refine dr Z ab Z Z Z ?_ (fun _=>?_);(show List.length _+List.length _≤9223372036854775807;exact dt))|(refine bQ ab Z Z Z Z Z Z (by assumption) (aY (List.getElem?_eq_getElem ?_)) Z Z (by first|exact Nat.add_zero _|rfl) ⟨rfl,rfl⟩ Z Z ?_;omega)|refine fQ ab Z Z Z Z Z ?_|refine pd ab Z Z Z Z Z Z aN ?_|refine aR Z ?_|refine aB Z ?_|(refine ao Z (fun hc=>?_) (fun hc=>?_))<;>try omega|(refine fk Z (fun hc=>?_) (fun hc=>?_))<;>try omega|(refine bF Z (fun hc=>?_) (fun hc=>?_))<;>try omega|(refine ba Z (fun hc=>?_) (fun hc=>?_)))
   ·refine bp Z Z Z [] [] (am ?_) .nil ⟨rfl,rfl⟩ _ (.inl Z)
    rw[hfa (hz hc)];rfl
   ·refine⟨k+1,[],⟨hlt,by rw[hsu,hall,hnz hc];rfl⟩,by omega,?_⟩
    refine⟨rfl,?_,?_⟩<;>repeat' (first|exact J|refine ai ?_|refine cY ?_|refine gq ?_|refine ay ?_|exact af|exact aJ|exact dp|exact gY.any|exact cr.nil|exact ak _|refine bq Z ?_ ?_|refine cr.none ?_|refine aZ ?_|refine bW ?_|exact av _|exact gZ|exact gK|exact dz|refine bS ?_|refine uy.cons ?_ ?_|exact uy.nil|with_reducible rfl|refine⟨?_,?_⟩|exact aP)
    all_goals first|rfl|omega
  ·have hkl:k=ps.length:=by omega
   rw[hkl,List.take_length] at hall
   repeat' (first|refine ae ?_|refine aj ?_|refine aa ?_|refine ac (ax ?_)|refine ac (db ?_)|refine ac (bC ?_)|refine ah (ax ?_)|refine ah (bC ?_)|refine ah (db ?_)|refine aw (ax ?_)|refine aw (db ?_)|refine aw (bC ?_)|refine ap (bC ?_)|(refine bc Z Z Z Z ?_ ?_;omega)|(refine vF Z Z Z Z ?_ ?_ ?_;omega;omega)|(refine t6 Z Z Z Z ?_ ?_ ?_;omega;omega)|refine br Z ab Z Z Z (fun _=>?_)|refine dA Z ab Z Z Z Z (fun _=>?_)|refine aU ab (fun _=>?_)|refine c9 Z Z Z Z (fun _=>?_)|(refine aK Z ab Z Z Z Z Z Z ?_ (aE ?_) ?_;omega;omega)|(refine bD ab Z Z Z Z Z Z Z Z _ Z ?_ (fun bO hbO=>?_);(exact dt))|(refine bR ab Z Z Z Z Z (by assumption) (aY (List.getElem?_eq_getElem ?_)) Z Z (by first|exact Nat.add_zero _|rfl) ⟨rfl,rfl⟩ ?_;omega)|(refine dr Z ab Z Z Z ?_ (fun _=>?_);(show List.length _+List.length _≤9223372036854775807;exact dt))|(refine bQ ab Z Z Z Z Z Z (by assumption) (aY (List.getElem?_eq_getElem ?_)) Z Z (by first|exact Nat.add_zero _|rfl) ⟨rfl,rfl⟩ Z Z ?_;omega)|refine fQ ab Z Z Z Z Z ?_|refine pd ab Z Z Z Z Z Z aN ?_|refine aR Z ?_|refine aB Z ?_|(refine ao Z (fun hc=>?_) (fun hc=>?_))<;>try omega|(refine fk Z (fun hc=>?_) (fun hc=>?_))<;>try omega|(refine bF Z (fun hc=>?_) (fun hc=>?_))<;>try omega|(refine ba Z (fun hc=>?_) (fun hc=>?_)))
   refine bp Z Z Z [] [] (am ?_) .nil ⟨rfl,rfl⟩ _ (.inl Z)
   rw[hall];rfl
end Go.Proofs.YtginkbjclkdglaaGreat
