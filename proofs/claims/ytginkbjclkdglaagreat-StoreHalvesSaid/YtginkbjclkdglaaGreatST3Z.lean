/- store.Name, store.Good, strings.HasPrefix, store.Check by rules. -/
import Derived.Test.YtginkbjclkdglaaGreatV49Z
import Derived.Test.YtginkbjclkdglaaGreatJ1
import Derived.Test.YtginkbjclkdglaaGreatB2Z
import Derived.Test.YtginkbjclkdglaaGreatV18Z
import Derived.Test.YtginkbjclkdglaaGreatV13Z
set_option maxHeartbeats 16000000
set_option maxRecDepth 100000
namespace Go.Proofs.YtginkbjclkdglaaGreat
open Go Go.RowKit
def Ln:List UInt8:=[116,97,98,45]
def eM(n:Nat):List UInt8:=Ln++ja 10 n
theorem m9(n:Nat):(eM n).length=14:=by unfold eM;rw[List.length_append,nH];rfl
theorem Aj{n m:Nat}(hn:n<10000000000)(hm:m<10000000000)(h:eM n=eM m):n=m:=by
 have h1:ja 10 n=ja 10 m:=List.append_cancel_left h
 have h2:=kM hn
 unfold ci at h2
 rw[h1] at h2
 have h3:=kM hm
 unfold ci at h3
 rw[h3] at h2
 exact(Option.some.inj h2).symm
theorem ve(n:Nat):kT (eM n)=none:=by
 unfold kT
 rw[if_neg]
 rintro⟨h,_⟩
 have:(eM n).take 4=Ln:=List.take_left (l₁:=Ln)
 rw[this] at h
 cases h
theorem CU(s p:List UInt8)(hs:s.length≤1000000000000)(hp:p.length≤1000000000000):aQ Tryz.prog 67 [.s s,.s p] [] (fun v os=>v= .b (decide (s.take p.length=p))∧os=[]):=by
 have hh:=tp s p hs hp
 refine aA ab [] Tryz.func67 Z Tryz.ntmps67 aN Z Z (fun C=>?_) Z
 repeat' (first|refine ae ?_|refine aa ?_|refine ac (ax ?_)|refine ap (bC ?_)|refine aU ab (fun _=>?_)|refine au Z (hh) ⟨aP,aP,J⟩ Z ?_)
 all_goals exact jh
theorem Fw(s p:List UInt8)(hs:s.length≤1000000000000)(hp:p.length≤1000000000000)(hc:s.take p.length=p):aQ Tryz.prog 146 [.s s,.s p] [] (fun v os=>v= .s (s.drop p.length)∧os=[]):=by
 have hh:=tp s p hs hp
 rw[decide_eq_true hc] at hh
 have hl:p.length≤s.length:=by have:=congrArg List.length hc;rw[List.length_take] at this;omega
 have htk:((s.take s.length).drop p.length)=s.drop p.length:=by rw[List.take_length]
 refine aA ab [] Tryz.func146 Z Tryz.ntmps146 aN Z Z (fun C=>?_) Z
 repeat' (first|refine ae ?_|refine aa ?_|refine ac (ax ?_)|refine ap (bC ?_)|refine aU ab (fun _=>?_)|refine aR Z ?_|(refine dK ab Z p.length s.length Z Z Z (cn Z Z) da (by omega) (by omega) ?_)|refine au Z (hh) ⟨aP,aP,J⟩ Z ?_)
 all_goals
  refine bp Z Z Z [] [] (am ?_) .nil ⟨rfl,rfl⟩ _ (.inl Z)
  exact congrArg AV.s htk
theorem CK(s p:List UInt8)(hs:s.length≤1000000000000)(hp:p.length≤1000000000000)(hc:s.take p.length=p):aQ Tryz.prog 113 [.s s,.s p] [] (fun v os=>v= .s (s.drop p.length)∧os=[]):=by
 have hh:=Fw s p hs hp hc
 refine aA ab [] Tryz.func113 Z Tryz.ntmps113 aN Z Z (fun C=>?_) Z
 repeat' (first|refine ae ?_|refine aa ?_|refine ac (ax ?_)|refine ap (bC ?_)|refine aU ab (fun _=>?_)|refine au Z (hh) ⟨aP,aP,J⟩ Z ?_)
 all_goals exact jh
theorem jS(n:Nat)(hn:n<10000000000):aQ Tryz.prog 64 [.i .i64 n] [] (fun v os=>v= .s (eM n)∧os=[]):=by
 have h1:=pT n hn
 have hl:=ji n
 have h2:=CK (ci n) [108,111,103] (by omega) (by decide) Z
 have hd:(ci n).drop ([108,111,103]:List UInt8).length=45::ja 10 n:=rfl
 have ht:eM n=[116,97,98]++45::ja 10 n:=rfl
 have hdl:(45::ja 10 n).length=11:=by rw[List.length_cons,nH]
 rw[hd] at h2
 rw[ht]
 generalize ci n=N at h1 h2
 generalize 45::ja 10 n=q at h2 hdl
 refine aA ab [] Tryz.func64 Z Tryz.ntmps64 aN Z Z (fun C=>?_) Z
 repeat' (first|refine ae ?_|refine aa ?_|refine ac (ax ?_)|refine ap (bC ?_)|refine aU ab (fun _=>?_)|(refine dr Z ab Z Z Z ?_ (fun _=>?_);(show List.length _+List.length _≤9223372036854775807;exact dt))|refine au Z (h1) ⟨aP,J⟩ Z ?_|refine au Z (h2) ⟨aP,aP,J⟩ Z ?_)
 all_goals exact jh
def kO(o:eW):Prop:=1≤o.mem∧o.mem≤1048576∧1≤o.blk∧o.blk≤16384∧1≤o.tab∧o.tab≤32768∧1≤o.cnt∧o.cnt≤100∧1≤o.size∧o.size≤1073741824
theorem vj(o:eW):aQ Tryz.prog 16 [el o] [] (fun v os=>∃b:Bool,(b=true↔kO o)∧v= .b b∧os=[]):=by
 refine aA ab [] Tryz.func16 Z Tryz.ntmps16 aN Z Z (fun C=>?_) Z
 unfold el
 unfold kO
 repeat' (first|refine ae ?_|refine aa ?_|refine ac (ax ?_)|refine ap (bC ?_)|refine gM Z Z Z ?_|refine aU ab (fun _=>?_)|refine c9 (d:=1) Z Z Z Z (fun b1=>?_)|(fail_if_success (refine aM Z cM ?_));(refine aV Z Z (fun hc=>?_) (fun hc=>?_)<;>try omega))
 all_goals first
  |exact bp Z Z Z [] [] (am Z) .nil ⟨false,⟨fun h=>(by cases h),fun h=>(by exfalso;omega)⟩,rfl,rfl⟩ _ (.inl Z)
  |exact bp Z Z Z [] [] (am Z) .nil ⟨_,⟨fun h=>(by have:=of_decide_eq_true h;omega),fun h=>decide_eq_true (by omega)⟩,rfl,rfl⟩ _ (.inl Z)
def pJ:List (List UInt8)→List aC→Int
 |_,[]=>0
 |seen,x::r=>if di [x]≠0 then di [x] else if seen.contains x.k=true then 14 else pJ (seen++[x.k]) r
def js(l:List aC):Int:=if 256<l.length then 2 else pJ [] l
theorem yE(l:List aC)(hl:l.length≤1000000)(hm:∀e∈l,e.k.length≤1000000000000∧e.v.length≤1000000000000):aQ Tryz.prog 42 [.sl 3 (l.map eA)] [] (fun v os=>v= .i .i64 (js l)∧os=[]):=by
 refine aA ab [] Tryz.func42 Z Tryz.ntmps42 aN Z Z (fun C=>?_) Z
 have hb:js l=if 256<l.length then 2 else pJ [] l:=rfl
 generalize js l=c at hb ⊢
 by_cases h256:256<l.length
 ·rw[if_pos h256] at hb;subst hb
  repeat' (first|refine ae ?_|refine aa ?_|refine ac (ax ?_)|refine ap (bC ?_)|refine br Z ab Z Z Z (fun _=>?_)|refine aU ab (fun _=>?_)|(refine ao Z (fun hc=>?_) (fun hc=>?_))<;>try omega)
  all_goals exact jh
 rw[if_neg h256] at hb
 repeat' (first|refine ae ?_|refine aj ?_|refine aa ?_|refine ac (ax ?_)|refine ah (ax ?_)|refine br Z ab Z Z Z (fun _=>?_)|refine aU ab (fun _=>?_)|(refine ao Z (fun hc=>?_) (fun hc=>?_))<;>try omega|(refine lH Z Z (fun bm=>?_)))
 refine aO (fun i:Nat=>⟨31,[(13,.i .i64 i),(12,.i .i64 l.length),(11,.sl 3 (l.map eA)),(3,.own 10 (.map (some bm)))],[(10,.obj bm (iC (((l.take i).map (·.k)).map vS)))]⟩) (fun i=>i≤l.length∧c=pJ ((l.take i).map (·.k)) (l.drop i)) (fun i=>l.length - i) [] 0 ⟨Nat.zero_le _,hb⟩ ?_ ?_
 ·exact⟨rfl,⟨ai Z,ai (by simp),ay Z,aJ,J⟩,az 10 Z .nil⟩
 rintro i ⟨hi,hc0⟩
 by_cases hlt:i<l.length
 ·have hd:=List.drop_eq_getElem_cons hlt
  have htk:(l.take (i+1)).map (·.k)=(l.take i).map (·.k)++[l[i].k]:=by rw[List.take_succ_eq_append_getElem hlt,List.map_append];rfl
  have hk:=pE [l[i]] (by rw[List.length_singleton];decide) (fun e he=>by rw[List.mem_singleton.1 he];exact hm _ (List.getElem_mem hlt))
  rw[hd] at hc0
  have hun:pJ ((l.take i).map (·.k)) (l[i]::l.drop (i+1))=if di [l[i]]≠0 then di [l[i]] else if ((l.take i).map (·.k)).contains l[i].k=true then 14 else pJ ((l.take i).map (·.k)++[l[i].k]) (l.drop (i+1)):=rfl
  rw[hun,←htk] at hc0
  generalize hce:di [l[i]]=ce at hk hc0
  have hk:aQ Tryz.prog 85 [.sl 3 [.agg [.s l[i].k,.s l[i].v,.b l[i].g]]] [] (fun v os=>v= .i .i64 ce∧os=[]):=hk
  have heA:eA l[i]= .agg [.s l[i].k,.s l[i].v,.b l[i].g]:=rfl
  by_cases h0:ce=0
  ·subst h0
   rw[if_neg (by decide)] at hc0
   cases hs:((l.take i).map (·.k)).contains l[i].k
   ·rw[hs,if_neg (by decide)] at hc0
    repeat' (first|(rw[hs])|refine ae ?_|refine aj ?_|refine aa ?_|refine ac (ax ?_)|refine ac (db ?_)|refine ah (ax ?_)|(refine bc Z Z Z Z ?_ ?_;omega)|refine aU ab (fun _=>?_)|refine aF (d:=5) Z ab Z Z Z (fun b5=>?_)|refine aD ab Z Z Z Z Z Z Z ⟨rfl,rfl⟩ Z Z Z Z Z ?_|(refine aK Z ab Z Z Z Z Z Z ?_ (aE ?_) ?_;omega;omega)|refine aI ab Z Z Z Z Z Z Z Z Z Z Z eo (fun _=>?_)|refine aB Z ?_|(refine ao Z (fun hc=>?_) (fun hc=>?_))<;>try omega|(refine bx [18] [] [] Z hk ⟨bu (bP (.head _)) Z,J⟩ Z J Z Z ?_;rintro _ _ ⟨rfl,rfl⟩;refine⟨_,rfl,rfl,?_⟩)|(refine fP ab xd Z ((l.take i).map (·.k)) l[i].k Z aN Z Z Z (fun w F u hu=>lj hu) Z ?_)|(refine ia ab xd Z ((l.take i).map (·.k)) l[i].k Z aN Z Z (fun w F u hu=>lj hu) Z Z Z hs ?_))
    exact⟨i+1,[],⟨by omega,hc0⟩,by show l.length - (i+1)<l.length - i;omega,rfl,⟨ai (by show (i:Int)+1=((i+1:Nat):Int);omega),ai Z,ay Z,aJ,J⟩,cr.cons 10 Z (by rw[htk];exact ak _) .nil⟩
   ·rw[hs,if_pos Z] at hc0
    subst hc0
    repeat' (first|(rw[hs])|refine ae ?_|refine aj ?_|refine aa ?_|refine ac (ax ?_)|refine ah (ax ?_)|refine ap (bC ?_)|refine aU ab (fun _=>?_)|refine aF (d:=5) Z ab Z Z Z (fun b5=>?_)|refine aD ab Z Z Z Z Z Z Z ⟨rfl,rfl⟩ Z Z Z Z Z ?_|(refine aK Z ab Z Z Z Z Z Z ?_ (aE ?_) ?_;omega;omega)|refine aI ab Z Z Z Z Z Z Z Z Z Z Z eo (fun _=>?_)|refine aR Z ?_|refine aB Z ?_|(refine ao Z (fun hc=>?_) (fun hc=>?_))<;>try omega|(refine bx [18] [] [] Z hk ⟨bu (bP (.head _)) Z,J⟩ Z J Z Z ?_;rintro _ _ ⟨rfl,rfl⟩;refine⟨_,rfl,rfl,?_⟩)|(refine fP ab xd Z ((l.take i).map (·.k)) l[i].k Z aN Z Z Z (fun w F u hu=>lj hu) Z ?_))
    all_goals exact jh
  ·rw[if_pos h0] at hc0
   subst hc0
   repeat' (first|refine ae ?_|refine aj ?_|refine aa ?_|refine ac (ax ?_)|refine ah (ax ?_)|refine ap (bC ?_)|refine aU ab (fun _=>?_)|refine aF (d:=5) Z ab Z Z Z (fun b5=>?_)|refine aD ab Z Z Z Z Z Z Z ⟨rfl,rfl⟩ Z Z Z Z Z ?_|(refine aK Z ab Z Z Z Z Z Z ?_ (aE ?_) ?_;omega;omega)|refine aI ab Z Z Z Z Z Z Z Z Z Z Z eo (fun _=>?_)|(refine ao Z (fun hc=>?_) (fun hc=>?_))<;>try omega|(refine bF Z (fun hc=>?_) (fun hc=>?_))<;>try omega|(refine bx [18] [] [] Z hk ⟨bu (bP (.head _)) Z,J⟩ Z J Z Z ?_;rintro _ _ ⟨rfl,rfl⟩;refine⟨_,rfl,rfl,?_⟩))
   all_goals exact jh
 ·have hE:c=0:=by rw[hc0,List.drop_eq_nil_of_le (by omega)];rfl
  subst hE
  repeat' (first|refine ae ?_|refine aa ?_|refine ac (ax ?_)|refine aw (ax ?_)|refine ap (bC ?_)|refine aU ab (fun _=>?_)|(refine ao Z (fun hc=>?_) (fun hc=>?_))<;>try omega)
  all_goals exact jh
set_option maxHeartbeats 4000000
def fT(c:Nat):Nat:=(c / 2)^^^(if c%2=1 then 3988292384 else 0)
def jq:Nat→Nat→Nat
 |0,c=>c
 |k+1,c=>jq k (fT c)
theorem yA:∀(k c:Nat),jq (k+1) c=fT (jq k c)
 |0,_=>rfl
 |k+1,c=>yA k (fT c)
theorem DX{c:Nat}(h:c<4294967296):fT c<4294967296:=by
 unfold fT
 exact Nat.xor_lt_two_pow (n:=32) (by omega) (by split<;>decide)
theorem uS:∀(k:Nat) {c:Nat},c<4294967296→jq k c<4294967296
 |0,_,h=>h
 |k+1,_,h=>uS k (DX h)
theorem GT(x y:Nat):(x^^^y) / 2=(x / 2)^^^(y / 2):=by
 apply Nat.eq_of_testBit_eq
 intro i
 rw[Nat.testBit_xor,←Nat.testBit_succ,←Nat.testBit_succ,←Nat.testBit_succ,Nat.testBit_xor]
theorem Jn(x y:Nat):(x^^^y)%2=(x%2+y%2)%2:=by
 have h:=Nat.testBit_xor x y 0
 simp only[Nat.testBit_zero] at h
 rcases Nat.mod_two_eq_zero_or_one x with h1|h1<;>rcases Nat.mod_two_eq_zero_or_one y with h2|h2<;>rcases Nat.mod_two_eq_zero_or_one (x^^^y) with h3|h3<;>rw[h1,h2,h3] at h<;>rw[h1,h2,h3]<;>simp at h
theorem B9(x y:Nat):fT (x^^^y)=fT x^^^fT y:=by
 unfold fT
 rw[GT,Jn]
 have e:∀a b c d:Nat,(a^^^b)^^^(c^^^d)=(a^^^c)^^^(b^^^d):=fun a b c d=>by
  rw[Nat.xor_assoc,Nat.xor_assoc,←Nat.xor_assoc b c d,Nat.xor_comm b c,Nat.xor_assoc c b d]
 rw[e (x / 2) _ (y / 2) _]
 congr 1
 rcases Nat.mod_two_eq_zero_or_one x with h1|h1<;>rcases Nat.mod_two_eq_zero_or_one y with h2|h2<;>rw[h1,h2]<;>decide
theorem Ca:∀(k x y:Nat),jq k (x^^^y)=jq k x^^^jq k y
 |0,_,_=>rfl
 |k+1,x,y=>by show jq k (fT (x^^^y))=jq k (fT x)^^^jq k (fT y);rw[B9,Ca k]
theorem zI(z:Nat):fT (2*z)=z:=by
 unfold fT
 rw[if_neg (by omega),Nat.xor_zero];omega
theorem D5(z:Nat):jq 8 (256*z)=z:=by
 have h:∀(k z:Nat),jq k (2^k*z)=z:=by
  intro k
  induction k with
  |zero=>intro z;simp[jq]
  |succ k ih=>
   intro z
   show jq k (fT (2^(k+1)*z))=z
   rw[Nat.pow_succ,Nat.mul_comm (2^k) 2,Nat.mul_assoc,zI,ih]
 exact h 8 z
theorem FD(x:Nat):x=(x%256)^^^(256*(x / 256)):=by
 apply Nat.eq_of_testBit_eq
 intro i
 rw[Nat.testBit_xor,show (256:Nat)=2^8 from rfl,Nat.testBit_mod_two_pow,Nat.testBit_two_pow_mul,Nat.testBit_div_two_pow]
 by_cases h:i<8
 ·simp[h,show ¬ 8≤i by omega]
 ·simp[h,show 8≤i by omega,Nat.sub_add_cancel (show 8≤i by omega)]
theorem DZ(x:Nat):jq 8 x=jq 8 (x%256)^^^(x / 256):=by
 conv=>lhs;rw[FD x,Ca,D5]
def p9(c:Nat)(b:UInt8):Nat:=jq 8 (c^^^b.toNat)
theorem DY{c:Nat}(h:c<4294967296)(b:UInt8):p9 c b<4294967296:=uS 8 (Nat.xor_lt_two_pow (n:=32) h (Nat.lt_trans b.toNat_lt (by decide)))
theorem xk(c:Nat)(b:UInt8):jq 8 ((c%256)^^^b.toNat)^^^(c / 256)=p9 c b:=by
 unfold p9
 rw[DZ (c^^^b.toNat)]
 have hb:=b.toNat_lt
 have e1:(c^^^b.toNat)%256=(c%256)^^^b.toNat:=by
  apply Nat.eq_of_testBit_eq
  intro i
  rw[show (256:Nat)=2^8 from rfl,Nat.testBit_mod_two_pow,Nat.testBit_xor,Nat.testBit_xor,Nat.testBit_mod_two_pow]
  by_cases h:i<8
  ·simp[h]
  ·have:b.toNat.testBit i=false:=Nat.testBit_lt_two_pow (Nat.lt_of_lt_of_le hb (show 2^8≤2^_ from Nat.pow_le_pow_right (by decide) (by omega)))
   simp[h,this]
 have e2:(c^^^b.toNat) / 256=c / 256:=by
  apply Nat.eq_of_testBit_eq
  intro i
  rw[show (256:Nat)=2^8 from rfl,Nat.testBit_div_two_pow,Nat.testBit_xor,Nat.testBit_div_two_pow]
  have:b.toNat.testBit (i+8)=false:=Nat.testBit_lt_two_pow (Nat.lt_of_lt_of_le hb (show 2^8≤2^_ from Nat.pow_le_pow_right (by decide) (by omega)))
  rw[this,Bool.xor_false]
 rw[e1,e2]
def Ff(b:Nat):Nat→Nat→Nat
 |0,c=>c
 |k+1,c=>(Ff b k c / 2)^^^(if (Ff b k c^^^(b / 2^k))%2=1 then 3988292384 else 0)
def jF(s:List UInt8):Nat:=s.foldl p9 4294967295
theorem zK(s:List UInt8)(k:Nat)(h:k<s.length):jF (s.take (k+1))=p9 (jF (s.take k)) (s[k]'h):=by
 unfold jF;rw[List.take_succ_eq_append_getElem h,List.foldl_append,List.foldl_cons,List.foldl_nil]
theorem ww(s:List UInt8):jF s<4294967296:=by
 unfold jF
 have:∀(s:List UInt8) (h:Nat),h<4294967296→s.foldl p9 h<4294967296:=by
  intro s
  induction s with
  |nil=>intro h hh;exact hh
  |cons c s ih=>intro h hh;exact ih _ (DY hh c)
 exact this s _ (by decide)
def xl(s:List UInt8):Nat:=4294967295 - jF s
theorem IT(s:List UInt8):xl s<4294967296:=by unfold xl;omega
def Gt(x:Nat):List UInt8:=[UInt8.ofNat (x / 16777216),UInt8.ofNat (x / 65536),UInt8.ofNat (x / 256),UInt8.ofNat x]
def eE(n:Nat):List UInt8:=[94,UInt8.ofNat (n / 65536),UInt8.ofNat (n / 256),UInt8.ofNat n]
def bo(s:List UInt8):List UInt8:=eE s.length++Gt (xl (eE s.length++s))++s
theorem Jp(n:Nat):IntKind.u32.wrap (n:Int)=((n%4294967296:Nat):Int):=by rw[Int.natCast_emod];rfl
theorem fC{n:Nat}(h:n<4294967296):IntKind.u32.wrap (n:Int)=(n:Int):=by rw[Jp,Nat.mod_eq_of_lt h]
theorem Er{x y:Nat}(hx:x<4294967296)(hy:y<4294967296):eB .xor .u32 (x:Int) (y:Int)=((x^^^y:Nat):Int):=by
 have hl:x^^^y<4294967296:=Nat.xor_lt_two_pow (n:=32) hx hy
 show IntKind.u32.wrap _=_
 rw[dU,dU,BitVec.toNat_xor,BitVec.toNat_ofNat,BitVec.toNat_ofNat,show (2^IntKind.u32.bits:Nat)=4294967296 from rfl,Nat.mod_eq_of_lt hx,Nat.mod_eq_of_lt hy,fC hl]
theorem Nk{x y:Nat}(hx:x<4294967296)(hy:y<4294967296):eB .and .u32 (x:Int) (y:Int)=((x&&& y:Nat):Int):=by
 have hl:x&&& y<4294967296:=Nat.lt_of_le_of_lt Nat.and_le_left hx
 show IntKind.u32.wrap _=_
 rw[dU,dU,BitVec.toNat_and,BitVec.toNat_ofNat,BitVec.toNat_ofNat,show (2^IntKind.u32.bits:Nat)=4294967296 from rfl,Nat.mod_eq_of_lt hx,Nat.mod_eq_of_lt hy,fC hl]
theorem Lx{x y:Nat}(hx:x<4294967296)(hy:y<4294967296):eB .or .u32 (x:Int) (y:Int)=((x|||y:Nat):Int):=by
 have hl:x|||y<4294967296:=Nat.or_lt_two_pow (n:=32) hx hy
 show IntKind.u32.wrap _=_
 rw[dU,dU,BitVec.toNat_or,BitVec.toNat_ofNat,BitVec.toNat_ofNat,show (2^IntKind.u32.bits:Nat)=4294967296 from rfl,Nat.mod_eq_of_lt hx,Nat.mod_eq_of_lt hy,fC hl]
theorem Ns{x y:Nat}(hx:x<256)(hy:y<256):eB .xor .u8 (x:Int) (y:Int)=((x^^^y:Nat):Int):=by
 have hl:x^^^y<256:=Nat.xor_lt_two_pow (n:=8) hx hy
 show IntKind.u8.wrap _=_
 rw[dU,dU,BitVec.toNat_xor,BitVec.toNat_ofNat,BitVec.toNat_ofNat,show (2^IntKind.u8.bits:Nat)=256 from rfl,Nat.mod_eq_of_lt hx,Nat.mod_eq_of_lt hy,nK,Nat.mod_eq_of_lt hl]
theorem Ax(n:Nat){k:Nat}(hk:k≤32):(n:Int).fdiv (2^(min ((k:Int)).toNat (IntKind.bits .u32)))=((n / 2^k:Nat):Int):=by
 rw[show min ((k:Int)).toNat (IntKind.bits .u32)=k by rw[show IntKind.bits .u32=32 from rfl];omega,r8]
section
variable {m:OM} {P:Program} {T:List (Nat×TI)} {C:il} {ops:Array Oper} {l:List Oper} {K:St→Prop} {n:Nat} {sl:List (Nat×AV)} {hp:List (Nat×HO)} {d:Nat} {ty:Nat} {pos:String} {aft:Array Edge} {gd:Option (Nat×Bool)}
theorem F4(hT:cP P T)(hw:cH ops ⟨n,sl,hp⟩ gd=bE gd){t:Nat}{x:Operand}{key b off j sz mlen:Nat}{xs:List AV}{y:AV}{ti:TI}
 (hx:ev ⟨n,sl,hp⟩ x= .ptr key b [j] off)(ht:bI T t=some ti)(hg:bU hp key=some (.var b (.arr sz mlen xs)))(ho:j*sz=off)(hj:xs[j]?=some y)(hf:fits ti y)(hm:m.okc (some d) (some (some key))=true)(hd:Nat.blt d n=true)
 (h:aq m P C ops l ⟨n,(d,y)::sl,hp⟩ K):aq m P C ops (⟨some d,.load t x,ty,pos,aft,gd⟩::l) ⟨n,sl,hp⟩ K:=by
 refine iU hT hw (need:=b=b∧j*sz+0=off∧fits ti y) (gain:=True) (rd:=some (some key)) (x:=y) ?_ hm hd ⟨rfl,ho,hf⟩ (fun _=>h)
 simp[cv,tF,hx,ht,hg,jL,hj]
end
def qv(x:Nat):AV:=.i .u32 x
def tab(i:Nat):List Nat:=(List.range 256).map (fun j=>if j<i then jq 8 j else 0)
theorem uE(i:Nat):(tab i).length=256:=by simp[tab]
theorem Hd:(tab 0).map qv=List.replicate 256 (.i .u32 0):=by
 unfold tab
 rw[List.map_map]
 exact List.eq_replicate_iff.2 ⟨by simp,fun b hb=>by
  obtain⟨j,_,rfl⟩:=List.mem_map.1 hb
  simp[qv]⟩
theorem rc{i j:Nat}(h:j<256):(tab i)[j]?=some (if j<i then jq 8 j else 0):=by
 unfold tab;rw[List.getElem?_map,List.getElem?_range h];rfl
theorem Ju{i:Nat}(h:i<256):(tab i).set i (jq 8 i)=tab (i+1):=by
 apply List.ext_getElem?
 intro j
 rw[List.getElem?_set,uE]
 by_cases hij:i=j
 ·subst hij
  rw[if_pos Z,if_pos h,rc h,if_pos (by omega)]
 ·rw[if_neg hij]
  by_cases hj:j<256
  ·rw[rc hj,rc hj]
   by_cases h1:j<i
   ·rw[if_pos h1,if_pos (by omega)]
   ·rw[if_neg h1,if_neg (by omega)]
  ·rw[List.getElem?_eq_none (by rw[uE];omega),List.getElem?_eq_none (by rw[uE];omega)]
theorem Hf{j:Nat}(h:j<256):((tab 256).map qv)[j]?=some (qv (jq 8 j)):=by
 rw[List.getElem?_map,rc h,if_pos h,Option.map_some]
theorem NF(c:Nat):(c:Int).fdiv (2^(min (Int.toNat 1) (IntKind.bits .u32)))=((c / 2:Nat):Int):=Ax c (k:=1) (by decide)
theorem Jx{c:Nat}(h:c<4294967296):eB .xor .u32 ((c:Int).fdiv (2^(min (Int.toNat 1) (IntKind.bits .u32)))) (eB .and .u32 3988292384 (IntKind.u32.wrap (0 - eB .and .u32 (c:Int) 1)))=(fT c:Nat):=by
 rw[NF,show (1:Int)=((1:Nat):Int) from rfl,Nk h (by decide),Nat.and_one_is_mod]
 unfold fT
 rcases Nat.mod_two_eq_zero_or_one c with h1|h1
 ·rw[h1,if_neg (by decide),show eB .and .u32 3988292384 (IntKind.u32.wrap (0 - ((0:Nat):Int)))=((0:Nat):Int) by decide,Er (by omega) (by decide)]
 ·rw[h1,if_pos Z,show eB .and .u32 3988292384 (IntKind.u32.wrap (0 - ((1:Nat):Int)))=((3988292384:Nat):Int) by decide,Er (by omega) (by decide)]
theorem CJ:aQ Tryz.prog 144 [] [] (fun v os=>v= .arr 1 256 ((tab 256).map qv)∧os=[]):=by
 refine aA ab [] Tryz.func144 Z Tryz.ntmps144 aN Z Z (fun C=>?_) Z
 repeat' (first|refine ae ?_|refine aj ?_|refine aa ?_|refine ac (ax ?_)|refine aU ab (fun _=>?_)|refine aF (d:=0) Z ab Z Z Z (fun b0=>?_)|refine aF (d:=1) Z ab Z Z Z (fun b1=>?_))
 refine aO (fun i:Nat=>⟨24,[(4,.i .i64 i),(1,.ptr 1 b1 [] 0),(0,.ptr 0 b0 [] 0)],[(1,.var b1 (.arr 1 256 ((tab i).map qv))),(0,.var b0 (.arr 1 256 (List.replicate 256 (.i .u32 0))))]⟩) (fun i=>i≤256) (fun i=>256 - i) [] 0 (Nat.zero_le _) ?_ ?_
 ·exact⟨rfl,⟨ai Z,af,af,J⟩,cr.cons 1 Z (bW (am (by rw[Hd]))) (az 0 Z .nil)⟩
 intro i hi
 by_cases hlt:i<256
 ·have hst:=Ju hlt
  have hil:((tab i).map qv).length=256:=by rw[List.length_map,uE]
  have hmap:((tab i).map qv).set i (qv (jq 8 i))=(tab (i+1)).map qv:=by rw[←List.map_set,hst]
  have hxi:((tab i).map qv)[i]?=some (qv 0):=by rw[List.getElem?_map,rc hlt,if_neg (by omega),Option.map_some]
  generalize (tab i).map qv=xs at hil hmap hxi ⊢
  repeat' (first|refine ae ?_|refine aj ?_|refine aa ?_|refine ac (ax ?_)|refine ah (ax ?_)|refine aU ab (fun _=>?_)|(refine ao Z (fun hc=>?_) (fun hc=>?_))<;>try omega)
  refine aO (fun k:Nat=>⟨24,[(9,.i .i64 k),(3,.i .u32 (jq k i:Nat)),(2,.i .i64 i),(4,.i .i64 i),(1,.ptr 1 b1 [] 0),(0,.ptr 0 b0 [] 0)],[(1,.var b1 (.arr 1 256 xs)),(0,.var b0 (.arr 1 256 (List.replicate 256 (.i .u32 0))))]⟩) (fun k=>k≤8) (fun k=>8 - k) [] 0 (Nat.zero_le _) ?_ ?_
  ·exact⟨rfl,⟨ai Z,ai (fC (n:=i) (by omega)),ai Z,ai Z,af,af,J⟩,az 1 Z (az 0 Z .nil)⟩
  intro k hk
  have hst:=Jx (uS k (c:=i) (by omega))
  rw[←yA] at hst
  have h8:k=8→jq k i=jq 8 i:=fun h=>by rw[h]
  generalize hc0:jq k i=c0 at hst h8 ⊢
  generalize jq 8 i=c8 at hmap h8
  repeat' (first|refine ae ?_|refine aj ?_|refine aa ?_|refine ac (ax ?_)|refine ac (db ?_)|refine ah (ax ?_)|refine aw (ax ?_)|(refine bc Z Z Z Z ?_ ?_;omega)|refine aU ab (fun _=>?_)|(refine ao Z (fun hc=>?_) (fun hc=>?_))<;>try omega)
  ·exact⟨k+1,[],by omega,by omega,rfl,⟨ai (by omega),ai hst,ai Z,ai Z,af,af,J⟩,az 1 Z (az 0 Z .nil)⟩
  ·refine vH ab Z Z Z Z Z Z i Z (by omega) ?_
   refine Dc ab Z Z Z Z Z Z ⟨rfl,rfl⟩ Z Z hxi Z Z ?_
   repeat' (first|refine aa ?_|refine ac (ax ?_)|refine ac (db ?_)|(refine bc Z Z Z Z ?_ ?_;omega)|refine aU ab (fun _=>?_))
   refine⟨i+1,[],by omega,by omega,rfl,⟨ai (by omega),af,af,J⟩,cr.cons 1 Z (bW (am ?_)) (az 0 Z .nil)⟩
   rw[←hmap,←h8 (by omega)];rfl
 ·have hi2:i=256:=by omega
  subst hi2
  generalize (tab 256).map qv=xs
  repeat' (first|refine ae ?_|refine aa ?_|refine ac (ax ?_)|refine aw (ax ?_)|refine ap (bC ?_)|refine aU ab (fun _=>?_)|refine aD ab Z Z Z Z Z Z Z ⟨rfl,rfl⟩ Z Z Z Z Z ?_|refine aB Z ?_)
  exact aH [] [] (.arr 1 256 xs) Z (bX (av _) Z) .nil ⟨rfl,rfl⟩
theorem J5{c:Nat}(h:c<4294967296):eB .xor .u32 (if IntKind.u32.signed=true then -1 else IntKind.u32.max) (c:Int)=((4294967295 - c:Nat):Int):=by
 rw[show (if IntKind.u32.signed=true then -1 else IntKind.u32.max)=((4294967295:Nat):Int) by decide,Er (by decide) h]
 have h1:=BitVec.toNat_not (x:=BitVec.ofNat 32 c)
 rw[BitVec.not_def,BitVec.toNat_xor,BitVec.toNat_allOnes,BitVec.toNat_ofNat,Nat.mod_eq_of_lt h] at h1
 rw[h1]
theorem wE(s:List UInt8)(hs:s.length≤1000000000000):aQ Tryz.prog 108 [.s s] [] (fun v os=>v= .i .u32 (xl s:Nat)∧os=[]):=by
 refine aA ab [] Tryz.func108 Z Tryz.ntmps108 aN Z Z (fun C=>?_) Z
 have ht:=CJ
 have htf:=fun j (h:j<256)=>Hf h
 generalize (tab 256).map qv=tb at ht htf
 repeat' (first|refine ae ?_|refine aj ?_|refine aa ?_|refine ac (ax ?_)|refine br Z ab Z Z Z (fun _=>?_)|refine aU ab (fun _=>?_)|refine aF (d:=3) Z ab Z Z Z (fun b3=>?_)|refine aD ab Z Z Z Z Z Z Z ⟨rfl,rfl⟩ Z Z Z Z Z ?_|refine fy ab Z Z Z Z Z Z ?_|(refine gg Z (ht) J Z ?_;rintro _ _ ⟨rfl,rfl⟩;refine⟨rfl,?_⟩))
 refine aO (fun k:Nat=>⟨27,[(11,.i .i64 k),(10,.i .i64 s.length),(9,.sl 1 (s.map gy)),(4,.i .u32 (jF (s.take k):Nat)),(3,.ptr 3 b3 [] 0)],[(3,.var b3 (.arr 1 256 tb))]⟩) (fun k=>k≤s.length) (fun k=>s.length - k) [] 0 (Nat.zero_le _) ?_ ?_
 ·exact⟨rfl,⟨ai Z,ai Z,ay Z,ai Z,af,J⟩,az 3 Z .nil⟩
 intro k hk
 by_cases hlt:k<s.length
 ·have hl:=ww (s.take k)
  have hsu:=zK s k hlt
  have hct:=xk (jF (s.take k)) s[k]
  generalize jF (s.take k)=c at hl hsu hct ⊢
  repeat' (first|refine ae ?_|refine aj ?_|refine aa ?_|refine ac (ax ?_)|refine ah (ax ?_)|refine aU ab (fun _=>?_)|(refine aK Z ab Z Z Z Z Z Z ?_ (aE ?_) ?_;omega;omega)|(refine ao Z (fun hc=>?_) (fun hc=>?_))<;>try omega)
  have hb:=s[k].toNat_lt
  have hx8:eB .xor .u8 (IntKind.u8.wrap (c:Int)) (s[k].toNat:Int)=((c%256^^^s[k].toNat:Nat):Int):=by
   rw[nK,Ns (Nat.mod_lt _ (by decide)) hb]
  have hxl:c%256^^^s[k].toNat<256:=Nat.xor_lt_two_pow (n:=8) (Nat.mod_lt _ (by decide)) hb
  have htj:=htf _ hxl
  have hs8:(c:Int).fdiv (2^(min (Int.toNat 8) (IntKind.bits .u32)))=((c / 256:Nat):Int):=Ax c (k:=8) (by decide)
  have hT:=uS 8 (c:=c%256^^^s[k].toNat) (by omega)
  have hx32:=Er (x:=jq 8 (c%256^^^s[k].toNat)) (y:=c / 256) hT (by omega)
  rw[hct,←hs8] at hx32
  generalize c%256^^^s[k].toNat=j at hx8 hxl htj hT hct hx32
  generalize jq 8 j=T at htj hT hct hx32
  refine vH ab Z Z Z Z Z Z j hx8 hxl ?_
  refine F4 ab Z Z Z Z Z htj ⟨rfl,rfl⟩ Z Z ?_
  repeat' (first|refine aa ?_|refine ac (ax ?_)|refine ac (db ?_)|(refine bc Z Z Z Z ?_ ?_;omega)|refine aU ab (fun _=>?_))
  refine⟨k+1,[],hlt,by omega,rfl,⟨ai (by omega),ai Z,ay Z,ai ?_,af,J⟩,az 3 Z .nil⟩
  exact hx32.trans (by rw[←hsu])
 ·have hkl:k=s.length:=by omega
  subst hkl
  rw[List.take_length]
  have hl:=ww s
  have hcd:xl s=4294967295 - jF s:=rfl
  rw[hcd]
  generalize jF s=c at hl ⊢
  repeat' (first|refine ae ?_|refine aa ?_|refine ac (ax ?_)|refine aw (ax ?_)|refine ap (bC ?_)|refine aU ab (fun _=>?_)|(refine ao Z (fun hc=>?_) (fun hc=>?_))<;>try omega)
  refine bp Z Z Z [] [] (am ?_) .nil ⟨rfl,rfl⟩ _ (.inl Z)
  exact congrArg (AV.i .u32) (J5 hl)
end Go.Proofs.YtginkbjclkdglaaGreat
