/- code.Reader by rules: Number, Below, Text, Flag, Left, Done, Open. -/
import Derived.Test.YtginkbjclkdglaaGreatS2Z
set_option maxHeartbeats 4000000
namespace Go.Proofs.YtginkbjclkdglaaGreat
open Go Go.RowKit
def be(l:List UInt8):Nat:=l.foldl (fun n c=>256*n+c.toNat) 0
def ku(sz:Nat)(l:List UInt8):Bool:=match l with
 |[]=>false
 |c::_=>c.toNat==0||sz==8&&decide (127<c.toNat)
theorem Fm(l:List UInt8)(c:UInt8):be (l++[c])=256*be l+c.toNat:=by simp[be,List.foldl_append]
theorem Jd(l:List UInt8):∀a,l.foldl (fun n c=>256*n+c.toNat) a=a*256^l.length+be l:=by
 induction l with
 |nil=>intro a;simp[be]
 |cons c l ih=>
  intro a
  have h0:=ih c.toNat
  simp only[be,List.foldl_cons,Nat.mul_zero,Nat.zero_add] at h0 ⊢
  rw[ih,h0,List.length_cons,Nat.pow_succ,Nat.add_mul]
  simp only[be]
  rw[show 256*a*256^l.length=a*(256^l.length*256) by rw[Nat.mul_comm 256 a,Nat.mul_assoc,Nat.mul_comm 256]]
  omega
theorem zQ(c:UInt8)(l:List UInt8):be (c::l)=c.toNat*256^l.length+be l:=by
 have:=Jd l c.toNat
 simpa [be] using this
theorem Kv(l:List UInt8):be l<256^l.length:=by
 induction l with
 |nil=>simp[be]
 |cons c l ih=>
  rw[zQ,List.length_cons,Nat.pow_succ]
  have h1:c.toNat+1≤256:=c.toNat_lt
  have h2:=Nat.mul_le_mul_right (256^l.length) h1
  rw[Nat.add_mul,Nat.one_mul] at h2
  rw[Nat.mul_comm (256^l.length) 256]
  omega
theorem Eg(l:List UInt8)(k:Nat):be (l.take k)≤be l:=by
 conv=>rhs;rw[←List.take_append_drop k l]
 have:be (l.take k++l.drop k)=be (l.take k)*256^(l.drop k).length+be (l.drop k):=by
  unfold be;rw[List.foldl_append];exact Jd _ _
 rw[this]
 have:=Nat.le_mul_of_pos_right (be (l.take k)) (Nat.pow_pos (n:=(l.drop k).length) (by omega:0<256))
 omega
theorem Kc{sz:Nat}{l:List UInt8}(hl:l.length≤sz)(h8:sz≤8)(hb:ku sz l=false):be l<9223372036854775808:=by
 rcases l with _|⟨c,l⟩
 ·simp[be]
 ·have h1:=Kv (c::l)
  by_cases h:(c::l).length≤7
  ·have:256^(c::l).length≤256^7:=Nat.pow_le_pow_right (by omega) h
   omega
  ·have hl8:l.length=7:=by simp at hl h;omega
   have hsz:sz=8:=by simp at hl h;omega
   rw[zQ,hl8]
   have h2:=Kv l
   rw[hl8] at h2
   simp[ku,hsz] at hb
   have:=hb.2
   omega
def rS(l:List UInt8):Nat:=(l.headD 0).toNat
def RS.number(r:RS):Nat×RS:=
 if (r.take 1).1=[] then (0,(r.take 1).2) else
 if 8<rS (r.take 1).1 then (0,(r.take 1).2.fail 4) else
 if ku (rS (r.take 1).1) ((r.take 1).2.take (rS (r.take 1).1)).1 then (0,((r.take 1).2.take (rS (r.take 1).1)).2.fail 4)
 else (be ((r.take 1).2.take (rS (r.take 1).1)).1,((r.take 1).2.take (rS (r.take 1).1)).2)
theorem RS.ok_number{r:RS}(h:r.ok):r.number.2.ok:=by
 unfold RS.number
 split
 ·exact ok_take h 1
 ·split
  ·exact ok_fail (ok_take h 1) 4
  ·split
   ·exact ok_fail (ok_take (ok_take h 1) _) 4
   ·exact ok_take (ok_take h 1) _
theorem Hc(r:RS)(n:Nat):(r.take n).1.length≤n:=by
 unfold RS.take
 split
 ·exact Nat.zero_le _
 ·split
  ·exact Nat.zero_le _
  ·show ((r.s.drop r.p).take n).length≤n
   rw[List.length_take];omega
theorem Lv(n:Nat)(c:UInt8)(hn:256*n+c.toNat<9223372036854775808):eB .or .i64 (IntKind.wrap .i64 ((n:Int)*2^(min (Int.toNat 8) (IntKind.bits .i64)))) (c.toNat:Int)=((256*n+c.toNat:Nat):Int):=by
 have h1:(n:Int)*2^(min (Int.toNat 8) (IntKind.bits .i64))=(n:Int)*256:=by rw[show (2:Int)^(min (Int.toNat 8) (IntKind.bits .i64))=256 from rfl]
 rw[h1,qt _ (by omega)]
 exact JD n c.toNat (c.toNat_lt) hn
theorem zP(l:List UInt8)(k:Nat)(h:k<l.length):be (l.take (k+1))=256*be (l.take k)+(l[k]'h).toNat:=by
 rw[List.take_succ_eq_append_getElem h,Fm]
theorem qb(t:List UInt8)(k:Nat)(hk:k<t.length)(h0:(k:Int)=0)(sz:Nat):ku sz t=((t[k]'hk).toNat==0||sz==8&&decide (127<(t[k]'hk).toNat)):=by
 have:k=0:=by omega
 subst this
 cases t with
 |nil=>simp at hk
 |cons c l=>rfl
theorem wK{sz:Nat}{t:List UInt8}(hlen:t.length≤sz)(h8:sz≤8)(hb:ku sz t=false)(k:Nat)(hk:k<t.length):eB .or .i64 (IntKind.wrap .i64 ((be (t.take k):Nat)*2^(min (Int.toNat 8) (IntKind.bits .i64)))) ((t[k]'hk).toNat:Int)=((be (t.take (k+1)):Nat):Int):=by
 have h1:=Kc hlen h8 hb
 have h2:=Eg t (k+1)
 rw[zP t k hk] at h2 ⊢
 exact Lv _ _ (by omega)
theorem dX(b:Nat)(r:RS)(hok:r.ok):aQ Tryz.prog 59 [.ptr 0 b [] 0] [.var b (ry r)] (fun v os=>v= .i .i64 (r.number.1:Nat)∧os=[.var b (ry r.number.2)]):=by
 refine aA ab [(0,.var b (ry r))] Tryz.func59 Z Tryz.ntmps59 aN Z Z (fun C=>?_) Z
 repeat' (first|refine ae ?_|refine aa ?_|refine ac (ax ?_)|refine aU ab (fun _=>?_))
 refine bx [] [0] [0] Z (lV b 1 r hok) ⟨af,ai Z,J⟩ Z dD Z Z ?_
 rintro v os' ⟨rfl,rfl⟩;refine⟨_,rfl,rfl,?_⟩
 repeat' (first|refine ae ?_|refine aa ?_|refine ac (ax ?_)|refine ah (ax ?_)|refine ap (bC ?_)|refine aU ab (fun _=>?_)|(refine ba Z (fun hc=>?_) (fun hc=>?_)))
 ·have h0:(r.take 1).1=[]:=by simpa using hc
  refine bp Z Z Z [] [(0,_)] (am ?_) (bq Z (ak _) .nil) ⟨rfl,?_⟩ _ (.inl Z)
  ·unfold RS.number;rw[if_pos h0];rfl
  ·unfold RS.number;rw[if_pos h0];rfl
 ·have h0:¬ (r.take 1).1=[]:=by simpa using hc
  obtain⟨c0,hc0⟩:∃c0,(r.take 1).1[Int.toNat 0]?=some c0:=by
   cases hq:(r.take 1).1 with
   |nil=>exact absurd hq h0
   |cons a l=>exact⟨a,rfl⟩
  have hd:rS (r.take 1).1=c0.toNat:=by
   cases hq:(r.take 1).1 with
   |nil=>exact absurd hq h0
   |cons a l=>rw[hq] at hc0;simp at hc0;rw[←hc0];rfl
  refine gE ab Z Z Z Z Z (by omega) hc0 ?_
  repeat' (first|refine ae ?_|refine aa ?_|refine ac (ax ?_)|refine ah (ax ?_)|refine gW Z ab Z Z Z Z ?_|refine aU ab (fun _=>?_)|(refine ao Z (fun hc=>?_) (fun hc=>?_))<;>try omega)
  ·refine bx [] [0] [0] Z (jX b 4 _) ⟨af,ai Z,J⟩ Z dD Z Z ?_
   rintro v os' ⟨rfl,rfl⟩;refine⟨_,rfl,rfl,?_⟩
   repeat' (first|refine ae ?_|refine aa ?_|refine ac (ax ?_)|refine ap (bC ?_)|refine aU ab (fun _=>?_))
   have hn:r.number=(0,(r.take 1).2.fail 4):=by unfold RS.number;rw[if_neg h0,if_pos (by omega)]
   exact bp Z Z Z [] [(0,_)] (am (by rw[hn];rfl)) (bq Z (ak _) .nil) ⟨rfl,by rw[hn];rfl⟩ _ (.inl Z)
  ·have hok1:=RS.ok_take hok 1
   refine bx [] [0] [0] Z (lV b c0.toNat _ hok1) ⟨af,ai Z,J⟩ Z dD Z Z ?_
   rintro v os' ⟨rfl,rfl⟩;refine⟨_,rfl,rfl,?_⟩
   have hn0:r.number=if ku c0.toNat ((r.take 1).2.take c0.toNat).1 then (0,((r.take 1).2.take c0.toNat).2.fail 4) else (be ((r.take 1).2.take c0.toNat).1,((r.take 1).2.take c0.toNat).2):=by
    unfold RS.number;rw[if_neg h0,if_neg (by omega),hd]
   have hlen:=Hc (r.take 1).2 c0.toNat
   generalize ((r.take 1).2.take c0.toNat).2=r2 at hn0 ⊢
   generalize ((r.take 1).2.take c0.toNat).1=t at hn0 hlen ⊢
   repeat' (first|refine aj ?_|refine ac (ax ?_)|refine br Z ab Z Z Z (fun _=>?_)|refine aU ab (fun _=>?_)|refine fy ab Z Z Z Z Z Z ?_)
   refine aO (fun k:Nat=>⟨52,[(24,.i .i64 k),(23,.i .i64 t.length),(22,.sl 1 (t.map gy)),(5,.i .i64 (be (t.take k):Nat)),(4,.i .i64 c0.toNat),(0,.ptr 0 b [] 0)],[(0,.var b (ry r2))]⟩) (fun k=>k≤t.length∧(0<k→ku c0.toNat t=false)) (fun k=>t.length - k) [] 0 ⟨by omega,fun h=>absurd h (by omega)⟩ ?_ ?_
   ·refine⟨rfl,?_,?_⟩<;>repeat' (first|exact J|refine ai ?_|refine ay ?_|exact af|exact cr.nil|exact ak _|refine bq Z ?_ ?_|with_reducible rfl|refine⟨?_,?_⟩|fail)
    all_goals rfl
   rintro k ⟨hk,hbad⟩
   repeat' (first|refine ae ?_|refine aj ?_|refine aa ?_|refine ac (ax ?_)|refine ac (db ?_)|refine ah (ax ?_)|refine aw (ax ?_)|refine ap (bC ?_)|refine d9 Z Z Z cM ?_|refine vG Z Z Z cM ?_|refine ib Z Z Z cM ?_|(refine bc Z Z Z Z ?_ ?_;omega)|refine gW Z ab Z Z Z Z ?_|refine aU ab (fun _=>?_)|(refine aK Z ab Z Z Z Z Z Z ?_ (aE ?_) ?_;omega;omega)|(fail_if_success (refine aM Z cM ?_));(refine aV Z Z (fun hc=>?_) (fun hc=>?_)<;>try omega)|refine aR Z ?_|refine aB Z ?_|(refine ao Z (fun hc=>?_) (fun hc=>?_))<;>try omega)
   ·refine bx [] [0] [0] Z (jX b 4 _) ⟨af,ai Z,J⟩ Z dD Z Z ?_
    rintro v os' ⟨rfl,rfl⟩;refine⟨_,rfl,rfl,?_⟩
    repeat' (first|refine ae ?_|refine aa ?_|refine ac (ax ?_)|refine ap (bC ?_)|refine aU ab (fun _=>?_))
    have hn:r.number=(0,r2.fail 4):=by rw[hn0,if_pos (by rw[qb t k (by omega) (by omega)];simp;omega)]
    exact bp Z Z Z [] [(0,_)] (am (by rw[hn];rfl)) (bq Z (ak _) .nil) ⟨rfl,by rw[hn];rfl⟩ _ (.inl Z)
   ·refine bx [] [0] [0] Z (jX b 4 _) ⟨af,ai Z,J⟩ Z dD Z Z ?_
    rintro v os' ⟨rfl,rfl⟩;refine⟨_,rfl,rfl,?_⟩
    repeat' (first|refine ae ?_|refine aa ?_|refine ac (ax ?_)|refine ap (bC ?_)|refine aU ab (fun _=>?_))
    have hn:r.number=(0,r2.fail 4):=by rw[hn0,if_pos (by rw[qb t k (by omega) (by omega)];simp;omega)]
    exact bp Z Z Z [] [(0,_)] (am (by rw[hn];rfl)) (bq Z (ak _) .nil) ⟨rfl,by rw[hn];rfl⟩ _ (.inl Z)
   ·have hb:ku c0.toNat t=false:=by rw[qb t k (by omega) (by omega)];simp;omega
    refine⟨k+1,[],⟨by omega,fun _=>hb⟩,by omega,?_⟩
    refine⟨rfl,?_,?_⟩<;>repeat' (first|exact J|refine ai ?_|refine ay ?_|exact af|exact cr.nil|exact ak _|refine bq Z ?_ ?_|with_reducible rfl|refine⟨?_,?_⟩|fail)
    all_goals first|omega|exact wK hlen (by omega) hb k (by omega)
   ·have hb:ku c0.toNat t=false:=by rw[qb t k (by omega) (by omega)];simp;omega
    refine⟨k+1,[],⟨by omega,fun _=>hb⟩,by omega,?_⟩
    refine⟨rfl,?_,?_⟩<;>repeat' (first|exact J|refine ai ?_|refine ay ?_|exact af|exact cr.nil|exact ak _|refine bq Z ?_ ?_|with_reducible rfl|refine⟨?_,?_⟩|fail)
    all_goals first|omega|exact wK hlen (by omega) hb k (by omega)
   ·have hb:ku c0.toNat t=false:=hbad (by omega)
    refine⟨k+1,[],⟨by omega,fun _=>hb⟩,by omega,?_⟩
    refine⟨rfl,?_,?_⟩<;>repeat' (first|exact J|refine ai ?_|refine ay ?_|exact af|exact cr.nil|exact ak _|refine bq Z ?_ ?_|with_reducible rfl|refine⟨?_,?_⟩|fail)
    all_goals first|omega|exact wK hlen (by omega) hb k (by omega)
   ·have hk':k=t.length:=by omega
    have hb:ku c0.toNat t=false:=by
     by_cases hz:t.length=0
     ·cases t with
      |nil=>rfl
      |cons c l=>simp at hz
     ·exact hbad (by omega)
    have hn:r.number=(be t,r2):=by rw[hn0,if_neg (by rw[hb];decide)]
    exact bp Z Z Z [] [(0,_)] (am (by rw[hn,hk',List.take_length];rfl)) (bq Z (ak _) .nil) ⟨rfl,by rw[hn];rfl⟩ _ (.inl Z)
def RS.big(r:RS)(n:Nat):RS:=if r.e=0∧65536<n then r.fail 2 else r
def RS.text(r:RS):List UInt8×RS:=(r.number.2.big r.number.1).take r.number.1
def RS.below(r:RS)(most:Int):Nat×RS:=if most≤(r.number.1:Int) then (0,r.number.2.fail 2) else r.number
def RS.flag(r:RS):Bool×RS:=
 if Op.bytesLess (r.take 1).1 [1]||(r.take 1).1==[1] then ((r.take 1).1==[1],(r.take 1).2) else (false,(r.take 1).2.fail 4)
def RS.done(r:RS):Int:=if r.e=0∧r.p<r.s.length then 3 else r.e
def RS.open(s:List UInt8):RS:=⟨s,0,if 65536<s.length then 2 else 0⟩
theorem RS.ok_open{s:List UInt8}(h:s.length≤9223372036854775807):(RS.open s).ok:=⟨Nat.zero_le _,h⟩
theorem RS.ok_big{r:RS}(h:r.ok)(n:Nat):(r.big n).ok:=by unfold RS.big;split<;>first|exact RS.ok_fail h _|exact h
theorem RS.ok_text{r:RS}(h:r.ok):r.text.2.ok:=RS.ok_take (RS.ok_big (RS.ok_number h) _) _
theorem RS.ok_flag{r:RS}(h:r.ok):r.flag.2.ok:=by
 unfold RS.flag;split
 ·exact RS.ok_take h _
 ·exact RS.ok_fail (RS.ok_take h _) _
theorem mI(b:Nat)(most:Int)(r:RS)(hok:r.ok):aQ Tryz.prog 60 [.ptr 0 b [] 0,.i .i64 most] [.var b (ry r)] (fun v os=>v= .i .i64 ((r.below most).1:Nat)∧os=[.var b (ry (r.below most).2)]):=by
 refine aA ab [(0,.var b (ry r))] Tryz.func60 Z Tryz.ntmps60 aN Z Z (fun C=>?_) Z
 repeat' (first|refine ae ?_|refine aa ?_|refine ac (ax ?_)|refine aU ab (fun _=>?_))
 refine bx [] [0] [0] Z (dX b r hok) ⟨af,J⟩ Z dD Z Z ?_
 rintro v os' ⟨rfl,rfl⟩;refine⟨_,rfl,rfl,?_⟩
 repeat' (first|refine ae ?_|refine aa ?_|refine ac (ax ?_)|refine ah (ax ?_)|refine ap (bC ?_)|refine aU ab (fun _=>?_)|(refine ao Z (fun hc=>?_) (fun hc=>?_))<;>try omega)
 ·refine bx [] [0] [0] Z (jX b 2 _) ⟨af,ai Z,J⟩ Z dD Z Z ?_
  rintro v os' ⟨rfl,rfl⟩;refine⟨_,rfl,rfl,?_⟩
  repeat' (first|refine ae ?_|refine aa ?_|refine ac (ax ?_)|refine ap (bC ?_)|refine aU ab (fun _=>?_))
  have hn:r.below most=(0,r.number.2.fail 2):=by unfold RS.below;rw[if_pos hc]
  exact bp Z Z Z [] [(0,_)] (am (by rw[hn];rfl)) (bq Z (ak _) .nil) ⟨rfl,by rw[hn];rfl⟩ _ (.inl Z)
 ·have hn:r.below most=r.number:=by unfold RS.below;rw[if_neg hc]
  exact bp Z Z Z [] [(0,_)] (am (by rw[hn];rfl)) (bq Z (ak _) .nil) ⟨rfl,by rw[hn];rfl⟩ _ (.inl Z)
theorem fX(b:Nat)(r:RS)(hok:r.ok):aQ Tryz.prog 61 [.ptr 0 b [] 0] [.var b (ry r)] (fun v os=>v= .s r.text.1∧os=[.var b (ry r.text.2)]):=by
 refine aA ab [(0,.var b (ry r))] Tryz.func61 Z Tryz.ntmps61 aN Z Z (fun C=>?_) Z
 repeat' (first|refine ae ?_|refine aa ?_|refine ac (ax ?_)|refine aU ab (fun _=>?_))
 refine bx [] [0] [0] Z (dX b r hok) ⟨af,J⟩ Z dD Z Z ?_
 rintro v os' ⟨rfl,rfl⟩;refine⟨_,rfl,rfl,?_⟩
 have hok1:=RS.ok_number hok
 have ht:r.text=(r.number.2.big r.number.1).take r.number.1:=rfl
 generalize r.number=q at hok1 ht ⊢
 obtain⟨n,r1⟩:=q
 dsimp only at hok1 ht ⊢
 repeat' (first|refine ae ?_|refine aa ?_|refine ac (ax ?_)|refine ah (ax ?_)|refine d9 Z Z Z cM ?_|refine aU ab (fun _=>?_)|(fail_if_success (refine aM Z cM ?_));(refine aV Z Z (fun hc=>?_) (fun hc=>?_)<;>try omega)|refine aB Z ?_|(refine ao Z (fun hc=>?_) (fun hc=>?_))<;>try omega)
 ·refine bx [] [0] [0] Z (jX b 2 _) ⟨af,ai Z,J⟩ Z dD Z Z ?_
  rintro v os' ⟨rfl,rfl⟩;refine⟨_,rfl,rfl,?_⟩
  repeat' (first|refine ae ?_|refine aa ?_|refine ac (ax ?_)|refine aU ab (fun _=>?_))
  refine bx [] [0] [0] Z (lV b n _ (RS.ok_fail hok1 2)) ⟨af,ai Z,J⟩ Z dD Z Z ?_
  rintro v os' ⟨rfl,rfl⟩;refine⟨_,rfl,rfl,?_⟩
  repeat' (first|refine ac (ax ?_)|refine ap (bC ?_)|refine aU ab (fun _=>?_))
  have hb:r1.big n=r1.fail 2:=by unfold RS.big;rw[if_pos (by omega)]
  rw[hb] at ht
  exact bp Z Z Z [] [(0,_)] (am (by rw[ht];rfl)) (bq Z (ak _) .nil) ⟨rfl,by rw[ht];rfl⟩ _ (.inl Z)
 all_goals
  refine bx [] [0] [0] Z (lV b n _ hok1) ⟨af,ai Z,J⟩ Z dD Z Z ?_
  rintro v os' ⟨rfl,rfl⟩;refine⟨_,rfl,rfl,?_⟩
  repeat' (first|refine ac (ax ?_)|refine ap (bC ?_)|refine aU ab (fun _=>?_))
  have hb:r1.big n=r1:=by unfold RS.big;rw[if_neg (by omega)]
  rw[hb] at ht
  exact bp Z Z Z [] [(0,_)] (am (by rw[ht];rfl)) (bq Z (ak _) .nil) ⟨rfl,by rw[ht];rfl⟩ _ (.inl Z)
theorem vt(b:Nat)(r:RS)(hok:r.ok):aQ Tryz.prog 72 [.ptr 0 b [] 0] [.var b (ry r)] (fun v os=>v= .b r.flag.1∧os=[.var b (ry r.flag.2)]):=by
 refine aA ab [(0,.var b (ry r))] Tryz.func72 Z Tryz.ntmps72 aN Z Z (fun C=>?_) Z
 repeat' (first|refine ae ?_|refine aa ?_|refine ac (ax ?_)|refine aU ab (fun _=>?_))
 refine bx [] [0] [0] Z (lV b 1 r hok) ⟨af,ai Z,J⟩ Z dD Z Z ?_
 rintro v os' ⟨rfl,rfl⟩;refine⟨_,rfl,rfl,?_⟩
 repeat' (first|refine ae ?_|refine aa ?_|refine ac (ax ?_)|refine ah (ax ?_)|refine ap (bC ?_)|refine aU ab (fun _=>?_)|(refine ba Z (fun hc=>?_) (fun hc=>?_)))
 ·refine bx [] [0] [0] Z (jX b 4 _) ⟨af,ai Z,J⟩ Z dD Z Z ?_
  rintro v os' ⟨rfl,rfl⟩;refine⟨_,rfl,rfl,?_⟩
  repeat' (first|refine ae ?_|refine aa ?_|refine ac (ax ?_)|refine ap (bC ?_)|refine aU ab (fun _=>?_))
  have hn:r.flag=(false,(r.take 1).2.fail 4):=by unfold RS.flag;rw[if_neg (by simpa using hc)]
  exact bp Z Z Z [] [(0,_)] (am (by rw[hn];rfl)) (bq Z (ak _) .nil) ⟨rfl,by rw[hn];rfl⟩ _ (.inl Z)
 ·have hn:r.flag=((r.take 1).1==[1],(r.take 1).2):=by unfold RS.flag;rw[if_pos (by simpa only[Bool.not_eq_false'] using hc)]
  exact bp Z Z Z [] [(0,_)] (am (by rw[hn];rfl)) (bq Z (ak _) .nil) ⟨rfl,by rw[hn];rfl⟩ _ (.inl Z)
theorem fY(b:Nat)(r:RS):aQ Tryz.prog 62 [.ptr 0 b [] 0] [.var b (ry r)] (fun v os=>v= .i .i64 r.done∧os=[.var b (ry r)]):=by
 refine aA ab [(0,.var b (ry r))] Tryz.func62 Z Tryz.ntmps62 aN Z Z (fun C=>?_) Z
 repeat' (first|refine ae ?_|refine aa ?_|refine ac (ax ?_)|refine ah (ax ?_)|refine ap (bC ?_)|refine d9 Z Z Z cM ?_|refine aU ab (fun _=>?_)|(fail_if_success (refine aM Z cM ?_));(refine aV Z Z (fun hc=>?_) (fun hc=>?_)<;>try omega)|refine aB Z ?_|(refine ao Z (fun hc=>?_) (fun hc=>?_))<;>try omega|refine cg 1 [] [] [] [0,1,2,3,4,5,6,7,8,10,11,12,9,13,14,15,16] aN aN aN Z Z Z ?_)
 ·have hn:r.done=3:=by unfold RS.done;rw[if_pos (by omega)]
  exact bp Z Z Z [] [(0,_)] (am (by rw[hn];rfl)) (bq Z (ak _) .nil) ⟨rfl,rfl⟩ _ (.inl Z)
 all_goals
  have hn:r.done=r.e:=by unfold RS.done;rw[if_neg (by omega)]
  exact bp Z Z Z [] [(0,_)] (am (by rw[hn];rfl)) (bq Z (ak _) .nil) ⟨rfl,rfl⟩ _ (.inl Z)
theorem jW(s:List UInt8):aQ Tryz.prog 58 [.s s] [] (fun v os=>∃b,v= .ptr 0 b [] 0∧os=[.var b (ry (RS.open s))]):=by
 refine aA ab [] Tryz.func58 Z Tryz.ntmps58 aN Z Z (fun C=>?_) Z
 repeat' (first|refine ae ?_|refine aa ?_|refine ac (ax ?_)|refine ah (ax ?_)|refine ap (bC ?_)|refine aU ab (fun _=>?_)|refine c9 Z Z Z Z (fun _=>?_)|refine aD ab Z Z Z Z Z Z Z ⟨rfl,rfl⟩ Z Z Z Z Z ?_|refine cd ab Z Z Z Z Z Z eo ?_|(refine ao Z (fun hc=>?_) (fun hc=>?_))<;>try omega)
 ·have hn:RS.open s=⟨s,0,2⟩:=by unfold RS.open;rw[if_pos (by omega)]
  exact bp Z Z Z [] [(6,_)] (r:=.ptr 0 _ [] 0) gK (bq Z (ak _) .nil) ⟨_,rfl,by rw[hn];rfl⟩ _ (.inl Z)
 ·have hn:RS.open s=⟨s,0,0⟩:=by unfold RS.open;rw[if_neg (by omega)]
  exact bp Z Z Z [] [(6,_)] (r:=.ptr 0 _ [] 0) gK (bq Z (ak _) .nil) ⟨_,rfl,by rw[hn];rfl⟩ _ (.inl Z)
theorem u6(r:RS):r.text.1.length≤65536:=by
 unfold RS.text RS.big
 split
 ·rename_i h
  unfold RS.take RS.fail
  rw[if_pos h.1,if_pos (show (2:Int)≠0 by decide)];exact Nat.zero_le _
 ·rename_i h
  unfold RS.take
  split
  ·exact Nat.zero_le _
  ·split
   ·exact Nat.zero_le _
   ·rename_i h1 h2
    rw[List.length_take]
    have:¬ 65536<r.number.1:=fun h3=>h ⟨by omega,h3⟩
    omega
set_option maxHeartbeats 8000000
set_option maxRecDepth 100000
theorem xJ(s:List UInt8):(cN s).1.length≤s.length:=by
 by_cases h:s.length<8
 ·rw[mF h];exact Nat.zero_le _
 ·obtain⟨c0,c1,c2,c3,c4,c5,c6,c7,r,rfl⟩:=IH h
  show (if _ then _ else if _ then _ else if _ then _ else _:List UInt8×Nat×Int).1.length≤_
  split
  ·exact Nat.zero_le _
  ·split
   ·exact Nat.zero_le _
   ·split
    ·show (r.take _).length≤r.length+8
     rw[List.length_take];omega
    ·exact Nat.zero_le _
def qG(r:RS):(Nat×List UInt8×Bool×List UInt8)×RS:=
 if r.number.2.text.2.flag.1=true then ((r.number.1,r.number.2.text.1,true,[]),r.number.2.text.2.flag.2)
 else ((r.number.1,r.number.2.text.1,false,r.number.2.text.2.flag.2.text.1),r.number.2.text.2.flag.2.text.2)
def pH:Nat→RS→List UInt8→List aC→Option (RS×List aC)
 |0,r,_,l=>some (r,l)
 |k+1,r,last,l=>
  if (qG r).2.done≠0∧(qG r).2.done≠3 then some ((qG r).2,l)
  else if last.length<(qG r).1.1 then none
  else if (qG r).1.1≠ms last (last.take (qG r).1.1++(qG r).1.2.1) then none
  else pH k (qG r).2 (last.take (qG r).1.1++(qG r).1.2.1) (l++[⟨last.take (qG r).1.1++(qG r).1.2.1,(qG r).1.2.2.2,(qG r).1.2.2.1⟩])
def qr(s:List UInt8):List aC×Nat×Int:=
 if (cN s).2.2≠0 then ([],0,(cN s).2.2) else
 match pH ((RS.open (cN s).1).below 257).1 ((RS.open (cN s).1).below 257).2 [] [] with
 |none=>([],0,3)
 |some (r,l)=>if r.done≠0 then ([],0,r.done) else if di l≠0 then ([],0,di l) else (l,(cN s).2.1,0)
theorem D9(s:List UInt8)(hs:s.length≤1000000000):aQ Tryz.prog 123 [.s s] [] (fun v os=>v= .tup [.sl 3 ((qr s).1.map eA),.i .i64 ((qr s).2.1:Nat),.i .i64 (qr s).2.2]∧os=[]):=by
 refine aA ab [] Tryz.func123 Z Tryz.ntmps123 aN Z Z (fun C=>?_) Z
 have hso:=lS s hs
 have hbr:qr s=if (cN s).2.2≠0 then ([],0,(cN s).2.2) else
  match pH ((RS.open (cN s).1).below 257).1 ((RS.open (cN s).1).below 257).2 [] [] with
  |none=>([],0,3)
  |some (r,l)=>if r.done≠0 then ([],0,r.done) else if di l≠0 then ([],0,di l) else (l,(cN s).2.1,0):=rfl
 have hsl:(cN s).1.length≤1000000000:=Nat.le_trans (xJ s) hs
 generalize qr s=out at hbr ⊢
 generalize cN s=o at hso hbr hsl
 obtain⟨t,sz,e⟩:=o
 dsimp only at hso hbr hsl
 have hok0:=RS.ok_open (s:=t) (by omega)
 have hbw:((RS.open t).below 257).1≤256:=by
  unfold RS.below;split
  ·exact Nat.zero_le _
  ·rename_i h;have h:¬ (257:Int)≤((RS.open t).number.1:Int):=h;omega
 have hokb:((RS.open t).below 257).2.ok:=by
  unfold RS.below;split
  ·exact RS.ok_fail (RS.ok_number hok0) _
  ·exact RS.ok_number hok0
 repeat' (first|refine ae ?_|refine aa ?_|refine ac (ax ?_)|refine ah (ax ?_)|refine ap (bC ?_)|refine aU ab (fun _=>?_)|(refine bF Z (fun hc=>?_) (fun hc=>?_))<;>try omega|refine au Z (hso) ⟨aP,J⟩ Z ?_)
 ·rw[if_pos hc] at hbr;subst hbr
  exact aH [] [] (.tup [.sl 3 [],.i .i64 ((0:Nat):Int),.i .i64 e]) Z (dI (cQ) (am Z) (am Z) Z Z Z) .nil ⟨rfl,rfl⟩
 rw[if_neg (by omega)] at hbr
 repeat' (first|refine ae ?_|refine aj ?_|refine aa ?_|refine ac (ax ?_)|refine aU ab (fun _=>?_)|(refine pS Z (jW _) ⟨aP,J⟩ Z (fun bN=>?_))|(refine bh Z Z Z Z (mI _ _ _ (by assumption)) ⟨af,aP,J⟩ (ak _) Z Z ?_;rintro _ _ ⟨rfl,rfl⟩;refine⟨_,rfl,_,rfl,?_⟩))
 generalize ((RS.open t).below 257).1=c at hbw hbr ⊢
 generalize ((RS.open t).below 257).2=r0 at hokb hbr ⊢
 obtain⟨R,hR⟩:∃R,pH c r0 [] []=R:=⟨_,rfl⟩
 rw[hR] at hbr
 skip
 refine aO (fun q:Nat×RS×List UInt8×List aC×Value=>⟨87,[(29,.i .i64 q.1),(28,.i .i64 c),(8,.ptr 26 bN [] 0),(9,.own 9 q.2.2.2.2),(10,.s q.2.2.1),(6,.i .i64 sz)],[(26,.var bN (ry q.2.1)),(9,.row q.2.2.2.2 47 3 (q.2.2.2.1.map eA))]⟩) (fun q=>q.1≤c∧pH (c - q.1) q.2.1 q.2.2.1 q.2.2.2.1=R∧q.2.1.ok∧q.2.2.1.length≤65536*q.1∧q.2.2.2.1.length≤q.1∧∀e∈q.2.2.2.1,e.k.length≤1000000000000∧e.v.length≤1000000000000) (fun q=>c - q.1) [] (0,r0,[],[],.slice none 0 0) ⟨Nat.zero_le _,hR,hokb,Nat.le_refl _,Nat.le_refl _,fun e h=>by cases h⟩ ?_ ?_
 ·exact⟨rfl,⟨ai Z,ai Z,af,dp,cY Z,ai Z,J⟩,az 26 Z (cr.none .nil)⟩
 rintro⟨i,r,last,l,v⟩ ⟨hic,hbl,hrok,hll,hln,hlm⟩
 dsimp only at hic hbl hrok hll hln hlm ⊢
 have hckl:=pE l (by omega) hlm
 by_cases hlt:i<c
 ·have hst:pH (c - i) r last l=if (qG r).2.done≠0∧(qG r).2.done≠3 then some ((qG r).2,l)
   else if last.length<(qG r).1.1 then none
   else if (qG r).1.1≠ms last (last.take (qG r).1.1++(qG r).1.2.1) then none
   else pH (c - (i+1)) (qG r).2 (last.take (qG r).1.1++(qG r).1.2.1) (l++[⟨last.take (qG r).1.1++(qG r).1.2.1,(qG r).1.2.2.2,(qG r).1.2.2.1⟩]):=by
   rw[show c - i=(c - (i+1))+1 by omega];rfl
  rw[hbl] at hst
  have hE:qG r=if r.number.2.text.2.flag.1=true then ((r.number.1,r.number.2.text.1,true,[]),r.number.2.text.2.flag.2)
   else ((r.number.1,r.number.2.text.1,false,r.number.2.text.2.flag.2.text.1),r.number.2.text.2.flag.2.text.2):=rfl
  have hN:=dX bN r hrok
  have ok1:=RS.ok_number hrok
  generalize r.number.1=n at hN hE
  generalize r.number.2=r1 at hN ok1 hE
  have hT:=fX bN r1 ok1
  have ok2:=RS.ok_text ok1
  have htl:=u6 r1
  generalize r1.text.1=t1 at hT htl hE
  generalize r1.text.2=r2 at hT ok2 hE
  have hF:=vt bN r2 ok2
  have ok3:=RS.ok_flag ok2
  generalize r2.flag.2=r3 at hF ok3 hE
  cases hg:r2.flag.1
  ·rw[hg] at hF hE
   rw[if_neg (by decide)] at hE
   have hT2:=fX bN r3 ok3
   have ok4:=RS.ok_text ok3
   have hvl:=u6 r3
   generalize r3.text.1=v1 at hT2 hvl hE
   generalize r3.text.2=r4 at hT2 ok4 hE
   rw[hE] at hst
   dsimp only at hst
   have hD:=fY bN r4
   generalize hd:r4.done=d at hD hst
   by_cases hdd:d≠0∧d≠3
   ·rw[if_pos hdd] at hst
    subst hst
    have hbr:out=if RS.done r4≠0 then ([],0,RS.done r4) else if di l≠0 then ([],0,di l) else (l,sz,0):=hbr
    rw[hd,if_pos hdd.1] at hbr
    subst hbr
    obtain⟨hd1,hd2⟩:=hdd
    repeat' (first|refine ae ?_|refine aj ?_|refine aa ?_|refine ac (ax ?_)|refine ah (ax ?_)|refine aw (ax ?_)|refine ap (bC ?_)|refine aU ab (fun _=>?_)|refine aF (d:=13) Z ab Z Z Z (fun b13=>?_)|refine aD ab Z Z Z Z Z Z Z ⟨rfl,rfl⟩ Z Z Z Z Z ?_|refine cd ab Z Z Z Z Z Z eo ?_|(fail_if_success (refine aM Z cM ?_));(refine eO Z Z (fun hc=>?_) (fun hc=>?_)<;>try omega)|refine aR Z ?_|(refine ao Z (fun hc=>?_) (fun hc=>?_))<;>try omega|(refine bF Z (fun hc=>?_) (fun hc=>?_))<;>try omega|(refine bh Z Z Z Z (hN) ⟨af,J⟩ (ak _) Z Z ?_;rintro _ _ ⟨rfl,rfl⟩;refine⟨_,rfl,_,rfl,?_⟩)|(refine bh Z Z Z Z (hT) ⟨af,J⟩ (ak _) Z Z ?_;rintro _ _ ⟨rfl,rfl⟩;refine⟨_,rfl,_,rfl,?_⟩)|(refine bh Z Z Z Z (hF) ⟨af,J⟩ (ak _) Z Z ?_;rintro _ _ ⟨rfl,rfl⟩;refine⟨_,rfl,_,rfl,?_⟩)|(refine bh Z Z Z Z (hT2) ⟨af,J⟩ (ak _) Z Z ?_;rintro _ _ ⟨rfl,rfl⟩;refine⟨_,rfl,_,rfl,?_⟩)|(refine bh Z Z Z Z (hD) ⟨af,J⟩ (ak _) Z Z ?_;rintro _ _ ⟨rfl,rfl⟩;refine⟨_,rfl,_,rfl,?_⟩))
    exact aH [] [] (.tup [.sl 3 [],.i .i64 ((0:Nat):Int),.i .i64 d]) Z (dI (cQ) (am Z) (am Z) Z Z Z) .nil ⟨rfl,rfl⟩
   ·rw[if_neg hdd] at hst
    have hdd2:d=0∨d=3:=by omega
    clear hdd
    by_cases hn:last.length<n
    ·rw[if_pos hn] at hst
     subst hst
     have hbr:out=([],0,3):=hbr
     subst hbr
     rcases hdd2 with rS|rS<;>subst rS
     all_goals
      repeat' (first|refine ae ?_|refine aj ?_|refine aa ?_|refine ac (ax ?_)|refine ah (ax ?_)|refine ap (bC ?_)|refine d9 Z Z Z cM ?_|refine aU ab (fun _=>?_)|refine aF (d:=13) Z ab Z Z Z (fun b13=>?_)|refine aD ab Z Z Z Z Z Z Z ⟨rfl,rfl⟩ Z Z Z Z Z ?_|refine cd ab Z Z Z Z Z Z eo ?_|refine aR Z ?_|refine aB Z ?_|(refine ao Z (fun hc=>?_) (fun hc=>?_))<;>try omega|(refine bh Z Z Z Z (hN) ⟨af,J⟩ (ak _) Z Z ?_;rintro _ _ ⟨rfl,rfl⟩;refine⟨_,rfl,_,rfl,?_⟩)|(refine bh Z Z Z Z (hT) ⟨af,J⟩ (ak _) Z Z ?_;rintro _ _ ⟨rfl,rfl⟩;refine⟨_,rfl,_,rfl,?_⟩)|(refine bh Z Z Z Z (hF) ⟨af,J⟩ (ak _) Z Z ?_;rintro _ _ ⟨rfl,rfl⟩;refine⟨_,rfl,_,rfl,?_⟩)|(refine bh Z Z Z Z (hT2) ⟨af,J⟩ (ak _) Z Z ?_;rintro _ _ ⟨rfl,rfl⟩;refine⟨_,rfl,_,rfl,?_⟩)|(refine bh Z Z Z Z (hD) ⟨af,J⟩ (ak _) Z Z ?_;rintro _ _ ⟨rfl,rfl⟩;refine⟨_,rfl,_,rfl,?_⟩))
     all_goals
      exact aH [] [] (.tup [.sl 3 [],.i .i64 ((0:Nat):Int),.i .i64 3]) Z (dI (cQ) (am Z) (am Z) Z Z Z) .nil ⟨rfl,rfl⟩
    ·rw[if_neg hn] at hst
     have htk:(last.take n).length=n:=by rw[List.length_take];omega
     have hkl:(last.take n++t1).length=n+t1.length:=by rw[List.length_append,htk]
     have hcm:=oW last (last.take n++t1) (by omega) (by omega)
     have hadd:(last.take n).length+t1.length≤9223372036854775807:=by omega
     generalize hkey:last.take n++t1=key at hst hcm hkl
     generalize ms last key=cm at hst hcm
     by_cases hnc:n=cm
     ·rw[if_neg (by omega)] at hst
      subst hnc
      rcases hdd2 with rS|rS<;>subst rS
      all_goals
       repeat' (first|(refine dr Z ab Z Z Z hadd (fun _=>?_);rw[hkey])|refine ae ?_|refine aj ?_|refine aa ?_|refine ac (ax ?_)|refine ac (db ?_)|refine ah (ax ?_)|refine d9 Z Z Z cM ?_|(refine bc Z Z Z Z ?_ ?_;omega)|refine aU ab (fun _=>?_)|refine aF (d:=13) Z ab Z Z Z (fun b13=>?_)|refine aD ab Z Z Z Z Z Z Z ⟨rfl,rfl⟩ Z Z Z Z Z ?_|refine cd ab Z Z Z Z Z Z eo ?_|refine aI ab Z Z Z Z Z Z Z Z Z Z Z eo (fun _=>?_)|(refine bH ab Z Z Z Z Z Z Z Z Z (by first|exact J|exact rfl) Z Z (fun _=>rfl) ?_ ?_ (fun _=>?_);(exact dt);(exact dt))|refine aR Z ?_|refine aB Z ?_|(refine ao Z (fun hc=>?_) (fun hc=>?_))<;>try omega|(refine bF Z (fun hc=>?_) (fun hc=>?_))<;>try omega|(refine dK ab Z 0 n Z Z Z da (cn Z Z) (Nat.zero_le _) (by omega) ?_;rw[List.drop_zero])|refine au Z (hcm) ⟨aP,aP,J⟩ Z ?_|(refine bh Z Z Z Z (hN) ⟨af,J⟩ (ak _) Z Z ?_;rintro _ _ ⟨rfl,rfl⟩;refine⟨_,rfl,_,rfl,?_⟩)|(refine bh Z Z Z Z (hT) ⟨af,J⟩ (ak _) Z Z ?_;rintro _ _ ⟨rfl,rfl⟩;refine⟨_,rfl,_,rfl,?_⟩)|(refine bh Z Z Z Z (hF) ⟨af,J⟩ (ak _) Z Z ?_;rintro _ _ ⟨rfl,rfl⟩;refine⟨_,rfl,_,rfl,?_⟩)|(refine bh Z Z Z Z (hT2) ⟨af,J⟩ (ak _) Z Z ?_;rintro _ _ ⟨rfl,rfl⟩;refine⟨_,rfl,_,rfl,?_⟩)|(refine bh Z Z Z Z (hD) ⟨af,J⟩ (ak _) Z Z ?_;rintro _ _ ⟨rfl,rfl⟩;refine⟨_,rfl,_,rfl,?_⟩))
      all_goals
       refine⟨(i+1,r4,key,l++[⟨key,v1,false⟩],_),[],⟨by show i+1≤c;omega,hst.symm,ok4,by show key.length≤65536*(i+1);omega,by show (l++[_]).length≤i+1;rw[List.length_append,List.length_singleton];omega,?_⟩,by show c - (i+1)<c - i;omega,rfl,⟨ai (by show (i:Int)+1=((i+1:Nat):Int);omega),ai Z,af,aJ,cY Z,ai Z,J⟩,az 26 Z (cr.cons 9 Z (aZ ?_) .nil)⟩
       ·intro e he
        rcases List.mem_append.1 he with h|h
        ·exact hlm e h
        ·rw[List.mem_singleton.1 h];exact⟨by show key.length≤_;omega,by show List.length v1≤_;omega⟩
       ·rw[List.map_append];rfl
     ·rw[if_pos (by omega)] at hst
      subst hst
      have hbr:out=([],0,3):=hbr
      subst hbr
      rcases hdd2 with rS|rS<;>subst rS
      all_goals
       repeat' (first|(refine dr Z ab Z Z Z hadd (fun _=>?_);rw[hkey])|refine ae ?_|refine aj ?_|refine aa ?_|refine ac (ax ?_)|refine ah (ax ?_)|refine ap (bC ?_)|refine d9 Z Z Z cM ?_|refine aU ab (fun _=>?_)|refine aF (d:=13) Z ab Z Z Z (fun b13=>?_)|refine aD ab Z Z Z Z Z Z Z ⟨rfl,rfl⟩ Z Z Z Z Z ?_|refine cd ab Z Z Z Z Z Z eo ?_|refine aR Z ?_|refine aB Z ?_|(refine ao Z (fun hc=>?_) (fun hc=>?_))<;>try omega|(refine bF Z (fun hc=>?_) (fun hc=>?_))<;>try omega|(refine dK ab Z 0 n Z Z Z da (cn Z Z) (Nat.zero_le _) (by omega) ?_;rw[List.drop_zero])|refine au Z (hcm) ⟨aP,aP,J⟩ Z ?_|(refine bh Z Z Z Z (hN) ⟨af,J⟩ (ak _) Z Z ?_;rintro _ _ ⟨rfl,rfl⟩;refine⟨_,rfl,_,rfl,?_⟩)|(refine bh Z Z Z Z (hT) ⟨af,J⟩ (ak _) Z Z ?_;rintro _ _ ⟨rfl,rfl⟩;refine⟨_,rfl,_,rfl,?_⟩)|(refine bh Z Z Z Z (hF) ⟨af,J⟩ (ak _) Z Z ?_;rintro _ _ ⟨rfl,rfl⟩;refine⟨_,rfl,_,rfl,?_⟩)|(refine bh Z Z Z Z (hT2) ⟨af,J⟩ (ak _) Z Z ?_;rintro _ _ ⟨rfl,rfl⟩;refine⟨_,rfl,_,rfl,?_⟩)|(refine bh Z Z Z Z (hD) ⟨af,J⟩ (ak _) Z Z ?_;rintro _ _ ⟨rfl,rfl⟩;refine⟨_,rfl,_,rfl,?_⟩))
      all_goals
       exact aH [] [] (.tup [.sl 3 [],.i .i64 ((0:Nat):Int),.i .i64 3]) Z (dI (cQ) (am Z) (am Z) Z Z Z) .nil ⟨rfl,rfl⟩
  ·rw[hg] at hF hE
   rw[if_pos Z] at hE
   rw[hE] at hst
   dsimp only at hst
   have hD:=fY bN r3
   generalize hd:r3.done=d at hD hst
   by_cases hdd:d≠0∧d≠3
   ·rw[if_pos hdd] at hst
    subst hst
    have hbr:out=if RS.done r3≠0 then ([],0,RS.done r3) else if di l≠0 then ([],0,di l) else (l,sz,0):=hbr
    rw[hd,if_pos hdd.1] at hbr
    subst hbr
    obtain⟨hd1,hd2⟩:=hdd
    repeat' (first|refine ae ?_|refine aj ?_|refine aa ?_|refine ac (ax ?_)|refine ah (ax ?_)|refine aw (ax ?_)|refine ap (bC ?_)|refine aU ab (fun _=>?_)|refine aF (d:=13) Z ab Z Z Z (fun b13=>?_)|refine aD ab Z Z Z Z Z Z Z ⟨rfl,rfl⟩ Z Z Z Z Z ?_|refine cd ab Z Z Z Z Z Z eo ?_|(fail_if_success (refine aM Z cM ?_));(refine eO Z Z (fun hc=>?_) (fun hc=>?_)<;>try omega)|refine aB Z ?_|(refine ao Z (fun hc=>?_) (fun hc=>?_))<;>try omega|(refine bF Z (fun hc=>?_) (fun hc=>?_))<;>try omega|(refine bh Z Z Z Z (hN) ⟨af,J⟩ (ak _) Z Z ?_;rintro _ _ ⟨rfl,rfl⟩;refine⟨_,rfl,_,rfl,?_⟩)|(refine bh Z Z Z Z (hT) ⟨af,J⟩ (ak _) Z Z ?_;rintro _ _ ⟨rfl,rfl⟩;refine⟨_,rfl,_,rfl,?_⟩)|(refine bh Z Z Z Z (hF) ⟨af,J⟩ (ak _) Z Z ?_;rintro _ _ ⟨rfl,rfl⟩;refine⟨_,rfl,_,rfl,?_⟩)|(refine bh Z Z Z Z (hD) ⟨af,J⟩ (ak _) Z Z ?_;rintro _ _ ⟨rfl,rfl⟩;refine⟨_,rfl,_,rfl,?_⟩))
    exact aH [] [] (.tup [.sl 3 [],.i .i64 ((0:Nat):Int),.i .i64 d]) Z (dI (cQ) (am Z) (am Z) Z Z Z) .nil ⟨rfl,rfl⟩
   ·rw[if_neg hdd] at hst
    have hdd2:d=0∨d=3:=by omega
    clear hdd
    by_cases hn:last.length<n
    ·rw[if_pos hn] at hst
     subst hst
     have hbr:out=([],0,3):=hbr
     subst hbr
     rcases hdd2 with rS|rS<;>subst rS
     all_goals
      repeat' (first|refine ae ?_|refine aj ?_|refine aa ?_|refine ac (ax ?_)|refine ah (ax ?_)|refine ap (bC ?_)|refine d9 Z Z Z cM ?_|refine aU ab (fun _=>?_)|refine aF (d:=13) Z ab Z Z Z (fun b13=>?_)|refine aD ab Z Z Z Z Z Z Z ⟨rfl,rfl⟩ Z Z Z Z Z ?_|refine cd ab Z Z Z Z Z Z eo ?_|refine aB Z ?_|(refine ao Z (fun hc=>?_) (fun hc=>?_))<;>try omega|(refine bh Z Z Z Z (hN) ⟨af,J⟩ (ak _) Z Z ?_;rintro _ _ ⟨rfl,rfl⟩;refine⟨_,rfl,_,rfl,?_⟩)|(refine bh Z Z Z Z (hT) ⟨af,J⟩ (ak _) Z Z ?_;rintro _ _ ⟨rfl,rfl⟩;refine⟨_,rfl,_,rfl,?_⟩)|(refine bh Z Z Z Z (hF) ⟨af,J⟩ (ak _) Z Z ?_;rintro _ _ ⟨rfl,rfl⟩;refine⟨_,rfl,_,rfl,?_⟩)|(refine bh Z Z Z Z (hD) ⟨af,J⟩ (ak _) Z Z ?_;rintro _ _ ⟨rfl,rfl⟩;refine⟨_,rfl,_,rfl,?_⟩))
     all_goals
      exact aH [] [] (.tup [.sl 3 [],.i .i64 ((0:Nat):Int),.i .i64 3]) Z (dI (cQ) (am Z) (am Z) Z Z Z) .nil ⟨rfl,rfl⟩
    ·rw[if_neg hn] at hst
     have htk:(last.take n).length=n:=by rw[List.length_take];omega
     have hkl:(last.take n++t1).length=n+t1.length:=by rw[List.length_append,htk]
     have hcm:=oW last (last.take n++t1) (by omega) (by omega)
     have hadd:(last.take n).length+t1.length≤9223372036854775807:=by omega
     generalize hkey:last.take n++t1=key at hst hcm hkl
     generalize ms last key=cm at hst hcm
     by_cases hnc:n=cm
     ·rw[if_neg (by omega)] at hst
      subst hnc
      rcases hdd2 with rS|rS<;>subst rS
      all_goals
       repeat' (first|(refine dr Z ab Z Z Z hadd (fun _=>?_);rw[hkey])|refine ae ?_|refine aj ?_|refine aa ?_|refine ac (ax ?_)|refine ac (db ?_)|refine ah (ax ?_)|refine d9 Z Z Z cM ?_|(refine bc Z Z Z Z ?_ ?_;omega)|refine aU ab (fun _=>?_)|refine aF (d:=13) Z ab Z Z Z (fun b13=>?_)|refine aD ab Z Z Z Z Z Z Z ⟨rfl,rfl⟩ Z Z Z Z Z ?_|refine cd ab Z Z Z Z Z Z eo ?_|refine aI ab Z Z Z Z Z Z Z Z Z Z Z eo (fun _=>?_)|(refine bH ab Z Z Z Z Z Z Z Z Z (by first|exact J|exact rfl) Z Z (fun _=>rfl) ?_ ?_ (fun _=>?_);(exact dt);(exact dt))|refine aB Z ?_|(refine ao Z (fun hc=>?_) (fun hc=>?_))<;>try omega|(refine bF Z (fun hc=>?_) (fun hc=>?_))<;>try omega|(refine dK ab Z 0 n Z Z Z da (cn Z Z) (Nat.zero_le _) (by omega) ?_;rw[List.drop_zero])|refine au Z (hcm) ⟨aP,aP,J⟩ Z ?_|(refine bh Z Z Z Z (hN) ⟨af,J⟩ (ak _) Z Z ?_;rintro _ _ ⟨rfl,rfl⟩;refine⟨_,rfl,_,rfl,?_⟩)|(refine bh Z Z Z Z (hT) ⟨af,J⟩ (ak _) Z Z ?_;rintro _ _ ⟨rfl,rfl⟩;refine⟨_,rfl,_,rfl,?_⟩)|(refine bh Z Z Z Z (hF) ⟨af,J⟩ (ak _) Z Z ?_;rintro _ _ ⟨rfl,rfl⟩;refine⟨_,rfl,_,rfl,?_⟩)|(refine bh Z Z Z Z (hD) ⟨af,J⟩ (ak _) Z Z ?_;rintro _ _ ⟨rfl,rfl⟩;refine⟨_,rfl,_,rfl,?_⟩))
      all_goals
       refine⟨(i+1,r3,key,l++[⟨key,[],true⟩],_),[],⟨by show i+1≤c;omega,hst.symm,ok3,by show key.length≤65536*(i+1);omega,by show (l++[_]).length≤i+1;rw[List.length_append,List.length_singleton];omega,?_⟩,by show c - (i+1)<c - i;omega,rfl,⟨ai (by show (i:Int)+1=((i+1:Nat):Int);omega),ai Z,af,aJ,cY Z,ai Z,J⟩,az 26 Z (cr.cons 9 Z (aZ ?_) .nil)⟩
       ·intro e he
        rcases List.mem_append.1 he with h|h
        ·exact hlm e h
        ·rw[List.mem_singleton.1 h];exact⟨by show key.length≤_;omega,by show List.length ([]:List UInt8)≤_;exact Nat.zero_le _⟩
       ·rw[List.map_append];rfl
     ·rw[if_pos (by omega)] at hst
      subst hst
      have hbr:out=([],0,3):=hbr
      subst hbr
      rcases hdd2 with rS|rS<;>subst rS
      all_goals
       repeat' (first|(refine dr Z ab Z Z Z hadd (fun _=>?_);rw[hkey])|refine ae ?_|refine aj ?_|refine aa ?_|refine ac (ax ?_)|refine ah (ax ?_)|refine ap (bC ?_)|refine d9 Z Z Z cM ?_|refine aU ab (fun _=>?_)|refine aF (d:=13) Z ab Z Z Z (fun b13=>?_)|refine aD ab Z Z Z Z Z Z Z ⟨rfl,rfl⟩ Z Z Z Z Z ?_|refine cd ab Z Z Z Z Z Z eo ?_|refine aB Z ?_|(refine ao Z (fun hc=>?_) (fun hc=>?_))<;>try omega|(refine bF Z (fun hc=>?_) (fun hc=>?_))<;>try omega|(refine dK ab Z 0 n Z Z Z da (cn Z Z) (Nat.zero_le _) (by omega) ?_;rw[List.drop_zero])|refine au Z (hcm) ⟨aP,aP,J⟩ Z ?_|(refine bh Z Z Z Z (hN) ⟨af,J⟩ (ak _) Z Z ?_;rintro _ _ ⟨rfl,rfl⟩;refine⟨_,rfl,_,rfl,?_⟩)|(refine bh Z Z Z Z (hT) ⟨af,J⟩ (ak _) Z Z ?_;rintro _ _ ⟨rfl,rfl⟩;refine⟨_,rfl,_,rfl,?_⟩)|(refine bh Z Z Z Z (hF) ⟨af,J⟩ (ak _) Z Z ?_;rintro _ _ ⟨rfl,rfl⟩;refine⟨_,rfl,_,rfl,?_⟩)|(refine bh Z Z Z Z (hD) ⟨af,J⟩ (ak _) Z Z ?_;rintro _ _ ⟨rfl,rfl⟩;refine⟨_,rfl,_,rfl,?_⟩))
      all_goals
       exact aH [] [] (.tup [.sl 3 [],.i .i64 ((0:Nat):Int),.i .i64 3]) Z (dI (cQ) (am Z) (am Z) Z Z Z) .nil ⟨rfl,rfl⟩
 ·have hic2:i=c:=by omega
  subst hic2
  rw[Nat.sub_self] at hbl
  have hbl:some (r,l)=R:=hbl
  subst hbl
  have hD:=fY bN r
  generalize hd:r.done=d at hD
  dsimp only at hbr
  rw[hd] at hbr
  by_cases rS:d=0
  ·rw[if_neg (by omega)] at hbr
   subst rS
   generalize di l=ck at hckl hbr
   by_cases hc0:ck=0
   ·rw[if_neg (by omega)] at hbr
    subst hbr;subst hc0
    repeat' (first|refine ae ?_|refine aa ?_|refine ac (ax ?_)|refine ah (ax ?_)|refine aw (ax ?_)|refine aU ab (fun _=>?_)|refine aB Z ?_|(refine ao Z (fun hc=>?_) (fun hc=>?_))<;>try omega|(refine bh Z Z Z Z (hD) ⟨af,J⟩ (ak _) Z Z ?_;rintro _ _ ⟨rfl,rfl⟩;refine⟨_,rfl,_,rfl,?_⟩))
    refine gJ [9] (S':=⟨87,[(80,.sl 3 (l.map eA)),(9,.sl 3 (l.map eA)),(6,.i .i64 sz)],[]⟩) ⟨rfl,⟨bu (bP (.head _)) Z,bu (bP (.head _)) Z,ai Z,J⟩,.nil⟩ ?_
    repeat' (first|refine ae ?_|refine aa ?_|refine ac (ax ?_)|refine ah (ax ?_)|refine ap (bC ?_)|refine aU ab (fun _=>?_)|refine aB Z ?_|refine au Z (hckl) ⟨aP,J⟩ Z ?_)
    exact aH [] [] (.tup [.sl 3 (l.map eA),.i .i64 (sz:Int),.i .i64 0]) Z (dI (am Z) (am Z) (am Z) Z Z Z) .nil ⟨rfl,rfl⟩
   ·rw[if_pos hc0] at hbr
    subst hbr
    repeat' (first|refine ae ?_|refine aa ?_|refine ac (ax ?_)|refine ah (ax ?_)|refine aw (ax ?_)|refine aU ab (fun _=>?_)|refine aB Z ?_|(refine ao Z (fun hc=>?_) (fun hc=>?_))<;>try omega|(refine bh Z Z Z Z (hD) ⟨af,J⟩ (ak _) Z Z ?_;rintro _ _ ⟨rfl,rfl⟩;refine⟨_,rfl,_,rfl,?_⟩))
    refine gJ [9] (S':=⟨87,[(80,.sl 3 (l.map eA)),(9,.sl 3 (l.map eA)),(6,.i .i64 sz)],[]⟩) ⟨rfl,⟨bu (bP (.head _)) Z,bu (bP (.head _)) Z,ai Z,J⟩,.nil⟩ ?_
    repeat' (first|refine ae ?_|refine aa ?_|refine ac (ax ?_)|refine ap (bC ?_)|refine aU ab (fun _=>?_)|(refine bF Z (fun hc=>?_) (fun hc=>?_))<;>try omega|refine au Z (hckl) ⟨aP,J⟩ Z ?_)
    exact aH [] [] (.tup [.sl 3 [],.i .i64 ((0:Nat):Int),.i .i64 ck]) Z (dI (cQ) (am Z) (am Z) Z Z Z) .nil ⟨rfl,rfl⟩
  ·rw[if_pos rS] at hbr
   subst hbr
   repeat' (first|refine ae ?_|refine aa ?_|refine ac (ax ?_)|refine aw (ax ?_)|refine ap (bC ?_)|refine aU ab (fun _=>?_)|(refine ao Z (fun hc=>?_) (fun hc=>?_))<;>try omega|(refine bF Z (fun hc=>?_) (fun hc=>?_))<;>try omega|(refine bh Z Z Z Z (hD) ⟨af,J⟩ (ak _) Z Z ?_;rintro _ _ ⟨rfl,rfl⟩;refine⟨_,rfl,_,rfl,?_⟩))
   exact aH [] [] (.tup [.sl 3 [],.i .i64 ((0:Nat):Int),.i .i64 d]) Z (dI (cQ) (am Z) (am Z) Z Z Z) .nil ⟨rfl,rfl⟩
end Go.Proofs.YtginkbjclkdglaaGreat
