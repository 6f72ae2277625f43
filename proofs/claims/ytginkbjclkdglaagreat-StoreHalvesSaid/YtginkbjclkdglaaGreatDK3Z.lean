/- slices.Clone of bytes; disk.Append by rules. -/
import Derived.Test.YtginkbjclkdglaaGreatV49Z
set_option maxHeartbeats 16000000
set_option maxRecDepth 100000
namespace Go.Proofs.YtginkbjclkdglaaGreat
open Go Go.RowKit
theorem un(xs:List UInt8)(hl:xs.length≤4398046511104):
 aQ Tryz.prog 129 [.sl 1 (xs.map gy)] [] (fun r os=>∃v,r= .own 0 v∧os=[.row v 5 1 (xs.map gy)]):=by
 refine aA ab [] Tryz.func129 Z Tryz.ntmps129 aN Z Z (fun C=>?_) Z
 repeat' (first|refine ae ?_|refine aa ?_|refine ac (ax ?_)|refine ah (ax ?_)|refine ap (bC ?_)|refine aU ab (fun _=>?_)|refine aI ab Z Z Z Z Z Z Z Z Z Z Z eo (fun _=>?_)|(refine bH ab Z Z Z Z Z Z Z Z Z (by first|exact J|exact rfl) Z Z (fun _=>rfl) ?_ ?_ (fun _=>?_);(exact dt);(exact dt))|(refine ba Z (fun hc=>?_) (fun hc=>?_))|(refine pR ab Z Z Z Z Z (fun c hc0=>?_)))
 ·have:=hc0 hc
  rw[this]
  exact bp Z Z Z [] [(0,_)] (dz (k:=0)) (.none .nil) ⟨_,rfl,rfl⟩ _ (.inl Z)
 ·exact bp Z Z Z [] [(0,_)] gZ (az 5 Z .nil) ⟨_,rfl,rfl⟩ _ (.inl Z)
def appE(D:ez)(nm b:List UInt8):Int:=
 if D.dead=true then 10 else if fg nm=false then 1 else if D.room - (D.used:Int)<b.length∨(D.get nm=none∧4096≤D.fs.length) then 9 else (fw D.fuse D.dead).2.1
def uw(l:List bZ)(clk q:Nat)(nm b:List UInt8):List bZ:=match l.find? (fun f=>f.nm==nm) with
 |none=>l++[⟨nm,q,clk,b,0⟩]
 |some _=>l.map (fun f=>if f.nm=nm then ⟨f.nm,f.blk,f.born,f.b++b,f.sure⟩ else f)
def fI(D:ez)(nm b:List UInt8)(q:Nat):ez:=
 if D.dead=true∨fg nm=false∨D.room - (D.used:Int)<b.length∨(D.get nm=none∧4096≤D.fs.length) then D
 else ⟨D.room,(fw D.fuse D.dead).2.2.1,(fw D.fuse D.dead).2.2.2,uw D.fs D.clk q nm b,if D.get nm=none then D.clk+1 else D.clk⟩
theorem j4{α:Type}{f:α→α}:∀{l:List α},(∀x∈l,f x=x)→l.map f=l
 |[],_=>rfl
 |x::r,h=>by rw[List.map_cons,h x (List.mem_cons_self ..),j4 (fun y hy=>h y (List.mem_cons_of_mem _ hy))]
theorem uo(bd bm:Nat)(D:ez)(nm b:List UInt8)(ok:D.ok)(hu:D.used≤1099511627776)(hn:nm.length≤9223372036854775807)(hb:b.length≤9223372036854775807)(hf:D.fuse<9223372036854775808):aQ Tryz.prog 91 [.ptr 0 bd [] 0,.s nm,.s b] (dk bd bm D) (fun v os=>∃q,v= .i .i64 (appE D nm b)∧os=dk bd bm (fI D nm b q)):=by
 have k1:=qS nm hn
 have k2:=Fu bd bm D ok (by omega)
 have k3:=nI bd D.room D.fuse (.map (some bm)) D.dead hf
 have bU:=mi D nm
 have hL:dk bd bm D=[.var bd (.agg [.i .i64 D.room,.own 1 (.map (some bm)),.i .i64 D.fuse,.b D.dead]),.obj bm (cV D.es D.clk),bL (D.fs.map bZ.O)]:=rfl
 rw[hL] at k2 ⊢
 obtain⟨E,hE⟩:∃E,appE D nm b=E:=⟨_,rfl⟩
 rw[hE]
 unfold appE at hE
 cases hdd:D.dead
 case true=>
  rw[hdd] at hL hE k2 k3
  rw[if_pos Z] at hE
  subst hE
  have hD:∀q,fI D nm b q=D:=fun q=>if_pos (.inl hdd)
  refine aA ab [(0,.var bd (.agg [.i .i64 D.room,.own 1 (.map (some bm)),.i .i64 D.fuse,.b true])),(1,.obj bm (cV D.es D.clk)),(2,bL (D.fs.map bZ.O))] Tryz.func91 Z Tryz.ntmps91 aN Z Z (fun C=>?_) Z
  repeat' (first|refine ae ?_|refine aa ?_|refine ac (ax ?_)|refine ap (bC ?_)|refine aU ab (fun _=>?_)|refine aR Z ?_)
  all_goals
   exact aH [] [(0,_),(1,_),(2,_)] (.i .i64 10) Z (bX (am Z) Z) (az 0 Z (az 1 Z (az 2 Z .nil))) ⟨0,rfl,by rw[hD 0];exact hL.symm⟩
 rw[hdd] at hL hE k2 k3
 rw[if_neg (by decide)] at hE
 refine aA ab [(0,.var bd (.agg [.i .i64 D.room,.own 1 (.map (some bm)),.i .i64 D.fuse,.b false])),(1,.obj bm (cV D.es D.clk)),(2,bL (D.fs.map bZ.O))] Tryz.func91 Z Tryz.ntmps91 aN Z Z (fun C=>?_) Z
 by_cases h1:fg nm=false
 ·rw[if_pos h1] at hE
  subst hE
  have hD:∀q,fI D nm b q=D:=fun q=>if_pos (.inr (.inl h1))
  rw[h1] at k1
  repeat' (first|refine ae ?_|refine aa ?_|refine ac (ax ?_)|refine ah (ax ?_)|refine ap (bC ?_)|refine aU ab (fun _=>?_)|refine aR Z ?_|refine aB Z ?_|refine au Z (k1) ⟨aP,J⟩ Z ?_)
  all_goals
   exact aH [] [(0,_),(1,_),(2,_)] (.i .i64 1) Z (bX (am Z) Z) (az 0 Z (az 1 Z (az 2 Z .nil))) ⟨0,rfl,by rw[hD 0];exact hL.symm⟩
 rw[if_neg h1] at hE
 have h1:fg nm=true:=by cases h:fg nm with|false=>exact absurd h h1|true=>rfl
 rw[h1] at k1
 obtain⟨hr0,hr1⟩:=ok.room
 have hfl:D.es.length=D.fs.length:=List.length_map ..
 by_cases h2:D.room - (D.used:Int)<b.length∨(D.get nm=none∧4096≤D.fs.length)
 ·rw[if_pos h2] at hE
  subst hE
  have hD:∀q,fI D nm b q=D:=fun q=>if_pos (.inr (.inr h2))
  cases hgt:D.get nm with
  |none=>
   rw[hgt] at bU
   have hlk:C8 3 (jr nm D.es)= .nilp:=by rw[bU];rfl
   repeat' (first|refine ae ?_|refine aa ?_|refine ac (ax ?_)|refine ah (ax ?_)|refine ap (bC ?_)|refine qj Z Z Z ?_|refine nj Z Z Z ?_|(refine dW Z Z Z Z ?_ ?_;omega)|refine aU ab (fun _=>?_)|(fail_if_success (refine aM Z cM ?_));(refine aV Z Z (fun hc=>?_) (fun hc=>?_)<;>try omega)|refine aR Z ?_|refine aB Z ?_|(refine ao Z (fun hc=>?_) (fun hc=>?_))<;>try omega|(refine ac ?_;show gO _ _ _ _ _ _ _ _ _ _)|refine kv 6 [0,1,2] [40,41,28] [] aN aN (n:=22) (listed:=[O9,O9,O9,O9,O9,O9,O9,O9,O9,O9,O9,O9,O9,O9,O9,O9,O9,O9,O9,O9,O9,O9].toArray) Z aN ?_|refine dh (n:=22) (listed:=[O9,O9,O9,O9,O9,O9,O9,O9,O9,O9,O9,O9,O9,O9,O9,O9,O9,O9,O9,O9,O9,O9].toArray) [0,1,2,3,4,6] 16 [O8,O8,O8,O8,O8,O9,O8,O9,O9,O9,O9,O9,O9,O9,O9,O9,O9,O9,O9,O9,O9,O9] aN Z Z Z aN ?_|refine lO (n:=16) (listed:=[O8,O8,O8,O8,O8,O9,O8,O9,O9,O9,O9,O9,O9,O9,O9,O9,O9,O9,O9,O9,O9,O9].toArray) 5 7 [O8,O8,O8,O8,O8,O8,O8,O9,O9,O9,O9,O9,O9,O9,O9,O9,O9,O9,O9,O9,O9,O9] [O8,O8,O8,O8,O8,O9,O8,O8,O9,O9,O9,O9,O9,O9,O9,O9,O9,O9,O9,O9,O9,O9] Z aN Z Z aN aN ?_ ?_|refine dh (n:=15) (listed:=[O8,O8,O8,O8,O8,O8,O8,O9,O9,O9,O9,O9,O9,O9,O9,O9,O9,O9,O9,O9,O9,O9].toArray) [7,8,9,10,11,12,13,14,15,16,17,18,19,20,21] 0 [O8,O8,O8,O8,O8,O8,O8,O8,O8,O8,O8,O8,O8,O8,O8,O8,O8,O8,O8,O8,O8,O8] aN Z Z Z aN ?_|refine na (n:=0) (listed:=[O8,O8,O8,O8,O8,O8,O8,O8,O8,O8,O8,O8,O8,O8,O8,O8,O8,O8,O8,O8,O8,O8].toArray) aN ?_|refine dh (n:=15) (listed:=[O8,O8,O8,O8,O8,O9,O8,O8,O9,O9,O9,O9,O9,O9,O9,O9,O9,O9,O9,O9,O9,O9].toArray) [5,8,9,10,11,12,13,14,15,16,17,18,19,20,21] 0 [O8,O8,O8,O8,O8,O8,O8,O8,O8,O8,O8,O8,O8,O8,O8,O8,O8,O8,O8,O8,O8,O8] aN Z Z Z aN ?_|(refine e7 3 ab Z Z Z Z Z Z Z hlk Z ?_)|refine bk [] [0,1,2] [0,1,2] Z k2 ⟨af,J⟩ Z dD Z Z ?_|(refine HI ab Z Z Z Z Z Z ?_)|(refine vJ ab Z Z Z Z Z Z ?_)|refine au Z (k1) ⟨aP,J⟩ Z ?_)
   all_goals
    exact aH [] [(0,_),(1,_),(2,_)] (.i .i64 9) Z (bX (am Z) Z) (az 0 Z (az 1 Z (az 2 Z .nil))) ⟨0,rfl,by rw[hD 0];exact hL.symm⟩
  |some f=>
   rw[hgt] at bU
   have hlk:C8 3 (jr nm D.es)= .ptr 3 f.blk [] 0:=by rw[bU];rfl
   have h3:D.room - (D.used:Int)<b.length:=h2.elim id (fun h=>by rw[hgt] at h;cases h.1)
   repeat' (first|refine ae ?_|refine aa ?_|refine ac (ax ?_)|refine ah (ax ?_)|refine ap (bC ?_)|refine qj Z Z Z ?_|refine nj Z Z Z ?_|(refine dW Z Z Z Z ?_ ?_;omega)|refine aU ab (fun _=>?_)|(fail_if_success (refine aM Z cM ?_));(refine aV Z Z (fun hc=>?_) (fun hc=>?_)<;>try omega)|refine aR Z ?_|refine aB Z ?_|(refine ac ?_;show gO _ _ _ _ _ _ _ _ _ _)|refine kv 6 [0,1,2] [40,41,28] [] aN aN (n:=22) (listed:=[O9,O9,O9,O9,O9,O9,O9,O9,O9,O9,O9,O9,O9,O9,O9,O9,O9,O9,O9,O9,O9,O9].toArray) Z aN ?_|refine dh (n:=22) (listed:=[O9,O9,O9,O9,O9,O9,O9,O9,O9,O9,O9,O9,O9,O9,O9,O9,O9,O9,O9,O9,O9,O9].toArray) [0,1,2,3,4,6] 16 [O8,O8,O8,O8,O8,O9,O8,O9,O9,O9,O9,O9,O9,O9,O9,O9,O9,O9,O9,O9,O9,O9] aN Z Z Z aN ?_|refine lO (n:=16) (listed:=[O8,O8,O8,O8,O8,O9,O8,O9,O9,O9,O9,O9,O9,O9,O9,O9,O9,O9,O9,O9,O9,O9].toArray) 5 7 [O8,O8,O8,O8,O8,O8,O8,O9,O9,O9,O9,O9,O9,O9,O9,O9,O9,O9,O9,O9,O9,O9] [O8,O8,O8,O8,O8,O9,O8,O8,O9,O9,O9,O9,O9,O9,O9,O9,O9,O9,O9,O9,O9,O9] Z aN Z Z aN aN ?_ ?_|refine dh (n:=15) (listed:=[O8,O8,O8,O8,O8,O8,O8,O9,O9,O9,O9,O9,O9,O9,O9,O9,O9,O9,O9,O9,O9,O9].toArray) [7,8,9,10,11,12,13,14,15,16,17,18,19,20,21] 0 [O8,O8,O8,O8,O8,O8,O8,O8,O8,O8,O8,O8,O8,O8,O8,O8,O8,O8,O8,O8,O8,O8] aN Z Z Z aN ?_|refine na (n:=0) (listed:=[O8,O8,O8,O8,O8,O8,O8,O8,O8,O8,O8,O8,O8,O8,O8,O8,O8,O8,O8,O8,O8,O8].toArray) aN ?_|refine dh (n:=15) (listed:=[O8,O8,O8,O8,O8,O9,O8,O8,O9,O9,O9,O9,O9,O9,O9,O9,O9,O9,O9,O9,O9,O9].toArray) [5,8,9,10,11,12,13,14,15,16,17,18,19,20,21] 0 [O8,O8,O8,O8,O8,O8,O8,O8,O8,O8,O8,O8,O8,O8,O8,O8,O8,O8,O8,O8,O8,O8] aN Z Z Z aN ?_|(refine e7 3 ab Z Z Z Z Z Z Z hlk Z ?_)|refine bk [] [0,1,2] [0,1,2] Z k2 ⟨af,J⟩ Z dD Z Z ?_|refine au Z (k1) ⟨aP,J⟩ Z ?_)
   all_goals
    exact aH [] [(0,_),(1,_),(2,_)] (.i .i64 9) Z (bX (am Z) Z) (az 0 Z (az 1 Z (az 2 Z .nil))) ⟨0,rfl,by rw[hD 0];exact hL.symm⟩
 rw[if_neg h2] at hE
 have hbg:(fw D.fuse false).1=true:=by
  unfold fw
  rw[if_neg (by decide)]
  split
  ·rfl
  ·split<;>rfl
 have hD:∀q,fI D nm b q=⟨D.room,(fw D.fuse false).2.2.1,(fw D.fuse false).2.2.2,uw D.fs D.clk q nm b,if D.get nm=none then D.clk+1 else D.clk⟩:=fun q=>by
  unfold fI
  rw[hdd,if_neg (fun h=>by
   rcases h with h|h|h
   ·cases h
   ·rw[h1] at h;cases h
   ·exact h2 h)]
 generalize fw D.fuse false=R at*
 obtain⟨g,e,fu,d2⟩:=R
 dsimp only at hbg k3 hE hD
 subst hbg
 subst hE
 have hbl:(b.length:Int)≤D.room - (D.used:Int):=by
  have:=fun h=>h2 (.inl h)
  omega
 cases hgt:D.get nm with
 |none=>
  rw[hgt] at bU
  have bU:jr nm D.es=none:=bU
  have hlk:C8 3 (jr nm D.es)= .nilp:=by rw[bU];rfl
  have hcn:D.fs.length<4096:=Nat.lt_of_not_le (fun h=>h2 (.inr ⟨hgt,h⟩))
  have hA:∀q,uw D.fs D.clk q nm b=D.fs++[bZ.mk nm q D.clk b 0]:=fun q=>by
   unfold uw
   rw[show D.fs.find? (fun f=>f.nm==nm)=none from hgt]
  have hfin:∀q,dk bd bm (fI D nm b q)=[.var bd (.agg [.i .i64 D.room,.own 1 (.map (some bm)),.i .i64 fu,.b d2]),.obj bm (cV (D.es++[(nm,q,D.clk)]) (D.clk+1)),bL ((D.fs++[bZ.mk nm q D.clk b 0]).map bZ.O)]:=fun q=>by
   rw[hD q,hA q,if_pos hgt]
   show [_,HO.obj bm (cV ((D.fs++[bZ.mk nm q D.clk b 0]).map bZ.e) (D.clk+1)),_]=_
   rw[List.map_append];rfl
  have hos:∀q,((D.fs++[bZ.mk nm q D.clk b 0]).map bZ.O).Perm (HO.var q (.agg [.sl 1 (b.map gy),.i .i64 0])::D.fs.map bZ.O):=fun q=>by
   rw[List.map_append]
   exact List.perm_append_comm
  have kc:=un [] (by decide)
  repeat' (first|refine ae ?_|refine aa ?_|refine ac (ax ?_)|refine ah (ax ?_)|refine ap (bC ?_)|(refine dW Z Z Z Z ?_ ?_;omega)|refine aU ab (fun _=>?_)|refine c9 (d:=56) Z Z Z Z (fun b56=>?_)|refine aD ab Z Z Z Z Z Z Z ⟨rfl,rfl⟩ Z Z Z Z Z ?_|refine cd ab Z Z Z Z Z Z eo ?_|(refine jg ab Z Z Z Z Z Z Z Z Z (fun _=>rfl) ?_ (fun _=>?_);(exact dt))|(fail_if_success (refine aM Z cM ?_));(refine aV Z Z (fun hc=>?_) (fun hc=>?_)<;>try omega)|refine aR Z ?_|refine aB Z ?_|(refine ao Z (fun hc=>?_) (fun hc=>?_))<;>try omega|(refine ac ?_;show gO _ _ _ _ _ _ _ _ _ _)|refine kv 6 [0,1,2] [40,41,28] [] aN aN (n:=22) (listed:=[O9,O9,O9,O9,O9,O9,O9,O9,O9,O9,O9,O9,O9,O9,O9,O9,O9,O9,O9,O9,O9,O9].toArray) Z aN ?_|refine dh (n:=22) (listed:=[O9,O9,O9,O9,O9,O9,O9,O9,O9,O9,O9,O9,O9,O9,O9,O9,O9,O9,O9,O9,O9,O9].toArray) [0,1,2,3,4,6] 16 [O8,O8,O8,O8,O8,O9,O8,O9,O9,O9,O9,O9,O9,O9,O9,O9,O9,O9,O9,O9,O9,O9] aN Z Z Z aN ?_|refine lO (n:=16) (listed:=[O8,O8,O8,O8,O8,O9,O8,O9,O9,O9,O9,O9,O9,O9,O9,O9,O9,O9,O9,O9,O9,O9].toArray) 5 7 [O8,O8,O8,O8,O8,O8,O8,O9,O9,O9,O9,O9,O9,O9,O9,O9,O9,O9,O9,O9,O9,O9] [O8,O8,O8,O8,O8,O9,O8,O8,O9,O9,O9,O9,O9,O9,O9,O9,O9,O9,O9,O9,O9,O9] Z aN Z Z aN aN ?_ ?_|refine dh (n:=15) (listed:=[O8,O8,O8,O8,O8,O8,O8,O9,O9,O9,O9,O9,O9,O9,O9,O9,O9,O9,O9,O9,O9,O9].toArray) [7,8,9,10,11,12,13,14,15,16,17,18,19,20,21] 0 [O8,O8,O8,O8,O8,O8,O8,O8,O8,O8,O8,O8,O8,O8,O8,O8,O8,O8,O8,O8,O8,O8] aN Z Z Z aN ?_|refine na (n:=0) (listed:=[O8,O8,O8,O8,O8,O8,O8,O8,O8,O8,O8,O8,O8,O8,O8,O8,O8,O8,O8,O8,O8,O8].toArray) aN ?_|refine dh (n:=15) (listed:=[O8,O8,O8,O8,O8,O9,O8,O8,O9,O9,O9,O9,O9,O9,O9,O9,O9,O9,O9,O9,O9,O9].toArray) [5,8,9,10,11,12,13,14,15,16,17,18,19,20,21] 0 [O8,O8,O8,O8,O8,O8,O8,O8,O8,O8,O8,O8,O8,O8,O8,O8,O8,O8,O8,O8,O8,O8] aN Z Z Z aN ?_|(refine e7 3 ab Z Z Z Z Z Z Z hlk Z ?_)|refine bk [] [0,1,2] [0,1,2] Z k2 ⟨af,J⟩ Z dD Z Z ?_|(refine HI ab Z Z Z Z Z Z ?_)|(refine vJ ab Z Z Z Z Z Z ?_)|refine bk [] [0] [0] Z k3 ⟨af,J⟩ Z dD Z Z ?_|(refine xY ab Z Z Z Z Z Z Z bU Z Z ?_)|(refine jy Z kc ⟨sJ,J⟩ Z (fun vR=>?_))|refine au Z (k1) ⟨aP,J⟩ Z ?_)
  all_goals
   exact aH [68] [(0,_),(1,_),(2,_)] (.i .i64 e) Z (bX (am Z) Z) (az 0 Z (az 1 Z (cr.push 56 2 Z (bW (bS (.cons (bP (.head _)) (.cons (av _) .nil)))) Z (hos b56) .nil))) ⟨b56,rfl,(hfin b56).symm⟩
 |some f=>
  rw[hgt] at bU
  have hlk:C8 3 (jr nm D.es)= .ptr 3 f.blk [] 0:=by rw[bU];rfl
  obtain⟨hfm,hfn⟩:=kF hgt
  obtain⟨s,r,hst⟩:=List.append_of_mem hfm
  have hpm:D.fs.Perm (f::(s++r)):=by rw[hst];exact List.perm_middle
  have hul:D.used=f.b.length+fJ (s++r):=by
   have:=nQ hpm
   rw[iX] at this
   exact this
  have kc:=un f.b (by omega)
  have hos1:(D.fs.map bZ.O).Perm (HO.var f.blk (.agg [.sl 1 (f.b.map gy),.i .i64 f.sure])::(s++r).map bZ.O):=hpm.map bZ.O
  have hne:∀x∈s++r,x.nm≠nm:=fun x hx he=>by
   have hnd:=(hpm.map (·.nm)).nodup_iff.1 ok.nd
   rw[List.map_cons,List.nodup_cons] at hnd
   exact hnd.1 (List.mem_map.2 ⟨x,hx,by rw[he,hfn]⟩)
  have hA:∀q,uw D.fs D.clk q nm b=s++bZ.mk f.nm f.blk f.born (f.b++b) f.sure::r:=fun q=>by
   unfold uw
   rw[show D.fs.find? (fun f=>f.nm==nm)=some f from hgt]
   show D.fs.map _=_
   rw[hst,List.map_append,List.map_cons,if_pos hfn,j4 (fun x hx=>if_neg (hne x (List.mem_append_left _ hx))),j4 (fun x hx=>if_neg (hne x (List.mem_append_right _ hx)))]
  have hes:(s++bZ.mk f.nm f.blk f.born (f.b++b) f.sure::r).map bZ.e=D.es:=by
   unfold ez.es
   rw[hst,List.map_append,List.map_append,List.map_cons,List.map_cons];rfl
  have hfin:dk bd bm (fI D nm b 0)=[.var bd (.agg [.i .i64 D.room,.own 1 (.map (some bm)),.i .i64 fu,.b d2]),.obj bm (cV D.es D.clk),bL ((s++bZ.mk f.nm f.blk f.born (f.b++b) f.sure::r).map bZ.O)]:=by
   rw[hD 0,hA 0,if_neg (by rw[hgt];exact fun h=>by cases h)]
   show [_,HO.obj bm (cV ((s++bZ.mk f.nm f.blk f.born (f.b++b) f.sure::r).map bZ.e) D.clk),_]=_
   rw[hes];rfl
  have hos2:((s++bZ.mk f.nm f.blk f.born (f.b++b) f.sure::r).map bZ.O).Perm (HO.var f.blk (.agg [.sl 1 (f.b.map gy++b.map gy),.i .i64 f.sure])::(s++r).map bZ.O):=by
   rw[←List.map_append]
   exact(List.perm_middle (l₁:=s) (l₂:=r)).map bZ.O
  repeat' (first|refine ae ?_|refine aa ?_|refine ac (ax ?_)|refine ah (ax ?_)|refine gM Z Z Z ?_|(refine dW Z Z Z Z ?_ ?_;omega)|refine aU ab (fun _=>?_)|refine fQ ab Z Z Z Z Z ?_|(fail_if_success (refine aM Z cM ?_));(refine aV Z Z (fun hc=>?_) (fun hc=>?_)<;>try omega)|refine aB Z ?_|(refine ac ?_;show gO _ _ _ _ _ _ _ _ _ _)|refine kv 6 [0,1,2] [40,41,28] [] aN aN (n:=22) (listed:=[O9,O9,O9,O9,O9,O9,O9,O9,O9,O9,O9,O9,O9,O9,O9,O9,O9,O9,O9,O9,O9,O9].toArray) Z aN ?_|refine dh (n:=22) (listed:=[O9,O9,O9,O9,O9,O9,O9,O9,O9,O9,O9,O9,O9,O9,O9,O9,O9,O9,O9,O9,O9,O9].toArray) [0,1,2,3,4,6] 16 [O8,O8,O8,O8,O8,O9,O8,O9,O9,O9,O9,O9,O9,O9,O9,O9,O9,O9,O9,O9,O9,O9] aN Z Z Z aN ?_|refine lO (n:=16) (listed:=[O8,O8,O8,O8,O8,O9,O8,O9,O9,O9,O9,O9,O9,O9,O9,O9,O9,O9,O9,O9,O9,O9].toArray) 5 7 [O8,O8,O8,O8,O8,O8,O8,O9,O9,O9,O9,O9,O9,O9,O9,O9,O9,O9,O9,O9,O9,O9] [O8,O8,O8,O8,O8,O9,O8,O8,O9,O9,O9,O9,O9,O9,O9,O9,O9,O9,O9,O9,O9,O9] Z aN Z Z aN aN ?_ ?_|refine dh (n:=15) (listed:=[O8,O8,O8,O8,O8,O8,O8,O9,O9,O9,O9,O9,O9,O9,O9,O9,O9,O9,O9,O9,O9,O9].toArray) [7,8,9,10,11,12,13,14,15,16,17,18,19,20,21] 0 [O8,O8,O8,O8,O8,O8,O8,O8,O8,O8,O8,O8,O8,O8,O8,O8,O8,O8,O8,O8,O8,O8] aN Z Z Z aN ?_|refine na (n:=0) (listed:=[O8,O8,O8,O8,O8,O8,O8,O8,O8,O8,O8,O8,O8,O8,O8,O8,O8,O8,O8,O8,O8,O8].toArray) aN ?_|refine dh (n:=15) (listed:=[O8,O8,O8,O8,O8,O9,O8,O8,O9,O9,O9,O9,O9,O9,O9,O9,O9,O9,O9,O9,O9,O9].toArray) [5,8,9,10,11,12,13,14,15,16,17,18,19,20,21] 0 [O8,O8,O8,O8,O8,O8,O8,O8,O8,O8,O8,O8,O8,O8,O8,O8,O8,O8,O8,O8,O8,O8] aN Z Z Z aN ?_|(refine e7 3 ab Z Z Z Z Z Z Z hlk Z ?_)|refine bk [] [0,1,2] [0,1,2] Z k2 ⟨af,J⟩ Z dD Z Z ?_|refine bk [] [0] [0] Z k3 ⟨af,J⟩ Z dD Z Z ?_|refine au Z (k1) ⟨aP,J⟩ Z ?_)
  all_goals
   refine aq.pull 2 3 Z hos1 Z ?_
   repeat' (first|refine ae ?_|refine aa ?_|refine ac (ax ?_)|refine ap (bC ?_)|refine aU ab (fun _=>?_)|refine aD ab Z Z Z Z Z Z Z ⟨rfl,rfl⟩ Z Z Z Z Z ?_|(refine jg ab Z Z Z Z Z Z Z Z Z (fun _=>rfl) ?_ (fun _=>?_);(exact dt))|(refine jy Z kc ⟨aP,J⟩ Z (fun vR=>?_)))
   exact aH [68] [(0,_),(1,_),(2,_)] (.i .i64 e) Z (bX (am Z) Z) (az 0 Z (az 1 Z (cr.push 3 2 Z (bW (bS (.cons (bP (.head _)) (.cons (av _) .nil)))) Z hos2 .nil))) ⟨0,rfl,hfin.symm⟩
theorem lK(b:Nat)(room fuse:Int)(u:Value)(dead:Bool):aQ Tryz.prog 35 [.ptr 0 b [] 0] [.var b (.agg [.i .i64 room,.own 1 u,.i .i64 fuse,.b dead])] (fun v os=>v= .b dead∧os=[.var b (.agg [.i .i64 room,.own 1 u,.i .i64 fuse,.b dead])]):=by
 refine aA ab [(0,.var b (.agg [.i .i64 room,.own 1 u,.i .i64 fuse,.b dead]))] Tryz.func35 Z Tryz.ntmps35 aN Z Z (fun C=>?_) Z
 repeat' (first|refine ae ?_|refine aa ?_|refine ac (ax ?_)|refine ap (bC ?_)|refine aU ab (fun _=>?_))
 exact bp Z Z Z [] [(0,_)] (am Z) (az 0 Z .nil) ⟨rfl,rfl⟩ _ (.inl Z)
def fc(room:Int):ez:=⟨if 0>room then 0 else room, -1,false,[],0⟩
theorem GH(r:Int)(b:Nat)(w:World):(Instr.build 64 #[(0,.int .i64 r),(1,.map (some b)),(2,.int .i64 (-1))]).run Tryz.prog w= .ok (.agg #[.int .i64 r,.map (some b),.int .i64 (-1),.bool false]) w:=by kernel_rfl
theorem HM{m:OM}{C:il}{ops:Array Oper}{l:List Oper}{K:St→Prop}{n:Nat}{sl:List (Nat×AV)}{hp:List (Nat×HO)}{d:Nat}{ty:Nat}{pos:String}{aft:Array Edge}{gd:Option (Nat×Bool)}(hw:cH ops ⟨n,sl,hp⟩ gd=bE gd){x y z:Operand}{r:Int}{k b:Nat}
 (hx:ev ⟨n,sl,hp⟩ x= .i .i64 r)(hy:ev ⟨n,sl,hp⟩ y= .own k (.map (some b)))(hz:ev ⟨n,sl,hp⟩ z= .i .i64 (-1))(hd:Nat.blt d n=true)
 (h:aq m Tryz.prog C ops l ⟨n,(d,.agg [.i .i64 r,.own k (.map (some b)),.i .i64 (-1),.b false])::sl,hp⟩ K):aq m Tryz.prog C ops (⟨some d,.build 64 #[(0,x),(1,y),(2,z)],ty,pos,aft,gd⟩::l) ⟨n,sl,hp⟩ K:=by
 refine eI (d:=some d) hw none cT hd Z (fun a w hs=>?_) h
 have Ex:=bg hs x
 have Ey:=bg hs y
 have Ez:=bg hs z
 rw[hx,cq] at Ex
 rw[hy,cf] at Ey
 rw[hz,cq] at Ez
 refine⟨.agg #[.int .i64 r,.map (some b),.int .i64 (-1),.bool false],?_,fun w' _=>?_⟩
 ·refine⟨[.int .i64 r,.map (some b),.int .i64 (-1),.bool false],?_,rfl⟩
  simp only[bw,fK]
  exact⟨[_],_,rfl,rfl,[_],_,rfl,⟨rfl,rfl⟩,[_],_,rfl,rfl,[_],_,rfl,rfl,rfl⟩
 ·have hrun:=GH r b w'
  simp only[execOp,Sem.run_bind,List.map_toArray,List.map_cons,List.map_nil,Ex,Ey.1,Ez,hrun,Result.andThen_ok,Sem.run_pure]
theorem p8(room:Int):aQ Tryz.prog 7 [.i .i64 room] [] (fun v os=>∃bd bm,v= .ptr 0 bd [] 0∧os=dk bd bm (fc room)):=by
 refine aA ab [] Tryz.func7 Z Tryz.ntmps7 aN Z Z (fun C=>?_) Z
 repeat' (first|refine ae ?_|refine aa ?_|refine ac (ax ?_)|refine ap (bC ?_)|refine aU ab (fun _=>?_)|refine c9 (d:=7) Z Z Z Z (fun b7=>?_)|(refine lH Z Z (fun bM=>?_))|(refine HM Z Z Z Z Z ?_))
 all_goals
  exact aH [] [(0,_),(1,_),(2,_)] (.ptr 0 b7 [] 0) Z (bX gK Z) (cr.cons 7 Z (bW (bS (.cons (av _) (.cons gZ (.cons (av _) (.cons (av _) .nil)))))) (az 5 Z (cr.grp (ys:=[]) [] Z trivial .nil))) ⟨b7,bM,rfl,rfl⟩
def re(l:List bZ)(nm:List UInt8):List bZ:=l.map (fun f=>if f.nm=nm then bZ.mk f.nm f.blk f.born f.b f.b.length else f)
def Ak(D:ez)(nm:List UInt8):Int:=if D.dead=false∧D.get nm=none then 7 else (fw D.fuse D.dead).2.1
def oC(D:ez)(nm:List UInt8):ez:=
 if D.dead=false∧D.get nm=none then D
 else ⟨D.room,(fw D.fuse D.dead).2.2.1,(fw D.fuse D.dead).2.2.2,if (fw D.fuse D.dead).2.1=0 then re D.fs nm else D.fs,D.clk⟩
theorem xE(bd bm:Nat)(D:ez)(nm:List UInt8)(ok:D.ok)(_hu:D.used≤1099511627776)(_hn:nm.length≤9223372036854775807)(hf:D.fuse<9223372036854775808):aQ Tryz.prog 92 [.ptr 0 bd [] 0,.s nm] (dk bd bm D) (fun v os=>v= .i .i64 (Ak D nm)∧os=dk bd bm (oC D nm)):=by
 have k3:=nI bd D.room D.fuse (.map (some bm)) D.dead hf
 have bU:=mi D nm
 have hL:dk bd bm D=[.var bd (.agg [.i .i64 D.room,.own 1 (.map (some bm)),.i .i64 D.fuse,.b D.dead]),.obj bm (cV D.es D.clk),bL (D.fs.map bZ.O)]:=rfl
 rw[hL]
 have hE:Ak D nm=if D.dead=false∧D.get nm=none then 7 else (fw D.fuse D.dead).2.1:=rfl
 have hD:oC D nm=if D.dead=false∧D.get nm=none then D else ⟨D.room,(fw D.fuse D.dead).2.2.1,(fw D.fuse D.dead).2.2.2,if (fw D.fuse D.dead).2.1=0 then re D.fs nm else D.fs,D.clk⟩:=rfl
 have hbg:D.dead=true→fw D.fuse D.dead=(false,10,D.fuse,true):=fun h=>by unfold fw;rw[if_pos h,h]
 have hbg2:D.dead=false→(fw D.fuse D.dead).1=true:=fun h=>by
  unfold fw
  rw[if_neg (by rw[h];decide)]
  split
  ·rfl
  ·split<;>rfl
 generalize hR:fw D.fuse D.dead=R at*
 obtain⟨g,e,fu,d2⟩:=R
 dsimp only at hbg2 k3 hE hD
 cases hdd:D.dead
 case true=>
  have hb:=hbg hdd
  simp only[Prod.mk.injEq] at hb
  obtain⟨rfl,rfl,rfl,rfl⟩:=hb
  rw[hdd] at k3 hE hD
  rw[if_neg (fun h=>by cases h.1)] at hE hD
  rw[hE]
  have hfin:dk bd bm (oC D nm)=[.var bd (.agg [.i .i64 D.room,.own 1 (.map (some bm)),.i .i64 D.fuse,.b true]),.obj bm (cV D.es D.clk),bL (D.fs.map bZ.O)]:=by rw[hD];rfl
  refine aA ab [(0,.var bd (.agg [.i .i64 D.room,.own 1 (.map (some bm)),.i .i64 D.fuse,.b true])),(1,.obj bm (cV D.es D.clk)),(2,bL (D.fs.map bZ.O))] Tryz.func92 Z Tryz.ntmps92 aN Z Z (fun C=>?_) Z
  cases hgt:D.get nm with
  |none=>
   rw[hgt] at bU
   have hlk:C8 3 (jr nm D.es)= .nilp:=by rw[bU];rfl
   repeat' (first|refine ae ?_|refine aa ?_|refine ac (ax ?_)|refine ah (ax ?_)|refine ap (bC ?_)|refine gM Z Z Z ?_|refine aU ab (fun _=>?_)|refine aR Z ?_|refine aB Z ?_|(refine e7 3 ab Z Z Z Z Z Z Z hlk Z ?_)|refine bk [] [0] [0] Z k3 ⟨af,J⟩ Z dD Z Z ?_)
   all_goals
    exact aH [] [(0,_),(1,_),(2,_)] (.i .i64 10) Z (bX (am Z) Z) (az 0 Z (az 1 Z (az 2 Z .nil))) ⟨rfl,hfin.symm⟩
  |some f=>
   rw[hgt] at bU
   have hlk:C8 3 (jr nm D.es)= .ptr 3 f.blk [] 0:=by rw[bU];rfl
   repeat' (first|refine ae ?_|refine aa ?_|refine ac (ax ?_)|refine ah (ax ?_)|refine ap (bC ?_)|refine gM Z Z Z ?_|refine aU ab (fun _=>?_)|refine aR Z ?_|refine aB Z ?_|(refine e7 3 ab Z Z Z Z Z Z Z hlk Z ?_)|refine bk [] [0] [0] Z k3 ⟨af,J⟩ Z dD Z Z ?_)
   all_goals
    exact aH [] [(0,_),(1,_),(2,_)] (.i .i64 10) Z (bX (am Z) Z) (az 0 Z (az 1 Z (az 2 Z .nil))) ⟨rfl,hfin.symm⟩
 have hg:=hbg2 hdd
 subst hg
 rw[hdd] at k3 hE hD
 refine aA ab [(0,.var bd (.agg [.i .i64 D.room,.own 1 (.map (some bm)),.i .i64 D.fuse,.b false])),(1,.obj bm (cV D.es D.clk)),(2,bL (D.fs.map bZ.O))] Tryz.func92 Z Tryz.ntmps92 aN Z Z (fun C=>?_) Z
 cases hgt:D.get nm with
 |none=>
  rw[hgt] at bU
  rw[if_pos ⟨rfl,hgt⟩] at hE hD
  rw[hE]
  have hfin:dk bd bm (oC D nm)=[.var bd (.agg [.i .i64 D.room,.own 1 (.map (some bm)),.i .i64 D.fuse,.b false]),.obj bm (cV D.es D.clk),bL (D.fs.map bZ.O)]:=by rw[hD,hL,hdd]
  have hlk:C8 3 (jr nm D.es)= .nilp:=by rw[bU];rfl
  repeat' (first|refine ae ?_|refine aa ?_|refine ac (ax ?_)|refine ap (bC ?_)|refine aU ab (fun _=>?_)|refine aR Z ?_|(refine e7 3 ab Z Z Z Z Z Z Z hlk Z ?_)|(refine vJ ab Z Z Z Z Z Z ?_))
  all_goals
   exact aH [] [(0,_),(1,_),(2,_)] (.i .i64 7) Z (bX (am Z) Z) (az 0 Z (az 1 Z (az 2 Z .nil))) ⟨rfl,hfin.symm⟩
 |some f=>
  rw[hgt] at bU
  rw[if_neg (fun h=>by rw[hgt] at h;cases h.2)] at hE hD
  rw[hE]
  have hlk:C8 3 (jr nm D.es)= .ptr 3 f.blk [] 0:=by rw[bU];rfl
  by_cases he:e=0
  ·subst he
   rw[if_pos Z] at hD
   obtain⟨hfm,hfn⟩:=kF hgt
   obtain⟨s,r,hst⟩:=List.append_of_mem hfm
   have hpm:D.fs.Perm (f::(s++r)):=by rw[hst];exact List.perm_middle
   have hos1:(D.fs.map bZ.O).Perm (HO.var f.blk (.agg [.sl 1 (f.b.map gy),.i .i64 f.sure])::(s++r).map bZ.O):=hpm.map bZ.O
   have hne:∀x∈s++r,x.nm≠nm:=fun x hx he=>by
    have hnd:=(hpm.map (·.nm)).nodup_iff.1 ok.nd
    rw[List.map_cons,List.nodup_cons] at hnd
    exact hnd.1 (List.mem_map.2 ⟨x,hx,by rw[he,hfn]⟩)
   have hA:re D.fs nm=s++bZ.mk f.nm f.blk f.born f.b f.b.length::r:=by
    unfold re
    rw[hst,List.map_append,List.map_cons,if_pos hfn,j4 (fun x hx=>if_neg (hne x (List.mem_append_left _ hx))),j4 (fun x hx=>if_neg (hne x (List.mem_append_right _ hx)))]
   have hes:(s++bZ.mk f.nm f.blk f.born f.b f.b.length::r).map bZ.e=D.es:=by
    unfold ez.es
    rw[hst,List.map_append,List.map_append,List.map_cons,List.map_cons];rfl
   have hfin:dk bd bm (oC D nm)=[.var bd (.agg [.i .i64 D.room,.own 1 (.map (some bm)),.i .i64 fu,.b d2]),.obj bm (cV D.es D.clk),bL ((s++bZ.mk f.nm f.blk f.born f.b f.b.length::r).map bZ.O)]:=by
    rw[hD,hA]
    show [_,HO.obj bm (cV ((s++bZ.mk f.nm f.blk f.born f.b f.b.length::r).map bZ.e) D.clk),_]=_
    rw[hes];rfl
   have hos2:((s++bZ.mk f.nm f.blk f.born f.b f.b.length::r).map bZ.O).Perm (HO.var f.blk (.agg [.sl 1 (f.b.map gy),.i .i64 (f.b.length:Nat)])::(s++r).map bZ.O):=(List.perm_middle (l₁:=s) (l₂:=r)).map bZ.O
   repeat' (first|refine ae ?_|refine aa ?_|refine ac (ax ?_)|refine ah (ax ?_)|refine aU ab (fun _=>?_)|refine fQ ab Z Z Z Z Z ?_|refine aB Z ?_|(refine e7 3 ab Z Z Z Z Z Z Z hlk Z ?_)|refine bk [] [0] [0] Z k3 ⟨af,J⟩ Z dD Z Z ?_)
   all_goals
    refine aq.pull 2 3 Z hos1 Z ?_
    repeat' (first|refine ae ?_|refine aa ?_|refine ac (ax ?_)|refine ap (bC ?_)|refine br Z ab Z Z Z (fun _=>?_)|refine aU ab (fun _=>?_)|refine aD ab Z Z Z Z Z Z Z ⟨rfl,rfl⟩ Z Z Z Z Z ?_)
    exact aH [] [(0,_),(1,_),(2,_)] (.i .i64 0) Z (bX (am Z) Z) (az 0 Z (az 1 Z (cr.push 3 2 Z (ak _) Z hos2 .nil))) ⟨rfl,hfin.symm⟩
  ·rw[if_neg he] at hD
   have hfin:dk bd bm (oC D nm)=[.var bd (.agg [.i .i64 D.room,.own 1 (.map (some bm)),.i .i64 fu,.b d2]),.obj bm (cV D.es D.clk),bL (D.fs.map bZ.O)]:=by rw[hD];rfl
   repeat' (first|refine ae ?_|refine aa ?_|refine ac (ax ?_)|refine ah (ax ?_)|refine ap (bC ?_)|refine aU ab (fun _=>?_)|refine fQ ab Z Z Z Z Z ?_|refine aB Z ?_|(refine bF Z (fun hc=>?_) (fun hc=>?_))<;>try omega|(refine e7 3 ab Z Z Z Z Z Z Z hlk Z ?_)|refine bk [] [0] [0] Z k3 ⟨af,J⟩ Z dD Z Z ?_)
   all_goals
    exact aH [] [(0,_),(1,_),(2,_)] (.i .i64 e) Z (bX (am Z) Z) (az 0 Z (az 1 Z (az 2 Z .nil))) ⟨rfl,hfin.symm⟩
def GP(D:ez)(nm:List UInt8):List UInt8×Int:=if D.dead=true then ([],10) else match D.get nm with
 |some f=>(f.b,0)
 |none=>([],7)
theorem ot(bd bm:Nat)(D:ez)(nm:List UInt8)(hu:D.used≤1099511627776)(_hn:nm.length≤9223372036854775807):aQ Tryz.prog 23 [.ptr 0 bd [] 0,.s nm] (dk bd bm D) (fun v os=>v= .tup [.s (GP D nm).1,.i .i64 (GP D nm).2]∧os=dk bd bm D):=by
 have bU:=mi D nm
 have hL:dk bd bm D=[.var bd (.agg [.i .i64 D.room,.own 1 (.map (some bm)),.i .i64 D.fuse,.b D.dead]),.obj bm (cV D.es D.clk),bL (D.fs.map bZ.O)]:=rfl
 rw[hL]
 refine aA ab [(0,.var bd (.agg [.i .i64 D.room,.own 1 (.map (some bm)),.i .i64 D.fuse,.b D.dead])),(1,.obj bm (cV D.es D.clk)),(2,bL (D.fs.map bZ.O))] Tryz.func23 Z Tryz.ntmps23 aN Z Z (fun C=>?_) Z
 obtain⟨W,hW⟩:∃W,GP D nm=W:=⟨_,rfl⟩
 rw[hW]
 unfold GP at hW
 generalize hdd:D.dead=dd at*
 cases dd
 case true=>
  rw[if_pos Z] at hW
  subst hW
  repeat' (first|refine ae ?_|refine aa ?_|refine ac (ax ?_)|refine ap (bC ?_)|refine aU ab (fun _=>?_)|refine aR Z ?_)
  all_goals
   exact aH [] [(0,_),(1,_),(2,_)] (.tup [.s [],.i .i64 10]) Z (aW (am Z) (am Z) Z Z) (az 0 Z (az 1 Z (az 2 Z .nil))) ⟨rfl,rfl⟩
 rw[if_neg (by decide)] at hW
 cases hgt:D.get nm with
 |none=>
  rw[hgt] at bU hW
  have hW:(([]:List UInt8),(7:Int))=W:=hW
  subst hW
  have hlk:C8 3 (jr nm D.es)= .nilp:=by rw[bU];rfl
  repeat' (first|refine ae ?_|refine aa ?_|refine ac (ax ?_)|refine ah (ax ?_)|refine ap (bC ?_)|refine aU ab (fun _=>?_)|refine aB Z ?_|(refine e7 3 ab Z Z Z Z Z Z Z hlk Z ?_)|(refine rD ab Z Z Z Z Z Z ?_))
  all_goals
   exact aH [] [(0,_),(1,_),(2,_)] (.tup [.s [],.i .i64 7]) Z (aW (am Z) (am Z) Z Z) (az 0 Z (az 1 Z (az 2 Z .nil))) ⟨rfl,rfl⟩
 |some f=>
  rw[hgt] at bU hW
  have hW:(f.b,(0:Int))=W:=hW
  subst hW
  have hlk:C8 3 (jr nm D.es)= .ptr 3 f.blk [] 0:=by rw[bU];rfl
  obtain⟨hfm,hfn⟩:=kF hgt
  obtain⟨s,r,hst⟩:=List.append_of_mem hfm
  have hpm:D.fs.Perm (f::(s++r)):=by rw[hst];exact List.perm_middle
  have hul:D.used=f.b.length+fJ (s++r):=by
   have:=nQ hpm
   rw[iX] at this
   exact this
  have hbl:f.b.length≤9223372036854775807:=by omega
  have hos1:(D.fs.map bZ.O).Perm (HO.var f.blk (.agg [.sl 1 (f.b.map gy),.i .i64 f.sure])::(s++r).map bZ.O):=hpm.map bZ.O
  repeat' (first|refine ae ?_|refine aa ?_|refine ac (ax ?_)|refine ah (ax ?_)|refine aU ab (fun _=>?_)|refine aR Z ?_|refine aB Z ?_|(refine e7 3 ab Z Z Z Z Z Z Z hlk Z ?_)|(refine rD ab Z Z Z Z Z Z ?_))
  refine aq.pull 2 3 Z hos1 Z ?_
  refine dr Z ab Z Z Z ?_ (fun _=>?_)
  ·first|exact J|exact⟨rfl,rfl,rfl,rfl⟩|exact⟨rfl,rfl,rfl⟩|exact⟨rfl,rfl⟩|exact⟨rfl,J⟩
  refine aq.push 2 3 Z Z hos1 Z ?_
  repeat' (first|refine ac (ax ?_)|refine ap (bC ?_)|refine aU ab (fun _=>?_)|refine dJ ab Z Z Z Z Z (by first|exact J|exact rfl) Z Z Z Z ?_)
  all_goals
   exact aH [] [(0,_),(1,_),(2,_)] (.tup [.s f.b,.i .i64 0]) Z (aW (am Z) (am Z) Z Z) (az 0 Z (az 1 Z (az 2 Z .nil))) ⟨rfl,rfl⟩
end Go.Proofs.YtginkbjclkdglaaGreat
