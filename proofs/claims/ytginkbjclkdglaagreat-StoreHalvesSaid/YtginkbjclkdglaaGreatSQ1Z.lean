/- What the laws of the store are made of: Few, Options; the document's Write and Scan: by rules. -/
import Derived.Test.YtginkbjclkdglaaGreatST2Z
import Derived.Test.YtginkbjclkdglaaGreatSN6Z
import Derived.Test.YtginkbjclkdglaaGreatSTIZ
import Derived.Test.YtginkbjclkdglaaGreatMM2Z
import Derived.Test.YtginkbjclkdglaaGreatSN5Z
set_option maxHeartbeats 8000000
set_option maxRecDepth 100000
namespace Go.Proofs.YtginkbjclkdglaaGreat
open Go Go.RowKit Mg
theorem qR(l:List aC)(hl:l.length≤9223372036854775807)(n:Nat)(hn:n≤1000000):aQ Tryz.prog 12 [.sl 3 (l.map eA),.i .i64 n] [] (fun v os=>v= .sl 3 ((iG l n).map eA)∧os=[]):=by
 have k1:=GA l hl n hn
 refine aA ab [] Tryz.func12 Z Tryz.ntmps12 aN Z Z (fun C=>?_) Z
 repeat' (first|refine ae ?_|refine aa ?_|refine ac (ax ?_)|refine ap (bC ?_)|refine aU ab (fun _=>?_)|refine au Z (k1) ⟨aP,aP,J⟩ Z ?_)
 all_goals exact jh
def oL(rm:Int):eW:=⟨200,40,150,3,400,rm⟩
theorem ln(rm:Int):kO (oL rm):=by unfold kO oL;dsimp only;decide
theorem sZ:aQ Tryz.prog 8 [] [] (fun v os=>v=el (oL 0)∧os=[]):=by
 refine aA ab [] Tryz.func8 Z Tryz.ntmps8 aN Z Z (fun C=>?_) Z
 repeat' (first|refine ae ?_|refine aa ?_|refine ac (ax ?_)|refine ap (bC ?_)|refine aF (d:=0) Z ab Z Z Z (fun b0=>?_)|refine aD ab Z Z Z Z Z Z Z ⟨rfl,rfl⟩ Z Z Z Z Z ?_|refine cd ab Z Z Z Z Z Z eo ?_)
 all_goals
  exact aH [] [] (el (oL 0)) Z (bX (am Z) Z) .nil ⟨rfl,rfl⟩
theorem qe{b:Bool}(h:b=false):¬ b=true:=by rw[h];decide
theorem tz:∀(l c:List aC),(l.foldl put c).length≤c.length+l.length
 |[],_=>Nat.le_refl _
 |x::r,c=>by
  have h1:=tz r (put c x)
  have h2:=sM x c false
  have h3:(put c x).length≤c.length+1:=h2
  rw[List.foldl_cons,List.length_cons];omega
theorem ug{p:aC→Bool}{l:List aC}{k:Nat}(h:k<l.length):(l.take (k+1)).filter p=(l.take k).filter p++if p l[k]=true then [l[k]] else []:=by
 rw[List.take_succ_eq_append_getElem h,List.filter_append]
 congr 1
 cases hp:p l[k]
 ·rw[if_neg (by decide)];simp[hp]
 ·rw[if_pos Z];simp[hp]
theorem AB(c l:List aC)(hc:c.length≤100000)(hl:l.length≤100000):aQ Tryz.prog 11 [.sl 3 (c.map eA),.sl 3 (l.map eA)] [] (fun v os=>v= .sl 3 ((Kl c l).map eA)∧os=[]):=by
 refine aA ab [] Tryz.func11 Z Tryz.ntmps11 aN Z Z (fun C=>?_) Z
 repeat' (first|refine ae ?_|refine aj ?_|refine aa ?_|refine ac (ax ?_)|refine br Z ab Z Z Z (fun _=>?_)|refine aU ab (fun _=>?_))
 refine aO (fun k:Nat=>⟨36,[(12,.i .i64 k),(11,.i .i64 l.length),(10,.sl 3 (l.map eA)),(0,.sl 3 (((l.take k).foldl put c).map eA))],[]⟩) (fun k=>k≤l.length) (fun k=>l.length - k) [] 0 (Nat.zero_le _) ?_ ?_
 ·exact⟨rfl,⟨ai Z,ai Z,ay Z,ay Z,J⟩,.nil⟩
 rintro k hk
 by_cases hlt:k<l.length
 ·have hfl:=tz (l.take k) c
  rw[List.length_take] at hfl
  have k1:=FM ((l.take k).foldl put c) l[k] (by omega)
  have hnx:gL l[k] ((l.take k).foldl put c) false=(l.take (k+1)).foldl put c:=by rw[List.take_succ_eq_append_getElem hlt,List.foldl_append];rfl
  rw[hnx] at k1
  generalize (l.take k).foldl put c=m at k1 ⊢
  repeat' (first|refine ae ?_|refine aj ?_|refine aa ?_|refine ac (ax ?_)|refine ac (db ?_)|refine ah (ax ?_)|(refine bc Z Z Z Z ?_ ?_;omega)|refine aU ab (fun _=>?_)|refine aF (d:=6) Z ab Z Z Z (fun b6=>?_)|refine aD ab Z Z Z Z Z Z Z ⟨rfl,rfl⟩ Z Z Z Z Z ?_|(refine aK Z ab Z Z Z Z Z Z ?_ (aE ?_) ?_;omega;omega)|(refine ao Z (fun hc=>?_) (fun hc=>?_))<;>try omega|refine au Z (k1) ⟨aP,aP,J⟩ Z ?_)
  all_goals exact⟨k+1,[],hlt,by show l.length - (k+1)<l.length - k;omega,rfl,⟨ai (by show (k:Int)+1=((k+1:Nat):Int);omega),ai Z,ay Z,ay Z,J⟩,.nil⟩
 ·rw[List.take_of_length_le (by omega)]
  have hfl:=tz l c
  unfold Kl
  generalize l.foldl put c=m at hfl ⊢
  repeat' (first|refine ae ?_|refine aj ?_|refine aa ?_|refine ac (ax ?_)|refine aw (ax ?_)|refine br Z ab Z Z Z (fun _=>?_)|refine aU ab (fun _=>?_)|refine aI ab Z Z Z Z Z Z Z Z Z Z Z eo (fun _=>?_)|(refine ao Z (fun hc=>?_) (fun hc=>?_))<;>try omega)
  rename_i v20 _ _ _ _
  refine aO (fun q:Nat×Value=>⟨36,[(23,.i .i64 q.1),(22,.i .i64 m.length),(21,.sl 3 (m.map eA)),(7,.own 20 q.2)],[(20,.row q.2 47 3 (((m.take q.1).filter (fun e=>!e.g)).map eA))]⟩) (fun q=>q.1≤m.length) (fun q=>m.length - q.1) [] (0,v20) (Nat.zero_le _) ?_ ?_
  ·exact⟨rfl,⟨ai Z,ai Z,ay Z,aJ,J⟩,bq Z (ak _) .nil⟩
  rintro⟨i,v⟩ hi
  dsimp only at hi ⊢
  by_cases hlt2:i<m.length
  ·have hft:=ug (p:=fun e:aC=>!e.g) hlt2
   have hfl2:((m.take i).filter (fun e=>!e.g)).length≤300000:=Nat.le_trans (List.length_filter_le _ _) (by rw[List.length_take];omega)
   generalize (m.take i).filter (fun e=>!e.g)=out at hft hfl2 ⊢
   repeat' (first|refine ae ?_|refine aj ?_|refine aa ?_|refine ac (ax ?_)|refine ac (db ?_)|refine ah (ax ?_)|(refine bc Z Z Z Z ?_ ?_;omega)|refine aU ab (fun _=>?_)|refine aF (d:=9) Z ab Z Z Z (fun b9=>?_)|refine aD ab Z Z Z Z Z Z Z ⟨rfl,rfl⟩ Z Z Z Z Z ?_|(refine aK Z ab Z Z Z Z Z Z ?_ (aE ?_) ?_;omega;omega)|refine aI ab Z Z Z Z Z Z Z Z Z Z Z eo (fun _=>?_)|(refine bH ab Z Z Z Z Z Z Z Z Z (by first|exact J|exact rfl) Z Z (fun _=>rfl) ?_ ?_ (fun _=>?_);(exact dt);(exact dt))|(refine ao Z (fun hc=>?_) (fun hc=>?_))<;>try omega|(refine ba Z (fun hc=>?_) (fun hc=>?_)))
   all_goals first
    |(rw[if_pos (by assumption)] at hft;exact⟨(i+1,_),[],hlt2,by show m.length - (i+1)<m.length - i;omega,rfl,⟨ai (by show (i:Int)+1=((i+1:Nat):Int);omega),ai Z,ay Z,aJ,J⟩,cr.cons 20 Z (aZ (by rw[hft,List.map_append];rfl)) .nil⟩)
    |(rw[if_neg (qe (by assumption)),List.append_nil] at hft;exact⟨(i+1,v),[],hlt2,by show m.length - (i+1)<m.length - i;omega,rfl,⟨ai (by show (i:Int)+1=((i+1:Nat):Int);omega),ai Z,ay Z,aJ,J⟩,cr.cons 20 Z (aZ (by rw[hft])) .nil⟩)
  ·rw[List.take_of_length_le (by omega)]
   generalize m.filter (fun e=>!e.g)=out
   repeat' (first|refine ae ?_|refine aa ?_|refine ac (ax ?_)|refine aw (ax ?_)|refine ap (bC ?_)|refine aU ab (fun _=>?_)|(refine ao Z (fun hc=>?_) (fun hc=>?_))<;>try omega)
   all_goals
    refine bp Z Z Z [20] [] (bP ?_) .nil ⟨rfl,rfl⟩ _ (.inl Z)
    exact .head _
theorem C0(c:List aC)(hc:c.length≤100000)(fr to:List UInt8):aQ Tryz.prog 34 [.sl 3 (c.map eA),.s fr,.s to] [] (fun v os=>v= .sl 3 ((c.filter (bJ fr to)).map eA)∧os=[]):=by
 refine aA ab [] Tryz.func34 Z Tryz.ntmps34 aN Z Z (fun C=>?_) Z
 repeat' (first|refine ae ?_|refine aj ?_|refine aa ?_|refine ac (ax ?_)|refine br Z ab Z Z Z (fun _=>?_)|refine aU ab (fun _=>?_)|refine aI ab Z Z Z Z Z Z Z Z Z Z Z eo (fun _=>?_))
 rename_i v10 _ _ _ _
 refine aO (fun q:Nat×Value=>⟨37,[(13,.i .i64 q.1),(12,.i .i64 c.length),(11,.sl 3 (c.map eA)),(7,.own 10 q.2),(1,.s fr),(2,.s to)],[(10,.row q.2 47 3 (((c.take q.1).filter (bJ fr to)).map eA))]⟩) (fun q=>q.1≤c.length) (fun q=>c.length - q.1) [] (0,v10) (Nat.zero_le _) ?_ ?_
 ·exact⟨rfl,⟨ai Z,ai Z,ay Z,aJ,cY Z,cY Z,J⟩,bq Z (ak _) .nil⟩
 rintro⟨i,v⟩ hi
 dsimp only at hi ⊢
 by_cases hlt2:i<c.length
 ·have hft:=ug (p:=bJ fr to) hlt2
  have hfl2:((c.take i).filter (bJ fr to)).length≤300000:=Nat.le_trans (List.length_filter_le _ _) (by rw[List.length_take];omega)
  generalize (c.take i).filter (bJ fr to)=out at hft hfl2 ⊢
  have hw:bJ fr to c[i]=((!Op.bytesLess c[i].k fr)&&((to==({data:=#[]}:ByteArray).data.toList)||Op.bytesLess c[i].k to)):=by
   unfold bJ
   congr 1
   congr 1
   cases to<;>rfl
  rw[hw] at hft
  repeat' (first|refine ae ?_|refine aj ?_|refine aa ?_|refine ac (ax ?_)|refine ac (db ?_)|refine ah (ax ?_)|refine gM Z Z Z ?_|refine qj Z Z Z ?_|refine nj Z Z Z ?_|(refine bc Z Z Z Z ?_ ?_;omega)|refine aU ab (fun _=>?_)|refine aF (d:=9) Z ab Z Z Z (fun b9=>?_)|refine aD ab Z Z Z Z Z Z Z ⟨rfl,rfl⟩ Z Z Z Z Z ?_|(refine aK Z ab Z Z Z Z Z Z ?_ (aE ?_) ?_;omega;omega)|refine aI ab Z Z Z Z Z Z Z Z Z Z Z eo (fun _=>?_)|(refine bH ab Z Z Z Z Z Z Z Z Z (by first|exact J|exact rfl) Z Z (fun _=>rfl) ?_ ?_ (fun _=>?_);(exact dt);(exact dt))|(fail_if_success (refine aM Z cM ?_));(refine dM Z Z (fun hc=>?_) (fun hc=>?_))|refine aR Z ?_|refine aB Z ?_|(refine ao Z (fun hc=>?_) (fun hc=>?_))<;>try omega|(refine ba Z (fun hc=>?_) (fun hc=>?_)))
  all_goals first
   |(rw[if_pos (by simp_all)] at hft;exact⟨(i+1,_),[],hlt2,by show c.length - (i+1)<c.length - i;omega,rfl,⟨ai (by show (i:Int)+1=((i+1:Nat):Int);omega),ai Z,ay Z,aJ,cY Z,cY Z,J⟩,cr.cons 10 Z (aZ (by rw[hft,List.map_append];rfl)) .nil⟩)
   |(rw[if_neg (by simp_all),List.append_nil] at hft;exact⟨(i+1,v),[],hlt2,by show c.length - (i+1)<c.length - i;omega,rfl,⟨ai (by show (i:Int)+1=((i+1:Nat):Int);omega),ai Z,ay Z,aJ,cY Z,cY Z,J⟩,cr.cons 10 Z (aZ (by rw[hft])) .nil⟩)
 ·rw[List.take_of_length_le (by omega)]
  generalize c.filter (bJ fr to)=out
  repeat' (first|refine ae ?_|refine aa ?_|refine ac (ax ?_)|refine aw (ax ?_)|refine ap (bC ?_)|refine aU ab (fun _=>?_)|(refine ao Z (fun hc=>?_) (fun hc=>?_))<;>try omega)
  all_goals
   refine bp Z Z Z [10] [] (bP ?_) .nil ⟨rfl,rfl⟩ _ (.inl Z)
   exact .head _
structure mr where
 kind:Int
 l:List aC
 key:List UInt8
 fr:List UInt8
 to:List UInt8
 arm:Int
 keeps:List Int
def qg(a:mr):AV:=.agg [.i .i64 a.kind,.sl 3 (a.l.map eA),.s a.key,.s a.fr,.s a.to,.i .i64 a.arm,.sl 1 (a.keeps.map (AV.i .i64))]
theorem cK.cont_len{o:eW}{S:ei}{jl:List (Nat×List (List aC))}{m:Option (List UInt8)}{fe:List (Fl×List aC)}(h:cK o S jl m fe):(dL S fe).length≤nE S fe:=by
 unfold dL nE
 rw[←pX _ _ h.sorted]
 have h1:=qK (S.mem::fe.map (·.2)) true
 rw[lN] at h1;exact h1
theorem FN(l:List aC)(k:List UInt8):rp l k=((eS l k).getD iB,(eS l k).isSome):=by
 unfold rp eS
 cases l.find? (fun x=>x.k==k)<;>rfl
theorem qz(B:gV)(o:eW)(S:ei)(jl:List (Nat×List (List aC)))(m:Option (List UInt8))(fe:List (Fl×List aC))(h:cK o S jl m fe)(hn:nE S fe≤250)(a:mr):
 aQ Tryz.prog 13 [.ptr 104 B.bs [] 0,.sl 3 ((dL S fe).map eA),qg a] (dY B o S) (fun r os=>r= .i .i64 0∧os=dY B o S):=by
 have hcl:=h.cont_len
 have k1:=tu B o S jl m fe h hn a.key
 rw[(wb h a.key).1,(wb h a.key).2] at k1
 have k2:=C2 (dL S fe) a.key (by omega)
 rw[FN] at k2
 dsimp only at k2
 have k3:=jV B o S jl m fe h hn a.fr a.to
 rw[vn h] at k3
 have k4:=jV B o S jl m fe h hn [] []
 rw[vn h,i9] at k4
 have k5:=C0 (dL S fe) (by omega) a.fr a.to
 have k6:=vo ((dL S fe).filter (bJ a.fr a.to))
 have k7:=vo (dL S fe)
 generalize (dL S fe).filter (bJ a.fr a.to)=f at k3 k5 k6
 generalize dL S fe=c at k1 k2 k4 k5 k7 ⊢
 generalize (eS c a.key).getD iB=E at k1 k2
 generalize (eS c a.key).isSome=b at k1 k2
 generalize hd:dY B o S=H at k1 k3 k4 ⊢
 unfold dY at hd
 subst hd
 refine aA ab [(100,.var B.bd (cO B.bm S.D)),(101,.obj B.bm (cV S.D.es S.D.clk)),(102,bL (S.D.fs.map bZ.O)),(103,eC B.bd B.bj S.now),(104,.var B.bs (dm B o S.mem S.msz S.st)),(105,io B.bt S.ts S.c)] Tryz.func13 Z Tryz.ntmps13 aN Z Z (fun C=>?_) Z
 have hvv:(!E.v==E.v)=false:=by simp
 unfold qg
 cases b
 all_goals
  repeat' (first|(exact absurd (hvv.symm.trans hc) Bool.false_ne_true)|refine ae ?_|refine aa ?_|refine ac (ax ?_)|refine ah (ax ?_)|refine ap (bC ?_)|refine aU ab (fun _=>?_)|refine aF (d:=10) Z ab Z Z Z (fun b10=>?_)|refine c9 (d:=5) Z Z Z Z (fun b5=>?_)|refine aD ab Z Z Z Z Z Z Z ⟨rfl,rfl⟩ Z Z Z Z Z ?_|(fail_if_success (refine aM Z cM ?_));(refine dM Z Z (fun hc=>?_) (fun hc=>?_))|refine aB Z ?_|refine bk [] [100,101,102,103,104,105] [100,101,102,103,104,105] Z k1 ⟨af,aP,J⟩ Z dD Z Z ?_|refine bk [] [100,101,102,103,104,105] [100,101,102,103,104,105] Z k4 ⟨af,aP,aP,J⟩ Z dD Z Z ?_|refine bk [] [100,101,102,103,104,105] [100,101,102,103,104,105] Z k3 ⟨af,aP,aP,J⟩ Z dD Z Z ?_|refine au Z (k2) ⟨aP,aP,J⟩ Z ?_|refine au Z (k5) ⟨aP,aP,aP,J⟩ Z ?_|refine au Z (k6) ⟨aP,aP,J⟩ Z ?_|refine au Z (k7) ⟨aP,aP,J⟩ Z ?_)
  all_goals
   exact aH [] [(100,_),(101,_),(102,_),(103,_),(104,_),(105,_)] (.i .i64 0) Z (bX (am Z) Z) (az 100 Z (az 101 Z (az 102 Z (az 103 Z (az 104 Z (az 105 Z .nil)))))) ⟨rfl,rfl⟩
theorem J8(p:Option (List UInt8))(x:aC):lx p x≠10:=by
 unfold lx
 split
 ·decide
 ·repeat' (first|decide|split)
theorem J7(x:aC):di [x]≠10:=by
 unfold di
 rw[if_neg (by simp)]
 unfold oE
 have:=J8 none x
 split
 ·exact this
 ·unfold oE;decide
theorem Cl:∀(l:List aC) (seen:List (List UInt8)),pJ seen l≠10
 |[],_=>by unfold pJ;decide
 |x::r,seen=>by
  unfold pJ
  have h1:=J7 x
  split
  ·exact h1
  ·split
   ·decide
   ·exact Cl r _
theorem Kd(l:List aC):js l≠10:=by
 unfold js
 split
 ·decide
 ·exact Cl _ _
structure mR(o:eW)(S:ei)(fe:List (Fl×List aC))(a:mr)(S':ei)(jl':List (Nat×List (List aC)))(m':Option (List UInt8))(fe':List (Fl×List aC))(e:Int):Prop where
 ok:cK o S' jl' m' fe'
 co:dL S' fe'=if a.kind=1∧e=0 then Kl (dL S fe) (iG a.l 5) else dL S fe
 er:e=0∨e=9∨(a.kind=1∧e≠10)
 ne:nE S' fe'≤nE S fe+5
 nx:S'.st.next≤S.st.next+1500
 nw:S'.now≤S.now+1500
theorem mR.write{o:eW}{S:ei}{jl:List (Nat×List (List aC))}{fe:List (Fl×List aC)}{a:mr}{S':ei}{jl':List (Nat×List (List aC))}{m':Option (List UInt8)}{fe':List (Fl×List aC)}{e:Int}(h:Cp o S jl fe (iG a.l 5) S' jl' m' fe' e)(hk:a.kind=1):mR o S fe a S' jl' m' fe' e:=by
 have h1:=l9 a.l 5
 have h2:=h.ne
 have h3:=h.nx
 have h4:=h.nw
 have h5:=Kd (iG a.l 5)
 by_cases hb:js (iG a.l 5)=0
 ·rcases h.good hb with ⟨he,hc⟩|⟨he,hc⟩
  ·exact⟨h.ok,by rw[if_pos ⟨hk,he⟩];exact hc,.inl he,by omega,by omega,by omega⟩
  ·exact⟨h.ok,by rw[if_neg (fun h=>by rw[h.2] at he;cases he)];exact hc,.inr (.inl he),by omega,by omega,by omega⟩
 ·obtain⟨he,hc⟩:=h.bad hb
  exact⟨h.ok,by rw[if_neg (fun h=>hb (he.symm.trans h.2))];exact hc,.inr (.inr ⟨hk,by rw[he];exact h5⟩),by omega,by omega,by omega⟩
theorem mR.keep{d:Nat}{o:eW}{S:ei}{jl:List (Nat×List (List aC))}{fe:List (Fl×List aC)}{a:mr}{S':ei}{jl':List (Nat×List (List aC))}{m':Option (List UInt8)}{fe':List (Fl×List aC)}{e:Int}(h:mC d o S jl fe S' jl' m' fe')(hd:d≤1500)(he:e=0∨e=9)(hk:a.kind≠1):mR o S fe a S' jl' m' fe' e:=by
 have h2:=h.le.ne
 have h3:=h.le.nx
 have h4:=h.le.nw
 exact⟨h.ok,by rw[if_neg (fun h=>hk h.1)];exact h.co,he.imp id .inl,by omega,by omega,by omega⟩
theorem mR.open{o:eW}{S:ei}{jl:List (Nat×List (List aC))}{m:Option (List UInt8)}{fe:List (Fl×List aC)}{a:mr}{S':ei}(h:cK o S' jl m fe∧dL S' fe=dL S fe∧S'.st=S.st∧S'.now≤S.now+1∧S'.D=S.D∧S'.mem=S.mem)(hk:a.kind≠1):mR o S fe a S' jl m fe 0:=by
 obtain⟨h1,h2,h3,h4,_,h6⟩:=h
 exact⟨h1,by rw[if_neg (fun h=>hk h.1)];exact h2,.inl Z,by unfold nE;rw[h6];omega,by rw[h3];omega,by omega⟩
theorem yu(B:gV)(o:eW)(S:ei)(jl:List (Nat×List (List aC)))(m:Option (List UInt8))(fe:List (Fl×List aC))(h:cK o S jl m fe)(hg:kO o)(a:mr)(hal:a.l.length≤9223372036854775807)(hn:nE S fe+5≤250)(hx:S.st.next≤1073730000)(hw:S.now<1073730000):
 aQ Tryz.prog 10 [.ptr 0 B.bd [] 0,.ptr 104 B.bs [] 0,el o,qg a] (dY B o S) (fun r os=>∃B' S' jl' m' fe' e,B'.bd=B.bd∧mR o S fe a S' jl' m' fe' e∧r= .tup [.ptr 104 B'.bs [] 0,.i .i64 e]∧os=dY B' o S'):=by
 have hfl:=l9 a.l 5
 have k0:=qR a.l hal 5 (by decide)
 have k1:=ju B o S jl m fe h hg (iG a.l 5) hfl (wj a.l 5) (by omega) hx hw
 have k2:=jE B o S jl m fe h hg (by omega) (by omega) (by omega)
 have k3:=oT B o S jl m fe h hg (by omega) (by omega) (by omega)
 have k4:=nP B o S jl m fe h hg (by omega) hx hw
 have k5:=i8 B.bd B.bm o S jl m fe h hg (by omega) hx hw
 have hL:dk B.bd B.bm S.D=[.var B.bd (cO B.bm S.D),.obj B.bm (cV S.D.es S.D.clk),bL (S.D.fs.map bZ.O)]:=rfl
 rw[hL] at k5
 refine aA ab [(100,.var B.bd (cO B.bm S.D)),(101,.obj B.bm (cV S.D.es S.D.clk)),(102,bL (S.D.fs.map bZ.O)),(103,eC B.bd B.bj S.now),(104,.var B.bs (dm B o S.mem S.msz S.st)),(105,io B.bt S.ts S.c)] Tryz.func10 Z Tryz.ntmps10 aN Z Z (fun C=>?_) Z
 unfold qg
 repeat' (first|refine ae ?_|refine aj ?_|refine aa ?_|refine ac (ax ?_)|refine ah (ax ?_)|refine ap (bC ?_)|refine aU ab (fun _=>?_)|refine c9 (d:=6) Z Z Z Z (fun b6=>?_)|refine c9 (d:=7) Z Z Z Z (fun b7=>?_)|(refine ao Z (fun hc=>?_) (fun hc=>?_))<;>try omega|(refine bx [] [100,101,102,103,104,105] [100,101,102,103,104,105] Z k1 ⟨af,aP,J⟩ Z dD Z Z ?_;rintro _ _ ⟨S2,jl2,m2,fe2,e2,hR,rfl,rfl⟩;refine⟨_,rfl,rfl,?_⟩)|(refine bx [] [100,101,102,103,104,105] [100,101,102,103,104,105] Z k2 ⟨af,J⟩ Z dD Z Z ?_;rintro _ _ ⟨S2,jl2,m2,fe2,e2,he2,_,hR,rfl,rfl⟩;refine⟨_,rfl,rfl,?_⟩)|(refine bx [] [100,101,102,103,104,105] [100,101,102,103,104,105] Z k3 ⟨af,J⟩ Z dD Z Z ?_;rintro _ _ ⟨S2,jl2,m2,fe2,e2,b2,he2,hR,rfl,rfl⟩;refine⟨_,rfl,rfl,?_⟩)|(refine bx [] [100,101,102,103,104,105] [100,101,102,103,104,105] Z k4 ⟨af,J⟩ Z dD Z Z ?_;rintro _ _ ⟨S2,jl2,m2,fe2,e2,he2,hR,_,rfl,rfl⟩;refine⟨_,rfl,rfl,?_⟩)|(refine bx [] [100,101,102] [100,101,102,103,104,105] Z k5 ⟨af,aP,J⟩ Z dD Z Z ?_;rintro _ _ ⟨B2,S2,hB1,hB2,hO2,rfl,rfl⟩;refine⟨_,rfl,rfl,?_⟩)|refine au Z (k0) ⟨aP,aP,J⟩ Z ?_)
 ·exact aH [] [(100,_),(101,_),(102,_),(103,_),(104,_),(105,_)] (.tup [.ptr 104 B.bs [] 0,.i .i64 e2]) Z (aW gK (am Z) Z Z) (az 100 Z (az 101 Z (az 102 Z (az 103 Z (az 104 Z (az 105 Z .nil)))))) ⟨B,S2,jl2,m2,fe2,e2,rfl,mR.write hR (by assumption),rfl,rfl⟩
 ·exact aH [] [(100,_),(101,_),(102,_),(103,_),(104,_),(105,_)] (.tup [.ptr 104 B.bs [] 0,.i .i64 e2]) Z (aW gK (am Z) Z Z) (az 100 Z (az 101 Z (az 102 Z (az 103 Z (az 104 Z (az 105 Z .nil)))))) ⟨B,S2,_,m2,fe2,e2,rfl,mR.keep hR (by decide) he2 (by omega),rfl,rfl⟩
 ·exact aH [] [(100,_),(101,_),(102,_),(103,_),(104,_),(105,_)] (.tup [.ptr 104 B.bs [] 0,.i .i64 e2]) Z (aW gK (am Z) Z Z) (az 100 Z (az 101 Z (az 102 Z (az 103 Z (az 104 Z (az 105 Z .nil)))))) ⟨B,S2,_,m2,fe2,e2,rfl,mR.keep hR (by decide) he2 (by omega),rfl,rfl⟩
 ·exact aH [] [(100,_),(101,_),(102,_),(103,_),(104,_),(105,_)] (.tup [.ptr 104 B.bs [] 0,.i .i64 e2]) Z (aW gK (am Z) Z Z) (az 100 Z (az 101 Z (az 102 Z (az 103 Z (az 104 Z (az 105 Z .nil)))))) ⟨B,S2,_,m2,fe2,e2,rfl,mR.keep hR (by decide) he2 (by omega),rfl,rfl⟩
 ·exact aH [] [(100,_),(101,_),(102,_),(103,_),(104,_),(105,_)] (.tup [.ptr 104 B2.bs [] 0,.i .i64 0]) Z (aW gK (am Z) Z Z) (az 100 Z (az 101 Z (az 102 Z (az 103 Z (az 104 Z (az 105 Z .nil)))))) ⟨B2,S2,jl,m,fe,0,hB1,mR.open hO2 (by omega),rfl,rfl⟩
 ·exact aH [] [(100,_),(101,_),(102,_),(103,_),(104,_),(105,_)] (.tup [.ptr 104 B.bs [] 0,.i .i64 0]) Z (aW gK (am Z) Z Z) (az 100 Z (az 101 Z (az 102 Z (az 103 Z (az 104 Z (az 105 Z .nil)))))) ⟨B,S,jl,m,fe,0,rfl,mR.keep (mC.refl h) (by decide) (.inl Z) (by assumption),rfl,rfl⟩
def jJ(rm:Int):ei:=⟨fc rm,0,[],0,zS,[],0⟩
theorem F8{rm:Int}(h0:0≤rm):(fc rm).room=rm:=by
 unfold fc;dsimp only;rw[if_neg (by omega)]
theorem rh{o:eW}(h0:0≤o.rm)(h1:o.rm≤16777216):cK o (jJ o.rm) [] none []:=by
 have hv:=LF o.rm (by omega)
 have hu:(fc o.rm).used=0:=hv.used
 have hr:=F8 h0
 refine⟨⟨hv,⟨List.Pairwise.nil,fun p hp=>(by cases hp),fun p hp=>(by cases hp),by show 0<10000000000;decide⟩,List.nodup_nil,fun p hp=>(by cases hp),List.Perm.refl _,fun t ht=>(by cases ht),List.nodup_nil,⟨by rw[show (jJ o.rm).D=fc o.rm from rfl,hr];exact h1,by rw[show (jJ o.rm).D=fc o.rm from rfl,hr,hu];exact h0,Nat.zero_le _⟩,hr⟩,rfl,by show bT zS=0;decide,.inl ⟨rfl,rfl⟩,fun p hp=>(by cases hp),fun p hp=>(by cases hp),rfl,rfl,fun p hp=>(by cases hp),Int.le_refl _⟩
theorem cK.fits{o:eW}{S:ei}{jl:List (Nat×List (List aC))}{m:Option (List UInt8)}{fe:List (Fl×List aC)}(h:cK o S jl m fe)(hn:nE S fe≤250){k:Nat}(hk:((jB jl+69000+6500*nE S fe+k:Nat):Int)≤o.rm)(hf:jl.length+1+nE S fe<4096):(S.D.used:Int)+k≤S.D.room∧S.D.fs.length<4096:=by
 obtain⟨hl1,hl2,hl3⟩:=h.lens hn
 have h1:=h.used hl2
 have h2:=h.x.vw.used
 have h3:=h.x.vw.len
 have h4:=h.x.rm
 unfold nE at hk hf
 omega
theorem E9:∀fe:List (Fl×List aC),(∀p∈fe,Up p.2)→fe.Pairwise (fun p q=>∀x∈p.2,∀y∈q.2,x.k≠y.k)→((fe.map (·.2)).flatten).Pairwise (fun x y=>x.k≠y.k)
 |[],_,_=>List.Pairwise.nil
 |p::r,hu,hp=>by
  obtain⟨h1,h2⟩:=List.pairwise_cons.1 hp
  rw[List.map_cons,List.flatten_cons]
  refine List.pairwise_append.2 ⟨(hu p (List.mem_cons_self ..)).imp (fun h e=>by rw[e] at h;exact kE h),E9 r (fun q hq=>hu q (List.mem_cons_of_mem _ hq)) h2,fun x hx y hy=>?_⟩
  obtain⟨l,hl,hyl⟩:=List.mem_flatten.1 hy
  obtain⟨q,hq,rfl⟩:=List.mem_map.1 hl
  exact h1 q hq x hx y hyl
theorem cK.one{o:eW}{S:ei}{jl:List (Nat×List (List aC))}{m:Option (List UInt8)}{fe:List (Fl×List aC)}(h:cK o S jl m fe)(hm:S.mem=[])(hl:∀p∈fe,∀q∈fe,p.1.lev≠0∧p.1.lev=q.1.lev)(hg:∀p∈fe,∀x∈p.2,x.g=false):nE S fe=(dL S fe).length:=by
 have hdis:fe.Pairwise (fun p q=>∀x∈p.2,∀y∈q.2,x.k≠y.k):=by
  have h1:=List.pairwise_map.1 h.rel
  refine h1.imp_of_mem (fun {p q} hp hq hr x hx y hy=>?_)
  have h2:=hl p hp q hq
  have h3:=(h.good q hq).1
  have h4:=(hl q hq p hp).1
  exact rl (h.kok p hp) (h.kok q hq) (.inr (hr.2 h2.2 (by omega))) hx hy
 have hF:=E9 fe (fun p hp=>(h.kok p hp).up) hdis
 have hn1:((fe.map (·.2)).flatten).Nodup:=hF.imp (fun h e=>h (by rw[e]))
 have hn2:(dL S fe).Nodup:=by
  have h1:(cU (S.mem::fe.map (·.2)) true).Pairwise (fun a b=>wS a.k b.k=true):=dx _ _
  exact h1.imp (fun {a b} h (e:a=b)=>by subst e;exact kE h)
 have hp:((fe.map (·.2)).flatten).Perm (dL S fe):=by
  refine(List.perm_ext_iff_of_nodup hn1 hn2).2 (fun x=>?_)
  rw[h.cont_iff,hm]
  constructor
  ·intro hx
   obtain⟨l,hl2,hxl⟩:=List.mem_flatten.1 hx
   obtain⟨p,hp,rfl⟩:=List.mem_map.1 hl2
   refine⟨.inr ⟨⟨p,hp,hxl,fun q hq ha y hy hk=>?_⟩,fun y hy=>(by cases hy)⟩,hg p hp x hxl⟩
   have hqx:y∈(fe.map (·.2)).flatten:=List.mem_flatten.2 ⟨q.2,List.mem_map.2 ⟨q,hq,rfl⟩,hy⟩
   have h2:=hl p hp q hq
   have h3:=(h.good q hq).1
   have h4:=(hl q hq p hp).1
   have ha2:=ha
   unfold dv at ha2
   rw[if_neg (fun h=>h h2.2.symm),if_neg h4] at ha2
   have hkq:=(h.kok q hq).cov hy
   have hkp:=(h.kok p hp).cov hxl
   rcases Classical.em (p=q) with rfl|hne
   ·rw[nL] at ha;cases ha
   ·obtain⟨i,hi,rfl⟩:=List.mem_iff_getElem.1 hp
    obtain⟨k,hk2,rfl⟩:=List.mem_iff_getElem.1 hq
    have h5:=List.pairwise_iff_getElem.1 hdis
    rcases Nat.lt_trichotomy i k with h6|h6|h6
    ·exact h5 i k hi hk2 h6 x hxl y hy hk.symm
    ·subst h6;exact hne Z
    ·exact h5 k i hk2 hi h6 y hy x hxl hk
  ·rintro⟨h1|⟨⟨p,hp,hx,_⟩,_⟩,_⟩
   ·cases h1
   ·exact List.mem_flatten.2 ⟨p.2,List.mem_map.2 ⟨p,hp,rfl⟩,hx⟩
 unfold nE
 rw[hm,List.length_nil,jR,hp.length_eq];omega
def Me:mr:=⟨0,[],[],[],[],0,[]⟩
structure zY(o:eW)(i:Nat)(S:ei)(jl:List (Nat×List (List aC)))(m:Option (List UInt8))(fe:List (Fl×List aC)):Prop where
 ok:cK o S jl m fe
 ne:nE S fe≤5*i
 nx:S.st.next≤1500*i+1
 nw:S.now≤1500*i+1
abbrev Nm:=Nat×gV×ei×List (Nat×List (List aC))×Option (List UInt8)×List (Fl×List aC)
theorem zY.does{o:eW}{i:Nat}{S:ei}{jl:List (Nat×List (List aC))}{m:Option (List UInt8)}{fe:List (Fl×List aC)}(h:zY o i S jl m fe){a:mr}{S':ei}{jl':List (Nat×List (List aC))}{m':Option (List UInt8)}{fe':List (Fl×List aC)}{e:Int}(d:mR o S fe a S' jl' m' fe' e):zY o (i+1) S' jl' m' fe':=by
 have h1:=h.ne
 have h2:=h.nx
 have h3:=h.nw
 have d1:=d.ne
 have d2:=d.nx
 have d3:=d.nw
 exact⟨d.ok,by omega,by omega,by omega⟩
theorem zY.start{o:eW}(_h0:0≤o.rm)(_h1:o.rm≤16777216){S:ei}(h:cK o S [] none []∧dL S []=dL (jJ o.rm) []∧S.st=(jJ o.rm).st∧S.now≤(jJ o.rm).now+1∧S.D=(jJ o.rm).D∧S.mem=(jJ o.rm).mem):zY o 0 S [] none []∧dL S []=[]:=by
 obtain⟨h1,h2,h3,h4,_,h6⟩:=h
 exact⟨⟨h1,by unfold nE;rw[h6];exact Nat.le_refl _,by rw[h3];show (0:Int)≤_;decide,h4⟩,h2.trans Z⟩
structure Eo(c:List aC)(n j t:Nat)(S:ei)(jl:List (Nat×List (List aC)))(m:Option (List UInt8))(fe:List (Fl×List aC)):Prop where
 ok:cK (oL 1048576) S jl m fe
 co:dL S fe=c
 ne:nE S fe≤n
 jb:jB jl≤j
 nx:S.st.next≤t
 nw:S.now≤t
 lv:∀p∈fe,p.1.lev=0
theorem Eo.tg{c:List aC}{n j t:Nat}{S:ei}{jl:List (Nat×List (List aC))}{m:Option (List UInt8)}{fe:List (Fl×List aC)}(h:Eo c n j t S jl m fe)(hn:n≤20)(hj:j≤1000):¬ Jf (oL 1048576) (jB jl) (nE S fe):=fun ht=>by
 have h1:=h.ne
 have h2:=h.jb
 have h3:(oL 1048576).rm=1048576:=rfl
 unfold Jf at ht
 rw[h3] at ht
 omega
theorem Eo.write{c:List aC}{n j t:Nat}{S:ei}{jl:List (Nat×List (List aC))}{m:Option (List UInt8)}{fe:List (Fl×List aC)}(h:Eo c n j t S jl m fe)(hm:S.mem=[])(hn:n≤20)(hj:j≤1000){l:List aC}(hl:l.length≤5)(hb:js l=0)(hs:kR l≤100){S':ei}{jl':List (Nat×List (List aC))}{m':Option (List UInt8)}{fe':List (Fl×List aC)}{e:Int}(w:Cp (oL 1048576) S jl fe l S' jl' m' fe' e):e=0∧Eo (Kl c l) (n+5) (j+213) (t+500) S' jl' m' fe':=by
 have h1:=h.ne
 have h2:=h.jb
 have h3:(oL 1048576).rm=1048576:=rfl
 have hbl:=tH (by omega) (kI hb).2
 have h7:jl.length≤jB jl:=by unfold jB;omega
 have hf:=h.ok.fits (k:=(ey l).length+8) (by omega) (by rw[h3];omega) (by omega)
 have he:=w.room hb (by omega) hf.2
 have hz:=h.ok.msz
 rw[hm] at hz
 have hk:=w.kp (by rw[hz];show ((0:Nat):Int)+_<200;omega)
 have w1:=w.ne
 have w2:=w.jb
 have w3:=w.nx
 have w4:=w.nw
 have h4:=h.nx
 have h5:=h.nw
 refine⟨he,w.ok,?_,by omega,by omega,by omega,by omega,by rw[hk.2];exact h.lv⟩
 rcases w.good hb with h6|h6
 ·rw[h6.2,h.co]
 ·rw[he] at h6;cases h6.1
def lA:List aC:=[⟨[97],[49],false⟩,⟨[98],[50],false⟩]
def lB:List aC:=[⟨[98],[],true⟩]
def lC:List aC:=[⟨[97],[49],false⟩]
theorem NQ(B:gV)(S:ei)(h:cK (oL 1048576) S [] none []∧dL S []=dL (jJ 1048576) []∧S.st=(jJ 1048576).st∧S.now≤(jJ 1048576).now+1∧S.D=(jJ 1048576).D∧S.mem=(jJ 1048576).mem):
 aQ Tryz.prog 17 [.ptr 104 B.bs [] 0,.sl 3 (lA.map eA)] (dY B (oL 1048576) S) (fun r os=>∃S' jl m fe,Eo lA 5 213 501 S' jl m fe∧r= .i .i64 0∧os=dY B (oL 1048576) S'):=by
 obtain⟨h1,h2,h3,h4,_,h6⟩:=h
 have hp:Eo [] 0 0 1 S [] none []:=⟨h1,h2.trans Z,by unfold nE;rw[h6];exact Nat.le_refl _,Nat.le_refl _,by rw[h3];decide,h4,fun p hp=>(by cases hp)⟩
 refine(ju B (oL 1048576) S [] none [] h1 (ln _) lA (by decide) (by decide) (by have:=hp.ne;show nE S []+2≤250;omega) (by have:=hp.nx;omega) (by have:=hp.nw;omega)).mono ?_
 rintro r os ⟨S',jl',m',fe',e,w,rfl,rfl⟩
 obtain⟨rfl,h⟩:=hp.write h6 (by decide) (by decide) (by decide) (by decide) (by decide) w
 exact⟨S',jl',m',fe',h,rfl,rfl⟩
theorem NP(B:gV)(S:ei)(jl:List (Nat×List (List aC)))(m:Option (List UInt8))(fe:List (Fl×List aC))(hp:Eo lA 5 213 751 S jl m fe)(hm:S.mem=[]):
 aQ Tryz.prog 17 [.ptr 104 B.bs [] 0,.sl 3 (lB.map eA)] (dY B (oL 1048576) S) (fun r os=>∃S' jl m fe,Eo lC 10 426 1251 S' jl m fe∧r= .i .i64 0∧os=dY B (oL 1048576) S'):=by
 refine(ju B (oL 1048576) S jl m fe hp.ok (ln _) lB (by decide) (by decide) (by have:=hp.ne;show nE S fe+1≤250;omega) (by have:=hp.nx;omega) (by have:=hp.nw;omega)).mono ?_
 rintro r os ⟨S',jl',m',fe',e,w,rfl,rfl⟩
 obtain⟨rfl,h⟩:=hp.write hm (by decide) (by decide) (by decide) (by decide) (by decide) w
 exact⟨S',jl',m',fe',h,rfl,rfl⟩
theorem Oo(B:gV)(S:ei)(jl:List (Nat×List (List aC)))(m:Option (List UInt8))(fe:List (Fl×List aC))(hp:Eo lA 5 213 501 S jl m fe):
 aQ Tryz.prog 18 [.ptr 104 B.bs [] 0] (dY B (oL 1048576) S) (fun r os=>∃S' jl m fe,(Eo lA 5 213 751 S' jl m fe∧S'.mem=[])∧r= .i .i64 0∧os=dY B (oL 1048576) S'):=by
 refine(jE B (oL 1048576) S jl m fe hp.ok (ln _) (by have:=hp.ne;omega) (by have:=hp.nx;omega) (by have:=hp.nw;omega)).mono ?_
 rintro r os ⟨S',jl',m',fe',e,he,⟨h0,h9⟩,hR,rfl,rfl⟩
 have he:e=0:=he.resolve_right (fun h=>hp.tg (by decide) (by decide) (h9 h))
 subst he
 obtain⟨h1,h2⟩:=h0 Z
 have r1:=hR.le.ne
 have r2:=hR.le.jb
 have r3:=hR.le.nx
 have r4:=hR.le.nw
 have p1:=hp.ne
 have p2:=hp.jb
 have p3:=hp.nx
 have p4:=hp.nw
 exact⟨S',jl',m',fe',⟨⟨hR.ok,hR.co.trans hp.co,by omega,by omega,by omega,by omega,fun p hpp=>(h2 p hpp).elim (fun h=>hp.lv p h) id⟩,h1⟩,rfl,rfl⟩
theorem NN(B:gV)(S:ei)(jl:List (Nat×List (List aC)))(m:Option (List UInt8))(fe:List (Fl×List aC))(hp:Eo lC 10 426 1251 S jl m fe):
 aQ Tryz.prog 20 [.ptr 104 B.bs [] 0] (dY B (oL 1048576) S) (fun r os=>∃S' jl m fe,(cK (oL 1048576) S' jl m fe∧nE S' fe=1)∧r= .i .i64 0∧os=dY B (oL 1048576) S'):=by
 refine(nP B (oL 1048576) S jl m fe hp.ok (ln _) (by have:=hp.ne;omega) (by have:=hp.nx;omega) (by have:=hp.nw;omega)).mono ?_
 rintro r os ⟨S',jl',m',fe',e,he,hR,⟨h0,h9⟩,rfl,rfl⟩
 have he:e=0:=he.resolve_right (fun h=>hp.tg (by decide) (by decide) (h9 h))
 subst he
 obtain⟨h1,h2,h3⟩:=h0 Z
 have h4:=hR.ok.one h1 h2 (h3 hp.lv)
 rw[hR.co,hp.co] at h4
 exact⟨S',jl',m',fe',⟨hR.ok,h4⟩,rfl,rfl⟩
theorem ow:aQ Tryz.prog 6 [] [] (fun v os=>v= .b true∧os=[]):=by
 have k1:=p8 1048576
 have k2:=sZ
 have k3:=fun bd bm=>i8 bd bm (oL 1048576) (jJ 1048576) [] none [] (rh (o:=oL 1048576) (by decide) (by decide)) (ln _) (by decide) (by decide) (by decide)
 have hL:∀bd bm,dk bd bm (jJ 1048576).D=[.var bd (cO bm (fc 1048576)),.obj bm (cV (fc 1048576).es (fc 1048576).clk),bL ((fc 1048576).fs.map bZ.O)]:=fun _ _=>rfl
 have hL1:∀bd bm,dk bd bm (fc 1048576)=[.var bd (cO bm (fc 1048576)),.obj bm (cV (fc 1048576).es (fc 1048576).clk),bL ((fc 1048576).fs.map bZ.O)]:=fun _ _=>rfl
 simp only[hL] at k3
 simp only[hL1] at k1
 have k4:=NQ
 have k5:=Oo
 have k6:=NP
 have k7:=fun B S jl m fe (hp:Eo lC 10 426 1251 S jl m fe)=>tu B (oL 1048576) S jl m fe hp.ok (by have:=hp.ne;omega) [97]
 have k7:∀B S jl m fe,Eo lC 10 426 1251 S jl m fe→aQ Tryz.prog 15 [.ptr 104 B.bs [] 0,.s [97]] (dY B (oL 1048576) S) (fun r os=>r= .tup [.s [49],.b true,.i .i64 0]∧os=dY B (oL 1048576) S):=fun B S jl m fe hp=>by
  have h:=k7 B S jl m fe hp
  rw[(wb hp.ok [97]).1,(wb hp.ok [97]).2,hp.co] at h
  exact h
 have k8:∀B S jl m fe,Eo lC 10 426 1251 S jl m fe→aQ Tryz.prog 14 [.ptr 104 B.bs [] 0,.s [],.s []] (dY B (oL 1048576) S) (fun r os=>r= .tup [.sl 3 (lC.map eA),.i .i64 0]∧os=dY B (oL 1048576) S):=fun B S jl m fe hp=>by
  have h:=jV B (oL 1048576) S jl m fe hp.ok (by have:=hp.ne;omega) [] []
  rw[vn hp.ok,i9,hp.co] at h
  exact h
 have k9:=NN
 have k10:∀B S jl m fe,(cK (oL 1048576) S jl m fe∧nE S fe=1)→aQ Tryz.prog 22 [.ptr 104 B.bs [] 0] (dY B (oL 1048576) S) (fun r os=>r= .i .i64 1∧os=dY B (oL 1048576) S):=fun B S jl m fe hp=>by
  have h:=Gk B (oL 1048576) S jl m fe hp.1 (by omega)
  rw[hp.2] at h
  exact h
 refine aA ab [] Tryz.func6 Z Tryz.ntmps6 aN Z Z (fun C=>?_) Z
 repeat' (first|refine ae ?_|refine aa ?_|refine ac (ax ?_)|refine ah (ax ?_)|refine ap (bC ?_)|refine br Z ab Z Z Z (fun _=>?_)|refine aU ab (fun _=>?_)|refine cd ab Z Z Z Z Z Z eo ?_|refine aI ab Z Z Z Z Z Z Z Z Z Z Z eo (fun _=>?_)|refine fQ ab Z Z Z Z Z ?_|refine aB Z ?_|(refine bx [] [] [100,101,102] Z k1 ⟨aP,J⟩ Z J Z Z ?_;rintro _ _ ⟨bd,bm,rfl,rfl⟩;refine⟨_,rfl,rfl,?_⟩)|(refine bx [] [100,101,102] [100,101,102,103,104,105] Z (k3 bd bm) ⟨af,aP,J⟩ Z dD Z Z ?_;rintro _ _ ⟨B1,S1,hB1,hB2,hO1,rfl,rfl⟩;refine⟨_,rfl,rfl,?_⟩)|(refine bx [26] [100,101,102,103,104,105] [100,101,102,103,104,105] Z (k4 _ _ hO1) ⟨af,bu (bP (.head _)) Z,J⟩ Z dD Z Z ?_;rintro _ _ ⟨S2,jl2,m2,fe2,hp2,rfl,rfl⟩;refine⟨_,rfl,rfl,?_⟩)|(refine bx [] [100,101,102,103,104,105] [100,101,102,103,104,105] Z (k5 _ _ _ _ _ hp2) ⟨af,J⟩ Z dD Z Z ?_;rintro _ _ ⟨S3,jl3,m3,fe3,⟨hp3,hm3⟩,rfl,rfl⟩;refine⟨_,rfl,rfl,?_⟩)|(refine bx [38] [100,101,102,103,104,105] [100,101,102,103,104,105] Z (k6 _ _ _ _ _ hp3 hm3) ⟨af,bu (bP (.head _)) Z,J⟩ Z dD Z Z ?_;rintro _ _ ⟨S4,jl4,m4,fe4,hp4,rfl,rfl⟩;refine⟨_,rfl,rfl,?_⟩)|refine bk [] [100,101,102,103,104,105] [100,101,102,103,104,105] Z (k7 _ _ _ _ _ hp4) ⟨af,aP,J⟩ Z dD Z Z ?_|refine bk [] [100,101,102,103,104,105] [100,101,102,103,104,105] Z (k8 _ _ _ _ _ hp4) ⟨af,aP,aP,J⟩ Z dD Z Z ?_|(refine bx [] [100,101,102,103,104,105] [100,101,102,103,104,105] Z (k9 _ _ _ _ _ hp4) ⟨af,J⟩ Z dD Z Z ?_;rintro _ _ ⟨S5,jl5,m5,fe5,hp5,rfl,rfl⟩;refine⟨_,rfl,rfl,?_⟩)|refine bk [] [100,101,102,103,104,105] [100,101,102,103,104,105] Z (k10 _ _ _ _ _ hp5) ⟨af,J⟩ Z dD Z Z ?_|(refine gg Z (k2) J Z ?_;rintro _ _ ⟨rfl,rfl⟩;refine⟨rfl,?_⟩))
 all_goals exact jh
end Go.Proofs.YtginkbjclkdglaaGreat
