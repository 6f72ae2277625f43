/- merge.Mem.Put as a part of a store, by rules. -/
import Derived.Test.YtginkbjclkdglaaGreatSN3Z
import Derived.Test.YtginkbjclkdglaaGreatMM2Z
import Derived.Test.YtginkbjclkdglaaGreatSN5Z
import Derived.Test.YtginkbjclkdglaaGreatSTHZ
import Derived.Test.YtginkbjclkdglaaGreatKFZ
set_option maxHeartbeats 16000000
namespace Go.Proofs.YtginkbjclkdglaaGreat
open Go Go.RowKit
theorem Hh(B:gV)(o:eW)(st:iH)(l:List aC)(s:Int)(x:aC)(hl:l.length≤400000)(hr:sr l):
 aQ Tryz.prog 29 [.ptr 104 B.bs [3] 7,eA x] [.var B.bs (dm B o l s st)] (fun r os=>r= .tup []∧os=[.var B.bs (dm B o (zt l (d6 x)) (t7 l s (d6 x)) st)]):=by
 refine aA ab [(104,.var B.bs (dm B o l s st))] Tryz.func29 Z Tryz.ntmps29 aN Z Z (fun C=>?_) Z
 have hcl:=wz (l.map eA) (by rw[List.length_map];omega)
 obtain⟨k,vv,g⟩:=x
 cases g
 ·have hn:d6 ⟨k,vv,false⟩=⟨k,vv,false⟩:=rfl
  rw[hn]
  have h1:=jd l k hl (jf hr k)
  have hle:=qH l k
  have h2:=nJ ⟨k,vv,false⟩
  have hE:zt l ⟨k,vv,false⟩=if iv l k (eG l k)=true then l.set (eG l k) ⟨k,vv,false⟩ else l.take (eG l k)++⟨k,vv,false⟩::l.drop (eG l k):=rfl
  have hS:t7 l s ⟨k,vv,false⟩=if h:eG l k<l.length then if l[eG l k].k=k then IntKind.i64.wrap (s+IntKind.i64.wrap (cw ⟨k,vv,false⟩ - cw l[eG l k])) else IntKind.i64.wrap (s+cw ⟨k,vv,false⟩) else IntKind.i64.wrap (s+cw ⟨k,vv,false⟩):=rfl
  have hB:iv l k (eG l k)=true↔∃h:eG l k<l.length,l[eG l k].k=k:=by
   unfold iv
   by_cases h:eG l k<l.length
   ·rw[List.getElem?_eq_getElem h]
    exact⟨fun e=>⟨h,by simpa using e⟩,fun ⟨_,e⟩=>by simpa using e⟩
   ·rw[List.getElem?_eq_none (by omega)]
    exact⟨fun e=>(by cases e),fun ⟨h',_⟩=>absurd h' h⟩
  generalize zt l ⟨k,vv,false⟩=L' at hE ⊢
  generalize t7 l s ⟨k,vv,false⟩=s' at hS ⊢
  generalize eG l k=p at h1 hle hE hS hB
  generalize cw ⟨k,vv,false⟩=cy at h2 hS
  have hins:=Bt 73 (l.map eA) (eA ⟨k,vv,false⟩) p (by rw[List.length_map];omega) (by rw[List.length_map];omega)
  by_cases hf:∃h:p<l.length,l[p].k=k
  ·obtain⟨hp,hk⟩:=hf
   rw[dif_pos hp,if_pos hk] at hS
   rw[if_pos (hB.2 ⟨hp,hk⟩)] at hE
   have h3:=nJ (l[p]'hp)
   generalize cw l[p]=cz at h3 hS
   have hkb:(l[p].k==k)=true:=beq_iff_eq.2 hk
   subst hS;subst hE
   clear hins hB
   unfold dm e8 el iA
   repeat' (first|(exfalso;exact Bool.noConfusion (hkb.symm.trans hc))|refine ae ?_|refine aa ?_|refine ac (ax ?_)|refine ah (ax ?_)|refine ap (bC ?_)|refine br Z ab Z Z Z (fun _=>?_)|refine aU ab (fun _=>?_)|refine c9 Z Z Z Z (fun _=>?_)|refine aD ab Z Z Z Z Z Z Z ⟨rfl,rfl⟩ Z Z Z Z Z ?_|(refine aK Z ab Z Z Z Z Z Z ?_ (aE ?_) ?_;omega;omega)|(refine bD ab Z Z Z Z Z Z Z Z _ Z ?_ (fun bO hbO=>?_);(exact dt))|(refine bQ ab Z Z Z Z Z Z (by assumption) (aY (List.getElem?_eq_getElem ?_)) Z Z (by first|exact Nat.add_zero _|rfl) ⟨rfl,rfl⟩ Z Z ?_;omega)|(fail_if_success (refine aM Z cM ?_));(refine aV Z Z (fun hc=>?_) (fun hc=>?_)<;>try omega)|refine aB Z ?_|(refine ba Z (fun hc=>?_) (fun hc=>?_))|refine cg 3 [] [] [] [0,1,2,4,3,5,6,7] aN aN aN Z Z Z ?_|refine cg 4 [] [] [] [0,1,2,3,4,5,6,7,8,9,10,12,16,11,13,14,15,17,18,19] aN aN aN Z Z Z ?_|refine cg 5 [104] [38,39,44,47] [40,48] [0,1,2,6,7,8,10,3,4,9,11,12,5,13,14,15,16,17,18] aN aN aN Z Z Z ?_|refine cg 7 [58] [64,66] [] [0,1,2,4,3,5,6,7] aN aN aN Z Z Z ?_|(refine jy Z hcl ⟨aP,J⟩ Z (fun vR=>?_))|refine au Z (h1) ⟨aP,aP,J⟩ Z ?_|refine au Z (h2) ⟨aP,J⟩ Z ?_|refine au Z (h3) ⟨aP,J⟩ Z ?_)
   refine dC Z [58] [(104,_)] (cr.cons 104 Z (bW (bS (.cons (av _) (.cons (av _) (.cons (av _) (.cons (bS (.cons (bP ?_) (.cons (av _) .nil))) (.cons (av _) (.cons (av _) .nil)))))))) .nil) ⟨rfl,rfl⟩ _ cM
   rw[List.map_set];exact .head _
  ·have hS:s'=IntKind.i64.wrap (s+cy):=by
    by_cases hp:p<l.length
    ·rw[dif_pos hp,if_neg (fun e=>hf ⟨hp,e⟩)] at hS;exact hS
    ·rw[dif_neg hp] at hS;exact hS
   rw[if_neg (fun e=>hf (hB.1 e))] at hE
   subst hS;subst hE
   clear hB
   by_cases hp:p<l.length
   ·have hk:¬ l[p].k=k:=fun e=>hf ⟨hp,e⟩
    have hkb:(l[p].k==k)=false:=beq_eq_false_iff_ne.2 hk
    clear hf
    unfold dm e8 el iA
    repeat' (first|(exfalso;exact Bool.noConfusion (hkb.symm.trans hc))|refine ae ?_|refine aa ?_|refine ac (ax ?_)|refine ac (bC ?_)|refine ah (ax ?_)|refine br Z ab Z Z Z (fun _=>?_)|refine aU ab (fun _=>?_)|refine c9 Z Z Z Z (fun _=>?_)|refine aD ab Z Z Z Z Z Z Z ⟨rfl,rfl⟩ Z Z Z Z Z ?_|(refine aK Z ab Z Z Z Z Z Z ?_ (aE ?_) ?_;omega;omega)|refine aI ab Z Z Z Z Z Z Z Z Z Z Z eo (fun _=>?_)|(fail_if_success (refine aM Z cM ?_));(refine aV Z Z (fun hc=>?_) (fun hc=>?_)<;>try omega)|refine aB Z ?_|(refine ba Z (fun hc=>?_) (fun hc=>?_))|refine cg 3 [] [] [] [0,1,2,4,3,5,6,7] aN aN aN Z Z Z ?_|refine cg 4 [] [] [] [0,1,2,3,4,5,6,7,8,9,10,12,16,11,13,14,15,17,18,19] aN aN aN Z Z Z ?_|(refine ac ?_;show gO _ _ _ _ _ _ _ _ _ _)|refine kv 8 [104,73] [72] [76] aN aN (n:=13) (listed:=[O9,O9,O9,O9,O9,O9,O9,O9,O9,O9,O9,O9,O9].toArray) Z aN ?_|refine dh (n:=13) (listed:=[O9,O9,O9,O9,O9,O9,O9,O9,O9,O9,O9,O9,O9].toArray) [0,1,2,3,6,4,7] 6 [O8,O8,O8,O8,O8,O9,O8,O8,O9,O9,O9,O9,O9] aN Z Z Z aN ?_|refine lO (n:=6) (listed:=[O8,O8,O8,O8,O8,O9,O8,O8,O9,O9,O9,O9,O9].toArray) 5 8 [O8,O8,O8,O8,O8,O8,O8,O8,O9,O9,O9,O9,O9] [O8,O8,O8,O8,O8,O9,O8,O8,O8,O9,O9,O9,O9] Z aN Z Z aN aN ?_ ?_|refine dh (n:=5) (listed:=[O8,O8,O8,O8,O8,O8,O8,O8,O9,O9,O9,O9,O9].toArray) [8,9,10,11,12] 0 [O8,O8,O8,O8,O8,O8,O8,O8,O8,O8,O8,O8,O8] aN Z Z Z aN ?_|refine na (n:=0) (listed:=[O8,O8,O8,O8,O8,O8,O8,O8,O8,O8,O8,O8,O8].toArray) aN ?_|refine dh (n:=5) (listed:=[O8,O8,O8,O8,O8,O9,O8,O8,O8,O9,O9,O9,O9].toArray) [5,9,10,11,12] 0 [O8,O8,O8,O8,O8,O8,O8,O8,O8,O8,O8,O8,O8] aN Z Z Z aN ?_|refine cg 9 [104] [83,84] [85] [0,1,2,3,4,5,6,7,8,9] aN aN aN Z Z Z ?_|(refine jy Z hcl ⟨aP,J⟩ Z (fun vR=>?_))|(refine bx [76] [73] [73] Z (hins _) ⟨aJ,aP,bu (bP (.head _)) Z,J⟩ Z ⟨ak _,trivial⟩ Z Z ?_;rintro _ _ ⟨vI,rfl,rfl⟩;refine⟨_,rfl,rfl,?_⟩)|refine au Z (h1) ⟨aP,aP,J⟩ Z ?_|refine au Z (h2) ⟨aP,J⟩ Z ?_)
    all_goals
     refine dC Z [73] [(104,_)] (cr.cons 104 Z (bW (bS (.cons (av _) (.cons (av _) (.cons (av _) (.cons (bS (.cons (bP ?_) (.cons (av _) .nil))) (.cons (av _) (.cons (av _) .nil)))))))) .nil) ⟨rfl,rfl⟩ _ cM
     rw[List.map_append,List.map_cons,List.map_take,List.map_drop];exact .head _
   ·clear hf
    unfold dm e8 el iA
    repeat' (first|refine ae ?_|refine aa ?_|refine ac (ax ?_)|refine ac (bC ?_)|refine ah (ax ?_)|refine d9 Z Z Z cM ?_|refine br Z ab Z Z Z (fun _=>?_)|refine aU ab (fun _=>?_)|refine c9 Z Z Z Z (fun _=>?_)|refine aD ab Z Z Z Z Z Z Z ⟨rfl,rfl⟩ Z Z Z Z Z ?_|refine aI ab Z Z Z Z Z Z Z Z Z Z Z eo (fun _=>?_)|(fail_if_success (refine aM Z cM ?_));(refine aV Z Z (fun hc=>?_) (fun hc=>?_)<;>try omega)|refine aB Z ?_|refine cg 3 [] [] [] [0,1,2,4,3,5,6,7] aN aN aN Z Z Z ?_|refine cg 4 [] [] [] [0,1,2,3,4,5,6,7,8,9,10,12,16,11,13,14,15,17,18,19] aN aN aN Z Z Z ?_|(refine ac ?_;show gO _ _ _ _ _ _ _ _ _ _)|refine kv 8 [104,73] [72] [76] aN aN (n:=13) (listed:=[O9,O9,O9,O9,O9,O9,O9,O9,O9,O9,O9,O9,O9].toArray) Z aN ?_|refine dh (n:=13) (listed:=[O9,O9,O9,O9,O9,O9,O9,O9,O9,O9,O9,O9,O9].toArray) [0,1,2,3,6,4,7] 6 [O8,O8,O8,O8,O8,O9,O8,O8,O9,O9,O9,O9,O9] aN Z Z Z aN ?_|refine lO (n:=6) (listed:=[O8,O8,O8,O8,O8,O9,O8,O8,O9,O9,O9,O9,O9].toArray) 5 8 [O8,O8,O8,O8,O8,O8,O8,O8,O9,O9,O9,O9,O9] [O8,O8,O8,O8,O8,O9,O8,O8,O8,O9,O9,O9,O9] Z aN Z Z aN aN ?_ ?_|refine dh (n:=5) (listed:=[O8,O8,O8,O8,O8,O8,O8,O8,O9,O9,O9,O9,O9].toArray) [8,9,10,11,12] 0 [O8,O8,O8,O8,O8,O8,O8,O8,O8,O8,O8,O8,O8] aN Z Z Z aN ?_|refine na (n:=0) (listed:=[O8,O8,O8,O8,O8,O8,O8,O8,O8,O8,O8,O8,O8].toArray) aN ?_|refine dh (n:=5) (listed:=[O8,O8,O8,O8,O8,O9,O8,O8,O8,O9,O9,O9,O9].toArray) [5,9,10,11,12] 0 [O8,O8,O8,O8,O8,O8,O8,O8,O8,O8,O8,O8,O8] aN Z Z Z aN ?_|refine cg 9 [104] [83,84] [85] [0,1,2,3,4,5,6,7,8,9] aN aN aN Z Z Z ?_|(refine jy Z hcl ⟨aP,J⟩ Z (fun vR=>?_))|(refine bx [76] [73] [73] Z (hins _) ⟨aJ,aP,bu (bP (.head _)) Z,J⟩ Z ⟨ak _,trivial⟩ Z Z ?_;rintro _ _ ⟨vI,rfl,rfl⟩;refine⟨_,rfl,rfl,?_⟩)|refine au Z (h1) ⟨aP,aP,J⟩ Z ?_|refine au Z (h2) ⟨aP,J⟩ Z ?_)
    all_goals
     refine dC Z [73] [(104,_)] (cr.cons 104 Z (bW (bS (.cons (av _) (.cons (av _) (.cons (av _) (.cons (bS (.cons (bP ?_) (.cons (av _) .nil))) (.cons (av _) (.cons (av _) .nil)))))))) .nil) ⟨rfl,rfl⟩ _ cM
     rw[List.map_append,List.map_cons,List.map_take,List.map_drop];exact .head _
 ·have hn:d6 ⟨k,vv,true⟩=⟨k,[],true⟩:=rfl
  rw[hn]
  have h1:=jd l k hl (jf hr k)
  have hle:=qH l k
  have h2:=nJ ⟨k,[],true⟩
  have hE:zt l ⟨k,[],true⟩=if iv l k (eG l k)=true then l.set (eG l k) ⟨k,[],true⟩ else l.take (eG l k)++⟨k,[],true⟩::l.drop (eG l k):=rfl
  have hS:t7 l s ⟨k,[],true⟩=if h:eG l k<l.length then if l[eG l k].k=k then IntKind.i64.wrap (s+IntKind.i64.wrap (cw ⟨k,[],true⟩ - cw l[eG l k])) else IntKind.i64.wrap (s+cw ⟨k,[],true⟩) else IntKind.i64.wrap (s+cw ⟨k,[],true⟩):=rfl
  have hB:iv l k (eG l k)=true↔∃h:eG l k<l.length,l[eG l k].k=k:=by
   unfold iv
   by_cases h:eG l k<l.length
   ·rw[List.getElem?_eq_getElem h]
    exact⟨fun e=>⟨h,by simpa using e⟩,fun ⟨_,e⟩=>by simpa using e⟩
   ·rw[List.getElem?_eq_none (by omega)]
    exact⟨fun e=>(by cases e),fun ⟨h',_⟩=>absurd h' h⟩
  generalize zt l ⟨k,[],true⟩=L' at hE ⊢
  generalize t7 l s ⟨k,[],true⟩=s' at hS ⊢
  generalize eG l k=p at h1 hle hE hS hB
  generalize cw ⟨k,[],true⟩=cy at h2 hS
  have hins:=Bt 73 (l.map eA) (eA ⟨k,[],true⟩) p (by rw[List.length_map];omega) (by rw[List.length_map];omega)
  by_cases hf:∃h:p<l.length,l[p].k=k
  ·obtain⟨hp,hk⟩:=hf
   rw[dif_pos hp,if_pos hk] at hS
   rw[if_pos (hB.2 ⟨hp,hk⟩)] at hE
   have h3:=nJ (l[p]'hp)
   generalize cw l[p]=cz at h3 hS
   have hkb:(l[p].k==k)=true:=beq_iff_eq.2 hk
   subst hS;subst hE
   clear hins hB
   unfold dm e8 el iA
   repeat' (first|(exfalso;exact Bool.noConfusion (hkb.symm.trans hc))|refine ae ?_|refine aa ?_|refine ac (ax ?_)|refine ap (bC ?_)|refine br Z ab Z Z Z (fun _=>?_)|refine aU ab (fun _=>?_)|refine c9 Z Z Z Z (fun _=>?_)|refine aD ab Z Z Z Z Z Z Z ⟨rfl,rfl⟩ Z Z Z Z Z ?_|(refine aK Z ab Z Z Z Z Z Z ?_ (aE ?_) ?_;omega;omega)|(refine bD ab Z Z Z Z Z Z Z Z _ Z ?_ (fun bO hbO=>?_);(exact dt))|(refine bQ ab Z Z Z Z Z Z (by assumption) (aY (List.getElem?_eq_getElem ?_)) Z Z (by first|exact Nat.add_zero _|rfl) ⟨rfl,rfl⟩ Z Z ?_;omega)|(fail_if_success (refine aM Z cM ?_));(refine aV Z Z (fun hc=>?_) (fun hc=>?_)<;>try omega)|refine aR Z ?_|(refine ba Z (fun hc=>?_) (fun hc=>?_))|refine cg 3 [] [] [] [0,1,2,4,3,5,6,7] aN aN aN Z Z Z ?_|refine cg 4 [] [] [] [0,1,2,3,4,5,6,7,8,9,10,12,16,11,13,14,15,17,18,19] aN aN aN Z Z Z ?_|refine cg 5 [104] [38,39,44,47] [40,48] [0,1,2,6,7,8,10,3,4,9,11,12,5,13,14,15,16,17,18] aN aN aN Z Z Z ?_|refine cg 7 [58] [64,66] [] [0,1,2,4,3,5,6,7] aN aN aN Z Z Z ?_|(refine jy Z hcl ⟨aP,J⟩ Z (fun vR=>?_))|refine au Z (h1) ⟨aP,aP,J⟩ Z ?_|refine au Z (h2) ⟨aP,J⟩ Z ?_|refine au Z (h3) ⟨aP,J⟩ Z ?_)
   refine dC Z [58] [(104,_)] (cr.cons 104 Z (bW (bS (.cons (av _) (.cons (av _) (.cons (av _) (.cons (bS (.cons (bP ?_) (.cons (av _) .nil))) (.cons (av _) (.cons (av _) .nil)))))))) .nil) ⟨rfl,rfl⟩ _ cM
   rw[List.map_set];exact .head _
  ·have hS:s'=IntKind.i64.wrap (s+cy):=by
    by_cases hp:p<l.length
    ·rw[dif_pos hp,if_neg (fun e=>hf ⟨hp,e⟩)] at hS;exact hS
    ·rw[dif_neg hp] at hS;exact hS
   rw[if_neg (fun e=>hf (hB.1 e))] at hE
   subst hS;subst hE
   clear hB
   by_cases hp:p<l.length
   ·have hk:¬ l[p].k=k:=fun e=>hf ⟨hp,e⟩
    have hkb:(l[p].k==k)=false:=beq_eq_false_iff_ne.2 hk
    clear hf
    unfold dm e8 el iA
    repeat' (first|(exfalso;exact Bool.noConfusion (hkb.symm.trans hc))|refine ae ?_|refine aa ?_|refine ac (ax ?_)|refine ac (bC ?_)|refine ah (ax ?_)|refine br Z ab Z Z Z (fun _=>?_)|refine aU ab (fun _=>?_)|refine c9 Z Z Z Z (fun _=>?_)|refine aD ab Z Z Z Z Z Z Z ⟨rfl,rfl⟩ Z Z Z Z Z ?_|(refine aK Z ab Z Z Z Z Z Z ?_ (aE ?_) ?_;omega;omega)|refine aI ab Z Z Z Z Z Z Z Z Z Z Z eo (fun _=>?_)|(fail_if_success (refine aM Z cM ?_));(refine aV Z Z (fun hc=>?_) (fun hc=>?_)<;>try omega)|refine aR Z ?_|(refine ba Z (fun hc=>?_) (fun hc=>?_))|refine cg 3 [] [] [] [0,1,2,4,3,5,6,7] aN aN aN Z Z Z ?_|refine cg 4 [] [] [] [0,1,2,3,4,5,6,7,8,9,10,12,16,11,13,14,15,17,18,19] aN aN aN Z Z Z ?_|(refine ac ?_;show gO _ _ _ _ _ _ _ _ _ _)|refine kv 8 [104,73] [72] [76] aN aN (n:=13) (listed:=[O9,O9,O9,O9,O9,O9,O9,O9,O9,O9,O9,O9,O9].toArray) Z aN ?_|refine dh (n:=13) (listed:=[O9,O9,O9,O9,O9,O9,O9,O9,O9,O9,O9,O9,O9].toArray) [0,1,2,3,6,4,7] 6 [O8,O8,O8,O8,O8,O9,O8,O8,O9,O9,O9,O9,O9] aN Z Z Z aN ?_|refine lO (n:=6) (listed:=[O8,O8,O8,O8,O8,O9,O8,O8,O9,O9,O9,O9,O9].toArray) 5 8 [O8,O8,O8,O8,O8,O8,O8,O8,O9,O9,O9,O9,O9] [O8,O8,O8,O8,O8,O9,O8,O8,O8,O9,O9,O9,O9] Z aN Z Z aN aN ?_ ?_|refine dh (n:=5) (listed:=[O8,O8,O8,O8,O8,O8,O8,O8,O9,O9,O9,O9,O9].toArray) [8,9,10,11,12] 0 [O8,O8,O8,O8,O8,O8,O8,O8,O8,O8,O8,O8,O8] aN Z Z Z aN ?_|refine na (n:=0) (listed:=[O8,O8,O8,O8,O8,O8,O8,O8,O8,O8,O8,O8,O8].toArray) aN ?_|refine dh (n:=5) (listed:=[O8,O8,O8,O8,O8,O9,O8,O8,O8,O9,O9,O9,O9].toArray) [5,9,10,11,12] 0 [O8,O8,O8,O8,O8,O8,O8,O8,O8,O8,O8,O8,O8] aN Z Z Z aN ?_|refine cg 9 [104] [83,84] [85] [0,1,2,3,4,5,6,7,8,9] aN aN aN Z Z Z ?_|(refine jy Z hcl ⟨aP,J⟩ Z (fun vR=>?_))|(refine bx [76] [73] [73] Z (hins _) ⟨aJ,aP,bu (bP (.head _)) Z,J⟩ Z ⟨ak _,trivial⟩ Z Z ?_;rintro _ _ ⟨vI,rfl,rfl⟩;refine⟨_,rfl,rfl,?_⟩)|refine au Z (h1) ⟨aP,aP,J⟩ Z ?_|refine au Z (h2) ⟨aP,J⟩ Z ?_)
    all_goals
     refine dC Z [73] [(104,_)] (cr.cons 104 Z (bW (bS (.cons (av _) (.cons (av _) (.cons (av _) (.cons (bS (.cons (bP ?_) (.cons (av _) .nil))) (.cons (av _) (.cons (av _) .nil)))))))) .nil) ⟨rfl,rfl⟩ _ cM
     rw[List.map_append,List.map_cons,List.map_take,List.map_drop];exact .head _
   ·clear hf
    unfold dm e8 el iA
    repeat' (first|refine ae ?_|refine aa ?_|refine ac (ax ?_)|refine ac (bC ?_)|refine ah (ax ?_)|refine d9 Z Z Z cM ?_|refine br Z ab Z Z Z (fun _=>?_)|refine aU ab (fun _=>?_)|refine c9 Z Z Z Z (fun _=>?_)|refine aD ab Z Z Z Z Z Z Z ⟨rfl,rfl⟩ Z Z Z Z Z ?_|refine aI ab Z Z Z Z Z Z Z Z Z Z Z eo (fun _=>?_)|(fail_if_success (refine aM Z cM ?_));(refine aV Z Z (fun hc=>?_) (fun hc=>?_)<;>try omega)|refine aR Z ?_|refine aB Z ?_|refine cg 3 [] [] [] [0,1,2,4,3,5,6,7] aN aN aN Z Z Z ?_|refine cg 4 [] [] [] [0,1,2,3,4,5,6,7,8,9,10,12,16,11,13,14,15,17,18,19] aN aN aN Z Z Z ?_|(refine ac ?_;show gO _ _ _ _ _ _ _ _ _ _)|refine kv 8 [104,73] [72] [76] aN aN (n:=13) (listed:=[O9,O9,O9,O9,O9,O9,O9,O9,O9,O9,O9,O9,O9].toArray) Z aN ?_|refine dh (n:=13) (listed:=[O9,O9,O9,O9,O9,O9,O9,O9,O9,O9,O9,O9,O9].toArray) [0,1,2,3,6,4,7] 6 [O8,O8,O8,O8,O8,O9,O8,O8,O9,O9,O9,O9,O9] aN Z Z Z aN ?_|refine lO (n:=6) (listed:=[O8,O8,O8,O8,O8,O9,O8,O8,O9,O9,O9,O9,O9].toArray) 5 8 [O8,O8,O8,O8,O8,O8,O8,O8,O9,O9,O9,O9,O9] [O8,O8,O8,O8,O8,O9,O8,O8,O8,O9,O9,O9,O9] Z aN Z Z aN aN ?_ ?_|refine dh (n:=5) (listed:=[O8,O8,O8,O8,O8,O8,O8,O8,O9,O9,O9,O9,O9].toArray) [8,9,10,11,12] 0 [O8,O8,O8,O8,O8,O8,O8,O8,O8,O8,O8,O8,O8] aN Z Z Z aN ?_|refine na (n:=0) (listed:=[O8,O8,O8,O8,O8,O8,O8,O8,O8,O8,O8,O8,O8].toArray) aN ?_|refine dh (n:=5) (listed:=[O8,O8,O8,O8,O8,O9,O8,O8,O8,O9,O9,O9,O9].toArray) [5,9,10,11,12] 0 [O8,O8,O8,O8,O8,O8,O8,O8,O8,O8,O8,O8,O8] aN Z Z Z aN ?_|refine cg 9 [104] [83,84] [85] [0,1,2,3,4,5,6,7,8,9] aN aN aN Z Z Z ?_|(refine jy Z hcl ⟨aP,J⟩ Z (fun vR=>?_))|(refine bx [76] [73] [73] Z (hins _) ⟨aJ,aP,bu (bP (.head _)) Z,J⟩ Z ⟨ak _,trivial⟩ Z Z ?_;rintro _ _ ⟨vI,rfl,rfl⟩;refine⟨_,rfl,rfl,?_⟩)|refine au Z (h1) ⟨aP,aP,J⟩ Z ?_|refine au Z (h2) ⟨aP,J⟩ Z ?_)
    all_goals
     refine dC Z [73] [(104,_)] (cr.cons 104 Z (bW (bS (.cons (av _) (.cons (av _) (.cons (av _) (.cons (bS (.cons (bP ?_) (.cons (av _) .nil))) (.cons (av _) (.cons (av _) .nil)))))))) .nil) ⟨rfl,rfl⟩ _ cM
     rw[List.map_append,List.map_cons,List.map_take,List.map_drop];exact .head _
theorem xG(B:gV)(o:eW)(st:iH)(l:List aC)(s:Int)(x:aC)(hl:l.length≤400000)(hr:sr l):
 aQ Tryz.prog 29 [.ptr 104 B.bs [3] 7,eA x] [.var B.bs (dm B o l s st)] (fun r os=>r= .tup []∧os=[.var B.bs (dm B o (ec (d6 x) l) (t7 l s (d6 x)) st)]):=by
 rw[←DE hr];exact Hh B o st l s x hl hr
end Go.Proofs.YtginkbjclkdglaaGreat
set_option maxRecDepth 100000
namespace Go.Proofs.YtginkbjclkdglaaGreat
open Go Go.RowKit Mg
theorem E7{x:aC}:∀m:List aC,m.length≤(ec x m).length
 |[]=>Nat.zero_le _
 |y::r=>by
  have ih:=E7 (x:=x) r
  unfold ec
  split
  ·simp only[List.length_cons];omega
  ·split
   ·simp only[List.length_cons];omega
   ·simp only[List.length_cons];omega
theorem BK:∀l m:List aC,m.length≤(l.foldl (fun m x=>ec (d6 x) m) m).length
 |[],_=>Nat.le_refl _
 |x::r,m=>Nat.le_trans (E7 (x:=d6 x) m) (BK r (ec (d6 x) m))
theorem EW:∀{l:List (Nat×List (List UInt8))} {fm w:Nat},fm≤w+1→(∀p∈l,p.1≤w)→w9 fm l≤w+1
 |[],_,_,h,_=>h
 |q::r,fm,w,_,hl=>by
  have h1:=hl q (List.mem_cons_self ..)
  show w9 (q.1+1) r≤w+1
  exact EW (by omega) (fun p hp=>hl p (List.mem_cons_of_mem _ hp))
def tG(jl:List (Nat×List (List aC))):List (List aC):=jl.flatMap (·.2)
theorem Eu:∀jl:List (Nat×List (List aC)),uY (iz jl)=(tG jl).map ey
 |[]=>rfl
 |p::r=>by
  have ih:=Eu r
  unfold uY iz tG at ih ⊢
  rw[List.map_cons,List.flatMap_cons,List.flatMap_cons,List.map_append,ih]
theorem Cn:∀jl:List (Nat×List (List aC)),ux jl=(tG jl).flatten
 |[]=>rfl
 |p::r=>by
  have ih:=Cn r
  unfold ux tG at ih ⊢
  rw[List.flatMap_cons,List.flatMap_cons,List.flatten_append,ih]
theorem Ke{jl:List (Nat×List (List aC))}{b:List aC}(h:b∈tG jl):∃p∈jl,b∈p.2:=List.mem_flatMap.1 h
theorem LN{o:eW}{S:ei}{jl:List (Nat×List (List aC))}{m:Option (List UInt8)}{fe:List (Fl×List aC)}(h:cK o S jl m fe)(hf:fe.length≤250):(∃b,GP S.D mu=(b,0)∧t9 b=(S.st,0)∧b.length≤1000000000)∨(GP S.D mu=([],7)∧S.st=zS∧fe=[]):=by
 have hl:l5 (de (iz jl)++dR o.blk m fe) mu=l5 (dR o.blk m fe) mu:=yd (vU _ h.x.jlt zi)
 have hr:=h.x.vw.rd mu
 rw[hl] at hr
 have hfl:S.st.fs.length≤250:=by rw[h.fs,List.length_map];exact hf
 rcases h.man with ⟨rfl,hz⟩|hm
 ·have hfe:fe=[]:=by
   have h1:=h.fs
   rw[hz] at h1
   exact List.map_eq_nil_iff.1 h1.symm
  subst hfe
  exact .inr ⟨hr,hz,rfl⟩
 ·have hlk:l5 (dR o.blk m fe) mu=some (dP S.st).1:=by
   rw[hm]
   show (if mu=mu then some (dP S.st).1 else _)=_
   rw[if_pos Z]
  rw[hlk] at hr
  refine .inl ⟨_,hr,?_,?_⟩
  ·unfold dP
   rw[if_neg (by rw[h.chk];decide)]
   exact Dr _ h.chk hfl
  ·unfold dP
   rw[if_neg (by rw[h.chk];decide)]
   have h1:=jT h.chk hfl _ (Nat.le_refl _)
   have h2:=mD (iK S.st S.st.fs.length)
   show (bo _).length≤_
   omega
theorem JE{blk:Int}{fe:List (Fl×List aC)}(nd:(fe.map (·.1.num)).Nodup){ts:List (Int×AV×Nat)}{k:Nat}(hk:k<fe.length)(e1:ts.map (fun t=>(t.1,t.2.1))=(fe.take k).map (Fy blk)):getT fe[k].1.num ts=none:=by
 refine tv (fun t ht e=>?_)
 have h1:(t.1,t.2.1)∈(fe.take k).map (Fy blk):=e1▸List.mem_map.2 ⟨t,ht,rfl⟩
 obtain⟨q,hq,hqe⟩:=List.mem_map.1 h1
 have h2:q.1.num=t.1:=congrArg Prod.fst hqe
 obtain⟨i,hi,rfl⟩:=List.mem_iff_getElem.1 hq
 rw[List.length_take] at hi
 rw[List.getElem_take] at h2
 exact List.pairwise_iff_getElem.1 (List.pairwise_map.1 nd) i k (by omega) hk (by omega) (h2.trans e)
theorem F1{blk:Int}{fe:List (Fl×List aC)}{ts:List (Int×AV×Nat)}{k:Nat}(hk:k<fe.length)(e1:ts.map (fun t=>(t.1,t.2.1))=(fe.take k).map (Fy blk))(e2:∀t∈ts,t.2.2<k)(e3:(ts.map (·.2.2)).Nodup):
 (ts++[(fe[k].1.num,AV.cp (iY (jm blk fe[k])),k)]).map (fun t:Int×AV×Nat=>(t.1,t.2.1))=(fe.take (k+1)).map (Fy blk)∧(∀t∈ts++[(fe[k].1.num,AV.cp (iY (jm blk fe[k])),k)],t.2.2<k+1)∧((ts++[(fe[k].1.num,AV.cp (iY (jm blk fe[k])),k)]).map (·.2.2)).Nodup:=by
 refine⟨?_,fun t ht=>?_,?_⟩
 ·rw[List.map_append,e1,List.take_succ_eq_append_getElem hk,List.map_append];rfl
 ·rcases List.mem_append.1 ht with h|h
  ·exact Nat.lt_succ_of_lt (e2 t h)
  ·rw[List.mem_singleton.1 h];exact Nat.lt_succ_self _
 ·rw[List.map_append]
  refine List.nodup_append.2 ⟨e3,by simp,fun a ha b hb e=>?_⟩
  obtain⟨t,ht,rfl⟩:=List.mem_map.1 ha
  have h1:=e2 t ht
  rw[List.map_singleton,List.mem_singleton] at hb
  rw[hb] at e
  dsimp only at e
  omega
theorem JJ{bl:List (List aC)}(hb:∀b∈bl,js b=0){i k:Nat}(hi:i<bl.length)(hn:(qm bl.flatten).length≤250):sr (qm ((bl.take i).flatten++bl[i].take k))∧(qm ((bl.take i).flatten++bl[i].take k)).length≤250∧ND (qm ((bl.take i).flatten++bl[i].take k)):=by
 have e:bl.flatten=((bl.take i).flatten++bl[i].take k)++(bl[i].drop k++(bl.drop (i+1)).flatten):=by
  conv=>lhs;rw[←List.take_append_drop i bl,List.drop_eq_getElem_cons hi,List.flatten_append,List.flatten_cons,←List.take_append_drop k bl[i]]
  simp only[List.append_assoc]
 rw[e] at hn
 generalize hA:(bl.take i).flatten++bl[i].take k=A at e hn ⊢
 have hk:∀x∈A,mL x:=fun x hx=>by
  have:x∈bl.flatten:=by rw[e];exact List.mem_append_left _ hx
  obtain⟨b,hb2,hxb⟩:=List.mem_flatten.1 this
  exact(kI (hb b hb2)).2 x hxb
 refine⟨(A8 A).1,?_,fun x hx=>?_⟩
 ·have h1:=BK (bl[i].drop k++(bl.drop (i+1)).flatten) (qm A)
  have h2:qm (A++(bl[i].drop k++(bl.drop (i+1)).flatten))=(bl[i].drop k++(bl.drop (i+1)).flatten).foldl (fun m x=>ec (d6 x) m) (qm A):=by unfold qm;rw[List.foldl_append]
  rw[h2] at hn
  omega
 ·have:=(LH A [] hk (fun x hx=>by cases hx) x hx).sz
  unfold small;omega
theorem JI{a b:List aC}{k:Nat}(hk:k<b.length):ec (d6 b[k]) (qm (a++b.take k))=qm (a++b.take (k+1)):=by
 rw[List.take_succ_eq_append_getElem hk,←List.append_assoc]
 unfold qm
 rw[List.foldl_append (l':=[b[k]])];rfl
theorem i8(bd bm:Nat)(o:eW)(S:ei)(jl:List (Nat×List (List aC)))(m:Option (List UInt8))(fe:List (Fl×List aC))(h:cK o S jl m fe)(hg:kO o)(hn:nE S fe≤250)(_hx:S.st.next≤1073730000)(hw:S.now<1073730000):
 aQ Tryz.prog 9 [.ptr 0 bd [] 0,el o] (dk bd bm S.D) (fun r os=>∃B S',B.bd=bd∧B.bm=bm∧(cK o S' jl m fe∧dL S' fe=dL S fe∧S'.st=S.st∧S'.now≤S.now+1∧S'.D=S.D∧S'.mem=S.mem)∧r= .tup [.ptr 104 B.bs [] 0,.i .i64 0]∧os=dY B o S'):=by
 have k1:=vj o
 have k1:aQ Tryz.prog 16 [el o] [] (fun v os=>v= .b true∧os=[]):=k1.mono (by
  rintro v os ⟨b,hb,rfl,rfl⟩
  rw[hb.2 hg];exact⟨rfl,rfl⟩)
 have hrm:=h.x.room
 obtain⟨hl1,hl2,hl3⟩:=h.lens hn
 obtain⟨hmu,hmk⟩:=h.memK
 obtain⟨c1,c2,c3,c4,_⟩:=nu h.chk
 have hlo:=h.lo
 have hfl:S.st.fs.length=fe.length:=by rw[h.fs,List.length_map]
 have hB:=LN h hl2
 have k2:=ot bd bm S.D mu (by omega) (by decide)
 have kj:=Dy bd bm S.D S.st.log.toNat h.x.vw.ok (by omega) (by omega) (by omega) h.x.vw.dead
 rw[Ly h.x.vw h.x.jo.rise h.x.jlt (uI o.blk m fe) h.x.jo.tx (fun p hp=>by
  obtain⟨q,hq,rfl⟩:=List.mem_map.1 hp
  have:=h.jlog q hq
  show S.st.log.toNat≤q.1
  omega),Int.toNat_of_nonneg c3,Eu,List.map_map] at kj
 have hgt:=EX (fm:=S.st.log.toNat) h.x.jo.rise (fun p hp=>by
  obtain⟨q,hq,rfl⟩:=List.mem_map.1 hp
  have:=h.jlog q hq
  show S.st.log.toNat≤q.1
  omega)
 have hnl:=EW (fm:=S.st.log.toNat) (w:=S.now) (by omega) h.x.jo.le
 dsimp only at kj
 generalize w9 S.st.log.toNat (iz jl)=w at kj hgt hnl
 have hba:∀b∈tG jl,js b=0∧(ey b).length≤65536:=fun b hb=>by
  obtain⟨p,hp,hb2⟩:=Ke hb
  exact⟨h.bat p hp b hb2,h.x.jo.tx _ (List.mem_map.2 ⟨p,hp,rfl⟩) _ (List.mem_map.2 ⟨b,hb2,rfl⟩)⟩
 have hme:S.mem=qm (tG jl).flatten:=by rw[h.mem,Cn]
 have hfin:∀bs bt bj ts,ts.map (fun t:Int×AV×Nat=>(t.1,t.2.1))=fe.map (Fy o.blk)→(∀t∈ts,t.2.2<fe.length)→(ts.map (·.2.2)).Nodup→dH o ⟨S.D,S.now,[],0,S.st,ts,fe.length⟩ jl m fe∧∃B S',B.bd=bd∧B.bm=bm∧(cK o S' jl m fe∧dL S' fe=dL S fe∧S'.st=S.st∧S'.now≤S.now+1∧S'.D=S.D∧S'.mem=S.mem)∧AV.tup [.ptr 104 bs [] 0,.i .i64 0]= .tup [.ptr 104 B.bs [] 0,.i .i64 0]∧dY ⟨bd,bm,bj,bs,bt⟩ o ⟨S.D,w,qm (tG jl).flatten,(gT (qm (tG jl).flatten):Nat),S.st,ts,fe.length⟩=dY B o S':=fun bs bt bj ts e1 e2 e3=>by
  have hx1:∀now mem msz,Nn (iz jl) now→dH o ⟨S.D,now,mem,msz,S.st,ts,fe.length⟩ jl m fe:=fun now mem msz hj=>⟨h.x.vw,hj,h.x.nd,h.x.tok,by show (ts.map _).Perm _;rw[e1],e2,e3,h.x.room,h.x.rm⟩
  refine⟨hx1 _ _ _ h.x.jo,⟨bd,bm,bj,bs,bt⟩,⟨S.D,w,qm (tG jl).flatten,(gT (qm (tG jl).flatten):Nat),S.st,ts,fe.length⟩,rfl,rfl,⟨⟨hx1 _ _ _ ⟨h.x.jo.rise,fun p hp=>Nat.le_of_lt (hgt.2 p hp),h.x.jo.tx,by have:=h.x.jo.lim;omega⟩,h.fs,h.chk,h.man,h.jlog,h.bat,by rw[←hme,h.mem],rfl,h.ent,by show S.st.log≤(w:Int);omega⟩,by unfold dL;rw[←hme],rfl,hnl,rfl,hme.symm⟩,rfl,rfl⟩
 have kt:=fun bs bt bj ts e1 e2 e3=>CF ⟨bd,bm,bj,bs,bt⟩ o _ jl m fe (hfin bs bt bj ts e1 e2 e3).1 h.jlog
 have hL:dk bd bm S.D=[.var bd (cO bm S.D),.obj bm (cV S.D.es S.D.clk),bL (S.D.fs.map bZ.O)]:=rfl
 rw[hL] at k2 kj ⊢
 unfold el at k1 ⊢
 rcases hB with ⟨mb,hrd,hlr,hmbl⟩|⟨hrd,hst,hfe⟩
 all_goals rw[hrd] at k2
 have kr:=Dq mb hmbl
 rw[hlr] at kr
 refine aA ab [(0,.var bd (cO bm S.D)),(1,.obj bm (cV S.D.es S.D.clk)),(2,bL (S.D.fs.map bZ.O))] Tryz.func9 Z Tryz.ntmps9 aN Z Z (fun C=>?_) Z
 repeat' (first|refine ae ?_|refine aj ?_|refine aa ?_|refine ac (ax ?_)|refine ah (ax ?_)|refine br Z ab Z Z Z (fun _=>?_)|refine aU ab (fun _=>?_)|refine c9 (d:=3) Z Z Z Z (fun b3=>?_)|refine c9 (d:=27) Z Z Z Z (fun b27=>?_)|refine aD ab Z Z Z Z Z Z Z ⟨rfl,rfl⟩ Z Z Z Z Z ?_|refine aR Z ?_|refine aB Z ?_|(refine lH Z Z (fun bt=>?_))|(refine A2 (o:=o) Z Z Z Z Z ?_)|refine bk [] [0,1,2] [0,1,2] Z k2 ⟨af,aP,J⟩ Z dD Z Z ?_|refine au Z (k1) ⟨aP,J⟩ Z ?_|refine au Z (kr) ⟨aP,J⟩ Z ?_)
 refine ag.toTab 25 Z Z ?_
 refine aO (fun p:Nat×List (Int×AV×Nat)=>⟨116,[(54,.i .i64 p.1),(53,.i .i64 S.st.fs.length),(52,.sl 5 (S.st.fs.map eF)),(6,.ptr 104 b27 [] 0),(0,.ptr 100 bd [] 0)],[(100,.var bd (cO bm S.D)),(101,.obj bm (cV S.D.es S.D.clk)),(102,bL (S.D.fs.map bZ.O)),(104,.var b27 (.agg [.ptr 0 bd [] 0,el o,.nilp,e8 [] 0,iA S.st,.own 105 (.map (some bt))])),(105,io bt p.2 p.1)]⟩)
  (fun p=>p.1≤fe.length∧p.2.map (fun t=>(t.1,t.2.1))=(fe.take p.1).map (Fy o.blk)∧(∀t∈p.2,t.2.2<p.1)∧(p.2.map (·.2.2)).Nodup) (fun p=>fe.length - p.1) [] (0,[]) ⟨Nat.zero_le _,rfl,fun t ht=>(by cases ht),List.nodup_nil⟩ ?_ ?_
 ·exact⟨rfl,⟨ai Z,ai Z,ay Z,af,af,J⟩,az 0 Z (az 1 Z (az 2 Z (cr.cons 27 Z (bW (bS (.cons (av _) (.cons (av _) (.cons (av _) (.cons (bS (.cons cQ (.cons (av _) .nil))) (.cons (am Z) (.cons gZ .nil)))))))) (az 25 Z .nil))))⟩
 rotate_left
 refine aA ab [(0,.var bd (cO bm S.D)),(1,.obj bm (cV S.D.es S.D.clk)),(2,bL (S.D.fs.map bZ.O))] Tryz.func9 Z Tryz.ntmps9 aN Z Z (fun C=>?_) Z
 repeat' (first|refine ae ?_|refine aj ?_|refine aa ?_|refine ac (ax ?_)|refine ah (ax ?_)|refine aU ab (fun _=>?_)|refine c9 (d:=3) Z Z Z Z (fun b3=>?_)|refine c9 (d:=27) Z Z Z Z (fun b27=>?_)|refine aR Z ?_|refine aB Z ?_|(refine lH Z Z (fun bt=>?_))|(refine A2 (o:=o) Z Z Z Z Z ?_)|refine bk [] [0,1,2] [0,1,2] Z k2 ⟨af,aP,J⟩ Z dD Z Z ?_|refine au Z (k1) ⟨aP,J⟩ Z ?_)
 refine ag.toTab 25 Z Z ?_
 refine aO (fun p:Nat×List (Int×AV×Nat)=>⟨116,[(54,.i .i64 p.1),(53,.i .i64 S.st.fs.length),(52,.sl 5 (S.st.fs.map eF)),(6,.ptr 104 b27 [] 0),(0,.ptr 100 bd [] 0)],[(100,.var bd (cO bm S.D)),(101,.obj bm (cV S.D.es S.D.clk)),(102,bL (S.D.fs.map bZ.O)),(104,.var b27 (.agg [.ptr 0 bd [] 0,el o,.nilp,e8 [] 0,iA S.st,.own 105 (.map (some bt))])),(105,io bt p.2 p.1)]⟩)
  (fun p=>p.1≤fe.length∧p.2.map (fun t=>(t.1,t.2.1))=(fe.take p.1).map (Fy o.blk)∧(∀t∈p.2,t.2.2<p.1)∧(p.2.map (·.2.2)).Nodup) (fun p=>fe.length - p.1) [] (0,[]) ⟨Nat.zero_le _,rfl,fun t ht=>(by cases ht),List.nodup_nil⟩ ?_ ?_
 ·have hz:iA S.st=iA Ep:=by rw[hst];rfl
  exact⟨rfl,⟨ai Z,ai (by rw[hst];rfl),by rw[show S.st.fs=[] by rw[hst];rfl];exact sJ,af,af,J⟩,az 0 Z (az 1 Z (az 2 Z (cr.cons 27 Z (bW (bS (.cons (av _) (.cons (av _) (.cons (av _) (.cons (bS (.cons cQ (.cons (av _) .nil))) (.cons (by rw[hz];exact se) (.cons gZ .nil)))))))) (az 25 Z .nil))))⟩
 all_goals
  rintro⟨k,ts⟩ ⟨hk,e1,e2,e3⟩
  dsimp only at hk e1 e2 e3 ⊢
  by_cases hlt:k<fe.length
  ·have hlt':k<S.st.fs.length:=by omega
   have he:S.st.fs[k]=fe[k].1:=by simp[h.fs]
   have hp:fe[k]∈fe:=List.getElem_mem hlt
   have ksl:=Aw ⟨bd,bm,0,b27,bt⟩ o ⟨S.D,S.now,[],0,S.st,ts,k⟩ fe[k] _ h.x.vw (by have:=h.x.room;dsimp only;omega) (h.x.tok _ hp) (h.x.lk hp) (JE h.x.nd hlt e1)
   have hst:=F1 (blk:=o.blk) hlt e1 e2 e3
   have htf:Fy o.blk fe[k]=(fe[k].1.num,.cp (iY (jm o.blk fe[k]))):=rfl
   generalize AV.cp (iY (jm o.blk fe[k]))=T at ksl hst
   rw[←he] at ksl hst
   unfold CL e8 at ksl
   repeat' (first|refine ae ?_|refine aj ?_|refine aa ?_|refine ac (ax ?_)|refine ac (db ?_)|refine ah (ax ?_)|(refine bc Z Z Z Z ?_ ?_;omega)|refine aU ab (fun _=>?_)|refine aF (d:=10) Z ab Z Z Z (fun b10=>?_)|refine aD ab Z Z Z Z Z Z Z ⟨rfl,rfl⟩ Z Z Z Z Z ?_|(refine aK Z ab Z Z Z Z Z Z ?_ (aE ?_) ?_;omega;omega)|refine aB Z ?_|(refine ao Z (fun hc=>?_) (fun hc=>?_))<;>try omega|refine bk [] [100,101,102,104,105] [100,101,102,104,105] Z ksl ⟨af,aP,J⟩ Z dD Z Z ?_)
   all_goals exact⟨(k+1,_),[],⟨hlt,hst⟩,by show fe.length - (k+1)<fe.length - k;omega,rfl,⟨ai (by show (k:Int)+1=((k+1:Nat):Int);omega),ai Z,ay Z,af,af,J⟩,az 100 Z (az 101 Z (az 102 Z (az 104 Z (az 105 Z .nil))))⟩
  ·have hkl:k=fe.length:=by omega
   subst hkl
   rw[List.take_length] at e1
   have hfn:=fun bj=>(hfin b27 bt bj ts e1 e2 e3).2
   have kt:=kt b27 bt 0 ts e1 e2 e3
   repeat' (first|refine ae ?_|refine aj ?_|refine aa ?_|refine ac (ax ?_)|refine ah (ax ?_)|refine aw (ax ?_)|refine br Z ab Z Z Z (fun _=>?_)|refine aU ab (fun _=>?_)|refine aD ab Z Z Z Z Z Z Z ⟨rfl,rfl⟩ Z Z Z Z Z ?_|refine aB Z ?_|(refine ao Z (fun hc=>?_) (fun hc=>?_))<;>try omega|refine bk [] [100,101,102,104,105] [100,101,102,104,105] Z kt ⟨af,J⟩ Z dD Z Z ?_|(refine bx [] [100,101,102] [100,101,102,103] Z kj ⟨af,aP,J⟩ Z dD Z Z ?_;rintro _ _ ⟨bj,rfl,rfl⟩;refine⟨_,rfl,rfl,?_⟩))
   clear kt hfin
   have hbln:(tG jl).length≤9223372036854775807:=by assumption
   generalize tG jl=bl at hba hme hfn hbln ⊢
   have hmn:(qm bl.flatten).length≤250:=by rw[←hme];exact hl1
   refine aO (fun i:Nat=>⟨116,[(90,.i .i64 i),(89,.i .i64 bl.length),(88,.sl 1 (bl.map (AV.s∘ey))),(6,.ptr 104 b27 [] 0)],[(100,.var bd (cO bm S.D)),(101,.obj bm (cV S.D.es S.D.clk)),(102,bL (S.D.fs.map bZ.O)),(103,eC bd bj w),(104,.var b27 (dm ⟨bd,bm,bj,b27,bt⟩ o (qm (bl.take i).flatten) (gT (qm (bl.take i).flatten):Nat) S.st)),(105,io bt ts fe.length)]⟩) (fun i=>i≤bl.length) (fun i=>bl.length - i) [] 0 (Nat.zero_le _) ?_ ?_
   ·exact⟨rfl,⟨ai Z,ai Z,ay Z,af,J⟩,az 100 Z (az 101 Z (az 102 Z (az 103 Z (cr.cons 104 Z (bW (am Z)) (az 105 Z .nil)))))⟩
   rintro i hi
   by_cases hlt2:i<bl.length
   ·obtain⟨hb1,hb2⟩:=hba bl[i] (List.getElem_mem hlt2)
    have hbl:=(kI hb1).1
    have kb:=Eh bl[i] hbl (fun e he=>by have:=((kI hb1).2 e he).sz;omega) hb2 hb1
    have hpt:=fun k=>JJ (fun b hb=>(hba b hb).1) (k:=k) hlt2 hmn
    have hnx:(bl.take (i+1)).flatten=(bl.take i).flatten++bl[i].take bl[i].length:=by rw[List.take_succ_eq_append_getElem hlt2,List.flatten_append,List.take_length];simp
    have hcs:(AV.s∘ey) bl[i]=AV.s (ey bl[i]):=rfl
    have hms:=fun a k (hk:k<bl[i].length)=>JI (a:=a) (b:=bl[i]) (k:=k) hk
    have hsm:∀e∈bl[i],small (d6 e):=fun e he=>Hm (by have:=((kI hb1).2 e he).sz;unfold small;omega)
    obtain⟨b,hbe⟩:∃b,b=bl[i]:=⟨_,rfl⟩
    have kb:aQ Tryz.prog 28 [.s (ey bl[i])] [] (fun v os=>v= .tup [.sl 3 (b.map eA),.i .i64 0]∧os=[]):=by rw[hbe];exact kb
    rw[←hbe] at hbl hnx
    simp only[←hbe] at hpt hsm hms
    generalize (bl.take i).flatten=a at hpt hnx ⊢
    repeat' (first|refine ae ?_|refine aj ?_|refine aa ?_|refine ac (ax ?_)|refine ah (ax ?_)|refine br Z ab Z Z Z (fun _=>?_)|refine aU ab (fun _=>?_)|(refine aK Z ab Z Z Z Z Z Z ?_ (aE ?_) ?_;omega;omega)|refine aB Z ?_|(refine ao Z (fun hc=>?_) (fun hc=>?_))<;>try omega|refine au Z (kb) ⟨aP,J⟩ Z ?_)
    refine aO (fun k:Nat=>⟨116,[(104,.i .i64 k),(103,.i .i64 b.length),(102,.sl 3 (b.map eA)),(90,.i .i64 i),(89,.i .i64 bl.length),(88,.sl 1 (bl.map (AV.s∘ey))),(6,.ptr 104 b27 [] 0)],[(100,.var bd (cO bm S.D)),(101,.obj bm (cV S.D.es S.D.clk)),(102,bL (S.D.fs.map bZ.O)),(103,eC bd bj w),(104,.var b27 (dm ⟨bd,bm,bj,b27,bt⟩ o (qm (a++b.take k)) (gT (qm (a++b.take k)):Nat) S.st)),(105,io bt ts fe.length)]⟩) (fun k=>k≤b.length) (fun k=>b.length - k) [] 0 (Nat.zero_le _) ?_ ?_
    ·exact⟨rfl,⟨ai Z,ai Z,ay Z,ai Z,ai Z,ay Z,af,J⟩,az 100 Z (az 101 Z (az 102 Z (az 103 Z (cr.cons 104 Z (bW (am (by rw[List.take_zero,List.append_nil]))) (az 105 Z .nil)))))⟩
    rintro k hk
    by_cases hlt3:k<b.length
    ·obtain⟨f1,f2,f3⟩:=hpt k
     have hsp:=xG ⟨bd,bm,bj,b27,bt⟩ o S.st (qm (a++b.take k)) (gT (qm (a++b.take k)):Nat) b[k] (by omega) f1
     rw[A6 f1 (by omega) f3 (hsm _ (List.getElem_mem hlt3)),hms a k hlt3] at hsp
     generalize qm (a++b.take k)=mk at hsp ⊢
     repeat' (first|refine ae ?_|refine aj ?_|refine aa ?_|refine ac (ax ?_)|refine ac (db ?_)|refine ah (ax ?_)|(refine bc Z Z Z Z ?_ ?_;omega)|refine aU ab (fun _=>?_)|refine aF (d:=19) Z ab Z Z Z (fun b19=>?_)|refine aD ab Z Z Z Z Z Z Z ⟨rfl,rfl⟩ Z Z Z Z Z ?_|(refine aK Z ab Z Z Z Z Z Z ?_ (aE ?_) ?_;omega;omega)|(refine ao Z (fun hc=>?_) (fun hc=>?_))<;>try omega|refine cg 34 [104] [111] [] [0,1,2,3,4] aN aN aN Z Z Z ?_|refine bk [] [104] [104] Z hsp ⟨af,aP,J⟩ Z dD Z Z ?_)
     all_goals exact⟨k+1,[],hlt3,by show b.length - (k+1)<b.length - k;omega,rfl,⟨ai (by show (k:Int)+1=((k+1:Nat):Int);omega),ai Z,ay Z,ai Z,ai Z,ay Z,af,J⟩,az 100 Z (az 101 Z (az 102 Z (az 103 Z (az 104 Z (az 105 Z .nil)))))⟩
    ·have hkb:k=b.length:=by omega
     subst hkb
     repeat' (first|refine ae ?_|refine aa ?_|refine ac (ax ?_)|refine ac (db ?_)|refine aw (ax ?_)|(refine bc Z Z Z Z ?_ ?_;omega)|refine aU ab (fun _=>?_)|(refine ao Z (fun hc=>?_) (fun hc=>?_))<;>try omega)
     all_goals exact⟨i+1,[],hlt2,by show bl.length - (i+1)<bl.length - i;omega,rfl,⟨ai (by show (i:Int)+1=((i+1:Nat):Int);omega),ai Z,ay Z,af,J⟩,az 100 Z (az 101 Z (az 102 Z (az 103 Z (cr.cons 104 Z (bW (am (by rw[hnx]))) (az 105 Z .nil)))))⟩
   ·rw[List.take_of_length_le (by omega)]
    repeat' (first|refine ae ?_|refine aa ?_|refine ac (ax ?_)|refine aw (ax ?_)|refine ap (bC ?_)|refine aU ab (fun _=>?_)|(refine ao Z (fun hc=>?_) (fun hc=>?_))<;>try omega)
    all_goals
     exact aH [] [(100,_),(101,_),(102,_),(103,_),(104,_),(105,_)] (.tup [.ptr 104 b27 [] 0,.i .i64 0]) Z (aW gK (am Z) Z Z) (az 100 Z (az 101 Z (az 102 Z (az 103 Z (az 104 Z (az 105 Z .nil)))))) (hfn bj)
end Go.Proofs.YtginkbjclkdglaaGreat
