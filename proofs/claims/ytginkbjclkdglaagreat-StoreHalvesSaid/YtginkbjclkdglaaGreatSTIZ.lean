/- store.Scan and store.Get of a store in order, by rules. -/
import Derived.Test.YtginkbjclkdglaaGreatV40Z
import Derived.Test.YtginkbjclkdglaaGreatMM2Z
import Derived.Test.YtginkbjclkdglaaGreatDK9Z
set_option maxHeartbeats 16000000
set_option maxRecDepth 100000
namespace Go.Proofs.YtginkbjclkdglaaGreat
open Go Go.RowKit Mg
theorem DW{l:List aC}(h:Up l)(f t:List UInt8):(if t.length=0 then l.drop (eG l f) else (l.drop (eG l f)).take (eG (l.drop (eG l f)) t))=l.filter (bJ f t):=by
 have h1:=sA h f
 rw[h1.2]
 by_cases ht:t.length=0
 ·rw[if_pos ht]
  exact List.filter_congr (fun x _=>by unfold bJ;rw[decide_eq_true ht];simp)
 ·rw[if_neg ht,(sA (h.sublist List.filter_sublist) t).1,List.filter_filter]
  exact List.filter_congr (fun x _=>by unfold bJ;rw[decide_eq_false ht,Bool.false_or,Bool.and_comm])
def M2(S:ei)(fe:List (Fl×List aC))(fr to:List UInt8):List aC:=cU (S.mem.filter (bJ fr to)::fe.map (fun p=>p.2.filter (bJ fr to))) true
theorem yM(S:ei)(fe:List (Fl×List aC))(fr to:List UInt8):cF (S.mem.filter (bJ fr to)::fe.map (fun p=>p.2.filter (bJ fr to)))≤nE S fe:=by
 unfold cF nE cF
 rw[List.map_cons,List.sum_cons,List.map_map,List.map_map]
 have:∀l:List (Fl×List aC),(l.map (List.length∘fun p=>p.2.filter (bJ fr to))).sum≤(l.map (List.length∘fun p=>p.2)).sum:=fun l=>by
  induction l with
  |nil=>exact Nat.le_refl _
  |cons p r ih=>
   rw[List.map_cons,List.map_cons,List.sum_cons,List.sum_cons]
   have:(List.length∘fun p:Fl×List aC=>p.2.filter (bJ fr to)) p≤(List.length∘fun p:Fl×List aC=>p.2) p:=List.length_filter_le _ _
   omega
 have h1:=this fe
 have h2:=List.length_filter_le (bJ fr to) S.mem
 exact Nat.add_le_add h2 h1
theorem qh{o:eW}{S:ei}{jl:List (Nat×List (List aC))}{m:Option (List UInt8)}{fe:List (Fl×List aC)}(h:cK o S jl m fe)(fr to:List UInt8):dG (S.mem.filter (bJ fr to)::fe.map (fun p=>p.2.filter (bJ fr to))):=by
 have hu:∀l∈S.mem.filter (bJ fr to)::fe.map (fun p=>p.2.filter (bJ fr to)),Up l:=fun l hl=>by
  rcases List.mem_cons.1 hl with rfl|hl
  ·exact h.memK.1.sublist List.filter_sublist
  ·obtain⟨p,hp,rfl⟩:=List.mem_map.1 hl
   exact(h.x.tok p hp).up.sublist List.filter_sublist
 exact hu
theorem jV(B:gV)(o:eW)(S:ei)(jl:List (Nat×List (List aC)))(m:Option (List UInt8))(fe:List (Fl×List aC))(h:cK o S jl m fe)(hn:nE S fe≤250)(fr to:List UInt8):
 aQ Tryz.prog 14 [.ptr 104 B.bs [] 0,.s fr,.s to] (dY B o S) (fun r os=>r= .tup [.sl 3 ((M2 S fe fr to).map eA),.i .i64 0]∧os=dY B o S):=by
 obtain⟨hmu,hmk⟩:=h.memK
 obtain⟨hl1,hl2,hl3⟩:=h.lens hn
 have k1:=lK B.bd S.D.room S.D.fuse (.map (some B.bm)) S.D.dead
 have k1:aQ Tryz.prog 35 [.ptr 0 B.bd [] 0] [.var B.bd (cO B.bm S.D)] (fun r os=>r= .b S.D.dead∧os=[.var B.bd (cO B.bm S.D)]):=k1
 rw[h.x.vw.dead] at k1
 have hcw:=DW hmu fr to
 have k2:=qC B o S.st S.mem S.msz (by omega)
 have k3:=jd S.mem fr (by omega) (jf hmu fr)
 have hp1:=qH S.mem fr
 have hud:Up (S.mem.drop (eG S.mem fr)):=hmu.sublist (List.drop_sublist _ _)
 have k4:=jd (S.mem.drop (eG S.mem fr)) to (by rw[List.length_drop];omega) (jf hud to)
 have hp2:=qH (S.mem.drop (eG S.mem fr)) to
 generalize hP:eG S.mem fr=P at hcw k3 hp1 hud k4 hp2
 generalize hQ:eG (S.mem.drop P) to=Q at hcw k4 hp2
 rw[List.length_drop] at hp2
 have hst:iA S.st= .agg [.i .i64 S.st.next,.i .i64 S.st.log,.sl 5 (fe.map (fun p=>eF p.1))]:=by unfold iA;rw[h.fs,List.map_map];rfl
 refine aA ab [(100,.var B.bd (cO B.bm S.D)),(101,.obj B.bm (cV S.D.es S.D.clk)),(102,bL (S.D.fs.map bZ.O)),(103,eC B.bd B.bj S.now),(104,.var B.bs (dm B o S.mem S.msz S.st)),(105,io B.bt S.ts S.c)] Tryz.func14 Z Tryz.ntmps14 aN Z Z (fun C=>?_) Z
 have hSV:dm B o S.mem S.msz S.st= .agg [.ptr 0 B.bd [] 0,el o,.ptr 3 B.bj [] 0,e8 S.mem S.msz,.agg [.i .i64 S.st.next,.i .i64 S.st.log,.sl 5 (fe.map (fun p=>eF p.1))],.own 105 (.map (some B.bt))]:=by unfold dm;rw[hst]
 have hsL:dY B o S=[.var B.bd (cO B.bm S.D),.obj B.bm (cV S.D.es S.D.clk),bL (S.D.fs.map bZ.O),eC B.bd B.bj S.now,.var B.bs (dm B o S.mem S.msz S.st),io B.bt S.ts S.c]:=rfl
 rw[hsL,hSV]
 rw[hSV] at k2
 have hml:=t8 (S.mem.filter (bJ fr to)::fe.map (fun p=>p.2.filter (bJ fr to))) true (by simp only[List.length_cons,List.length_map];omega) (by
  refine Nat.le_trans (yM S fe fr to) (by omega))
 rw[pX _ true (qh h fr to)] at hml
 have hsc:M2 S fe fr to=cU (S.mem.filter (bJ fr to)::fe.map (fun p=>p.2.filter (bJ fr to))) true:=rfl
 rw[←hsc] at hml
 generalize M2 S fe fr to=R at hml ⊢
 have hmA:Md (S.mem.filter (bJ fr to)::fe.map (fun p=>p.2.filter (bJ fr to)))=[rV (S.mem.filter (bJ fr to))]++fe.map (fun p=>rV (p.2.filter (bJ fr to))):=by unfold Md;rw[List.map_cons,List.map_map];rfl
 rw[hmA] at hml
 clear hsc hmA
 rcases Nat.eq_zero_or_pos to.length with ht|ht
 case' inl=>
  rw[if_pos ht] at hcw
  have hne:=(L8 to).trans (decide_eq_false (by omega))
  repeat' (first|(exact absurd (hc.symm.trans hne) (by decide))|refine ae ?_|refine aj ?_|refine aa ?_|refine ac (ax ?_)|refine ah (ax ?_)|refine br Z ab Z Z Z (fun _=>?_)|refine aU ab (fun _=>?_)|refine aI ab Z Z Z Z Z Z Z Z Z Z Z eo (fun _=>?_)|refine aB Z ?_|(refine ba Z (fun hc=>?_) (fun hc=>?_))|refine bk [] [100] [100] Z k1 ⟨af,J⟩ Z dD Z Z ?_|refine bk [] [104] [104] Z k2 ⟨af,J⟩ Z dD Z Z ?_|(refine d5 ab Z P S.mem.length Z Z Z Z Z (cn Z Z) da hp1 (Nat.le_refl _) ?_;rw[List.take_length,hcw])|refine au Z (k3) ⟨aP,aP,J⟩ Z ?_)
 case' inr=>
  rw[if_neg (by omega)] at hcw
  have hne:=(L8 to).trans (decide_eq_true ht)
  repeat' (first|(exact absurd (hc.symm.trans hne) (by decide))|refine ae ?_|refine aj ?_|refine aa ?_|refine ac (ax ?_)|refine ah (ax ?_)|refine br Z ab Z Z Z (fun _=>?_)|refine aU ab (fun _=>?_)|refine aI ab Z Z Z Z Z Z Z Z Z Z Z eo (fun _=>?_)|refine aB Z ?_|(refine ba Z (fun hc=>?_) (fun hc=>?_))|refine bk [] [100] [100] Z k1 ⟨af,J⟩ Z dD Z Z ?_|refine bk [] [104] [104] Z k2 ⟨af,J⟩ Z dD Z Z ?_|(refine d5 ab Z P S.mem.length Z Z Z Z Z (cn Z Z) da hp1 (Nat.le_refl _) ?_;rw[List.take_length])|(refine d5 ab Z 0 Q Z Z Z Z Z da (cn Z Z) (Nat.zero_le _) (by rw[List.length_drop];omega) ?_;rw[List.drop_zero,hcw])|refine au Z (k3) ⟨aP,aP,J⟩ Z ?_|refine au Z (k4) ⟨aP,aP,J⟩ Z ?_)
 all_goals
  clear k1 k2 k3 k4 hcw hne
  refine aO (fun q:Nat×Value=>⟨70,[(43,.i .i64 q.1),(42,.i .i64 fe.length),(41,.sl 5 (fe.map (fun p=>eF p.1))),(9,.own 36 q.2),(0,.ptr 104 B.bs [] 0),(1,.s fr),(2,.s to)],[(100,.var B.bd (cO B.bm S.D)),(101,.obj B.bm (cV S.D.es S.D.clk)),(102,bL (S.D.fs.map bZ.O)),(103,eC B.bd B.bj S.now),(104,.var B.bs (.agg [.ptr 0 B.bd [] 0,el o,.ptr 3 B.bj [] 0,e8 S.mem S.msz,.agg [.i .i64 S.st.next,.i .i64 S.st.log,.sl 5 (fe.map (fun p=>eF p.1))],.own 105 (.map (some B.bt))])),(105,io B.bt S.ts S.c),(36,.row q.2 35 1 ([rV (S.mem.filter (bJ fr to))]++(fe.take q.1).map (fun p=>rV (p.2.filter (bJ fr to)))))]⟩)
   (fun q=>q.1≤fe.length) (fun q=>fe.length - q.1) [] (0,‹Value›) (Nat.zero_le _) ?_ ?_
  ·exact⟨rfl,⟨ai Z,ai (by simp),ay Z,aJ,af,aP,aP,J⟩,az 100 Z (az 101 Z (az 102 Z (az 103 Z (az 104 Z (az 105 Z (az 36 Z .nil))))))⟩
  rintro⟨k,v⟩ hk
  dsimp only at hk ⊢
  by_cases hlt:k<fe.length
  ·have hmem:=List.getElem_mem hlt
   have hrg:=xD (h.x.tok _ hmem) fr to
   have hgt:=h.x.getT hmem
   have htk:(fe.take (k+1)).map (fun p=>rV (p.2.filter (bJ fr to)))=(fe.take k).map (fun p=>rV (p.2.filter (bJ fr to)))++[rV (fe[k].2.filter (bJ fr to))]:=by
    rw[List.take_succ_eq_append_getElem hlt,List.map_append];rfl
   have hcl:((fe.take k).map (fun p=>rV (p.2.filter (bJ fr to)))).length≤1000:=by rw[List.length_map,List.length_take];omega
   generalize hcur:(fe.take k).map (fun p=>rV (p.2.filter (bJ fr to)))=cur at htk hcl ⊢
   have heF:eF fe[k].1= .agg [.i .i64 fe[k].1.num,.i .i64 fe[k].1.lev,.i .i64 fe[k].1.size,.s fe[k].1.first,.s fe[k].1.last]:=rfl
   generalize jm o.blk fe[k]=T at hrg hgt
   have hgA:rV (fe[k].2.filter (bJ fr to))= .sl 3 ((fe[k].2.filter (bJ fr to)).map eA):=rfl
   repeat' (first|refine ae ?_|refine aj ?_|refine aa ?_|refine ac (ax ?_)|refine ac (db ?_)|refine ah (ax ?_)|(refine bc Z Z Z Z ?_ ?_;omega)|refine aU ab (fun _=>?_)|refine aF (d:=11) Z ab Z Z Z (fun b11=>?_)|refine aD ab Z Z Z Z Z Z Z ⟨rfl,rfl⟩ Z Z Z Z Z ?_|(refine aK Z ab Z Z Z Z Z Z ?_ (aE ?_) ?_;omega;omega)|refine aI ab Z Z Z Z Z Z Z Z Z Z Z eo (fun _=>?_)|(refine bH ab Z Z Z Z Z Z Z Z Z (by first|exact J|exact rfl) Z Z (fun _=>rfl) ?_ ?_ (fun _=>?_);(exact dt);(exact dt))|refine aB Z ?_|(refine ao Z (fun hc=>?_) (fun hc=>?_))<;>try omega|refine cg 11 [] [] [] [0,1,2,4,7,8,3,5,6,9,10,11,12,13,14] aN aN aN Z Z Z ?_|(refine pQ ab Z Z aN Z Z Z hgt Z ?_)|refine au Z (hrg) ⟨aP,aP,aP,J⟩ Z ?_)
   all_goals exact⟨(k+1,_),[],hlt,by show fe.length - (k+1)<fe.length - k;omega,rfl,⟨ai (by show (k:Int)+1=((k+1:Nat):Int);omega),ai Z,ay Z,aJ,af,aP,aP,J⟩,az 100 Z (az 101 Z (az 102 Z (az 103 Z (az 104 Z (az 105 Z (cr.cons 36 Z (by rw[htk,←List.append_assoc];exact ak _) .nil))))))⟩
  ·rw[List.take_of_length_le (by omega)]
   repeat' (first|refine ae ?_|refine aa ?_|refine ac (ax ?_)|refine aw (ax ?_)|refine ap (bC ?_)|refine aU ab (fun _=>?_)|(refine ao Z (fun hc=>?_) (fun hc=>?_))<;>try omega|(refine bx [36] [] [] Z hml ⟨bu (bP (.head _)) Z,aP,J⟩ Z J Z Z ?_;rintro _ _ ⟨rfl,rfl⟩;refine⟨_,rfl,rfl,?_⟩))
   all_goals
    exact aH [] [(100,_),(101,_),(102,_),(103,_),(104,_),(105,_)] (.tup [.sl 3 (R.map eA),.i .i64 0]) Z (aW (am Z) (am Z) Z Z) (az 100 Z (az 101 Z (az 102 Z (az 103 Z (az 104 Z (az 105 Z .nil)))))) ⟨rfl,rfl⟩
theorem He{blk:Int}{p:Fl×List aC}(h:GO blk p)(k:List UInt8):aQ Tryz.prog 41 [.cp (iY (jm blk p)),.s k] [] (fun v os=>v= .tup [eA ((eS p.2 k).getD iB),.b (eS p.2 k).isSome,.i .i64 0]∧os=[]):=by
 have h1:=h.made
 have h2:=CG (pe h1.1 h.few h1.2).1 k
 have h3:oQ (pf p.2 (grp blk p.2 [] 0) (mt p.2 blk).1) (grp blk p.2 [] 0) k=((eS p.2 k).getD iB,(eS p.2 k).isSome):=by
  cases hl:eS p.2 k with
  |none=>
   unfold oQ
   split
   ·rw[qx (grp blk p.2 [] 0) [] k (pW h1.1) h1.1.chn,h1.1.flat,hl]
   ·rfl
  |some x=>
   have hl':List.find? (fun x=>x.k==k) p.2=some x:=hl
   have hx:=List.mem_of_find?_eq_some hl'
   have hk:x.k=k:=eq_of_beq (List.find?_some (p:=fun x:aC=>x.k==k) hl')
   obtain⟨i,hi,rfl⟩:=List.getElem_of_mem hx
   subst hk
   exact JP h1.1 i hi
 have h4:jm blk p=pf p.2 (grp blk p.2 [] 0) (mt p.2 blk).1:=rfl
 rw[h3,←h4] at h2
 exact h2
theorem H4{l:List aC}(h:Up l){k:List UInt8}(hk:Op.bytesLess k (qo l)=true∨Op.bytesLess (np l) k=true):eS l k=none:=by
 refine nq (fun x hx he=>?_)
 obtain⟨i,hi,rfl⟩:=List.getElem_of_mem hx
 have hp:0<l.length:=by omega
 have h1:qo l=l[0].k:=by unfold qo;rw[List.getElem?_eq_getElem hp];rfl
 have h2:np l=(l[l.length - 1]'(by omega)).k:=by unfold np;rw[List.getElem?_eq_getElem (by omega)];rfl
 rw[h1,h2,←he] at hk
 have hu:=List.pairwise_iff_getElem.1 h
 rcases hk with hk|hk
 ·rcases Nat.eq_zero_or_pos i with rfl|h0
  ·rw[cW] at hk;cases hk
  ·rw[du (hu 0 i hp hi h0)] at hk;cases hk
 ·rcases Nat.lt_or_ge i (l.length - 1) with h0|h0
  ·rw[du (hu i (l.length - 1) hi (by omega) h0)] at hk;cases hk
  ·have:i=l.length - 1:=by omega
   subst this
   rw[cW] at hk;cases hk
theorem Oh{a b:List UInt8}(h:(!(Op.bytesLess a b||a==b))=true):Op.bytesLess b a=true:=by
 rcases gt a b with h1|h1|h1
 ·rw[h1] at h;cases h
 ·rw[h1,beq_self_eq_true,Bool.or_true] at h;cases h
 ·exact h1
def BE(fe:List (Fl×List aC))(k:List UInt8):Option aC:=fe.findSome? (fun p=>eS p.2 k)
theorem tu(B:gV)(o:eW)(S:ei)(jl:List (Nat×List (List aC)))(m:Option (List UInt8))(fe:List (Fl×List aC))(h:cK o S jl m fe)(hn:nE S fe≤250)(key:List UInt8):
 aQ Tryz.prog 15 [.ptr 104 B.bs [] 0,.s key] (dY B o S) (fun r os=>r= .tup [.s (((eS S.mem key).or (BE fe key)).getD iB).v,.b (((eS S.mem key).or (BE fe key)).isSome&&!(((eS S.mem key).or (BE fe key)).getD iB).g),.i .i64 0]∧os=dY B o S):=by
 obtain⟨hmu,hmk⟩:=h.memK
 obtain⟨hl1,hl2,hl3⟩:=h.lens hn
 have k1:=lK B.bd S.D.room S.D.fuse (.map (some B.bm)) S.D.dead
 have k1:aQ Tryz.prog 35 [.ptr 0 B.bd [] 0] [.var B.bd (cO B.bm S.D)] (fun r os=>r= .b S.D.dead∧os=[.var B.bd (cO B.bm S.D)]):=k1
 rw[h.x.vw.dead] at k1
 have k2:=FG B o S.st S.mem S.msz key (by omega) hmu
 rw[yY hmu,BL hmu key] at k2
 have hst:iA S.st= .agg [.i .i64 S.st.next,.i .i64 S.st.log,.sl 5 (fe.map (fun p=>eF p.1))]:=by unfold iA;rw[h.fs,List.map_map];rfl
 refine aA ab [(100,.var B.bd (cO B.bm S.D)),(101,.obj B.bm (cV S.D.es S.D.clk)),(102,bL (S.D.fs.map bZ.O)),(103,eC B.bd B.bj S.now),(104,.var B.bs (dm B o S.mem S.msz S.st)),(105,io B.bt S.ts S.c)] Tryz.func15 Z Tryz.ntmps15 aN Z Z (fun C=>?_) Z
 have hSV:dm B o S.mem S.msz S.st= .agg [.ptr 0 B.bd [] 0,el o,.ptr 3 B.bj [] 0,e8 S.mem S.msz,.agg [.i .i64 S.st.next,.i .i64 S.st.log,.sl 5 (fe.map (fun p=>eF p.1))],.own 105 (.map (some B.bt))]:=by unfold dm;rw[hst]
 have hsL:dY B o S=[.var B.bd (cO B.bm S.D),.obj B.bm (cV S.D.es S.D.clk),bL (S.D.fs.map bZ.O),eC B.bd B.bj S.now,.var B.bs (dm B o S.mem S.msz S.st),io B.bt S.ts S.c]:=rfl
 rw[hsL,hSV]
 rw[hSV] at k2
 generalize hlm:eS S.mem key=lm at k2 ⊢
 cases lm with
 |some x=>
  have hR:(some x).or (BE fe key)=some x:=rfl
  rw[hR]
  have hx:(some x).getD iB=x:=rfl
  rw[hx] at k2 ⊢
  have k2:=k2
  unfold eA at k2
  repeat' (first|refine ae ?_|refine aa ?_|refine ac (ax ?_)|refine ah (ax ?_)|refine ap (bC ?_)|refine aU ab (fun _=>?_)|refine aF (d:=7) Z ab Z Z Z (fun b7=>?_)|refine aD ab Z Z Z Z Z Z Z ⟨rfl,rfl⟩ Z Z Z Z Z ?_|refine aR Z ?_|refine aB Z ?_|refine cg 5 [] [] [] [0,2,1,5,3,4,6,7] aN aN aN Z Z Z ?_|refine bk [] [100] [100] Z k1 ⟨af,J⟩ Z dD Z Z ?_|refine bk [] [104] [104] Z k2 ⟨af,aP,J⟩ Z dD Z Z ?_)
  all_goals
   exact aH [] [(100,_),(101,_),(102,_),(103,_),(104,_),(105,_)] (.tup [.s x.v,.b (true&&!x.g),.i .i64 0]) Z (dI (am Z) (am Z) (am Z) Z Z Z) (az 100 Z (az 101 Z (az 102 Z (az 103 Z (az 104 Z (az 105 Z .nil)))))) ⟨rfl,rfl⟩
 |none=>
  have hR:(none:Option aC).or (BE fe key)=BE fe key:=rfl
  rw[hR]
  have hx:(none:Option aC).getD iB=iB:=rfl
  rw[hx] at k2
  obtain⟨R,hRd⟩:∃R,R=BE fe key:=⟨_,rfl⟩
  rw[←hRd]
  unfold eA iB at k2
  repeat' (first|refine ae ?_|refine aj ?_|refine aa ?_|refine ac (ax ?_)|refine ah (ax ?_)|refine br Z ab Z Z Z (fun _=>?_)|refine aU ab (fun _=>?_)|refine aF (d:=7) Z ab Z Z Z (fun b7=>?_)|refine aD ab Z Z Z Z Z Z Z ⟨rfl,rfl⟩ Z Z Z Z Z ?_|refine aB Z ?_|refine bk [] [100] [100] Z k1 ⟨af,J⟩ Z dD Z Z ?_|refine bk [] [104] [104] Z k2 ⟨af,aP,J⟩ Z dD Z Z ?_)
  clear k1 k2
  refine aO (fun k:Nat=>⟨76,[(39,.i .i64 k),(38,.i .i64 fe.length),(37,.sl 5 (fe.map (fun p=>eF p.1))),(0,.ptr 104 B.bs [] 0),(1,.s key)],[(100,.var B.bd (cO B.bm S.D)),(101,.obj B.bm (cV S.D.es S.D.clk)),(102,bL (S.D.fs.map bZ.O)),(103,eC B.bd B.bj S.now),(104,.var B.bs (.agg [.ptr 0 B.bd [] 0,el o,.ptr 3 B.bj [] 0,e8 S.mem S.msz,.agg [.i .i64 S.st.next,.i .i64 S.st.log,.sl 5 (fe.map (fun p=>eF p.1))],.own 105 (.map (some B.bt))])),(105,io B.bt S.ts S.c)]⟩)
   (fun k=>k≤fe.length∧BE (fe.drop k) key=R) (fun k=>fe.length - k) [] 0 ⟨Nat.zero_le _,hRd.symm⟩ ?_ ?_
  ·exact⟨rfl,⟨ai Z,ai (by simp),ay Z,af,aP,J⟩,az 100 Z (az 101 Z (az 102 Z (az 103 Z (az 104 Z (az 105 Z .nil)))))⟩
  rintro k ⟨hk,hst⟩
  by_cases hlt:k<fe.length
  ·have hmem:=List.getElem_mem hlt
   have htok:=h.x.tok _ hmem
   have hgk:=He htok key
   have hgt:=h.x.getT hmem
   have hlo:=H4 htok.up (k:=key)
   rw[htok.fst,htok.lst] at hlo
   have hgs:BE (fe.drop k) key=(eS fe[k].2 key).or (BE (fe.drop (k+1)) key):=by
    rw[List.drop_eq_getElem_cons hlt];unfold BE;rw[List.findSome?_cons];cases eS fe[k].2 key<;>rfl
   rw[hgs] at hst
   have heF:eF fe[k].1= .agg [.i .i64 fe[k].1.num,.i .i64 fe[k].1.lev,.i .i64 fe[k].1.size,.s fe[k].1.first,.s fe[k].1.last]:=rfl
   generalize jm o.blk fe[k]=T at hgk hgt
   generalize eS fe[k].2 key=lk at hgk hst hlo
   cases lk with
   |none=>
    have hst:BE (fe.drop (k+1)) key=R:=hst
    unfold eA at hgk
    repeat' (first|refine ae ?_|refine aj ?_|refine aa ?_|refine ac (ax ?_)|refine ac (db ?_)|refine ah (ax ?_)|refine aw (ax ?_)|refine nj Z Z Z ?_|(refine bc Z Z Z Z ?_ ?_;omega)|refine aU ab (fun _=>?_)|refine aF (d:=10) Z ab Z Z Z (fun b10=>?_)|refine aF (d:=11) Z ab Z Z Z (fun b11=>?_)|refine aD ab Z Z Z Z Z Z Z ⟨rfl,rfl⟩ Z Z Z Z Z ?_|(refine aK Z ab Z Z Z Z Z Z ?_ (aE ?_) ?_;omega;omega)|(fail_if_success (refine aM Z cM ?_));(refine dM Z Z (fun hc=>?_) (fun hc=>?_))|refine aR Z ?_|refine aB Z ?_|(refine ao Z (fun hc=>?_) (fun hc=>?_))<;>try omega|(refine ba Z (fun hc=>?_) (fun hc=>?_))|(refine ac ?_;show gO _ _ _ _ _ _ _ _ _ _)|refine kv 10 [11] [57,59] [11] aN aN (n:=17) (listed:=[O9,O9,O9,O9,O9,O9,O9,O9,O9,O9,O9,O9,O9,O9,O9,O9,O9].toArray) Z aN ?_|refine dh (n:=17) (listed:=[O9,O9,O9,O9,O9,O9,O9,O9,O9,O9,O9,O9,O9,O9,O9,O9,O9].toArray) [0,1,2,4,7,3,5] 10 [O8,O8,O8,O8,O8,O8,O9,O8,O9,O9,O9,O9,O9,O9,O9,O9,O9] aN Z Z Z aN ?_|refine lO (n:=10) (listed:=[O8,O8,O8,O8,O8,O8,O9,O8,O9,O9,O9,O9,O9,O9,O9,O9,O9].toArray) 6 13 [O8,O8,O8,O8,O8,O8,O8,O8,O9,O9,O9,O9,O9,O9,O9,O9,O9] [O8,O8,O8,O8,O8,O8,O9,O8,O9,O9,O9,O9,O9,O8,O9,O9,O9] Z aN Z Z aN aN ?_ ?_|refine lO (n:=9) (listed:=[O8,O8,O8,O8,O8,O8,O8,O8,O9,O9,O9,O9,O9,O9,O9,O9,O9].toArray) 8 13 [O8,O8,O8,O8,O8,O8,O8,O8,O8,O9,O9,O9,O9,O9,O9,O9,O9] [O8,O8,O8,O8,O8,O8,O8,O8,O9,O9,O9,O9,O9,O8,O9,O9,O9] Z aN Z Z aN aN ?_ ?_|refine dh (n:=8) (listed:=[O8,O8,O8,O8,O8,O8,O8,O8,O8,O9,O9,O9,O9,O9,O9,O9,O9].toArray) [9,10,11,12,13,14,15,16] 0 [O8,O8,O8,O8,O8,O8,O8,O8,O8,O8,O8,O8,O8,O8,O8,O8,O8] aN Z Z Z aN ?_|refine na (n:=0) (listed:=[O8,O8,O8,O8,O8,O8,O8,O8,O8,O8,O8,O8,O8,O8,O8,O8,O8].toArray) aN ?_|refine dh (n:=8) (listed:=[O8,O8,O8,O8,O8,O8,O8,O8,O9,O9,O9,O9,O9,O8,O9,O9,O9].toArray) [8,9,10,11,12,14,15,16] 0 [O8,O8,O8,O8,O8,O8,O8,O8,O8,O8,O8,O8,O8,O8,O8,O8,O8] aN Z Z Z aN ?_|refine dh (n:=9) (listed:=[O8,O8,O8,O8,O8,O8,O9,O8,O9,O9,O9,O9,O9,O8,O9,O9,O9].toArray) [6,8,9,10,11,12,14,15,16] 0 [O8,O8,O8,O8,O8,O8,O8,O8,O8,O8,O8,O8,O8,O8,O8,O8,O8] aN Z Z Z aN ?_|(refine pQ ab Z Z aN Z Z Z hgt Z ?_)|refine au Z (hgk) ⟨aP,aP,J⟩ Z ?_)
    all_goals exact⟨k+1,[],⟨hlt,hst⟩,by show fe.length - (k+1)<fe.length - k;omega,rfl,⟨ai (by show (k:Int)+1=((k+1:Nat):Int);omega),ai Z,ay Z,af,aP,J⟩,az 100 Z (az 101 Z (az 102 Z (az 103 Z (az 104 Z (az 105 Z .nil)))))⟩
   |some x=>
    have hst:some x=R:=hst
    subst hst
    unfold eA at hgk
    repeat' (first|(exact absurd (hlo (.inr (Oh hc))) (by simp))|(exact absurd (hlo (.inl hc)) (by simp))|refine ae ?_|refine aj ?_|refine aa ?_|refine ac (ax ?_)|refine ah (ax ?_)|refine ap (bC ?_)|refine aU ab (fun _=>?_)|refine aF (d:=10) Z ab Z Z Z (fun b10=>?_)|refine aF (d:=11) Z ab Z Z Z (fun b11=>?_)|refine aD ab Z Z Z Z Z Z Z ⟨rfl,rfl⟩ Z Z Z Z Z ?_|(refine aK Z ab Z Z Z Z Z Z ?_ (aE ?_) ?_;omega;omega)|(fail_if_success (refine aM Z cM ?_));(refine dM Z Z (fun hc=>?_) (fun hc=>?_))|refine aR Z ?_|refine aB Z ?_|(refine ao Z (fun hc=>?_) (fun hc=>?_))<;>try omega|(refine ba Z (fun hc=>?_) (fun hc=>?_))|(refine ac ?_;show gO _ _ _ _ _ _ _ _ _ _)|refine kv 10 [11] [57,59] [11] aN aN (n:=17) (listed:=[O9,O9,O9,O9,O9,O9,O9,O9,O9,O9,O9,O9,O9,O9,O9,O9,O9].toArray) Z aN ?_|refine dh (n:=17) (listed:=[O9,O9,O9,O9,O9,O9,O9,O9,O9,O9,O9,O9,O9,O9,O9,O9,O9].toArray) [0,1,2,4,7,3,5] 10 [O8,O8,O8,O8,O8,O8,O9,O8,O9,O9,O9,O9,O9,O9,O9,O9,O9] aN Z Z Z aN ?_|refine lO (n:=10) (listed:=[O8,O8,O8,O8,O8,O8,O9,O8,O9,O9,O9,O9,O9,O9,O9,O9,O9].toArray) 6 13 [O8,O8,O8,O8,O8,O8,O8,O8,O9,O9,O9,O9,O9,O9,O9,O9,O9] [O8,O8,O8,O8,O8,O8,O9,O8,O9,O9,O9,O9,O9,O8,O9,O9,O9] Z aN Z Z aN aN ?_ ?_|refine lO (n:=9) (listed:=[O8,O8,O8,O8,O8,O8,O8,O8,O9,O9,O9,O9,O9,O9,O9,O9,O9].toArray) 8 13 [O8,O8,O8,O8,O8,O8,O8,O8,O8,O9,O9,O9,O9,O9,O9,O9,O9] [O8,O8,O8,O8,O8,O8,O8,O8,O9,O9,O9,O9,O9,O8,O9,O9,O9] Z aN Z Z aN aN ?_ ?_|refine dh (n:=8) (listed:=[O8,O8,O8,O8,O8,O8,O8,O8,O8,O9,O9,O9,O9,O9,O9,O9,O9].toArray) [9,10,11,12,13,14,15,16] 0 [O8,O8,O8,O8,O8,O8,O8,O8,O8,O8,O8,O8,O8,O8,O8,O8,O8] aN Z Z Z aN ?_|refine na (n:=0) (listed:=[O8,O8,O8,O8,O8,O8,O8,O8,O8,O8,O8,O8,O8,O8,O8,O8,O8].toArray) aN ?_|refine dh (n:=8) (listed:=[O8,O8,O8,O8,O8,O8,O8,O8,O9,O9,O9,O9,O9,O8,O9,O9,O9].toArray) [8,9,10,11,12,14,15,16] 0 [O8,O8,O8,O8,O8,O8,O8,O8,O8,O8,O8,O8,O8,O8,O8,O8,O8] aN Z Z Z aN ?_|refine dh (n:=9) (listed:=[O8,O8,O8,O8,O8,O8,O9,O8,O9,O9,O9,O9,O9,O8,O9,O9,O9].toArray) [6,8,9,10,11,12,14,15,16] 0 [O8,O8,O8,O8,O8,O8,O8,O8,O8,O8,O8,O8,O8,O8,O8,O8,O8] aN Z Z Z aN ?_|refine cg 14 [] [] [] [0,2,1,5,3,4,6,7] aN aN aN Z Z Z ?_|(refine pQ ab Z Z aN Z Z Z hgt Z ?_)|refine au Z (hgk) ⟨aP,aP,J⟩ Z ?_)
    all_goals
     exact aH [] [(100,_),(101,_),(102,_),(103,_),(104,_),(105,_)] (.tup [.s x.v,.b (true&&!x.g),.i .i64 0]) Z (dI (am Z) (am Z) (am Z) Z Z Z) (az 100 Z (az 101 Z (az 102 Z (az 103 Z (az 104 Z (az 105 Z .nil)))))) ⟨rfl,rfl⟩
  ·rw[List.drop_eq_nil_of_le (by omega)] at hst
   have hst:none=R:=hst
   subst hst
   repeat' (first|refine ae ?_|refine aa ?_|refine ac (ax ?_)|refine aw (ax ?_)|refine ap (bC ?_)|refine aU ab (fun _=>?_)|(refine ao Z (fun hc=>?_) (fun hc=>?_))<;>try omega)
   all_goals
    exact aH [] [(100,_),(101,_),(102,_),(103,_),(104,_),(105,_)] (.tup [.s [],.b (false&&true),.i .i64 0]) Z (dI (am Z) (am Z) (am Z) Z Z Z) (az 100 Z (az 101 Z (az 102 Z (az 103 Z (az 104 Z (az 105 Z .nil)))))) ⟨rfl,rfl⟩
end Go.Proofs.YtginkbjclkdglaaGreat
