/- store.State of a store, by rules. -/
import Derived.Test.YtginkbjclkdglaaGreatMM2Z
import Derived.Test.YtginkbjclkdglaaGreatSN5Z
set_option maxHeartbeats 16000000
set_option maxRecDepth 100000
namespace Go.Proofs.YtginkbjclkdglaaGreat
open Go Go.RowKit Mg
theorem IZ(xs:List AV)(hl:xs.length≤1000000):aQ Tryz.prog 55 [.sl 5 xs] [] (fun r os=>r= .sl 5 xs∧os=[]):=by
 refine aA ab [] Tryz.func55 Z Tryz.ntmps55 aN Z Z (fun C=>?_) Z
 repeat' (first|refine ae ?_|refine aa ?_|refine ac (ax ?_)|refine ac (db ?_)|refine ac (bC ?_)|refine ah (ax ?_)|refine ah (bC ?_)|refine ah (db ?_)|refine ap (bC ?_)|refine aU ab (fun _=>?_)|refine aI ab Z Z Z Z Z Z Z Z Z Z Z eo (fun _=>?_)|(refine bH ab Z Z Z Z Z Z Z Z Z (by first|exact J|exact rfl) Z Z (fun _=>rfl) ?_ ?_ (fun _=>?_);(exact dt);(exact dt))|(refine jg ab Z Z Z Z Z Z Z Z Z (fun _=>rfl) ?_ (fun _=>?_);(exact dt))|refine fQ ab Z Z Z Z Z ?_|refine pd ab Z Z Z Z Z Z aN ?_|refine aR Z ?_|refine aB Z ?_|(refine ao Z (fun hc=>?_) (fun hc=>?_))<;>try omega|(refine fk Z (fun hc=>?_) (fun hc=>?_))<;>try omega|(refine bF Z (fun hc=>?_) (fun hc=>?_))<;>try omega|(refine ba Z (fun hc=>?_) (fun hc=>?_))|(refine pR ab Z Z Z Z Z (fun c hc0=>?_)))
 ·have:=hc0 hc
  rw[this]
  exact bp Z Z Z [] [] cQ .nil ⟨rfl,rfl⟩ _ (.inl Z)
 ·refine bp Z Z Z [5] [] (bP ?_) .nil ⟨rfl,rfl⟩ _ (.inl Z)
  exact .head _
theorem CN(B:gV)(o:eW)(S:ei)(hl:S.st.fs.length≤1000):
 aQ Tryz.prog 21 [.ptr 104 B.bs [] 0] (dY B o S) (fun r os=>r=iA S.st∧os=dY B o S):=by
 have k1:=IZ (S.st.fs.map eF) (by rw[List.length_map];omega)
 have hsL:dY B o S=[.var B.bd (cO B.bm S.D),.obj B.bm (cV S.D.es S.D.clk),bL (S.D.fs.map bZ.O),eC B.bd B.bj S.now,.var B.bs (.agg [.ptr 0 B.bd [] 0,el o,.ptr 3 B.bj [] 0,e8 S.mem S.msz,.agg [.i .i64 S.st.next,.i .i64 S.st.log,.sl 5 (S.st.fs.map eF)],.own 105 (.map (some B.bt))]),io B.bt S.ts S.c]:=rfl
 rw[hsL]
 refine aA ab [(100,.var B.bd (cO B.bm S.D)),(101,.obj B.bm (cV S.D.es S.D.clk)),(102,bL (S.D.fs.map bZ.O)),(103,eC B.bd B.bj S.now),(104,.var B.bs (.agg [.ptr 0 B.bd [] 0,el o,.ptr 3 B.bj [] 0,e8 S.mem S.msz,.agg [.i .i64 S.st.next,.i .i64 S.st.log,.sl 5 (S.st.fs.map eF)],.own 105 (.map (some B.bt))])),(105,io B.bt S.ts S.c)] Tryz.func21 Z Tryz.ntmps21 aN Z Z (fun C=>?_) Z
 repeat' (first|refine ae ?_|refine aa ?_|refine ac (ax ?_)|refine ac (db ?_)|refine ac (bC ?_)|refine ap (bC ?_)|refine aU ab (fun _=>?_)|refine aF (d:=2) Z ab Z Z Z (fun b2=>?_)|refine aF (d:=3) Z ab Z Z Z (fun b3=>?_)|refine aD ab Z Z Z Z Z Z Z ⟨rfl,rfl⟩ Z Z Z Z Z ?_|refine au Z (k1) ⟨aP,J⟩ Z ?_)
 all_goals
  exact aH [] [(100,_),(101,_),(102,_),(103,_),(104,_),(105,_)] (iA S.st) Z (bX (am Z) Z) (az 100 Z (az 101 Z (az 102 Z (az 103 Z (az 104 Z (az 105 Z .nil)))))) ⟨rfl,rfl⟩
end Go.Proofs.YtginkbjclkdglaaGreat
