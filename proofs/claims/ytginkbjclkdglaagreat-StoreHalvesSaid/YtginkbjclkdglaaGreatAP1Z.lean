/- level.Apply by rules. -/
import Derived.Test.YtginkbjclkdglaaGreatSO6Z
import Derived.Test.YtginkbjclkdglaaGreatL6Z
import Derived.Test.YtginkbjclkdglaaGreatL3Z
import Derived.Test.YtginkbjclkdglaaGreatL13Z
import Derived.Test.YtginkbjclkdglaaGreatST9Z
import Derived.Test.YtginkbjclkdglaaGreatIN2Z
set_option maxHeartbeats 16000000
set_option maxRecDepth 100000
namespace Go.Proofs.YtginkbjclkdglaaGreat
open Go Go.RowKit
theorem uU:WO (eu jK):=by
 have key:∀x y,eu jK x y=dv x y:=fun x y=>by
  unfold eu
  cases h:dv x y with
  |true=>exact decide_eq_true ((l4 x y).2 h)
  |false=>exact decide_eq_false (fun n=>by rw[(l4 x y).1 n] at h;cases h)
 have e:eu jK=dv:=funext fun x=>funext fun y=>key x y
 rw[e]
 have lv:∀x y:Fl,x.lev≠y.lev→dv x y=decide (x.lev<y.lev):=fun x y h=>by unfold dv;rw[if_pos h]
 have l0:∀x y:Fl,x.lev=y.lev→x.lev=0→dv x y=decide (y.num<x.num):=fun x y h h0=>by unfold dv;rw[if_neg (fun n=>n h),if_pos h0]
 have ls:∀x y:Fl,x.lev=y.lev→x.lev≠0→dv x y=Op.bytesLess x.first y.first:=fun x y h h0=>by unfold dv;rw[if_neg (fun n=>n h),if_neg h0]
 refine⟨fun x=>?_,fun x y h=>?_,fun x y z h k=>?_,fun x y z h k=>?_⟩
 ·by_cases h0:x.lev=0
  ·rw[l0 x x Z h0];simp
  ·rw[ls x x Z h0,cW]
 ·by_cases hl:x.lev=y.lev
  ·by_cases h0:x.lev=0
   ·rw[l0 x y hl h0] at h
    rw[l0 y x hl.symm (hl▸h0)]
    have:=of_decide_eq_true h
    exact decide_eq_false (by omega)
   ·rw[ls x y hl h0] at h
    rw[ls y x hl.symm (hl▸h0)]
    exact du h
  ·rw[lv x y hl] at h
   rw[lv y x (Ne.symm hl)]
   have:=of_decide_eq_true h
   exact decide_eq_false (by omega)
 ·by_cases hl:x.lev=y.lev<;>by_cases hk:y.lev=z.lev
  ·by_cases h0:x.lev=0
   ·rw[l0 x y hl h0] at h
    rw[l0 y z hk (hl▸h0)] at k
    rw[l0 x z (hl.trans hk) h0]
    have:=of_decide_eq_true h
    have:=of_decide_eq_true k
    exact decide_eq_true (by omega)
   ·rw[ls x y hl h0] at h
    rw[ls y z hk (hl▸h0)] at k
    rw[ls x z (hl.trans hk) h0]
    exact dZ h k
  ·rw[lv y z hk] at k
   have:=of_decide_eq_true k
   rw[lv x z (by omega)]
   exact decide_eq_true (by omega)
  ·rw[lv x y hl] at h
   have:=of_decide_eq_true h
   rw[lv x z (by omega)]
   exact decide_eq_true (by omega)
  ·rw[lv x y hl] at h
   rw[lv y z hk] at k
   have:=of_decide_eq_true h
   have:=of_decide_eq_true k
   rw[lv x z (by omega)]
   exact decide_eq_true (by omega)
 ·by_cases hl:x.lev=y.lev<;>by_cases hk:y.lev=z.lev
  ·by_cases h0:x.lev=0
   ·rw[l0 x y hl h0] at h
    rw[l0 y z hk (hl▸h0)] at k
    rw[l0 x z (hl.trans hk) h0]
    have:=of_decide_eq_false h
    have:=of_decide_eq_false k
    exact decide_eq_false (by omega)
   ·rw[ls x y hl h0] at h
    rw[ls y z hk (hl▸h0)] at k
    rw[ls x z (hl.trans hk) h0]
    cases hx:Op.bytesLess x.first z.first with
    |false=>rfl
    |true=>rw[zm hx k] at h;cases h
  ·rw[lv y z hk] at k
   have:=of_decide_eq_false k
   rw[lv x z (by omega)]
   exact decide_eq_false (by omega)
  ·rw[lv x y hl] at h
   have:=of_decide_eq_false h
   rw[lv x z (by omega)]
   exact decide_eq_false (by omega)
  ·rw[lv x y hl] at h
   rw[lv y z hk] at k
   have:=of_decide_eq_false h
   have:=of_decide_eq_false k
   rw[lv x z (by omega)]
   exact decide_eq_false (by omega)
def iR(l:List Fl)(gone:List Int):List Fl:=l.filter (fun f=>!gone.contains f.num)
def BC(l:List Fl)(n:Int):Bool:=l.any (fun f=>f.num==n)
def wM(f:Fl):Prop:=f.num<0∨1073741824≤f.num
instance (f:Fl):Decidable (wM f):=by unfold wM;infer_instance
def iO(n:Int)(l:List Fl):Int:=l.foldl (fun a f=>if f.num+1>a then f.num+1 else a) n
def Ep:iH:=⟨0,0,[]⟩
theorem se{fr:Fr}:aL fr (.agg [.i .i64 0,.i .i64 0,.nil]) (iA Ep):=bS (.cons (av _) (.cons (av _) (.cons cQ .nil)))
def mV(s:iH)(gone:List Int)(fresh:List Fl)(log:Int):iH:=⟨iO s.next fresh,log,cE (eu jK) (iR s.fs gone++fresh)⟩
def ox(s:iH)(gone:List Int)(fresh:List Fl)(log:Int):iH×Int:=
 if bT s≠0 then (Ep,bT s) else if ¬ (∀n∈gone,BC s.fs n=true) then (Ep,7) else if∃f∈fresh,wM f then (Ep,1)
 else if bT (mV s gone fresh log)≠0 then (Ep,bT (mV s gone fresh log)) else (mV s gone fresh log,0)
theorem Dw(l:List Fl)(gone:List Int)(i:Nat)(h:i<l.length):iR (l.take (i+1)) gone=if gone.contains l[i].num=true then iR (l.take i) gone else iR (l.take i) gone++[l[i]]:=by
 unfold iR
 rw[List.take_succ_eq_append_getElem h,List.filter_append,List.filter_cons,List.filter_nil]
 cases hc:gone.contains l[i].num with
 |true=>rw[if_neg (by decide),if_pos Z,List.append_nil]
 |false=>rw[if_pos (by decide),if_neg (by decide)]
theorem yh(l:List Fl)(gone:List Int):(iR l gone).length≤l.length:=List.length_filter_le _ _
theorem Dg(n:Int)(l:List Fl)(i:Nat)(h:i<l.length):iO n (l.take (i+1))=if l[i].num+1>iO n (l.take i) then l[i].num+1 else iO n (l.take i):=by
 unfold iO;rw[List.take_succ_eq_append_getElem h,List.foldl_append];rfl
theorem Cm(x:Fl)(n:Int):aQ Tryz.prog 136 [eF x,.cp (.i .i64 n)] [] (fun v os=>v= .b (x.num==n)∧os=[]):=by
 refine aA ab [] Tryz.func136 Z Tryz.ntmps136 aN Z Z (fun C=>?_) Z
 unfold eF
 repeat' (first|refine ae ?_|refine aa ?_|refine ac (ax ?_)|refine ap (bC ?_)|refine aU ab (fun _=>?_)|refine c9 Z Z Z Z (fun _=>?_))
 exact jh
theorem Ej(s:iH)(gone:List Int)(fresh:List Fl)(log:Int)(hl:s.fs.length≤1000)(hg:gone.length≤1000)(hf:fresh.length≤1000):
 aQ Tryz.prog 96 [iA s,.sl 1 (gone.map (AV.i .i64)),.sl 5 (fresh.map eF),.i .i64 log] [] (fun v os=>v= .tup [iA (ox s gone fresh log).1,.i .i64 (ox s gone fresh log).2]∧os=[]):=by
 refine aA ab [] Tryz.func96 Z Tryz.ntmps96 aN Z Z (fun C=>?_) Z
 have hck:=jk s
 have hap:ox s gone fresh log=if bT s≠0 then (Ep,bT s) else if ¬ (∀n∈gone,BC s.fs n=true) then (Ep,7) else if∃f∈fresh,wM f then (Ep,1)
  else if bT (mV s gone fresh log)≠0 then (Ep,bT (mV s gone fresh log)) else (mV s gone fresh log,0):=rfl
 generalize ox s gone fresh log=r at hap ⊢
 unfold iA at*
 by_cases h0:bT s≠0
 ·rw[if_pos h0] at hap
  generalize bT s=c at hck hap h0
  subst hap
  repeat' (first|refine ae ?_|refine aa ?_|refine ac (ax ?_)|refine ap (bC ?_)|refine aU ab (fun _=>?_)|refine aF (d:=8) Z ab Z Z Z (fun b8=>?_)|refine c9 (d:=4) Z Z Z Z (fun b4=>?_)|refine aD ab Z Z Z Z Z Z Z ⟨rfl,rfl⟩ Z Z Z Z Z ?_|refine cd ab Z Z Z Z Z Z eo ?_|(refine bF Z (fun hc=>?_) (fun hc=>?_))<;>try omega|refine au Z (hck) ⟨aP,J⟩ Z ?_)
  refine cS [] [] (.tup [iA Ep,.i .i64 c]) Z ?_ ?_ (aW se (am Z) Z Z) .nil ⟨rfl,rfl⟩ _ (.inl Z)
  all_goals first|exact⟨trivial,trivial⟩|trivial|exact⟨trivial,trivial,trivial⟩|(repeat' (first|exact J|exact rfl|refine⟨?_,?_⟩))
 rw[if_neg h0] at hap
 have h0:bT s=0:=Classical.byContradiction h0
 rw[h0] at hck
 repeat' (first|refine ae ?_|refine aj ?_|refine aa ?_|refine ac (ax ?_)|refine ah (ax ?_)|refine br Z ab Z Z Z (fun _=>?_)|refine aU ab (fun _=>?_)|refine aF (d:=8) Z ab Z Z Z (fun b8=>?_)|refine aF (d:=11) Z ab Z Z Z (fun b11=>?_)|refine c9 (d:=4) Z Z Z Z (fun b4=>?_)|refine aD ab Z Z Z Z Z Z Z ⟨rfl,rfl⟩ Z Z Z Z Z ?_|refine cd ab Z Z Z Z Z Z eo ?_|refine aB Z ?_|refine au Z (hck) ⟨aP,J⟩ Z ?_)
 refine aO (fun q:Nat=>⟨100,[(31,.i .i64 q),(30,.i .i64 gone.length),(29,.sl 1 (gone.map (AV.i .i64))),(11,.ptr 11 b11 [] 0),(8,.ptr 8 b8 [] 0),(4,.ptr 4 b4 [] 0),(1,.sl 1 (gone.map (AV.i .i64))),(2,.sl 5 (fresh.map eF))],[(11,.var b11 (.agg [.i .i64 s.next,.i .i64 log,.nil])),(8,.var b8 (.agg [.i .i64 0,.i .i64 0,.nil])),(4,.var b4 (.agg [.i .i64 s.next,.i .i64 s.log,.sl 5 (s.fs.map eF)]))]⟩) (fun q=>q≤gone.length∧∀i (h:i<gone.length),i<q→BC s.fs gone[i]=true) (fun q=>gone.length - q) [] 0 ⟨Nat.zero_le _,fun _ _ h=>absurd h (Nat.not_lt_zero _)⟩ ?_ ?_
 ·exact⟨rfl,⟨ai Z,ai Z,ay Z,af,af,af,ay Z,ay Z,J⟩,az 11 Z (az 8 Z (az 4 Z .nil))⟩
 rintro k ⟨hk,hall⟩
 by_cases hlt:k<gone.length
 ·have hct:=B7 s.fs 136 [.cp (.i .i64 gone[k])] Z (fun f=>f.num==gone[k]) (fun x _=>Cm x gone[k]) (by omega)
  have hh:BC s.fs gone[k]=s.fs.any (fun f=>f.num==gone[k]):=rfl
  generalize s.fs.any (fun f=>f.num==gone[k])=an at hct hh
  cases an with
  |true=>
   repeat' (first|refine ae ?_|refine aj ?_|refine aa ?_|refine ac (ax ?_)|refine ac (db ?_)|refine ah (ax ?_)|(refine bc Z Z Z Z ?_ ?_;omega)|refine aU ab (fun _=>?_)|refine aF (d:=13) Z ab Z Z Z (fun b13=>?_)|refine aD ab Z Z Z Z Z Z Z ⟨rfl,rfl⟩ Z Z Z Z Z ?_|(refine aK Z ab Z Z Z Z Z Z ?_ (aE ?_) ?_;omega;omega)|refine aB Z ?_|(refine ao Z (fun hc=>?_) (fun hc=>?_))<;>try omega|(refine s7 13 13 Z Z Z ?_;refine pc Z Z Z Z Z ?_)|refine au Z (hct) ⟨aP,aP,J⟩ Z ?_)
   exact⟨k+1,[],⟨hlt,fun i h hi=>by
    rcases Nat.lt_succ_iff_lt_or_eq.1 hi with h2|h2
    ·exact hall i h h2
    ·subst h2;exact hh⟩,by show gone.length - (k+1)<gone.length - k;omega,rfl,⟨ai Z,ai Z,ay Z,af,af,af,ay Z,ay Z,J⟩,az 11 Z (az 8 Z (az 4 Z .nil))⟩
  |false=>
   have hn:¬ (∀n∈gone,BC s.fs n=true):=fun h=>by
    have:=h gone[k] (List.getElem_mem hlt)
    rw[hh] at this;cases this
   rw[if_pos hn] at hap
   subst hap
   repeat' (first|refine ae ?_|refine aj ?_|refine aa ?_|refine ac (ax ?_)|refine ah (ax ?_)|refine ap (bC ?_)|refine aU ab (fun _=>?_)|refine aF (d:=13) Z ab Z Z Z (fun b13=>?_)|refine aD ab Z Z Z Z Z Z Z ⟨rfl,rfl⟩ Z Z Z Z Z ?_|(refine aK Z ab Z Z Z Z Z Z ?_ (aE ?_) ?_;omega;omega)|refine cd ab Z Z Z Z Z Z eo ?_|refine aR Z ?_|(refine ao Z (fun hc=>?_) (fun hc=>?_))<;>try omega|(refine s7 13 13 Z Z Z ?_;refine pc Z Z Z Z Z ?_)|refine au Z (hct) ⟨aP,aP,J⟩ Z ?_)
   refine cS [] [] (.tup [iA Ep,.i .i64 7]) Z ?_ ?_ (aW se (am Z) Z Z) .nil ⟨rfl,rfl⟩ _ (.inl Z)
   all_goals first|exact⟨trivial,trivial⟩|trivial|exact⟨trivial,trivial,trivial⟩|(repeat' (first|exact J|exact rfl|refine⟨?_,?_⟩))
 have hall2:∀n∈gone,BC s.fs n=true:=fun n hn=>by
  obtain⟨i,hi,rfl⟩:=List.getElem_of_mem hn
  exact hall i hi (by omega)
 rw[if_neg (fun h=>h hall2)] at hap
 clear hall
 repeat' (first|refine ae ?_|refine aj ?_|refine aa ?_|refine ac (ax ?_)|refine aw (ax ?_)|refine br Z ab Z Z Z (fun _=>?_)|refine aU ab (fun _=>?_)|(refine ao Z (fun hc=>?_) (fun hc=>?_))<;>try omega)
 refine aO (fun q:Nat×Value=>⟨100,[(45,.i .i64 q.1),(44,.i .i64 s.fs.length),(43,.sl 5 (s.fs.map eF)),(11,.ptr 11 b11 [] 0),(8,.ptr 8 b8 [] 0),(1,.sl 1 (gone.map (AV.i .i64))),(2,.sl 5 (fresh.map eF))],[(11,.var b11 (.agg [.i .i64 s.next,.i .i64 log,.own 58 q.2])),(58,.row q.2 76 5 ((iR (s.fs.take q.1) gone).map eF)),(8,.var b8 (.agg [.i .i64 0,.i .i64 0,.nil]))]⟩) (fun q=>q.1≤s.fs.length) (fun q=>s.fs.length - q.1) [] (0,.slice none 0 0) (Nat.zero_le _) ?_ ?_
 ·exact⟨rfl,⟨ai Z,ai Z,ay Z,af,af,ay Z,ay Z,J⟩,cr.cons 11 Z (bW (bS (.cons (av _) (.cons (av _) (.cons dz .nil))))) (.none (az 8 Z .nil))⟩
 rintro⟨i,v⟩ hi
 dsimp only at hi ⊢
 by_cases hlt:i<s.fs.length
 ·have hst:=Dw s.fs gone i hlt
  have hfl:=yh (s.fs.take i) gone
  rw[List.length_take] at hfl
  have hcn:=kG gone s.fs[i].num (by omega)
  generalize iR (s.fs.take i) gone=out at hst hfl ⊢
  generalize gone.contains s.fs[i].num=cb at hst hcn
  cases cb with
  |true=>
   rw[if_pos Z] at hst
   repeat' (first|refine ae ?_|refine aj ?_|refine aa ?_|refine ac (ax ?_)|refine ac (db ?_)|refine ah (ax ?_)|(refine bc Z Z Z Z ?_ ?_;omega)|refine aU ab (fun _=>?_)|refine aF (d:=15) Z ab Z Z Z (fun b15=>?_)|refine aD ab Z Z Z Z Z Z Z ⟨rfl,rfl⟩ Z Z Z Z Z ?_|(refine aK Z ab Z Z Z Z Z Z ?_ (aE ?_) ?_;omega;omega)|refine aB Z ?_|(refine ao Z (fun hc=>?_) (fun hc=>?_))<;>try omega|refine au Z (hcn) ⟨aP,aP,J⟩ Z ?_)
   refine⟨(i+1,_),[],by show i+1≤s.fs.length;omega,by show s.fs.length - (i+1)<s.fs.length - i;omega,rfl,⟨ai Z,ai Z,ay Z,af,af,ay Z,ay Z,J⟩,az 11 Z (cr.cons 58 Z (aZ ?_) (az 8 Z .nil))⟩
   rw[hst]
  |false=>
   rw[if_neg (by decide)] at hst
   repeat' (first|refine ae ?_|refine aj ?_|refine aa ?_|refine ac (ax ?_)|refine ac (db ?_)|refine ah (ax ?_)|(refine bc Z Z Z Z ?_ ?_;omega)|refine aU ab (fun _=>?_)|refine aF (d:=15) Z ab Z Z Z (fun b15=>?_)|refine aD ab Z Z Z Z Z Z Z ⟨rfl,rfl⟩ Z Z Z Z Z ?_|(refine aK Z ab Z Z Z Z Z Z ?_ (aE ?_) ?_;omega;omega)|refine aI ab Z Z Z Z Z Z Z Z Z Z Z eo (fun _=>?_)|(refine bH ab Z Z Z Z Z Z Z Z Z (by first|exact J|exact rfl) Z Z (fun _=>rfl) ?_ ?_ (fun _=>?_);(exact dt);(exact dt))|refine aR Z ?_|(refine ao Z (fun hc=>?_) (fun hc=>?_))<;>try omega|refine au Z (hcn) ⟨aP,aP,J⟩ Z ?_)
   refine⟨(i+1,_),[],by show i+1≤s.fs.length;omega,by show s.fs.length - (i+1)<s.fs.length - i;omega,rfl,⟨ai Z,ai Z,ay Z,af,af,ay Z,ay Z,J⟩,az 11 Z (cr.cons 58 Z (aZ ?_) (az 8 Z .nil))⟩
   rw[hst,List.map_append];rfl
 have hil:i=s.fs.length:=by omega
 subst hil
 rw[List.take_length]
 have hkl:=yh s.fs gone
 have hou:mV s gone fresh log=⟨iO s.next fresh,log,cE (eu jK) (iR s.fs gone++fresh)⟩:=rfl
 generalize mV s gone fresh log=ou at hap hou
 generalize iR s.fs gone=kept at hkl hou ⊢
 repeat' (first|refine ae ?_|refine aj ?_|refine aa ?_|refine ac (ax ?_)|refine aw (ax ?_)|refine br Z ab Z Z Z (fun _=>?_)|refine aU ab (fun _=>?_)|(refine ao Z (fun hc=>?_) (fun hc=>?_))<;>try omega)
 refine aO (fun q:Nat×Value=>⟨100,[(63,.i .i64 q.1),(62,.i .i64 fresh.length),(61,.sl 5 (fresh.map eF)),(11,.ptr 11 b11 [] 0),(8,.ptr 8 b8 [] 0)],[(11,.var b11 (.agg [.i .i64 (iO s.next (fresh.take q.1)),.i .i64 log,.own 58 q.2])),(58,.row q.2 76 5 ((kept++fresh.take q.1).map eF)),(8,.var b8 (.agg [.i .i64 0,.i .i64 0,.nil]))]⟩) (fun q=>q.1≤fresh.length∧∀i (h:i<fresh.length),i<q.1→¬ wM fresh[i]) (fun q=>fresh.length - q.1) [] (0,v) ⟨Nat.zero_le _,fun _ _ h=>absurd h (Nat.not_lt_zero _)⟩ ?_ ?_
 ·refine⟨rfl,⟨ai Z,ai Z,ay Z,af,af,J⟩,az 11 Z (cr.cons 58 Z (aZ ?_) (az 8 Z .nil))⟩
  rw[List.take_zero,List.append_nil]
 rintro⟨j,w⟩ ⟨hj,hnb⟩
 dsimp only at hj hnb ⊢
 by_cases hlt:j<fresh.length
 ·by_cases hb:wM fresh[j]
  ·have hex:∃f∈fresh,wM f:=⟨_,List.getElem_mem hlt,hb⟩
   rw[if_pos hex] at hap
   subst hap
   unfold wM at hb
   repeat' (first|refine ae ?_|refine aj ?_|refine aa ?_|refine ac (ax ?_)|refine ah (ax ?_)|refine ap (bC ?_)|refine ib Z Z Z cM ?_|refine aU ab (fun _=>?_)|refine aF (d:=17) Z ab Z Z Z (fun b17=>?_)|refine aD ab Z Z Z Z Z Z Z ⟨rfl,rfl⟩ Z Z Z Z Z ?_|(refine aK Z ab Z Z Z Z Z Z ?_ (aE ?_) ?_;omega;omega)|refine cd ab Z Z Z Z Z Z eo ?_|(fail_if_success (refine aM Z cM ?_));(refine aV Z Z (fun hc=>?_) (fun hc=>?_)<;>try omega)|refine aR Z ?_|(refine ao Z (fun hc=>?_) (fun hc=>?_))<;>try omega)
   all_goals refine cS [] [] (.tup [iA Ep,.i .i64 1]) Z ?_ ?_ (aW se (am Z) Z Z) .nil ⟨rfl,rfl⟩ _ (.inl Z)
   all_goals first|exact⟨trivial,trivial⟩|trivial|exact⟨trivial,trivial,trivial⟩|(repeat' (first|exact J|exact rfl|refine⟨?_,?_⟩))
  ·have hnx:=Dg s.next fresh j hlt
   have hfl:(kept++fresh.take j).length≤2000:=by rw[List.length_append,List.length_take];omega
   have hap2:kept++fresh.take (j+1)=(kept++fresh.take j)++[fresh[j]]:=by rw[List.take_succ_eq_append_getElem hlt,List.append_assoc]
   have hb':=hb
   unfold wM at hb'
   generalize iO s.next (fresh.take j)=nx at hnx ⊢
   generalize kept++fresh.take j=out at hfl hap2 ⊢
   repeat' (first|refine ae ?_|refine aj ?_|refine aa ?_|refine ac (ax ?_)|refine ac (db ?_)|refine ah (ax ?_)|(refine bc Z Z Z Z ?_ ?_;omega)|refine aU ab (fun _=>?_)|refine aF (d:=17) Z ab Z Z Z (fun b17=>?_)|refine aD ab Z Z Z Z Z Z Z ⟨rfl,rfl⟩ Z Z Z Z Z ?_|(refine aK Z ab Z Z Z Z Z Z ?_ (aE ?_) ?_;omega;omega)|refine aI ab Z Z Z Z Z Z Z Z Z Z Z eo (fun _=>?_)|(refine bH ab Z Z Z Z Z Z Z Z Z (by first|exact J|exact rfl) Z Z (fun _=>rfl) ?_ ?_ (fun _=>?_);(exact dt);(exact dt))|(fail_if_success (refine aM Z cM ?_));(refine aV Z Z (fun hc=>?_) (fun hc=>?_)<;>try omega)|(refine ao Z (fun hc=>?_) (fun hc=>?_))<;>try omega)
   all_goals refine⟨(j+1,_),[],⟨hlt,fun i h hi=>by
    rcases Nat.lt_succ_iff_lt_or_eq.1 hi with h2|h2
    ·exact hnb i h h2
    ·subst h2;exact hb⟩,by show fresh.length - (j+1)<fresh.length - j;omega,rfl,⟨ai Z,ai Z,ay Z,af,af,J⟩,cr.cons 11 Z (bW (am ?_)) (cr.cons 58 Z (aZ ?_) (az 8 Z .nil))⟩
   ·rw[hnx]
   ·rw[hap2,List.map_append];rfl
 have hjl:j=fresh.length:=by omega
 subst hjl
 rw[List.take_length]
 have hnex:¬∃f∈fresh,wM f:=fun ⟨f,hf,hb⟩=>by
  obtain⟨i,hi,rfl⟩:=List.getElem_of_mem hf
  exact hnb i hi hi hb
 rw[if_neg hnex] at hap
 have hsrt:=fun v=>uu v 112 [] Z jK (fun x y=>vD x y) uU (kept++fresh) (by rw[List.length_append];omega)
 generalize cE (eu jK) (kept++fresh)=S at hsrt hou
 generalize iO s.next fresh=nx at hou ⊢
 generalize kept++fresh=L at hsrt ⊢
 subst hou
 have hck2:=jk ⟨nx,log,S⟩
 generalize bT ⟨nx,log,S⟩=c at hck2 hap
 by_cases hc0:c≠0
 ·rw[if_pos hc0] at hap
  subst hap
  repeat' (first|refine ae ?_|refine aa ?_|refine ac (ax ?_)|refine aw (ax ?_)|refine ap (bC ?_)|refine aU ab (fun _=>?_)|refine aD ab Z Z Z Z Z Z Z ⟨rfl,rfl⟩ Z Z Z Z Z ?_|refine cd ab Z Z Z Z Z Z eo ?_|(refine ao Z (fun hc=>?_) (fun hc=>?_))<;>try omega|(refine bF Z (fun hc=>?_) (fun hc=>?_))<;>try omega|refine bk [] [58] [58] Z (hsrt _) ⟨aJ,aP,J⟩ Z dD Z Z ?_|(refine jz Z hck2 Z ⟨bu (bS (.cons (av _) (.cons (av _) (.cons (bP (.head _)) .nil)))) Z,J⟩ Z ?_;rintro _ _ ⟨rfl,rfl⟩;refine⟨rfl,rfl,?_⟩))
  all_goals refine cS [] [] (.tup [iA Ep,.i .i64 c]) Z ?_ ?_ (aW se (am Z) Z Z) .nil ⟨rfl,rfl⟩ _ (.inl Z)
  all_goals first|exact⟨trivial,trivial⟩|trivial|exact⟨trivial,trivial,trivial⟩|(repeat' (first|exact J|exact rfl|refine⟨?_,?_⟩))
 ·rw[if_neg hc0] at hap
  subst hap
  repeat' (first|refine ae ?_|refine aa ?_|refine ac (ax ?_)|refine ah (ax ?_)|refine aw (ax ?_)|refine ap (bC ?_)|refine aU ab (fun _=>?_)|refine aD ab Z Z Z Z Z Z Z ⟨rfl,rfl⟩ Z Z Z Z Z ?_|(refine ao Z (fun hc=>?_) (fun hc=>?_))<;>try omega|(refine bF Z (fun hc=>?_) (fun hc=>?_))<;>try omega|refine bk [] [58] [58] Z (hsrt _) ⟨aJ,aP,J⟩ Z dD Z Z ?_|(refine jz Z hck2 Z ⟨bu (bS (.cons (av _) (.cons (av _) (.cons (bP (.head _)) .nil)))) Z,J⟩ Z ?_;rintro _ _ ⟨rfl,rfl⟩;refine⟨rfl,rfl,?_⟩))
  refine cS [58] [] (.tup [iA ⟨nx,log,S⟩,.i .i64 0]) Z ?_ ?_ (aW (bS (.cons (av _) (.cons (av _) (.cons (bP ?_) .nil)))) (am Z) Z Z) .nil ⟨rfl,rfl⟩ _ (.inl Z)
  all_goals first|exact⟨trivial,trivial⟩|trivial|exact⟨trivial,trivial,trivial⟩|exact .head _|(repeat' (first|exact J|exact rfl|refine⟨?_,?_⟩))
theorem tf(x y:Fl):eu jK x y=dv x y:=by
 unfold eu
 cases h:dv x y with
 |true=>exact decide_eq_true ((l4 x y).2 h)
 |false=>exact decide_eq_false (fun n=>by rw[(l4 x y).1 n] at h;cases h)
def Nr(x:Fl)(L:List Fl)(j:Nat)(done:Bool)(out:List Fl):Prop:=
 (done=false∧out=L.take j∧∀y∈L.take j,dv x y=false)∨(done=true∧out=jC (eu jK) x (L.take j)∧∃y∈L.take j,dv x y=true)
theorem Nr.fin{x:Fl}{L:List Fl}{out:List Fl}{done:Bool}(b:Nr x L L.length done out):jC (eu jK) x L=if done=true then out else out++[x]:=by
 rcases b with ⟨h1,h2,h3⟩|⟨h1,h2,_⟩
 ·rw[List.take_length] at h2 h3
  have:=uN (lt:=eu jK) (x:=x) L [] (fun s hs=>by rw[tf];exact h3 s hs) (fun s hs=>by cases hs)
  rw[List.append_nil] at this
  rw[h1,if_neg (by decide),this,h2]
 ·rw[List.take_length] at h2
  rw[h1,if_pos Z,h2]
theorem Nr.len{x:Fl}{L:List Fl}{j:Nat}{out:List Fl}{done:Bool}(b:Nr x L j done out):out.length≤L.length+1:=by
 rcases b with ⟨_,h2,_⟩|⟨_,h2,_⟩
 ·rw[h2,List.length_take];omega
 ·have h:∀(x:Fl) (a:List Fl),(jC (eu jK) x a).length=a.length+1:=fun x a=>by
   induction a with
   |nil=>rfl
   |cons y r ih=>unfold jC;split<;>simp[ih]
  rw[h2,h,List.length_take];omega
set_option maxHeartbeats 8000000
theorem ic{a b c:List UInt8}(h:qf a b)(k:Op.bytesLess b c=true):Op.bytesLess a c=true:=by
 rcases gt a c with h1|rfl|h1
 ·exact h1
 ·unfold qf at h;rw[h] at k;cases k
 ·have:=dZ k h1
  unfold qf at h;rw[h] at this;cases this
theorem gB{a b c:List UInt8}(h:Op.bytesLess a b=true)(k:qf b c):Op.bytesLess a c=true:=zm h k
def LU(next:Int)(f:Fl):Prop:=¬ kX next f∧fR f.first=true∧fR f.last=true∧qf f.first f.last
def sX(a f:Fl):Prop:=dv a f=true∧(a.lev=f.lev→0<f.lev→Op.bytesLess a.last f.first=true)
structure GS(next:Int)(l:List Fl):Prop where
 good:∀f∈l,LU next f
 nums:l.Pairwise (fun a b=>a.num≠b.num)
 rel:l.Pairwise sX
theorem uq{a b c:Fl}(h:dv a b=true)(k:dv b c=true):dv a c=true:=by
 rw[←tf] at*;exact uU.trans a b c h k
theorem lM{a b:Fl}(h:dv a b=true):a.lev≤b.lev:=by
 unfold dv at h
 split at h
 ·have:=of_decide_eq_true h;omega
 ·omega
theorem C7{next:Int}{a b c:Fl}(hb:LU next b)(h:sX a b)(k:sX b c):sX a c:=by
 refine⟨uq h.1 k.1,fun e p=>?_⟩
 have h1:=lM h.1
 have h2:=lM k.1
 have:=h.2 (by omega) (by omega)
 have:=k.2 (by omega) p
 exact dZ (gB ‹Op.bytesLess a.last b.first=true› hb.2.2.2) this
theorem wk{next:Int}{pre:List Fl}{f:Fl}:mc next pre f=0↔¬ kX next f∧¬ qQ pre f∧AA pre f=0:=by
 by_cases h1:kX next f
 ·rw[nC h1];exact⟨fun h=>(by cases h),fun h=>absurd h1 h.1⟩
 ·by_cases h2:qQ pre f
  ·rw[p7 h1 h2];exact⟨fun h=>(by cases h),fun h=>absurd h2 h.2.1⟩
  ·rw[yq h1 h2];exact⟨fun h=>⟨h1,h2,h⟩,fun h=>h.2.2⟩
theorem BJ{next:Int}{pre:List Fl}{f:Fl}(h1:¬ kX next f):¬ qQ pre f↔LU next f∧∀p∈pre,p.num≠f.num:=by
 unfold qQ LU qf
 constructor
 ·intro h
  refine⟨⟨h1,?_,?_,?_⟩,fun p hp he=>h (.inr (.inr (.inr ?_)))⟩
  ·cases hk:fR f.first with
   |true=>rfl
   |false=>exact absurd (.inl hk) h
  ·cases hk:fR f.last with
   |true=>rfl
   |false=>exact absurd (.inr (.inl hk)) h
  ·cases hk:Op.bytesLess f.last f.first with
   |false=>rfl
   |true=>exact absurd (.inr (.inr (.inl hk))) h
  ·rw[List.contains_iff_mem,List.mem_map];exact⟨p,hp,he⟩
 ·rintro⟨⟨_,h2,h3,h4⟩,h5⟩ (h|h|h|h)
  ·rw[h2] at h;cases h
  ·rw[h3] at h;cases h
  ·rw[h4] at h;cases h
  ·rw[List.contains_iff_mem,List.mem_map] at h
   obtain⟨p,hp,he⟩:=h
   exact h5 p hp he
theorem wP{a f:Fl}:¬ mn a f↔sX a f:=by
 unfold mn sX
 constructor
 ·intro h
  refine⟨?_,fun e p=>?_⟩
  ·cases hk:dv a f with
   |true=>rfl
   |false=>exact absurd (.inl hk) h
  ·cases hk:Op.bytesLess a.last f.first with
   |true=>rfl
   |false=>exact absurd (.inr ⟨e,p,hk⟩) h
 ·rintro⟨h1,h2⟩ (h|⟨e,p,h⟩)
  ·rw[h1] at h;cases h
  ·rw[h2 e p] at h;cases h
theorem EL{pre:List Fl}{f:Fl}:AA pre f=0↔∀a,pre.getLast?=some a→sX a f:=by
 unfold AA
 cases hg:pre.getLast? with
 |none=>exact⟨fun _ a h=>(by cases h),fun _=>rfl⟩
 |some a=>
  by_cases h:mn a f
  ·simp only[if_pos h]
   exact⟨fun h=>(by cases h),fun k=>absurd h (wP.2 (k a Z))⟩
  ·refine⟨fun _ b hb=>(by cases hb;exact wP.1 h),fun _=>?_⟩
   show (if mn a f then (3:Int) else 0)=0
   rw[if_neg h]
theorem GS.snoc{next:Int}{pre:List Fl}{f:Fl}(h:GS next pre)(hf:mc next pre f=0):GS next (pre++[f]):=by
 obtain⟨h1,h2,h3⟩:=wk.1 hf
 obtain⟨g1,g2⟩:=(BJ h1).1 h2
 refine⟨fun x hx=>?_,List.pairwise_append.2 ⟨h.nums,List.pairwise_singleton _ _,fun a ha b hb=>?_⟩,List.pairwise_append.2 ⟨h.rel,List.pairwise_singleton _ _,fun a ha b hb=>?_⟩⟩
 ·rcases List.mem_append.1 hx with hx|hx
  ·exact h.good x hx
  ·rw[List.mem_singleton.1 hx];exact g1
 ·rw[List.mem_singleton.1 hb];exact g2 a ha
 ·rw[List.mem_singleton.1 hb]
  have hne:pre≠[]:=fun h0=>by rw[h0] at ha;cases ha
  have hl:=EL.1 h3 _ (List.getLast?_eq_some_getLast hne)
  have hsp:pre=pre.dropLast++[pre.getLast hne]:=(List.dropLast_concat_getLast hne).symm
  have hr:=h.rel
  rw[hsp] at hr ha
  rcases List.mem_append.1 ha with ha|ha
  ·exact C7 (h.good _ (List.getLast_mem hne)) ((List.pairwise_append.1 hr).2.2 a ha _ (by simp)) hl
  ·rw[List.mem_singleton.1 ha];exact hl
theorem E3{next:Int}:∀(l pre:List Fl),GS next pre→(Ct next pre l=0↔GS next (pre++l))
 |[],pre,h=>by rw[List.append_nil];exact⟨fun _=>h,fun _=>rfl⟩
 |f::r,pre,h=>by
  rw[Ct]
  by_cases hc:mc next pre f=0
  ·rw[if_neg (fun n=>n hc),E3 r (pre++[f]) (h.snoc hc),List.append_assoc];rfl
  ·rw[if_pos hc]
   refine⟨fun h=>absurd h hc,fun g=>absurd ?_ hc⟩
   have gf:=g.good f (by simp)
   refine wk.2 ⟨gf.1,(BJ gf.1).2 ⟨gf,fun p hp=>(List.pairwise_append.1 g.nums).2.2 p hp f (by simp)⟩,EL.2 fun a ha=>(List.pairwise_append.1 g.rel).2.2 a ?_ f (by simp)⟩
   exact List.mem_of_getLast? ha
theorem GS.nil{next:Int}:GS next []:=⟨fun _ h=>(by cases h),.nil,.nil⟩
theorem fZ{s:iH}:bT s=0↔¬ gG s∧s.fs.length≤1000∧GS s.next s.fs:=by
 unfold bT
 by_cases h1:gG s
 ·rw[if_pos h1];exact⟨fun h=>(by cases h),fun h=>absurd h1 h.1⟩
 ·rw[if_neg h1]
  by_cases h2:1000<s.fs.length
  ·rw[if_pos h2];exact⟨fun h=>(by cases h),fun h=>absurd h.2.1 (by omega)⟩
  ·rw[if_neg h2,E3 _ _ GS.nil];exact⟨fun h=>⟨h1,by omega,h⟩,fun h=>h.2.2⟩
theorem yi{α:Type}{lt:α→α→Bool}(x:α):∀(l:List α),(jC lt x l).Perm (x::l)
 |[]=>.refl _
 |y::r=>by
  unfold jC
  split
  ·exact .refl _
  ·exact(List.Perm.cons y (yi x r)).trans (List.Perm.swap x y r)
theorem nX{α:Type}{lt:α→α→Bool}(l:List α):(cE lt l).Perm l:=by
 have h:∀(l a:List α),(l.foldl (fun a x=>jC lt x a) a).Perm (a++l):=fun l=>by
  induction l with
  |nil=>intro a;rw[List.append_nil];exact .refl _
  |cons x l ih=>
   intro a
   refine(ih (jC lt x a)).trans ?_
   refine((yi x a).append_right l).trans ?_
   exact(List.perm_middle (l₁:=a) (l₂:=l) (a:=x)).symm
 exact h l []
def wr(a b:Fl):Prop:=a.lev=b.lev→0<a.lev→Op.bytesLess a.last b.first=true∨Op.bytesLess b.last a.first=true
theorem yw{a b:Fl}(h:wr a b):wr b a:=fun e p=>(h e.symm (e▸p)).symm
theorem BX{a b:Fl}(h:sX a b):wr a b:=fun e p=>.inl (h.2 e (e▸p))
theorem GS.sort{next:Int}{l:List Fl}(hg:∀f∈l,LU next f)(hn:l.Pairwise (fun a b=>a.num≠b.num))(hd:l.Pairwise wr):GS next (cE (eu jK) l):=by
 have hp:=nX (lt:=eu jK) l
 have g1:∀f∈cE (eu jK) l,LU next f:=fun f hf=>hg f (hp.mem_iff.1 hf)
 have g2:(cE (eu jK) l).Pairwise (fun a b=>a.num≠b.num):=(hp.pairwise_iff (fun h=>Ne.symm h)).2 hn
 have g3:(cE (eu jK) l).Pairwise wr:=(hp.pairwise_iff (fun h=>yw h)).2 hd
 refine⟨g1,g2,?_⟩
 have g4:=ip uU l
 have g5:=List.pairwise_iff_getElem.1 g4
 rw[List.pairwise_iff_getElem] at g2 g3 ⊢
 intro i j hi hj hij
 have a1:=g2 i j hi hj hij
 have a2:=g3 i j hi hj hij
 have a3:=g5 i j hi hj hij
 have b1:=g1 _ (List.getElem_mem hi)
 have b2:=g1 _ (List.getElem_mem hj)
 generalize (cE (eu jK) l)[i]=x at a1 a2 a3 b1 ⊢
 generalize (cE (eu jK) l)[j]=y at a1 a2 a3 b2 ⊢
 rw[tf] at a3
 have arg1:=b1.1
 unfold kX at arg1
 have key:x.lev=y.lev→0<x.lev→Op.bytesLess x.last y.first=true:=fun e p=>by
  unfold dv at a3
  rw[if_neg (by omega),if_neg (by omega)] at a3
  rcases a2 e p with h|h
  ·exact h
  ·have:=gB h (nr a3 b2.2.2.2)
   rw[cW] at this;cases this
 refine⟨?_,fun e p=>key e (by omega)⟩
 unfold dv at a3 ⊢
 by_cases hl:x.lev=y.lev
 ·rw[if_neg (by omega)] at a3
  rw[if_neg (by omega)]
  by_cases h0:x.lev=0
  ·rw[if_pos (by omega)] at a3
   rw[if_pos h0]
   have:=of_decide_eq_false a3
   exact decide_eq_true (by omega)
  ·rw[if_neg h0]
   exact ic b1.2.2.2 (key hl (by omega))
 ·rw[if_pos (by omega)] at a3
  rw[if_pos hl]
  have:=of_decide_eq_false a3
  exact decide_eq_true (by omega)
def Ik(o x:Fl):Fl:={o with first:=if o.first=[]∨Op.bytesLess x.first o.first=true then x.first else o.first,last:=Bf o.last x.last}
def NZ(n lev:Int)(l:List Fl):Fl:=l.foldl Ik ⟨n,lev,0,[],[]⟩
def N0(fs:List Fl)(gone:List Int):List Fl:=fs.filter (fun f=>gone.contains f.num)
structure NU(o:Fl)(S:List Fl):Prop where
 low:∀x∈S,qf o.first x.first∧qf x.last o.last
 is:(S=[]∧o.first=[]∧o.last=[])∨(∃t∈S,o.first=t.first)∧∃t∈S,o.last=t.last
end Go.Proofs.YtginkbjclkdglaaGreat
set_option maxHeartbeats 4000000
namespace Go.Proofs.YtginkbjclkdglaaGreat
open Go Go.RowKit Mg
theorem oa{α β:Type}(f:α→β):∀{l:List α} {l':List β},(l.map f).Perm l'→∃l2,l.Perm l2∧l2.map f=l':=by
 have h:∀{a b:List β},a.Perm b→∀l:List α,l.map f=a→∃l2,l.Perm l2∧l2.map f=b:=by
  intro a b hab
  induction hab with
  |nil=>exact fun l hl=>⟨l,.refl _,hl⟩
  |cons x p ih=>
   intro l hl
   cases l with
   |nil=>cases hl
   |cons y r=>
    rw[List.map_cons] at hl
    obtain⟨h1,h2⟩:=List.cons.inj hl
    obtain⟨l2,h3,h4⟩:=ih r h2
    exact⟨y::l2,h3.cons y,by rw[List.map_cons,h1,h4]⟩
  |swap x y r=>
   intro l hl
   match l,hl with
   |a::b::t,hl=>
    rw[List.map_cons,List.map_cons] at hl
    obtain⟨h1,h2⟩:=List.cons.inj hl
    obtain⟨h3,h4⟩:=List.cons.inj h2
    exact⟨b::a::t,.swap ..,by rw[List.map_cons,List.map_cons,h1,h3,h4]⟩
  |trans p q ih1 ih2=>
   intro l hl
   obtain⟨l2,h1,h2⟩:=ih1 l hl
   obtain⟨l3,h3,h4⟩:=ih2 l2 h2
   exact⟨l3,h1.trans h3,h4⟩
 intro l l' hp
 exact h hp l Z
def Em(fe:List (Fl×List aC))(e:aC):Prop:=∃p∈fe,e∈p.2∧∀q∈fe,dv q.1 p.1=true→∀y∈q.2,y.k≠e.k
theorem Em.perm{fe fe':List (Fl×List aC)}(h:fe.Perm fe')(e:aC):Em fe e↔Em fe' e:=
 ⟨fun ⟨p,hp,he,hq⟩=>⟨p,h.mem_iff.1 hp,he,fun q h2=>hq q (h.mem_iff.2 h2)⟩,fun ⟨p,hp,he,hq⟩=>⟨p,h.mem_iff.2 hp,he,fun q h2=>hq q (h.mem_iff.1 h2)⟩⟩
theorem nL(a:Fl):dv a a=false:=by
 unfold dv
 rw[if_neg (fun h=>h Z)]
 split
 ·exact decide_eq_false (by omega)
 ·exact cW _
theorem wO{a b:Fl}(h:dv a b=true):dv b a=false:=by
 cases h2:dv b a with
 |false=>rfl
 |true=>have:=uq h h2;rw[nL] at this;cases this
theorem yN:∀{fe:List (Fl×List aC)},(fe.map (·.1)).Pairwise sX→(∀p∈fe,Up p.2)→∀e,e∈cZ (fe.map (·.2))↔Em fe e
 |[],_,_,e=>⟨fun h=>(by cases h),fun ⟨p,hp,_⟩=>(by cases hp)⟩
 |p::r,hr,hu,e=>by
  rw[List.map_cons] at hr
  have h1:=List.pairwise_cons.1 hr
  have ih:=yN h1.2 (fun q hq=>hu q (List.mem_cons_of_mem _ hq)) e
  have hah:∀q∈r,dv p.1 q.1=true:=fun q hq=>(h1.1 q.1 (List.mem_map.2 ⟨q,hq,rfl⟩)).1
  rw[List.map_cons,cj _ _ (hu p (List.mem_cons_self ..)),ih]
  constructor
  ·rintro(h|⟨⟨q,hq,he,hb⟩,hn⟩)
   ·refine⟨p,List.mem_cons_self ..,h,fun q hq ha y hy hk=>?_⟩
    rcases List.mem_cons.1 hq with rfl|hq
    ·rw[nL] at ha;cases ha
    ·rw[wO (hah q hq)] at ha;cases ha
   ·refine⟨q,List.mem_cons_of_mem _ hq,he,fun s hs ha y hy hk=>?_⟩
    rcases List.mem_cons.1 hs with rfl|hs
    ·exact hn y hy hk.symm
    ·exact hb s hs ha y hy hk
  ·rintro⟨q,hq,he,hb⟩
   rcases List.mem_cons.1 hq with rfl|hq
   ·exact .inl he
   ·refine .inr ⟨⟨q,hq,he,fun s hs=>hb s (List.mem_cons_of_mem _ hs)⟩,fun y hy hk=>hb p (List.mem_cons_self ..) (hah q hq) y hy hk.symm⟩
theorem ym{gs:List (List aC)}(h:Up gs.flatten){g g':List aC}{x y:aC}{i j:Nat}(hi:gs[i]?=some g)(hj:gs[j]?=some g')(hx:x∈g)(hy:y∈g')(hk:x.k=y.k):i=j:=by
 have key:∀{i j:Nat} {g g':List aC} {x y:aC},gs[i]?=some g→gs[j]?=some g'→x∈g→y∈g'→i<j→Op.bytesLess x.k y.k=true:=by
  intro i j g g' x y hi hj hx hy hlt
  have hi2:=(List.getElem?_eq_some_iff.1 hi)
  have hj2:=(List.getElem?_eq_some_iff.1 hj)
  obtain⟨hil,hie⟩:=hi2
  obtain⟨hjl,hje⟩:=hj2
  have e:gs=gs.take j++(gs[j]::gs.drop (j+1)):=by rw[←List.drop_eq_getElem_cons hjl,List.take_append_drop]
  rw[e,List.flatten_append,List.flatten_cons] at h
  refine(List.pairwise_append.1 h).2.2 x (List.mem_flatten.2 ⟨g,?_,hx⟩) y (List.mem_append_left _ (by rw[hje];exact hy))
  exact List.mem_iff_getElem.2 ⟨i,by rw[List.length_take];omega,by rw[List.getElem_take];exact hie⟩
 rcases Nat.lt_trichotomy i j with h1|h1|h1
 ·have:=key hi hj hx hy h1
  rw[hk,cW] at this;cases this
 ·exact h1
 ·have:=key hj hi hy hx h1
  rw[hk,cW] at this;cases this
theorem fE{base lev blk:Int}{gs:List (List aC)}{p:Fl×List aC}(h:p∈ff base lev blk gs 0):∃i,gs[i]?=some p.2∧p=mX base lev blk i p.2:=by
 obtain⟨i,hi,hpi⟩:=List.mem_iff_getElem.1 h
 have hl:=iP base lev blk gs 0
 have:=rN base lev blk gs 0 i (by omega) hi
 rw[hpi,Nat.zero_add] at this
 refine⟨i,?_,?_⟩
 ·rw[this,List.getElem?_eq_getElem (by omega)];rfl
 ·rw[this];rfl
theorem rI{base lev blk:Int}{gs:List (List aC)}{i:Nat}{g:List aC}(h:gs[i]?=some g):mX base lev blk i g∈ff base lev blk gs 0:=by
 obtain⟨hi,he⟩:=List.getElem?_eq_some_iff.1 h
 have hl:=iP base lev blk gs 0
 have:=rN base lev blk gs 0 i hi (by omega)
 rw[Nat.zero_add,he] at this
 rw[←this];exact List.getElem_mem _
theorem Gv{fe:List (Fl×List aC)}{mem:List aC}{gs:List (List aC)}{base blk:Int}(hm:Up mem)(hf:gs.flatten=mem)(hlv:∀p∈fe,0≤p.1.lev∧p.1.num<base)(e:aC):
 Em (fe++ff base 0 blk gs 0) e↔e∈mem∨(Em fe e∧∀y∈mem,e.k≠y.k):=by
 subst hf
 have hah:∀p∈fe,∀i g,dv (mX base 0 blk i g).1 p.1=true∧dv p.1 (mX base 0 blk i g).1=false:=fun p hp i g=>by
  have h:=hlv p hp
  have h1:dv (mX base 0 blk i g).1 p.1=true:=by
   show (if (0:Int)≠p.1.lev then decide ((0:Int)<p.1.lev) else if (0:Int)=0 then decide (p.1.num<base+i) else _)=true
   by_cases hc:(0:Int)=p.1.lev
   ·rw[if_neg (fun h=>h hc),if_pos Z]
    exact decide_eq_true (by omega)
   ·rw[if_pos hc]
    exact decide_eq_true (by omega)
  exact⟨h1,wO h1⟩
 constructor
 ·rintro⟨p,hp,he,hb⟩
  rcases List.mem_append.1 hp with hp|hp
  ·refine .inr ⟨⟨p,hp,he,fun q hq=>hb q (List.mem_append_left _ hq)⟩,fun y hy hk=>?_⟩
   obtain⟨g,hg,hyg⟩:=List.mem_flatten.1 hy
   obtain⟨i,hi,hie⟩:=List.mem_iff_getElem.1 hg
   have hgi:gs[i]?=some g:=by rw[List.getElem?_eq_getElem hi,hie]
   exact hb _ (List.mem_append_right _ (rI hgi)) (hah p hp i g).1 y hyg hk.symm
  ·obtain⟨i,hi,_⟩:=fE hp
   exact .inl (List.mem_flatten.2 ⟨p.2,List.mem_of_getElem? hi,he⟩)
 ·rintro(he|⟨⟨p,hp,he,hb⟩,hn⟩)
  ·obtain⟨g,hg,heg⟩:=List.mem_flatten.1 he
   obtain⟨i,hi,hie⟩:=List.mem_iff_getElem.1 hg
   have hgi:gs[i]?=some g:=by rw[List.getElem?_eq_getElem hi,hie]
   refine⟨_,List.mem_append_right _ (rI hgi),heg,fun q hq ha y hy hk=>?_⟩
   rcases List.mem_append.1 hq with hq|hq
   ·rw[(hah q hq i g).2] at ha;cases ha
   ·obtain⟨j,hj,hqe⟩:=fE hq
    have:=ym hm hj hgi hy heg hk
    subst this
    have:q.2=g:=by rw[hj] at hgi;exact Option.some.inj hgi
    rw[hqe,this,nL] at ha
    cases ha
  ·refine⟨p,List.mem_append_left _ hp,he,fun q hq ha y hy hk=>?_⟩
   rcases List.mem_append.1 hq with hq|hq
   ·exact hb q hq ha y hy hk
   ·obtain⟨i,hi,_⟩:=fE hq
    exact hn y (List.mem_flatten.2 ⟨q.2,List.mem_of_getElem? hi,hy⟩) hk.symm
end Go.Proofs.YtginkbjclkdglaaGreat
set_option maxHeartbeats 8000000
namespace Go.Proofs.YtginkbjclkdglaaGreat
open Go Go.RowKit
theorem oJ(fs:List Fl):∀(k:Nat) (n:Int) (j:Jb),fM fs k n=(j,true)→∃n',n≤n'∧n'<n+k∧GY fs n'=true∧j=lu fs n' (jt fs n')∧∀i,n≤i→i<n'→GY fs i=false
 |0,_,_,h=>by cases h
 |k+1,n,j,h=>by
  rw[fM] at h
  by_cases hc:GY fs n=true
  ·rw[if_pos hc] at h
   exact⟨n,Int.le_refl _,by omega,hc,(congrArg Prod.fst h).symm,fun i h1 h2=>by omega⟩
  ·rw[if_neg hc] at h
   obtain⟨n',h1,h2,h3,h4,h5⟩:=oJ fs k (n+1) j h
   refine⟨n',by omega,by omega,h3,h4,fun i i1 i2=>?_⟩
   rcases Int.lt_or_le n i with h|h
   ·exact h5 i (by omega) i2
   ·have:i=n:=by omega
    subst this;simpa using hc
theorem oy(fs:List Fl):∀(k:Nat) (n:Int),(fM fs k n).2=false→∀i,n≤i→i<n+k→GY fs i=false
 |0,_,_=>fun i h1 h2=>by omega
 |k+1,n,h=>by
  rw[fM] at h
  by_cases hc:GY fs n=true
  ·rw[if_pos hc] at h;cases h
  ·rw[if_neg hc] at h
   intro i h1 h2
   rcases Int.lt_or_le n i with h'|h'
   ·exact oy fs k (n+1) h i (by omega) (by omega)
   ·have:i=n:=by omega
    subst this;simpa using hc
theorem gk{fs:List Fl}{n:Int}{f:Fl}:f∈jt fs n↔f∈fs∧f.lev=n:=by
 unfold jt;rw[List.mem_filter];simp
theorem qW{fs:List Fl}{n:Int}{f:Fl}:f∈gx fs n↔f∈fs∧n<f.lev:=by
 unfold gx;rw[List.mem_filter];simp
theorem q8{fs:List Fl}{n:Int}:GY fs n=true↔(∃f∈fs,f.lev=n)∧(n=0∨∃f∈fs,n<f.lev):=by
 unfold GY
 rw[decide_eq_true_iff,List.length_pos_iff_exists_mem,List.length_pos_iff_exists_mem]
 simp only[gk,qW]
theorem Dt{s:iH}(h:bT s=0):∀f∈s.fs,0≤f.lev∧f.lev≤3:=fun f hf=>by
 have:=((fZ.1 h).2.2.good f hf).1
 unfold kX at this
 omega
theorem Ft{s:iH}(h:bT s=0)(hw:(fW s).2=false):∀f∈s.fs,f.lev≠0∧∀g∈s.fs,f.lev=g.lev:=by
 unfold fW at hw
 rw[if_neg (by omega)] at hw
 have key:=oy _ 3 0 hw
 have hno:∀i,0≤i→i<3→¬ ((∃f∈s.fs,f.lev=i)∧(i=0∨∃f∈s.fs,i<f.lev)):=fun i h1 h2 hh=>by
  rw[←q8,key i h1 (by omega)] at hh;cases hh
 intro f hf
 have lf:=Dt h f hf
 refine⟨fun h0=>hno 0 (by omega) (by omega) ⟨⟨f,hf,h0⟩,.inl Z⟩,fun g hg=>?_⟩
 have lg:=Dt h g hg
 rcases Int.lt_trichotomy f.lev g.lev with h1|h1|h1
 ·exact absurd ⟨⟨f,hf,rfl⟩,.inr ⟨g,hg,h1⟩⟩ (hno f.lev (by omega) (by omega))
 ·exact h1
 ·exact absurd ⟨⟨g,hg,rfl⟩,.inr ⟨f,hf,h1⟩⟩ (hno g.lev (by omega) (by omega))
end Go.Proofs.YtginkbjclkdglaaGreat
set_option maxHeartbeats 4000000
namespace Go.Proofs.YtginkbjclkdglaaGreat
open Go Go.RowKit Mg
theorem ub{a b c:List UInt8}(h:Op.bytesLess a b=true)(k:Op.bytesLess b c=true):Op.bytesLess a c=true:=j6 h k
theorem kE{a:List UInt8}(h:Op.bytesLess a a=true):False:=by rw[cW] at h;cases h
structure Kj(p:Fl×List aC):Prop where
 up:Up p.2
 pos:0<p.2.length
 fst:qo p.2=p.1.first
 lst:np p.2=p.1.last
theorem Kj.cov{p:Fl×List aC}(h:Kj p){y:aC}(hy:y∈p.2):qf p.1.first y.k∧qf y.k p.1.last:=by
 rw[←h.fst,←h.lst]
 exact⟨oO h.up h.pos y hy,q9 h.up h.pos y hy⟩
def jG(j:Jb)(p:Fl×List aC):Bool:=(j.fr++j.to).contains p.1.num
def oA(fe:List (Fl×List aC))(j:Jb):List (Fl×List aC):=fe.filter (jG j)
def uM(fe:List (Fl×List aC))(j:Jb):List (Fl×List aC):=fe.filter (fun p=>!jG j p)
theorem Iq(fe:List (Fl×List aC))(j:Jb):fe.Perm (oA fe j++uM fe j):=(List.filter_append_perm _ _).symm
theorem f9{fe:List (Fl×List aC)}{j:Jb}{p:Fl×List aC}:p∈oA fe j↔p∈fe∧jG j p=true:=List.mem_filter
theorem gF{fe:List (Fl×List aC)}{j:Jb}{p:Fl×List aC}:p∈uM fe j↔p∈fe∧jG j p=false:=by
 unfold uM
 rw[List.mem_filter]
 cases jG j p<;>simp
theorem ke{j:Jb}{p:Fl×List aC}:jG j p=true↔p.1.num∈j.fr∨p.1.num∈j.to:=by
 unfold jG
 rw[List.contains_iff_mem,List.mem_append]
theorem ya{a b:Fl}(h:fi a b=false):Op.bytesLess a.last b.first=true∨Op.bytesLess b.last a.first=true:=by
 unfold fi at h
 cases h1:Op.bytesLess a.last b.first with
 |true=>exact .inl Z
 |false=>
  cases h2:Op.bytesLess b.last a.first with
  |true=>exact .inr Z
  |false=>rw[h1,h2] at h;cases h
theorem Bd{a b:Fl}(h:fi a b=true):Op.bytesLess a.last b.first=false∧Op.bytesLess b.last a.first=false:=by
 unfold fi at h
 cases h1:Op.bytesLess a.last b.first<;>cases h2:Op.bytesLess b.last a.first<;>rw[h1,h2] at h<;>first|exact⟨rfl,rfl⟩|cases h
structure Kx(fe:List (Fl×List aC))(j:Jb):Prop where
 lev:∀p∈oA fe j,p.1.lev=j.lev∨p.1.lev=j.lev+1
 zero:j.lev=0→∀q∈uM fe j,q.1.lev≠0
 side:∀q∈uM fe j,q.1.lev=j.lev+1→(∀p∈oA fe j,Op.bytesLess q.1.last p.1.first=true)∨(∀p∈oA fe j,Op.bytesLess p.1.last q.1.first=true)
 dis:∀p∈fe,∀q∈fe,p.1.num≠q.1.num→p.1.lev=q.1.lev→0<p.1.lev→Op.bytesLess p.1.last q.1.first=true∨Op.bytesLess q.1.last p.1.first=true
theorem LR{s:iH}{fe:List (Fl×List aC)}{j:Jb}(hfs:s.fs=fe.map (·.1))(hj:v4 s j)(hn:0≤j.lev):Kx fe j:=by
 obtain⟨hck,n,l,rfl,hl,hl0⟩:=hj
 have hnum:=uc hck
 have hgs:=(fZ.1 hck).2.2
 have hin:∀p∈fe,p.1∈s.fs:=fun p hp=>by rw[hfs];exact List.mem_map.2 ⟨p,hp,rfl⟩
 have hn:0≤n:=hn
 have hdis:∀p∈fe,∀q∈fe,p.1.num≠q.1.num→p.1.lev=q.1.lev→0<p.1.lev→Op.bytesLess p.1.last q.1.first=true∨Op.bytesLess q.1.last p.1.first=true:=fun p hp q hq hne hlv h0=>by
  have h1:=hgs.rel
  have h2:s.fs.Pairwise (fun a b=>wr a b):=h1.imp BX
  have h3:∀a∈s.fs,∀b∈s.fs,a.num≠b.num→wr a b:=by
   intro a ha b hb hab
   obtain⟨i,hi,rfl⟩:=List.mem_iff_getElem.1 ha
   obtain⟨k,hk,rfl⟩:=List.mem_iff_getElem.1 hb
   rcases Nat.lt_trichotomy i k with h|h|h
   ·exact List.pairwise_iff_getElem.1 h2 i k hi hk h
   ·subst h;exact absurd Z hab
   ·exact yw (List.pairwise_iff_getElem.1 h2 k i hk hi h)
  exact h3 _ (hin p hp) _ (hin q hq) hne hlv h0
 have hG:∀p∈oA fe (lu s.fs n l),p.1∈l∨(p.1.lev=n+1∧fi (mE l) p.1=true):=fun p hp=>by
  obtain⟨hp1,hc⟩:=f9.1 hp
  rcases ke.1 hc with h|h
  ·obtain⟨f,hf,he⟩:=List.mem_map.1 h
   have:=hnum f (gk.1 (hl f hf)).1 p.1 (hin p hp1) he
   exact .inl (this▸hf)
  ·obtain⟨f,hf,he⟩:=List.mem_map.1 h
   obtain⟨h1,h2⟩:=List.mem_filter.1 hf
   have:=hnum f (gk.1 h1).1 p.1 (hin p hp1) he
   exact .inr (this▸⟨(gk.1 h1).2,h2⟩)
 have hK:∀q∈uM fe (lu s.fs n l),q.1∉l∧(q.1.lev=n+1→fi (mE l) q.1=false):=fun q hq=>by
  obtain⟨hq1,hc⟩:=gF.1 hq
  refine⟨fun h=>?_,fun hlv=>?_⟩
  ·have:=ke.2 (.inl (List.mem_map.2 ⟨q.1,h,rfl⟩):q.1.num∈(lu s.fs n l).fr∨_)
   rw[hc] at this;cases this
  ·cases hm:fi (mE l) q.1 with
   |false=>rfl
   |true=>
    have:=ke.2 (.inr (List.mem_map.2 ⟨q.1,List.mem_filter.2 ⟨gk.2 ⟨hin q hq1,hlv⟩,hm⟩,rfl⟩):q.1.num∈(lu s.fs n l).fr∨q.1.num∈(lu s.fs n l).to)
    rw[hc] at this;cases this
 have hgood:∀p∈fe,qf p.1.first p.1.last:=fun p hp=>(hgs.good _ (hin p hp)).2.2.2
 refine⟨fun p hp=>?_,fun h0 q hq hz=>?_,fun q hq hlv=>?_,hdis⟩
 ·rcases hG p hp with h|h
  ·exact .inl (gk.1 (hl _ h)).2
  ·exact .inr h.1
 ·have h0:n=0:=h0
  have hq1:=(gF.1 hq).1
  refine(hK q hq).1 ?_
  rw[hl0 h0]
  exact gk.2 ⟨hin q hq1,hz⟩
 ·have hlv:q.1.lev=n+1:=hlv
  have hq1:=(gF.1 hq).1
  have hsp:=xI l
  have hne:∀p∈oA fe (lu s.fs n l),p.1.num≠q.1.num:=fun p hp he=>by
   have h1:=(f9.1 hp).2
   have h2:=(gF.1 hq).2
   unfold jG at h1 h2
   rw[he,h2] at h1;cases h1
  rcases ya ((hK q hq).2 hlv) with h|h
  ·refine .inr (fun p hp=>?_)
   have hp1:=(f9.1 hp).1
   rcases hG p hp with h1|⟨h1,h2⟩
   ·exact ic (hsp _ h1).2 h
   ·rcases hdis p hp1 q hq1 (hne p hp) (by omega) (by omega) with h3|h3
    ·exact h3
    ·have h4:=ub h (ic (hgood q hq1) h3)
     rw[(Bd h2).1] at h4;cases h4
  ·refine .inl (fun p hp=>?_)
   have hp1:=(f9.1 hp).1
   rcases hG p hp with h1|⟨h1,h2⟩
   ·exact gB h (hsp _ h1).1
   ·rcases hdis p hp1 q hq1 (hne p hp) (by omega) (by omega) with h3|h3
    ·have h4:=ub (gB h3 (hgood q hq1)) h
     rw[(Bd h2).2] at h4;cases h4
    ·exact h3
end Go.Proofs.YtginkbjclkdglaaGreat
