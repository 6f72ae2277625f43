/- store.Step and store.Whole of a store in order, by rules. -/
import Derived.Test.YtginkbjclkdglaaGreatV40Z
import Derived.Test.YtginkbjclkdglaaGreatL13Z
import Derived.Test.YtginkbjclkdglaaGreatL6Z
import Derived.Test.YtginkbjclkdglaaGreatAP1Z
import Derived.Test.YtginkbjclkdglaaGreatSN5Z
set_option maxHeartbeats 16000000
set_option maxRecDepth 100000
namespace Go.Proofs.YtginkbjclkdglaaGreat
open Go Go.RowKit Mg
theorem mC.trans{d d2:Nat}{o:eW}{S S1 S2:ei}{jl jl1 jl2:List (Nat×List (List aC))}{m1 m2:Option (List UInt8)}{fe fe1 fe2:List (Fl×List aC)}(h:mC d o S jl fe S1 jl1 m1 fe1)(k:mC d2 o S1 jl1 fe1 S2 jl2 m2 fe2):mC (d+d2) o S jl fe S2 jl2 m2 fe2:=
 ⟨k.ok,k.co.trans h.co,⟨Nat.le_trans k.le.ne h.le.ne,Nat.le_trans k.le.te h.le.te,Nat.le_trans k.le.jb h.le.jb,by have:=h.le.nx;have:=k.le.nx;omega,by have:=h.le.nw;have:=k.le.nw;omega,Nat.le_trans k.le.jn h.le.jn⟩⟩
theorem mC.refl{o:eW}{S:ei}{jl:List (Nat×List (List aC))}{m:Option (List UInt8)}{fe:List (Fl×List aC)}(h:cK o S jl m fe):mC 0 o S jl fe S jl m fe:=
 ⟨h,rfl,⟨Nat.le_refl _,Nat.le_refl _,Nat.le_refl _,by omega,Nat.le_refl _,Nat.le_refl _⟩⟩
theorem mC.weak{d d2:Nat}{o:eW}{S S1:ei}{jl jl1:List (Nat×List (List aC))}{m1:Option (List UInt8)}{fe fe1:List (Fl×List aC)}(h:mC d o S jl fe S1 jl1 m1 fe1)(k:d≤d2):mC d2 o S jl fe S1 jl1 m1 fe1:=
 ⟨h.ok,h.co,⟨h.le.ne,h.le.te,h.le.jb,by have:=h.le.nx;omega,by have:=h.le.nw;omega,h.le.jn⟩⟩
theorem BI{s:iH}(h:bT s=0):s.fs.Nodup:=(fZ.1 h).2.2.nums.imp (fun h e=>h (by rw[e]))
theorem za{s:iH}{cnt size:Int}(h:(lZ s cnt size).2=true):v4 s (lZ s cnt size).1∧(0≤(lZ s cnt size).1.lev∧(lZ s cnt size).1.lev≤2)∧((lZ s cnt size).1.fr++(lZ s cnt size).1.to).Nodup:=by
 have hj:=FZ s cnt size h
 have hck:=hj.1
 refine⟨hj,?_⟩
 have hmin:∀n,0<(jt s.fs n).length→((lu s.fs n [vQ (jt s.fs n)]).fr++(lu s.fs n [vQ (jt s.fs n)]).to).Nodup:=fun n hl=>
  Dz hck (fun x hx=>by rw[List.mem_singleton.1 hx];exact Ba _ hl) (by simp)
 have hpos:∀n,∀z:Int,1≤z→z<mT (jt s.fs n)→0<(jt s.fs n).length:=fun n z hz hs=>by
  rcases Nat.eq_zero_or_pos (jt s.fs n).length with h0|h0
  ·rw[List.length_eq_zero_iff.1 h0] at hs
   have:mT []=0:=rfl
   omega
  ·exact h0
 unfold lZ at h ⊢
 by_cases hb:jx (bT s) cnt size
 ·rw[if_pos hb] at h;cases h
 rw[if_neg hb] at h ⊢
 have hsz:1≤size:=by unfold jx at hb;omega
 by_cases hc:cnt≤((jt s.fs 0).length:Nat)
 ·rw[if_pos hc]
  exact⟨⟨by show (0:Int)≤0;decide,by show (0:Int)≤2;decide⟩,Dz hck (fun x hx=>hx) ((BI hck).sublist List.filter_sublist)⟩
 rw[if_neg hc] at h ⊢
 have e2:iL s.fs size 2 1=if size<mT (jt s.fs 1) then (lu s.fs 1 [vQ (jt s.fs 1)],true) else if 8*size<mT (jt s.fs 2) then (lu s.fs 2 [vQ (jt s.fs 2)],true) else (zJ,false):=rfl
 rw[e2] at h ⊢
 by_cases h1:size<mT (jt s.fs 1)
 ·rw[if_pos h1]
  exact⟨⟨by show (0:Int)≤1;decide,by show (1:Int)≤2;decide⟩,hmin 1 (hpos 1 size hsz h1)⟩
 rw[if_neg h1] at h ⊢
 by_cases h2:8*size<mT (jt s.fs 2)
 ·rw[if_pos h2]
  exact⟨⟨by show (0:Int)≤2;decide,by show (2:Int)≤2;decide⟩,hmin 2 (hpos 2 (8*size) (by omega) h2)⟩
 ·rw[if_neg h2] at h;cases h
theorem oT(B:gV)(o:eW)(S:ei)(jl:List (Nat×List (List aC)))(m:Option (List UInt8))(fe:List (Fl×List aC))(h:cK o S jl m fe)(hg:kO o)(hn:nE S fe≤250)(hx:S.st.next≤1073741000)(hw:S.now<1073741000):
 aQ Tryz.prog 19 [.ptr 104 B.bs [] 0] (dY B o S) (fun r os=>∃S' jl' m' fe' e b,(e=(0:Int)∨e=9)∧mC 250 o S jl fe S' jl' m' fe'∧r= .tup [.b b,.i .i64 e]∧os=dY B o S'):=by
 have k1:=lK B.bd S.D.room S.D.fuse (.map (some B.bm)) S.D.dead
 have k1:aQ Tryz.prog 35 [.ptr 0 B.bd [] 0] [.var B.bd (cO B.bm S.D)] (fun r os=>r= .b S.D.dead∧os=[.var B.bd (cO B.bm S.D)]):=k1
 rw[h.x.vw.dead] at k1
 have k2:=FY S.st o.cnt o.size (by rw[h.fs,List.length_map];have:=h.lens hn;omega)
 have k3:=fun hb=>yv B o S jl m fe h hg hn hx hw (lZ S.st o.cnt o.size).1 (za hb).1 (za hb).2.1 (za hb).2.2
 generalize lZ S.st o.cnt o.size=P at k2 k3
 obtain⟨j,b⟩:=P
 unfold eR at k2
 dsimp only at k2 k3
 refine aA ab [(100,.var B.bd (cO B.bm S.D)),(101,.obj B.bm (cV S.D.es S.D.clk)),(102,bL (S.D.fs.map bZ.O)),(103,eC B.bd B.bj S.now),(104,.var B.bs (dm B o S.mem S.msz S.st)),(105,io B.bt S.ts S.c)] Tryz.func19 Z Tryz.ntmps19 aN Z Z (fun C=>?_) Z
 cases b
 ·repeat' (first|refine ae ?_|refine aa ?_|refine ac (ax ?_)|refine ah (ax ?_)|refine ap (bC ?_)|refine aU ab (fun _=>?_)|refine aF (d:=4) Z ab Z Z Z (fun b4=>?_)|refine aD ab Z Z Z Z Z Z Z ⟨rfl,rfl⟩ Z Z Z Z Z ?_|refine aR Z ?_|refine aB Z ?_|(refine ac ?_;show gO _ _ _ _ _ _ _ _ _ _)|refine kv 3 [4] [16,21] [4] aN aN (n:=16) (listed:=[O9,O9,O9,O9,O9,O9,O9,O9,O9,O9,O9,O9,O9,O9,O9,O9].toArray) Z aN ?_|refine dh (n:=16) (listed:=[O9,O9,O9,O9,O9,O9,O9,O9,O9,O9,O9,O9,O9,O9,O9,O9].toArray) [0,1,2,4,5,6,7,3,8] 7 [O8,O8,O8,O8,O8,O8,O8,O8,O8,O9,O9,O9,O9,O9,O9,O9] aN Z Z Z aN ?_|refine lO (n:=7) (listed:=[O8,O8,O8,O8,O8,O8,O8,O8,O8,O9,O9,O9,O9,O9,O9,O9].toArray) 9 13 [O8,O8,O8,O8,O8,O8,O8,O8,O8,O8,O9,O9,O9,O9,O9,O9] [O8,O8,O8,O8,O8,O8,O8,O8,O8,O9,O9,O9,O9,O8,O9,O9] Z aN Z Z aN aN ?_ ?_|refine dh (n:=6) (listed:=[O8,O8,O8,O8,O8,O8,O8,O8,O8,O8,O9,O9,O9,O9,O9,O9].toArray) [10,11,12,13,14,15] 0 [O8,O8,O8,O8,O8,O8,O8,O8,O8,O8,O8,O8,O8,O8,O8,O8] aN Z Z Z aN ?_|refine na (n:=0) (listed:=[O8,O8,O8,O8,O8,O8,O8,O8,O8,O8,O8,O8,O8,O8,O8,O8].toArray) aN ?_|refine dh (n:=6) (listed:=[O8,O8,O8,O8,O8,O8,O8,O8,O8,O9,O9,O9,O9,O8,O9,O9].toArray) [9,10,11,12,14,15] 0 [O8,O8,O8,O8,O8,O8,O8,O8,O8,O8,O8,O8,O8,O8,O8,O8] aN Z Z Z aN ?_|refine bk [] [100] [100] Z k1 ⟨af,J⟩ Z dD Z Z ?_|refine au Z (k2) ⟨aP,aP,J⟩ Z ?_)
  all_goals
   exact aH [] [(100,_),(101,_),(102,_),(103,_),(104,_),(105,_)] (.tup [.b false,.i .i64 0]) Z (aW (am Z) (am Z) Z Z) (az 100 Z (az 101 Z (az 102 Z (az 103 Z (az 104 Z (az 105 Z .nil)))))) ⟨S,jl,m,fe,0,false,.inl Z,(mC.refl h).weak (by decide),rfl,rfl⟩
 ·have k4:=k3 Z
  repeat' (first|refine ae ?_|refine aa ?_|refine ac (ax ?_)|refine ah (ax ?_)|refine ap (bC ?_)|refine aU ab (fun _=>?_)|refine aF (d:=4) Z ab Z Z Z (fun b4=>?_)|refine aD ab Z Z Z Z Z Z Z ⟨rfl,rfl⟩ Z Z Z Z Z ?_|refine aB Z ?_|(refine ac ?_;show gO _ _ _ _ _ _ _ _ _ _)|refine kv 3 [4] [16,21] [4] aN aN (n:=16) (listed:=[O9,O9,O9,O9,O9,O9,O9,O9,O9,O9,O9,O9,O9,O9,O9,O9].toArray) Z aN ?_|refine dh (n:=16) (listed:=[O9,O9,O9,O9,O9,O9,O9,O9,O9,O9,O9,O9,O9,O9,O9,O9].toArray) [0,1,2,4,5,6,7,3,8] 7 [O8,O8,O8,O8,O8,O8,O8,O8,O8,O9,O9,O9,O9,O9,O9,O9] aN Z Z Z aN ?_|refine lO (n:=7) (listed:=[O8,O8,O8,O8,O8,O8,O8,O8,O8,O9,O9,O9,O9,O9,O9,O9].toArray) 9 13 [O8,O8,O8,O8,O8,O8,O8,O8,O8,O8,O9,O9,O9,O9,O9,O9] [O8,O8,O8,O8,O8,O8,O8,O8,O8,O9,O9,O9,O9,O8,O9,O9] Z aN Z Z aN aN ?_ ?_|refine dh (n:=6) (listed:=[O8,O8,O8,O8,O8,O8,O8,O8,O8,O8,O9,O9,O9,O9,O9,O9].toArray) [10,11,12,13,14,15] 0 [O8,O8,O8,O8,O8,O8,O8,O8,O8,O8,O8,O8,O8,O8,O8,O8] aN Z Z Z aN ?_|refine na (n:=0) (listed:=[O8,O8,O8,O8,O8,O8,O8,O8,O8,O8,O8,O8,O8,O8,O8,O8].toArray) aN ?_|refine dh (n:=6) (listed:=[O8,O8,O8,O8,O8,O8,O8,O8,O8,O9,O9,O9,O9,O8,O9,O9].toArray) [9,10,11,12,14,15] 0 [O8,O8,O8,O8,O8,O8,O8,O8,O8,O8,O8,O8,O8,O8,O8,O8] aN Z Z Z aN ?_|refine bk [] [100] [100] Z k1 ⟨af,J⟩ Z dD Z Z ?_|(refine bx [] [100,101,102,103,104,105] [100,101,102,103,104,105] Z k4 ⟨af,aP,J⟩ Z dD Z Z ?_;rintro _ _ ⟨S2,m2,fe2,e,he,hR,hnw,hmm,_,rfl,rfl⟩;refine⟨_,rfl,rfl,?_⟩)|refine au Z (k2) ⟨aP,aP,J⟩ Z ?_)
  all_goals
   exact aH [] [(100,_),(101,_),(102,_),(103,_),(104,_),(105,_)] (.tup [.b (e==0),.i .i64 e]) Z (aW (am Z) (am Z) Z Z) (az 100 Z (az 101 Z (az 102 Z (az 103 Z (az 104 Z (az 105 Z .nil)))))) ⟨S2,jl,m2,fe2,e,_,he,hR,rfl,rfl⟩
theorem GW{s:iH}(hck:bT s=0)(h:(fW s).2=true):v4 s (fW s).1∧(0≤(fW s).1.lev∧(fW s).1.lev≤2)∧((fW s).1.fr++(fW s).1.to).Nodup∧(∀f∈s.fs,(fW s).1.lev≤f.lev)∧(∀f∈s.fs,f.lev=(fW s).1.lev→f.num∈(fW s).1.fr)∧(∃f∈s.fs,f.lev=(fW s).1.lev)∧((fW s).1.lev=0∨∃f∈s.fs,(fW s).1.lev<f.lev):=by
 unfold fW at h ⊢
 rw[if_neg (fun g=>g hck)] at h ⊢
 obtain⟨n',h1,h2,h3,h4,h5⟩:=oJ s.fs 3 0 (fM s.fs 3 0).1 (by
  cases hq:fM s.fs 3 0 with
  |mk a b=>rw[hq] at h;dsimp only at h ⊢;rw[h])
 rw[h4]
 refine⟨⟨hck,n',_,rfl,fun x hx=>hx,fun h0=>by rw[h0]⟩,⟨h1,by show n'≤2;omega⟩,Dz hck (fun x hx=>hx) ((BI hck).sublist List.filter_sublist),fun f hf=>?_,fun f hf hl=>?_,(q8.1 h3).1,(q8.1 h3).2⟩
 ·show n'≤f.lev
  have hl0:=(Dt hck f hf).1
  rcases Int.lt_or_le f.lev n' with hc|hc
  ·exfalso
   have h6:=h5 f.lev hl0 hc
   have h7:=(q8.1 h3).1
   obtain⟨g,hg,hgl⟩:=h7
   have:GY s.fs f.lev=true:=q8.2 ⟨⟨f,hf,rfl⟩,.inr ⟨g,hg,by omega⟩⟩
   rw[h6] at this;cases this
  ·exact hc
 ·exact List.mem_map.2 ⟨f,gk.2 ⟨hf,hl⟩,rfl⟩
theorem Ic{l:List Fl}{j:Jb}{f0:Fl}(hj:0≤j.lev)(_h2:∀f∈l,j.lev≤f.lev)(h3:∀f∈l,f.lev=j.lev→f.num∈j.fr)(hf0:f0∈l)(hf1:f0.lev=j.lev)(h4:j.lev=0∨∃f∈l,j.lev<f.lev)(h1:∀f∈l,f.lev≤1):j.lev≤0∧iQ l j=true:=by
 have h0:j.lev≤0:=by
  rcases h4 with h|⟨f,hf,h⟩
  ·omega
  ·have:=h1 f hf;omega
 refine⟨h0,?_⟩
 have hm:f0∈jM l j:=List.mem_filter.2 ⟨hf0,by unfold Nq;rw[Bool.or_eq_true,List.contains_iff_mem];exact .inl (h3 f0 hf0 hf1)⟩
 have hb:gx l (j.lev+1)=[]:=by
  cases hbb:gx l (j.lev+1) with
  |nil=>rfl
  |cons x r=>
   have hx:x∈gx l (j.lev+1):=by rw[hbb];exact List.mem_cons_self ..
   obtain⟨h5,h6⟩:=qW.1 hx
   have:=h1 x h5
   omega
 unfold iQ
 rw[if_neg (fun h=>by rw[List.length_eq_zero_iff] at h;rw[h] at hm;cases hm),hb]
 rfl
theorem nP(B:gV)(o:eW)(S:ei)(jl:List (Nat×List (List aC)))(m:Option (List UInt8))(fe:List (Fl×List aC))(h:cK o S jl m fe)(hg:kO o)(hn:nE S fe≤250)(hx:S.st.next≤1073730000)(hw:S.now<1073730000):
 aQ Tryz.prog 20 [.ptr 104 B.bs [] 0] (dY B o S) (fun r os=>∃S' jl' m' fe' e,(e=(0:Int)∨e=9)∧mC 1500 o S jl fe S' jl' m' fe'∧((e=0→S'.mem=[]∧(∀p∈fe',∀q∈fe',p.1.lev≠0∧p.1.lev=q.1.lev)∧((∀p∈fe,p.1.lev=0)→∀p∈fe',∀x∈p.2,x.g=false))∧(e=9→Jf o (jB jl) (nE S fe)))∧r= .i .i64 e∧os=dY B o S'):=by
 have k1:=jE B o S jl m fe h hg hn (by omega) (by omega)
 refine aA ab [(100,.var B.bd (cO B.bm S.D)),(101,.obj B.bm (cV S.D.es S.D.clk)),(102,bL (S.D.fs.map bZ.O)),(103,eC B.bd B.bj S.now),(104,.var B.bs (dm B o S.mem S.msz S.st)),(105,io B.bt S.ts S.c)] Tryz.func20 Z Tryz.ntmps20 aN Z Z (fun C=>?_) Z
 repeat' (first|refine ae ?_|refine aj ?_|refine aa ?_|refine ac (ax ?_)|refine ah (ax ?_)|refine ap (bC ?_)|refine aU ab (fun _=>?_)|refine aR Z ?_|refine aB Z ?_|(refine bx [] [100,101,102,103,104,105] [100,101,102,103,104,105] Z k1 ⟨af,J⟩ Z dD Z Z ?_;rintro _ _ ⟨S1,jl1,m1,fe1,e1,rfl|rfl,hm1,hR1,rfl,rfl⟩<;>refine⟨_,rfl,rfl,?_⟩))
 rotate_left
 ·exact aH [] [(100,_),(101,_),(102,_),(103,_),(104,_),(105,_)] (.i .i64 9) Z (bX (am Z) Z) (az 100 Z (az 101 Z (az 102 Z (az 103 Z (az 104 Z (az 105 Z .nil)))))) ⟨S1,jl1,m1,fe1,9,.inr Z,hR1.weak (by decide),⟨fun h0=>(by cases h0),hm1.2⟩,rfl,rfl⟩
 have hm10:=(hm1.1 Z).1
 have hl10:=(hm1.1 Z).2
 refine aO (fun q:Nat×ei×Option (List UInt8)×List (Fl×List aC)=>⟨28,[(0,.ptr 104 B.bs [] 0)],[(100,.var B.bd (cO B.bm q.2.1.D)),(101,.obj B.bm (cV q.2.1.D.es q.2.1.D.clk)),(102,bL (q.2.1.D.fs.map bZ.O)),(103,eC B.bd B.bj q.2.1.now),(104,.var B.bs (dm B o q.2.1.mem q.2.1.msz q.2.1.st)),(105,io B.bt q.2.1.ts q.2.1.c)]⟩)
  (fun q=>q.1≤3∧mC (250*(q.1+1)) o S jl fe q.2.1 jl1 q.2.2.1 q.2.2.2∧q.2.1.mem=[]∧(∀p∈q.2.2.2,(q.1:Int)≤p.1.lev)∧((∀p∈fe,p.1.lev=0)→∀p∈q.2.2.2,p.1.lev=0∨(p.1.lev=1∧∀x∈p.2,x.g=false))) (fun q=>4 - q.1) [] (0,S1,m1,fe1) ⟨Nat.zero_le _,hR1,hm10,fun p hp=>(hR1.ok.good p hp).1,fun h0 p hp=>.inl ((hl10 p hp).elim (fun h1=>h0 p h1) id)⟩ ?_ ?_
 ·exact⟨rfl,⟨af,J⟩,az 100 Z (az 101 Z (az 102 Z (az 103 Z (az 104 Z (az 105 Z .nil)))))⟩
 rintro⟨k,S2,m2,fe2⟩ ⟨hk,hR,hm2,hlv,hgn⟩
 dsimp only at hk hR hm2 hlv hgn ⊢
 have hne:=hR.le.ne
 have hnx:=hR.le.nx
 have hnw:=hR.le.nw
 have k2:=Cw S2.st (by rw[hR.ok.fs,List.length_map];have:=hR.ok.lens (by omega);omega)
 have k3:=fun hb=>GW hR.ok.chk hb
 have k4:=fun hb=>yv B o S2 jl1 m2 fe2 hR.ok hg (by omega) (by omega) (by omega) (fW S2.st).1 (k3 hb).1 (k3 hb).2.1 (k3 hb).2.2.1
 have k5:=fun hb=>Ft hR.ok.chk (show (fW S2.st).2=false from hb)
 generalize fW S2.st=P at k2 k3 k4 k5
 obtain⟨j,b⟩:=P
 unfold eR at k2
 dsimp only at k2 k3 k4 k5
 cases b
 ·have k6:=k5 Z
  repeat' (first|refine ae ?_|refine aj ?_|refine aa ?_|refine ac (ax ?_)|refine ap (bC ?_)|refine aU ab (fun _=>?_)|refine aF (d:=4) Z ab Z Z Z (fun b4=>?_)|refine aD ab Z Z Z Z Z Z Z ⟨rfl,rfl⟩ Z Z Z Z Z ?_|refine aR Z ?_|refine au Z (k2) ⟨aP,J⟩ Z ?_)
  all_goals
   refine cS [] [(100,_),(101,_),(102,_),(103,_),(104,_),(105,_)] (.i .i64 0) Z ?_ ?_ (bX (am Z) Z) (az 100 Z (az 101 Z (az 102 Z (az 103 Z (az 104 Z (az 105 Z .nil)))))) ⟨S2,jl1,m2,fe2,0,.inl Z,hR.weak (by omega),⟨fun _=>⟨hm2,fun p hp q hq=>by have h1:=k6 p.1 (by rw[hR.ok.fs];exact List.mem_map.2 ⟨p,hp,rfl⟩);exact⟨h1.1,h1.2 q.1 (by rw[hR.ok.fs];exact List.mem_map.2 ⟨q,hq,rfl⟩)⟩,fun h0 p hp=>by
    rcases hgn h0 p hp with h2|h2
    ·exact absurd h2 (k6 p.1 (by rw[hR.ok.fs];exact List.mem_map.2 ⟨p,hp,rfl⟩)).1
    ·exact h2.2⟩,fun h0=>(by cases h0)⟩,rfl,rfl⟩ _ (.inl rfl)
   ·exact eo
   ·exact⟨trivial,trivial⟩
 ·have k6:=k4 Z
  obtain⟨_,hj1,_,hj2,hj3,⟨f0,hf0,hf1⟩,hj4⟩:=k3 Z
  have hlast:=Ic hj1.1 hj2 hj3 hf0 hf1 hj4
  repeat' (first|refine ae ?_|refine aj ?_|refine aa ?_|refine ac (ax ?_)|refine ah (ax ?_)|refine ah (db ?_)|refine ap (bC ?_)|refine aU ab (fun _=>?_)|refine aF (d:=4) Z ab Z Z Z (fun b4=>?_)|refine aD ab Z Z Z Z Z Z Z ⟨rfl,rfl⟩ Z Z Z Z Z ?_|refine aR Z ?_|refine aB Z ?_|(refine bx [] [100,101,102,103,104,105] [100,101,102,103,104,105] Z k6 ⟨af,aP,J⟩ Z dD Z Z ?_;rintro _ _ ⟨S3,m3,fe3,e,rfl|rfl,hR3,hnw3,hmm3,hlv3,rfl,rfl⟩<;>refine⟨_,rfl,rfl,?_⟩)|refine au Z (k2) ⟨aP,J⟩ Z ?_)
  all_goals first
   |refine cS [] [(100,_),(101,_),(102,_),(103,_),(104,_),(105,_)] (.i .i64 9) Z ?_ ?_ (bX (am Z) Z) (az 100 Z (az 101 Z (az 102 Z (az 103 Z (az 104 Z (az 105 Z .nil)))))) ⟨S3,jl1,m3,fe3,9,.inr Z,(hR.trans hR3).weak (by omega),⟨fun h0=>(by cases h0),fun h0=>(hlv3.2 h0).mono (Nat.le_trans hR.le.jb (Nat.le_refl _)) hR.le.ne⟩,rfl,rfl⟩ _ (.inl Z)
    ·exact eo
    ·exact⟨trivial,trivial⟩
   |have hf2:∀p∈fe2,j.lev≤p.1.lev∧(p.1.lev=j.lev→p.1.num∈j.fr):=fun p hp=>by
     have:p.1∈S2.st.fs:=by rw[hR.ok.fs];exact List.mem_map.2 ⟨p,hp,rfl⟩
     exact⟨hj2 p.1 this,hj3 p.1 this⟩
    rw[hR.ok.fs] at hf0
    obtain⟨p0,hp0,rfl⟩:=List.mem_map.1 hf0
    have hlk:=hlv p0 hp0
    have hjn:(((j.lev+1).toNat:Nat):Int)=j.lev+1:=by omega
    refine⟨((j.lev+1).toNat,S3,m3,fe3),[],⟨by show (j.lev+1).toNat≤3;omega,(hR.trans hR3).weak (by show 250*(k+1)+250≤250*((j.lev+1).toNat+1);omega),hmm3.trans hm2,fun p hp=>?_,fun h0 p hp=>?_⟩,by show 4 - (j.lev+1).toNat<4 - k;omega,rfl,⟨af,J⟩,az 100 Z (az 101 Z (az 102 Z (az 103 Z (az 104 Z (az 105 Z .nil)))))⟩
    rotate_left
    ·rw[hR.ok.fs] at hlast
     have h1:∀f∈fe2.map (·.1),f.lev≤1:=fun f hf=>by
      obtain⟨q,hq,rfl⟩:=List.mem_map.1 hf
      rcases hgn h0 q hq with h|h<;>omega
     obtain⟨h2,h3⟩:=hlast h1
     rcases hlv3.1 rfl p hp with h4|⟨h4,h5⟩
     ·obtain⟨h6,h7⟩:=gF.1 h4
      rcases hgn h0 p h6 with h8|h8
      ·exact .inl h8
      ·exact .inr h8
     ·exact .inr ⟨by omega,h5 (by rw[hR.ok.fs];exact h3)⟩
    show (((j.lev+1).toNat:Nat):Int)≤p.1.lev
    rw[hjn]
    rcases hlv3.1 rfl p hp with h1|⟨h1,_⟩
    ·obtain⟨h2,h3⟩:=gF.1 h1
     obtain⟨h4,h5⟩:=hf2 p h2
     rcases Int.lt_or_eq_of_le h4 with h6|h6
     ·omega
     ·exfalso
      have:jG j p=true:=by unfold jG;rw[List.contains_iff_mem];exact List.mem_append_left _ (h5 h6.symm)
      rw[this] at h3;cases h3
    ·omega
end Go.Proofs.YtginkbjclkdglaaGreat
set_option maxHeartbeats 4000000
namespace Go.Proofs.YtginkbjclkdglaaGreat
open Go Go.RowKit
theorem GG(bd bt:Nat)(a b c e f:Int)(w:World):(Instr.build 70 #[(0,.pointer (some ⟨bd,0,none⟩)),(1,.agg #[.int .i64 a,.int .i64 b,.int .i64 c,.int .i64 e,.int .i64 f]),(5,.map (some bt))]).run Tryz.prog w= .ok (.agg #[.pointer (some ⟨bd,0,none⟩),.int .i64 a,.int .i64 b,.int .i64 c,.int .i64 e,.int .i64 f,.pointer none,.slice none 0 0,.int .i64 0,.int .i64 0,.int .i64 0,.slice none 0 0,.map (some bt)]) w:=by kernel_rfl
theorem A2{m:OM}{C:il}{ops:Array Oper}{l:List Oper}{K:St→Prop}{n:Nat}{sl:List (Nat×AV)}{hp:List (Nat×HO)}{d:Nat}{ty:Nat}{pos:String}{aft:Array Edge}{gd:Option (Nat×Bool)}(hw:cH ops ⟨n,sl,hp⟩ gd=bE gd){x y z:Operand}{o:eW}{k k0 bd bt:Nat}
 (hx:ev ⟨n,sl,hp⟩ x= .ptr k0 bd [] 0)(hy:ev ⟨n,sl,hp⟩ y=el o)(hz:ev ⟨n,sl,hp⟩ z= .own k (.map (some bt)))(hd:Nat.blt d n=true)
 (h:aq m Tryz.prog C ops l ⟨n,(d,.agg [.ptr k0 bd [] 0,el o,.nilp,.agg [.nil,.i .i64 0],.agg [.i .i64 0,.i .i64 0,.nil],.own k (.map (some bt))])::sl,hp⟩ K):aq m Tryz.prog C ops (⟨some d,.build 70 #[(0,x),(1,y),(5,z)],ty,pos,aft,gd⟩::l) ⟨n,sl,hp⟩ K:=by
 refine eI (d:=some d) hw none cT hd Z (fun a w hs=>?_) h
 have Ex:=bg hs x
 have Ey:=bg hs y
 have Ez:=bg hs z
 rw[hx,dg] at Ex
 rw[hy] at Ey
 rw[hz,cf] at Ez
 have Ey:a.eval y=Value.agg #[.int .i64 o.mem,.int .i64 o.blk,.int .i64 o.tab,.int .i64 o.cnt,.int .i64 o.size]:=by
  obtain⟨cs,h1,h2⟩:=Ey
  unfold el at h1 h2
  simp only[bw,fK] at h1
  obtain⟨_,_,rfl,rfl,_,_,rfl,rfl,_,_,rfl,rfl,_,_,rfl,⟨_,_,rfl,rfl,_,_,rfl,rfl,rfl⟩,rfl⟩:=h1
  exact h2
 refine⟨.agg #[.pointer (some ⟨bd,0,none⟩),.int .i64 o.mem,.int .i64 o.blk,.int .i64 o.tab,.int .i64 o.cnt,.int .i64 o.size,.pointer none,.slice none 0 0,.int .i64 0,.int .i64 0,.int .i64 0,.slice none 0 0,.map (some bt)],?_,fun w' _=>?_⟩
 ·refine⟨[.pointer (some ⟨bd,0,none⟩),.int .i64 o.mem,.int .i64 o.blk,.int .i64 o.tab,.int .i64 o.cnt,.int .i64 o.size,.pointer none,.slice none 0 0,.int .i64 0,.int .i64 0,.int .i64 0,.slice none 0 0,.map (some bt)],?_,rfl⟩
  unfold el
  simp only[bw,fK]
  exact⟨[_],_,rfl,rfl,[_,_,_,_,_],_,rfl,⟨[_],_,rfl,rfl,[_],_,rfl,rfl,[_],_,rfl,rfl,[_,_],_,rfl,⟨[_],_,rfl,rfl,[_],_,rfl,rfl,rfl⟩,rfl⟩,[_],_,rfl,rfl,[_,_],_,rfl,⟨[_],_,rfl,rfl,[_],_,rfl,rfl,rfl⟩,[_,_,_],_,rfl,⟨[_],_,rfl,rfl,[_],_,rfl,rfl,[_],_,rfl,rfl,rfl⟩,[_],_,rfl,⟨rfl,rfl⟩,rfl⟩
 ·have hrun:=GG bd bt o.mem o.blk o.tab o.cnt o.size w'
  simp only[execOp,Sem.run_bind,List.map_toArray,List.map_cons,List.map_nil,Ex,Ey,Ez.1,hrun,Result.andThen_ok,Sem.run_pure]
end Go.Proofs.YtginkbjclkdglaaGreat
