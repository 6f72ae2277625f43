/- slices.Insert of an entry into a row that the function owns; its contract. -/
import Derived.Test.YtginkbjclkdglaaGreatST7Z
import Derived.Test.YtginkbjclkdglaaGreatB2Z
set_option maxHeartbeats 8000000
set_option maxRecDepth 100000
namespace Go.Proofs.YtginkbjclkdglaaGreat
open Go Go.RowKit
theorem w6{w:World}{b o:Nat}{u:Value}(h:w.cell? ⟨b,o,none⟩=some u):∃t k,w.shape? b=some (t,k)∧k≠0:=by
 unfold World.cell? at h
 split at h
 ·rename_i c e q hq
  refine⟨e,c.size,by unfold World.shape?;rw[hq],fun h0=>?_⟩
  simp at h
  obtain⟨h1,_⟩:=Array.getElem?_eq_some_iff.1 h
  omega
 ·cases h
theorem iJ.shape{w:World}{g:Nat}{t:TypeId}{cs:Array Value}(h:iJ w g t cs):w.shape? g=some (t,cs.size):=by
 unfold iJ at h;unfold World.shape?;rw[h]
theorem xT{w:World}{F:Nat→Prop}{sz:Nat}:∀(k:Nat) (xs:List AV) (cs:List Value),dq w F sz xs cs→dq w F sz (xs.take k) (cs.take (k*sz))∧dq w F sz (xs.drop k) (cs.drop (k*sz))
 |0,xs,cs,h=>by simp only[List.take_zero,Nat.zero_mul,List.drop_zero,dq];exact⟨trivial,h⟩
 |k+1,[],cs,h=>by simp only[dq] at h;subst h;simp[dq]
 |k+1,x::xs,cs,h=>by
  simp only[dq] at h
  obtain⟨c1,c2,rfl,h1,h2,h3⟩:=h
  obtain⟨i1,i2⟩:=xT k xs c2 h3
  have e:(k+1)*sz=c1.length+k*sz:=by rw[h2,Nat.add_mul];omega
  rw[List.take_succ_cons,List.drop_succ_cons,e,List.take_length_add_append,List.drop_length_add_append]
  refine⟨?_,i2⟩
  simp only[dq]
  exact⟨c1,_,rfl,h1,h2,i1⟩
theorem Hu{w:World}{F:Nat→Prop}{sz:Nat}{xs:List AV}{cells:List Value}{x:AV}{cs:List Value}(h:dq w F sz xs cells)(hx:bw w F x cs)(hl:cs.length=sz)(i:Nat):
 dq w F sz (xs.take i++x::xs.drop i) (cells.take (i*sz)++(cs++cells.drop (i*sz))):=by
 obtain⟨h1,h2⟩:=xT i xs cells h
 refine mH h1 ?_
 simp only[dq]
 exact⟨cs,_,rfl,hx,hl,h2⟩
theorem Di(cur:Array Value)(cells cs:List Value)(p q:Nat)(hp:p+q=cells.length)(hcur:cells.length+cs.length≤cur.size)(ht:cur.toList.take p=cells.take p):
 (fh (fh cur (p+cs.length) (cells.drop p)) p cs).toList.take (cells.length+cs.length)=cells.take p++(cs++cells.drop p):=by
 have hd:(cells.drop p).length=q:=by rw[List.length_drop];omega
 have hs1:(fh cur (p+cs.length) (cells.drop p)).size=cur.size:=by
  have:∀(vs:List Value) (o:Nat) (arr:Array Value),(fh arr o vs).size=arr.size:=by
   intro vs
   induction vs with
   |nil=>intro o arr;rfl
   |cons v r ih=>intro o arr;show (fh (arr.setIfInBounds o v) (o+1) r).size=_;rw[ih,Array.size_setIfInBounds]
  exact this _ _ _
 apply List.ext_getElem?
 intro j
 rw[List.getElem?_take]
 have hlen:(cells.take p++(cs++cells.drop p)).length=cells.length+cs.length:=by simp only[List.length_append,List.length_take,hd];omega
 by_cases hj:j<cells.length+cs.length
 ·rw[if_pos hj,Array.getElem?_toList,hZ _ _ _ _ (by rw[hs1];omega)]
  by_cases h1:j<p
  ·rw[if_neg (by omega),hZ _ _ _ _ (by rw[hd];omega),if_neg (by omega),List.getElem?_append_left (by rw[List.length_take];omega),←ht,List.getElem?_take,if_pos h1,Array.getElem?_toList]
  ·rw[List.getElem?_append_right (by rw[List.length_take];omega)]
   have e0:(cells.take p).length=p:=by rw[List.length_take];omega
   rw[e0]
   by_cases h2:j<p+cs.length
   ·rw[if_pos ⟨by omega,h2⟩,List.getElem?_append_left (by omega)]
   ·rw[if_neg (by omega),hZ _ _ _ _ (by rw[hd];omega),if_pos (by rw[hd];omega),List.getElem?_append_right (by omega),show j - (p+cs.length)=j - p - cs.length by omega]
 ·rw[if_neg hj,List.getElem?_eq_none (by omega)]
theorem mG:∀(vs:List Value) (o:Nat) (arr:Array Value),(fh arr o vs).size=arr.size
 |[],_,_=>rfl
 |v::r,o,arr=>by show (fh (arr.setIfInBounds o v) (o+1) r).size=_;rw[mG r,Array.size_setIfInBounds]
theorem A7(cur:Array Value)(cells cs:List Value)(p q:Nat)(hp:p+q=cells.length)(hcur:cells.length+cs.length≤cur.size)(ht:cur.toList.take p=cells.take p):
 (fh (fh cur p cs) (p+cs.length) (cells.drop p)).toList.take (cells.length+cs.length)=cells.take p++(cs++cells.drop p):=by
 have hd:(cells.drop p).length=q:=by rw[List.length_drop];omega
 have hs1:(fh cur p cs).size=cur.size:=mG _ _ _
 apply List.ext_getElem?
 intro j
 rw[List.getElem?_take]
 have hlen:(cells.take p++(cs++cells.drop p)).length=cells.length+cs.length:=by simp only[List.length_append,List.length_take,hd];omega
 by_cases hj:j<cells.length+cs.length
 ·rw[if_pos hj,Array.getElem?_toList,hZ _ _ _ _ (by rw[hs1];omega)]
  by_cases h1:j<p
  ·rw[if_neg (by omega),hZ _ _ _ _ (by omega),if_neg (by omega),List.getElem?_append_left (by rw[List.length_take];omega),←ht,List.getElem?_take,if_pos h1,Array.getElem?_toList]
  ·rw[List.getElem?_append_right (by rw[List.length_take];omega)]
   have e0:(cells.take p).length=p:=by rw[List.length_take];omega
   rw[e0]
   by_cases h2:j<p+cs.length
   ·rw[if_neg (by omega),hZ _ _ _ _ (by omega),if_pos ⟨by omega,h2⟩,List.getElem?_append_left (by omega)]
   ·rw[if_pos (by rw[hd];omega),List.getElem?_append_right (by omega),show j - (p+cs.length)=j - p - cs.length by omega]
 ·rw[if_neg hj,List.getElem?_eq_none (by omega)]
theorem DC(xs:List AV)(x:AV)(i:Nat)(v:Value)(hi:i<xs.length)(hl:xs.length≤1000000):
 aQ Tryz.prog 75 [.own 0 v,.i .i64 i,.sl 3 [x]] [.row v 47 3 xs] (fun r os=>∃v',r= .own 0 v'∧os=[.row v' 47 3 (xs.take i++x::xs.drop i)]):=by
 refine⟨⟨_,Tryz.func75,by kernel_rfl,by kernel_rfl⟩,fun w vals F hF hO hV=>?_⟩
 obtain⟨a,b,c,rfl⟩:∃a b c,vals=[a,b,c]:=by
  have:=hV.1
  match vals,this with
  |[a,b,c],_=>exact⟨a,b,c,rfl⟩
 have Ea:=hV.2 0 _ _ Z Z
 have Eb:=hV.2 1 _ _ Z Z
 have Ec:=hV.2 2 _ _ Z Z
 rw[cf] at Ea
 rw[cq] at Eb
 rw[iW] at Ec
 obtain⟨rfl,_⟩:=Ea
 subst Eb
 obtain⟨A,vc,rfl,_,_,hA⟩:=Ec
 obtain⟨vb,voff,rfl,hFv,hrow⟩:=hA (by simp)
 simp only[d8] at hrow
 obtain⟨⟨cs,hcx,hcl,hcr⟩,_⟩:=hrow
 have hH:=hO.ok _ (List.mem_singleton.2 Z)
 obtain⟨g,hg⟩:∃g,a.ownBlock=some g:=by
  obtain⟨cells,h1,h2⟩:=hH
  rcases h2.2 with ⟨rfl,h0⟩|⟨g,cap,cur,rfl,_⟩
  ·omega
  ·exact⟨g,rfl⟩
 obtain⟨cells,cap,cur,h1,rfl,h3,h4,h5,h6,h7⟩:=pO hH hg
 have hob:ct [HO.row (.slice (some ⟨g,0,none⟩) xs.length cap) 47 3 xs]=[g]:=rfl
 have hne:vb≠g:=fun e=>(hF vb hFv).2 (by rw[hob,e];simp)
 have hcll:cells.length=xs.length*3:=jZ 3 xs cells h1
 have h1c:=rx 3 xs cells h1
 have h1v:=o5 x cs hcx
 have hcs:∀j u,cells[j]?=some u→w.cell? ⟨g,j,none⟩=some u:=fun j u hj=>by
  rw[h3.cell,←Array.getElem?_toList]
  rw[←h7,List.getElem?_take] at hj
  split at hj
  ·exact hj
  ·cases hj
 have hvs:∀j u,cs[j]?=some u→w.cell? ⟨vb,voff+j,none⟩=some u:=fun j u hj=>hcr j u hj
 have hlc:xs.length*3≤cap*3:=Nat.mul_le_mul_right 3 h4
 have hins:=Hu h1 hcx hcl i
 have hnl:(xs.take i++x::xs.drop i).length=xs.length+1:=by simp;omega
 have hil:(cells.take (i*3)++(cs++cells.drop (i*3))).length=(xs.length+1)*3:=by simp only[List.length_append,List.length_take,List.length_drop];omega
 by_cases hroom:xs.length+1≤cap
 ·obtain⟨tA,kA,hsa,hkA⟩:=w6 (hvs 0 _ (List.getElem?_eq_getElem (by omega)))
  refine(Gp g xs.length cap i vb voff 1 vc cells cs w hi (by decide) hroom (by unfold maxLen at h5;exact h5) hne hcll (by omega) hcs (fun j hj=>by rw[h3.cell,Array.getElem?_eq_getElem (by omega)];rfl) (fun j _=>h3.frozen j) hvs h1c h1v tA 47 kA cur.size hsa hkA h3.shape (by omega) (fun j=>h3.frozen j)).mono fun e w'=>?_
  rintro⟨rfl,rfl⟩
  have hb0:iJ w.drew g 47 cur:=h3
  have hb1:=iJ.setCells (cells.drop (i*3)) ((i+1)*3) hb0
  have hb2:=iJ.setCells cs (i*3) hb1
  have hm:dE (·∈[g]) w ((w.drew.setCells g ((i+1)*3) (cells.drop (i*3))).setCells g (i*3) cs):=
   fU (fun _=>by simp) _ _ (fU (fun _=>by simp) _ _ ((cD _ w).drew))
  generalize (w.drew.setCells g ((i+1)*3) (cells.drop (i*3))).setCells g (i*3) cs=w' at hb2 hm
  have hsz:(fh (fh cur ((i+1)*3) (cells.drop (i*3))) (i*3) cs).size=cap*3:=by
   have:∀(vs:List Value) (o:Nat) (arr:Array Value),(fh arr o vs).size=arr.size:=by
    intro vs
    induction vs with
    |nil=>intro o arr;rfl
    |cons v r ih=>intro o arr;show (fh (arr.setIfInBounds o v) (o+1) r).size=_;rw[ih,Array.size_setIfInBounds]
   rw[this,this,h6]
  have htk:=Di cur cells cs (i*3) ((xs.length - i)*3) (by omega) (by omega) (by rw[←h7,List.take_take,Nat.min_eq_left (by omega)])
  have hblt:g<w'.heap.size:=hb2.lt
  have hFA:∀b,F b→pL w w' F [HO.row (.slice (some ⟨g,0,none⟩) xs.length cap) 47 3 xs] [HO.row (.slice (some ⟨g,0,none⟩) (xs.length+1) cap) 47 3 (xs.take i++x::xs.drop i)] b:=fun b hb=>⟨Nat.lt_of_lt_of_le (hF b hb).1 hm.size,(hF b hb).2,.inl hb⟩
  have hsame:∀b,F b→w'.heap[b]?=w.heap[b]?:=fun b hb=>hm.block b (hF b hb).1 (fun he=>(hF b hb).2 he)
  refine⟨_,.own 0 (.slice (some ⟨g,0,none⟩) (xs.length+1) cap),[.row (.slice (some ⟨g,0,none⟩) (xs.length+1) cap) 47 3 (xs.take i++x::xs.drop i)],rfl,⟨_,rfl,rfl⟩,hm,⟨fun o ho=>?_,by rw[show ct [HO.row (.slice (some ⟨g,0,none⟩) (xs.length+1) cap) 47 3 (xs.take i++x::xs.drop i)]=[g] from rfl];simp,fun b hb=>?_⟩,fun b hb=>.inl hb,cf.2 ⟨rfl,rfl⟩⟩
  ·rw[List.mem_singleton.1 ho]
   refine⟨cells.take (i*3)++(cs++cells.drop (i*3)),gP hFA hsame _ _ _ hins,?_⟩
   refine⟨by rw[hil,hnl],.inr ⟨g,cap,_,by rw[hnl],Nat.zero_le _,hb2,by rw[hnl];exact hroom,h5,hsz,?_⟩⟩
   rw[hnl,←htk,show i*3+cs.length=(i+1)*3 by omega,show cells.length+cs.length=(xs.length+1)*3 by omega]
  ·have hb:b∈[g]:=hb
   rw[List.mem_singleton.1 hb];exact hblt
 ·refine(Ii g xs.length cap i vb voff 1 vc cells cs w hi (by decide) h4 (by omega) (by omega) hcll (by omega) hcs hvs h1c h1v).mono fun e w'=>?_
  rintro⟨G,ROW,rfl,hG1,hG2,hR1,hR2,rfl⟩
  have hb0:iJ (w.alloc (.cells ROW 47)).drew w.heap.size 47 ROW:=iJ.new w 47 ROW
  have hb1:=iJ.setCells cs (i*3) hb0
  have hb1':iJ ((w.alloc (.cells ROW 47)).drew.setCells w.heap.size (i*3) cs).drew w.heap.size 47 (fh ROW (i*3) cs):=hb1
  have hb2:=iJ.setCells (cells.drop (i*3)) ((i+1)*3) hb1'
  have hm:dE lh w ((((w.alloc (.cells ROW 47)).drew.setCells w.heap.size (i*3) cs).drew).setCells w.heap.size ((i+1)*3) (cells.drop (i*3))):=
   fU (fun h=>absurd h (Nat.lt_irrefl _)) _ _ (dE.drew (fU (fun h=>absurd h (Nat.lt_irrefl _)) _ _ (dE.drew ((cD _ w).alloc _))))
  generalize (((w.alloc (.cells ROW 47)).drew.setCells w.heap.size (i*3) cs).drew).setCells w.heap.size ((i+1)*3) (cells.drop (i*3))=w' at hb2 hm
  have hsz:(fh (fh ROW (i*3) cs) ((i+1)*3) (cells.drop (i*3))).size=G*3:=by rw[mG,mG,hR1]
  have htk:=A7 ROW cells cs (i*3) ((xs.length - i)*3) (by omega) (by omega) hR2
  rw[show i*3+cs.length=(i+1)*3 by omega,show cells.length+cs.length=(xs.length+1)*3 by omega] at htk
  generalize fh (fh ROW (i*3) cs) ((i+1)*3) (cells.drop (i*3))=cur2 at hb2 hsz htk
  have hblt:w.heap.size<w'.heap.size:=hb2.lt
  have hFA:∀b,F b→pL w w' F [HO.row (.slice (some ⟨g,0,none⟩) xs.length cap) 47 3 xs] [HO.row (.slice (some ⟨w.heap.size,0,none⟩) (xs.length+1) G) 47 3 (xs.take i++x::xs.drop i)] b:=fun b hb=>⟨Nat.lt_of_lt_of_le (hF b hb).1 hm.size,(fun hin=>by
   have hin:b∈[w.heap.size]:=hin
   have:=(hF b hb).1
   rw[List.mem_singleton.1 hin] at this
   exact Nat.lt_irrefl _ this),.inl hb⟩
  have hsame:∀b,F b→w'.heap[b]?=w.heap[b]?:=fun b hb=>hm.block b (hF b hb).1 (fun he=>he)
  refine⟨_,.own 0 (.slice (some ⟨w.heap.size,0,none⟩) (xs.length+1) G),[.row (.slice (some ⟨w.heap.size,0,none⟩) (xs.length+1) G) 47 3 (xs.take i++x::xs.drop i)],rfl,⟨_,rfl,rfl⟩,hm.mono (fun _ _ h=>h.elim),⟨fun o ho=>?_,by rw[show ct [HO.row (.slice (some ⟨w.heap.size,0,none⟩) (xs.length+1) G) 47 3 (xs.take i++x::xs.drop i)]=[w.heap.size] from rfl];simp,fun b hb=>?_⟩,fun b hb=>?_,cf.2 ⟨rfl,rfl⟩⟩
  ·rw[List.mem_singleton.1 ho]
   refine⟨cells.take (i*3)++(cs++cells.drop (i*3)),gP hFA hsame _ _ _ hins,?_⟩
   exact⟨by rw[hil,hnl],.inr ⟨w.heap.size,G,cur2,by rw[hnl],Nat.zero_le _,hb2,by rw[hnl];exact hG1,hG2,hsz,by rw[hnl];exact htk⟩⟩
  ·have hb:b∈[w.heap.size]:=hb
   rw[List.mem_singleton.1 hb];exact hblt
  ·have hb:b∈[w.heap.size]:=hb
   rw[List.mem_singleton.1 hb];exact .inr (Nat.le_refl _)
theorem wz(xs:List AV)(hl:xs.length≤1000000):
 aQ Tryz.prog 74 [.sl 3 xs] [] (fun r os=>∃v,r= .own 0 v∧os=[.row v 47 3 xs]):=by
 refine aA ab [] Tryz.func74 Z Tryz.ntmps74 aN Z Z (fun C=>?_) Z
 repeat' (first|refine ae ?_|refine aa ?_|refine ac (ax ?_)|refine ah (ax ?_)|refine ap (bC ?_)|refine aU ab (fun _=>?_)|refine aI ab Z Z Z Z Z Z Z Z Z Z Z eo (fun _=>?_)|(refine bH ab Z Z Z Z Z Z Z Z Z (by first|exact J|exact rfl) Z Z (fun _=>rfl) ?_ ?_ (fun _=>?_);(exact dt);(exact dt))|(refine ba Z (fun hc=>?_) (fun hc=>?_))|(refine pR ab Z Z Z Z Z (fun c hc0=>?_)))
 ·have:=hc0 hc
  subst this
  exact bp Z Z Z [] [(0,_)] (dz (k:=0)) (.none .nil) ⟨_,rfl,rfl⟩ _ (.inl Z)
 ·exact bp Z Z Z [] [(0,_)] gZ (az 5 Z .nil) ⟨_,rfl,rfl⟩ _ (.inl Z)
theorem DD(xs:List AV)(x:AV)(v:Value)(hl:xs.length≤1000000):
 aQ Tryz.prog 75 [.own 0 v,.i .i64 xs.length,.sl 3 [x]] [.row v 47 3 xs] (fun r os=>∃v',r= .own 0 v'∧os=[.row v' 47 3 (xs++[x])]):=by
 refine aA ab [(0,.row v 47 3 xs)] Tryz.func75 Z Tryz.ntmps75 aN Z Z (fun C=>?_) Z
 repeat' (first|refine ae ?_|refine aa ?_|refine ac (ax ?_)|refine ah (ax ?_)|refine ap (bC ?_)|refine aU ab (fun _=>?_)|(refine bH ab Z Z Z Z Z Z Z Z Z (by first|exact J|exact rfl) Z Z (fun _=>rfl) ?_ ?_ (fun _=>?_);(exact dt);(exact dt))|refine aB Z ?_|(refine ao Z (fun hc=>?_) (fun hc=>?_))<;>try omega|(refine w8 ab Z xs.length xs.length Z Z ⟨_,rfl⟩ Z Z Z Z (Nat.le_refl _) (Nat.le_refl _) ?_))
 exact bp Z Z Z [] [(0,_)] gZ (az 0 Z .nil) ⟨_,rfl,rfl⟩ _ (.inl Z)
theorem Bs(xs:List AV)(x:AV)(i:Nat)(v:Value)(hi:i≤xs.length)(hl:xs.length≤1000000):
 aQ Tryz.prog 75 [.own 0 v,.i .i64 i,.sl 3 [x]] [.row v 47 3 xs] (fun r os=>∃v',r= .own 0 v'∧os=[.row v' 47 3 (xs.take i++x::xs.drop i)]):=by
 rcases Nat.lt_or_eq_of_le hi with h|h
 ·exact DC xs x i v h hl
 ·subst h
  rw[List.take_length,List.drop_length]
  exact DD xs x v hl
def cw(x:aC):Int:=IntKind.i64.wrap (IntKind.i64.wrap ((x.k.length:Int)+(x.v.length:Int))+8)
theorem nJ(x:aC):aQ Tryz.prog 73 [eA x] [] (fun r os=>r= .i .i64 (cw x)∧os=[]):=by
 refine aA ab [] Tryz.func73 Z Tryz.ntmps73 aN Z Z (fun C=>?_) Z
 unfold eA
 repeat' (first|refine ae ?_|refine aa ?_|refine ac (ax ?_)|refine ap (bC ?_)|refine aU ab (fun _=>?_)|refine c9 Z Z Z Z (fun _=>?_))
 exact jh
def Oc(l:List aC)(s:Int):AV:=.agg [.sl 3 (l.map eA),.i .i64 s]
set_option maxHeartbeats 4000000
namespace Mg
def wS(a b:List UInt8):Bool:=Op.bytesLess a b
def zq(a b:List UInt8):Bool:=a==b
theorem oh(a:List UInt8):wS a a=false:=cW _
theorem j6{a b c:List UInt8}(h:wS a b=true)(k:wS b c=true):wS a c=true:=dZ h k
theorem JS(a b:List UInt8):wS a b=true∨a=b∨wS b a=true:=gt a b
theorem zp{a b:List UInt8}:zq a b=true↔a=b:=by unfold zq;exact beq_iff_eq
theorem nv{a b:List UInt8}:zq a b=false↔a≠b:=by rw[←Bool.not_eq_true,zp]
theorem j7{a b:List UInt8}(h:wS a b=true):wS b a=false:=by
 cases hb:wS b a with
 |false=>rfl
 |true=>have:=j6 h hb;rw[oh] at this;cases this
theorem og{a b:List UInt8}(h:wS a b=true):a≠b:=by rintro rfl;rw[oh] at h;cases h
theorem rE{a b:List UInt8}(h:wS a b=false):a=b∨wS b a=true:=by
 rcases JS a b with h1|h1|h1
 ·rw[h] at h1;cases h1
 ·exact .inl h1
 ·exact .inr h1
def iI(l:List aC):Prop:=l.Pairwise fun a b=>wS a.k b.k=true
theorem iI.k_inj{l:List aC}(h:iI l){a b:aC}(ha:a∈l)(hb:b∈l)(hk:a.k=b.k):a=b:=by
 induction l with
 |nil=>cases ha
 |cons x l ih=>
  obtain⟨h1,h2⟩:=List.pairwise_cons.1 h
  rcases List.mem_cons.1 ha with e1|ha1
  ·rcases List.mem_cons.1 hb with e2|hb1
   ·rw[e1,e2]
   ·subst e1;exact(og (h1 _ hb1) hk).elim
  ·rcases List.mem_cons.1 hb with e2|hb1
   ·subst e2;exact(og (h1 _ ha1) hk.symm).elim
   ·exact ih h2 ha1 hb1
theorem nW{a b:List aC}(ha:iI a)(hb:iI b)(h:∀e,e∈a↔e∈b):a=b:=by
 induction a generalizing b with
 |nil=>cases b with
  |nil=>rfl
  |cons y b=>have:=(h y).2 (by simp);cases this
 |cons x a ih=>
  cases b with
  |nil=>have:=(h x).1 (by simp);cases this
  |cons y b=>
   obtain⟨h1,h2⟩:=List.pairwise_cons.1 ha
   obtain⟨h3,h4⟩:=List.pairwise_cons.1 hb
   have hxy:x=y:=by
    rcases List.mem_cons.1 ((h x).1 (by simp)) with e|hx
    ·exact e
    ·rcases List.mem_cons.1 ((h y).2 (by simp)) with e|hy
     ·exact e.symm
     ·have:=j7 (h1 _ hy);rw[h3 _ hx] at this;cases this
   subst hxy
   congr 1
   refine ih h2 h4 fun e=>⟨fun he=>?_,fun he=>?_⟩
   ·rcases List.mem_cons.1 ((h e).1 (by simp[he])) with rfl|h5
    ·exact(og (h1 _ he) rfl).elim
    ·exact h5
   ·rcases List.mem_cons.1 ((h e).2 (by simp[he])) with rfl|h5
    ·exact(og (h3 _ he) rfl).elim
    ·exact h5
def put(l:List aC)(x:aC):List aC:=gL x l false
theorem xb(x:aC)(l:List aC)(e:aC):e∈gL x l true↔e∈l∧e.k≠x.k:=by
 induction l with
 |nil=>simp[gL]
 |cons y l ih=>
  unfold gL
  rw[List.mem_append,List.mem_append,Bool.true_or,ih]
  simp only[Bool.not_true,Bool.false_and,Bool.false_eq_true,if_false,List.not_mem_nil,false_or,List.mem_cons]
  by_cases hk:y.k=x.k
  ·rw[if_pos hk]
   exact⟨fun h=>h.elim (fun h=>(by cases h)) (fun ⟨h1,h2⟩=>⟨.inr h1,h2⟩),fun ⟨h1,h2⟩=>.inr ⟨h1.resolve_left (fun e=>h2 (e▸hk)),h2⟩⟩
  ·rw[if_neg hk]
   exact⟨fun h=>h.elim (fun e=>by rw[List.mem_singleton.1 e];exact⟨.inl rfl,hk⟩) (fun ⟨h1,h2⟩=>⟨.inr h1,h2⟩),fun ⟨h1,h2⟩=>h1.elim (fun e=>.inl (List.mem_singleton.2 e)) (fun h=>.inr ⟨h,h2⟩)⟩
theorem zh(x:aC)(l:List aC)(e:aC):e∈put l x↔e=x∨e∈l∧e.k≠x.k:=by
 unfold put
 induction l with
 |nil=>simp[gL]
 |cons y l ih=>
  unfold gL
  rw[List.mem_append,List.mem_append,List.mem_cons]
  by_cases hl:Op.bytesLess y.k x.k=true
  ·have hne:y.k≠x.k:=og hl
   rw[hl,if_neg hne]
   simp only[Bool.not_true,Bool.and_false,Bool.false_eq_true,if_false,List.not_mem_nil,false_or,Bool.or_self,ih,List.mem_singleton]
   constructor
   ·rintro(e1|e1|⟨h1,h2⟩)
    ·exact .inr ⟨.inl e1,e1▸hne⟩
    ·exact .inl e1
    ·exact .inr ⟨.inr h1,h2⟩
   ·rintro(e1|⟨e1|h1,h2⟩)
    ·exact .inr (.inl e1)
    ·exact .inl e1
    ·exact .inr (.inr ⟨h1,h2⟩)
  ·rw[Bool.not_eq_true] at hl
   rw[hl]
   simp only[Bool.not_false,Bool.and_self,if_true,Bool.or_true,xb,List.mem_singleton]
   by_cases hk:y.k=x.k
   ·rw[if_pos hk]
    exact⟨fun h=>h.elim .inl (fun h=>h.elim (fun h=>by cases h) (fun ⟨h1,h2⟩=>.inr ⟨.inr h1,h2⟩)),fun h=>h.elim .inl (fun ⟨h1,h2⟩=>.inr (.inr ⟨h1.resolve_left (fun e=>h2 (e▸hk)),h2⟩))⟩
   ·rw[if_neg hk]
    constructor
    ·rintro(e1|e1|⟨h1,h2⟩)
     ·exact .inl e1
     ·rw[List.mem_singleton.1 e1];exact .inr ⟨.inl rfl,hk⟩
     ·exact .inr ⟨.inr h1,h2⟩
    ·rintro(e1|⟨e1|h1,h2⟩)
     ·exact .inl e1
     ·exact .inr (.inl (List.mem_singleton.2 e1))
     ·exact .inr (.inr ⟨h1,h2⟩)
theorem nV(x:aC)(l:List aC)(h:iI l):iI (put l x):=by
 unfold put;rw[yX h];exact tm h
def cZ:List (List aC)→List aC
 |[]=>[]
 |l::ls=>l.foldl put (cZ ls)
def cF(ls:List (List aC)):Nat:=(ls.map List.length).sum
def cU(ls:List (List aC))(drop:Bool):List aC:=(cZ ls).filter fun e=>!drop||!e.g
def dB(cl:List (List aC)):Nat→Option Nat
 |0=>none
 |k+1=>match cl[k]? with
  |some (x::_)=>match dB cl k with
   |none=>some k
   |some j=>match cl[j]? with
    |some (y::_)=>if wS x.k y.k then some k else some j
    |_=>some j
  |_=>dB cl k
def Np:Option Nat→Int
 |none=> -1
 |some j=>j
theorem oe(cl:List (List aC))(k:Nat):∀j,dB cl k=some j→j<k∧∃y ys,cl[j]?=some (y::ys):=by
 induction k with
 |zero=>intro j h;simp[dB] at h
 |succ k ih=>
  intro j h
  unfold dB at h
  split at h
  ·rename_i x xs hx
   split at h
   ·injection h with h;subst h;exact⟨by omega,_,_,hx⟩
   ·rename_i j' hj'
    obtain⟨h1,y,ys,h2⟩:=ih j' hj'
    rw[h2] at h
    simp only at h
    split at h
    ·injection h with h;subst h;exact⟨by omega,_,_,hx⟩
    ·injection h with h;subst h;exact⟨by omega,_,_,h2⟩
  ·obtain⟨h1,h2⟩:=ih j h;exact⟨by omega,h2⟩
def kZ(drop:Bool):Nat→List (List aC)→Option (List UInt8)→List aC
 |0,_,_=>[]
 |f+1,cl,last=>match dB cl cl.length with
  |none=>[]
  |some i=>match cl[i]? with
   |some (x::xs)=>if last.any (fun s=>zq x.k s) then kZ drop f (cl.set i xs) last
     else (if !drop||!x.g then [x] else [])++kZ drop f (cl.set i xs) (some x.k)
   |_=>[]
def pg(ls:List (List aC))(drop:Bool):List aC:=kZ drop (cF ls) ls none
theorem sC(cl:List (List aC))(i:Nat)(x:aC)(xs:List aC)(h:cl[i]?=some (x::xs)):cF cl=cF (cl.set i xs)+1:=by
 induction cl generalizing i with
 |nil=>simp at h
 |cons l cl ih=>
  cases i with
  |zero=>simp at h;subst h;simp[cF];omega
  |succ i=>have:=ih i (by simpa using h);simp only[List.set_cons_succ,cF,List.map_cons,List.sum_cons] at*;omega
theorem Dp{drop:Bool}{f:Nat}{cl:List (List aC)}{last:Option (List UInt8)}(h:dB cl cl.length=none):kZ drop f cl last=[]:=by
 cases f with
 |zero=>rfl
 |succ f=>simp[kZ,h]
theorem Dn{drop:Bool}{cl:List (List aC)}{last:Option (List UInt8)}{i:Nat}{x:aC}{xs:List aC}(h:dB cl cl.length=some i)(hi:cl[i]?=some (x::xs)):
 kZ drop (cF cl) cl last=if last.any (fun s=>zq x.k s) then kZ drop (cF (cl.set i xs)) (cl.set i xs) last
    else (if !drop||!x.g then [x] else [])++kZ drop (cF (cl.set i xs)) (cl.set i xs) (some x.k):=by
 rw[sC cl i x xs hi]
 simp only[kZ,h,hi]
theorem Gg(drop:Bool)(f:Nat)(cl:List (List aC))(last:Option (List UInt8)):(kZ drop f cl last).length≤f:=by
 induction f generalizing cl last with
 |zero=>simp[kZ]
 |succ f ih=>
  unfold kZ
  split
  ·simp
  ·split
   ·split
    ·exact Nat.le_succ_of_le (ih _ _)
    ·rename_i i _ _ x xs _ _
     have:=ih (cl.set i xs) (some x.k)
     rw[List.length_append]
     split<;>simp<;>omega
   ·simp
theorem sI(l:List aC):∀all,iI all→iI (l.foldl put all):=by
 induction l with
 |nil=>intro all h;exact h
 |cons x l ih=>intro all h;exact ih _ (nV x all h)
theorem xc(l:List aC)(hl:iI l):∀all e,e∈l.foldl put all↔e∈l∨e∈all∧∀y∈l,e.k≠y.k:=by
 induction l with
 |nil=>intro all e;simp
 |cons x l ih=>
  obtain⟨h1,h2⟩:=List.pairwise_cons.1 hl
  intro all e
  rw[List.foldl_cons,ih h2,zh]
  simp only[List.mem_cons,forall_eq_or_imp]
  constructor
  ·rintro(h|⟨rfl|⟨h3,h4⟩,h5⟩)
   ·exact .inl (.inr h)
   ·exact .inl (.inl rfl)
   ·exact .inr ⟨h3,h4,h5⟩
  ·rintro((rfl|h)|⟨h3,h4,h5⟩)
   ·exact .inr ⟨.inl rfl,fun y hy e=>og (h1 y hy) e⟩
   ·exact .inl h
   ·exact .inr ⟨.inr ⟨h3,h4⟩,h5⟩
theorem fv(ls:List (List aC)):iI (cZ ls):=by
 induction ls with
 |nil=>simp[cZ,iI]
 |cons l ls ih=>exact sI l _ ih
def dG(ls:List (List aC)):Prop:=∀l∈ls,iI l
theorem cj(l:List aC)(ls:List (List aC))(hl:iI l)(e:aC):e∈cZ (l::ls)↔e∈l∨e∈cZ ls∧∀y∈l,e.k≠y.k:=xc l hl _ e
theorem kW(ls:List (List aC))(h:dG ls)(e:aC)(he:e∈cZ ls):∃l∈ls,e∈l:=by
 induction ls with
 |nil=>simp[cZ] at he
 |cons l ls ih=>
  rcases (cj l ls (h l (by simp)) e).1 he with h1|⟨h1,_⟩
  ·exact⟨l,by simp,h1⟩
  ·obtain⟨l',h2,h3⟩:=ih (fun l hl=>h l (by simp[hl])) h1
   exact⟨l',by simp[h2],h3⟩
theorem qF(cl:List (List aC))(h:dG cl)(i:Nat)(x:aC)(xs:List aC)(hi:cl[i]?=some (x::xs))(e:aC)(he:e.k≠x.k):e∈cZ cl↔e∈cZ (cl.set i xs):=by
 induction cl generalizing i with
 |nil=>simp at hi
 |cons l cl ih=>
  have hl:=h l (by simp)
  cases i with
  |zero=>
   simp at hi;subst hi
   rw[List.set_cons_zero,cj _ _ hl,cj _ _ (List.pairwise_cons.1 hl).2]
   simp only[List.mem_cons,forall_eq_or_imp]
   constructor
   ·rintro((rfl|h1)|⟨h1,h2,h3⟩)
    ·exact(he rfl).elim
    ·exact .inl h1
    ·exact .inr ⟨h1,h3⟩
   ·rintro(h1|⟨h1,h2⟩)
    ·exact .inl (.inr h1)
    ·exact .inr ⟨h1,he,h2⟩
  |succ i=>
   rw[List.set_cons_succ,cj _ _ hl,cj _ _ hl,ih (fun l hl=>h l (by simp[hl])) i (by simpa using hi)]
theorem xr{cl:List (List aC)}(h:dG cl)(i:Nat)(x:aC)(xs:List aC)(hi:cl[i]?=some (x::xs)):dG (cl.set i xs):=by
 intro l hl
 rcases List.mem_or_eq_of_mem_set hl with h1|rfl
 ·exact h l h1
 ·exact(List.pairwise_cons.1 (h (x::l) (List.mem_of_getElem? hi))).2
theorem rL{cl:List (List aC)}{k:Nat}(h:dB cl k=none):∀j,j<k→∀y ys,cl[j]?≠some (y::ys):=by
 induction k with
 |zero=>intro j hj;omega
 |succ k ih=>
  intro j hj y ys hy
  unfold dB at h
  split at h
  ·split at h
   ·cases h
   ·split at h
    ·split at h<;>cases h
    ·cases h
  ·rename_i hk
   rcases Nat.lt_or_ge j k with h1|h1
   ·exact ih h j h1 y ys hy
   ·have:j=k:=by omega
    subst this;exact hk y ys hy
theorem qn{cl:List (List aC)}{k i:Nat}(h:dB cl k=some i):∀x xs,cl[i]?=some (x::xs)→∀j,j<k→∀y ys,cl[j]?=some (y::ys)→
 (wS y.k x.k=false)∧(j<i→wS x.k y.k=true):=by
 induction k generalizing i with
 |zero=>intro x xs _ j hj;omega
 |succ k ih=>
  intro x xs hx j hj y ys hy
  unfold dB at h
  split at h
  ·rename_i z zs hz
   split at h
   ·rename_i hn
    injection h with h;subst h
    rw[hz] at hx;injection hx with hx;injection hx with hx1 hx2;subst hx1
    rcases Nat.lt_or_ge j k with h1|h1
    ·exact(rL hn j h1 y ys hy).elim
    ·have:j=k:=by omega
     subst this
     rw[hz] at hy;injection hy with hy;injection hy with hy1 _;subst hy1
     exact⟨oh _,fun h=>by omega⟩
   ·rename_i i' hi'
    obtain⟨hik,a,as',ha⟩:=oe cl k i' hi'
    rw[ha] at h
    simp only at h
    split at h
    ·rename_i hlt
     injection h with h;subst h
     rw[hz] at hx;injection hx with hx;injection hx with hx1 _;subst hx1
     rcases Nat.lt_or_ge j k with h1|h1
     ·obtain⟨h2,h3⟩:=ih hi' a as' ha j h1 y ys hy
      have h4:wS z.k y.k=true:=by
       rcases rE h2 with e|e
       ·rw[e];exact hlt
       ·exact j6 hlt e
      exact⟨j7 h4,fun _=>h4⟩
     ·have:j=k:=by omega
      subst this
      rw[hz] at hy;injection hy with hy;injection hy with hy1 _;subst hy1
      exact⟨oh _,fun h=>by omega⟩
    ·rename_i hlt
     injection h with h;subst h
     rcases Nat.lt_or_ge j k with h1|h1
     ·exact ih hi' x xs hx j h1 y ys hy
     ·have:j=k:=by omega
      subst this
      rw[hz] at hy;injection hy with hy;injection hy with hy1 _;subst hy1
      rw[ha] at hx;injection hx with hx;injection hx with hx1 _;subst hx1
      exact⟨by simpa using hlt,fun h=>by omega⟩
  ·rename_i hk
   rcases Nat.lt_or_ge j k with h1|h1
   ·exact ih h x xs hx j h1 y ys hy
   ·have:j=k:=by omega
    subst this;exact(hk y ys hy).elim
theorem vy{cl:List (List aC)}(h:∀l∈cl,l=[]):cZ cl=[]:=by
 induction cl with
 |nil=>rfl
 |cons l cl ih=>
  have h1:=h l (by simp);subst h1
  have:=ih (fun l hl=>h l (by simp[hl]))
  simpa [cZ] using this
theorem td{cl:List (List aC)}(h:dG cl){i:Nat}{x:aC}{xs:List aC}(hi:cl[i]?=some (x::xs))(hf:∀j,j<i→∀l,cl[j]?=some l→∀y∈l,x.k≠y.k):x∈cZ cl:=by
 induction cl generalizing i with
 |nil=>simp at hi
 |cons l cl ih=>
  rw[cj l cl (h l (by simp))]
  cases i with
  |zero=>simp at hi;subst hi;exact .inl (by simp)
  |succ i=>exact .inr ⟨ih (fun l hl=>h l (by simp[hl])) (i:=i) (by simpa using hi) (fun j hj l hl y hy=>hf (j+1) (by omega) l (by simpa using hl) y hy),fun y hy=>hf 0 (by omega) l (by simp) y hy⟩
theorem yZ{cl:List (List aC)}(h:dG cl){i:Nat}{x:aC}{xs:List aC}(hl:dB cl cl.length=some i)(hi:cl[i]?=some (x::xs)):
 cZ cl=x::(cZ (cl.set i xs)).filter (fun e=>!zq e.k x.k):=by
 have hls:=qn hl x xs hi
 have hmin:∀e∈cZ cl,wS e.k x.k=false:=by
  intro e he
  obtain⟨l,hlm,hel⟩:=kW cl h e he
  obtain⟨j,hj⟩:=List.mem_iff_getElem?.1 hlm
  cases l with
  |nil=>cases hel
  |cons y ys=>
   have hjl:j<cl.length:=(List.getElem?_eq_some_iff.1 hj).1
   have h1:=(hls j hjl y ys hj).1
   rcases List.mem_cons.1 hel with rfl|hel
   ·exact h1
   ·have h2:=(List.pairwise_cons.1 (h _ hlm)).1 e hel
    rcases rE h1 with e1|e1
    ·rw[e1] at h2;exact j7 h2
    ·exact j7 (j6 e1 h2)
 have hx:x∈cZ cl:=by
  refine td h hi fun j hj l hlj y hy=>?_
  cases l with
  |nil=>cases hy
  |cons z zs=>
   have hjl:j<cl.length:=(List.getElem?_eq_some_iff.1 hlj).1
   have h1:=(hls j hjl z zs hlj).2 hj
   rcases List.mem_cons.1 hy with rfl|hy
   ·exact og h1
   ·exact og (j6 h1 ((List.pairwise_cons.1 (h _ (List.mem_of_getElem? hlj))).1 y hy))
 refine nW (fv cl) ?_ fun e=>?_
 ·refine List.pairwise_cons.2 ⟨fun e he=>?_,(fv _).filter _⟩
  rw[List.mem_filter] at he
  have hne:e.k≠x.k:=nv.1 (by simpa using he.2)
  have:=hmin e ((qF cl h i x xs hi e hne).2 he.1)
  exact(rE this).resolve_left hne
 ·rw[List.mem_cons,List.mem_filter]
  constructor
  ·intro he
   by_cases hk:e.k=x.k
   ·exact .inl ((fv cl).k_inj he hx hk)
   ·exact .inr ⟨(qF cl h i x xs hi e hk).1 he,by simp[nv.2 hk]⟩
  ·rintro(rfl|⟨h1,h2⟩)
   ·exact hx
   ·exact(qF cl h i x xs hi e (nv.1 (by simpa using h2))).2 h1
theorem Ga{ls:List (List aC)}{l:List aC}(h:l∈ls):l.length≤cF ls:=by
 induction ls with
 |nil=>cases h
 |cons a ls ih=>
  simp only[cF,List.map_cons,List.sum_cons] at*
  rcases List.mem_cons.1 h with e|h
  ·subst e;omega
  ·have:=ih h;omega
theorem uv(x:aC)(r:List aC):(x::r.filter (fun e=>!zq e.k x.k)).filter (fun e=>!zq e.k x.k)=r.filter (fun e=>!zq e.k x.k):=by
 rw[List.filter_cons,if_neg (by simp[zp.2 rfl]),List.filter_filter]
 simp
theorem HY(drop:Bool):∀(n:Nat) (cl:List (List aC)) (last:Option (List UInt8)),cF cl=n→dG cl→(∀s,last=some s→∀l∈cl,∀e∈l,wS e.k s=false)→
 kZ drop n cl last=((cZ cl).filter fun e=>!last.any (zq e.k)).filter fun e=>!drop||!e.g:=by
 intro n
 induction n with
 |zero=>
  intro cl last ht hs hb
  have:∀l∈cl,l=[]:=by
   intro l hl
   have h0:l.length≤cF cl:=by
    exact Ga hl
   exact List.eq_nil_of_length_eq_zero (by omega)
  rw[vy this];rfl
 |succ n ih=>
  intro cl last ht hs hb
  rcases hl:dB cl cl.length with _|i
  ·have:∀l∈cl,l=[]:=by
    intro l hlm
    obtain⟨j,hj⟩:=List.mem_iff_getElem?.1 hlm
    cases l with
    |nil=>rfl
    |cons y ys=>exact(rL hl j (List.getElem?_eq_some_iff.1 hj).1 y ys hj).elim
   rw[vy this];simp[kZ,hl]
  ·obtain⟨hil,x,xs,hi⟩:=oe cl _ i hl
   have hts:=sC cl i x xs hi
   have hs':=xr hs i x xs hi
   have hxl:(x::xs)∈cl:=List.mem_of_getElem? hi
   have hsub:∀l∈cl.set i xs,∀e∈l,∃l'∈cl,e∈l':=by
    intro l hl e he
    rcases List.mem_or_eq_of_mem_set hl with h1|rfl
    ·exact⟨l,h1,he⟩
    ·exact⟨x::l,hxl,by simp[he]⟩
   have hrl:=yZ hs hl hi
   simp only[kZ,hl,hi]
   cases hd:last.any (fun s=>zq x.k s) with
   |true=>
    obtain⟨s,rfl,hks⟩:∃s,last=some s∧zq x.k s=true:=by
     cases last with
     |none=>simp at hd
     |some s=>exact⟨s,rfl,by simpa using hd⟩
    have hks':=zp.1 hks;subst hks'
    rw[if_pos rfl,ih _ _ (by omega) hs' (fun s hs l hl e he=>by obtain⟨l',h1,h2⟩:=hsub l hl e he;exact hb s hs l' h1 e h2),hrl]
    congr 1
    exact(uv x _).symm
   |false=>
    rw[if_neg (by simp)]
    have hbig:∀e∈cZ cl,last.any (zq e.k)=false:=by
     intro e he
     cases last with
     |none=>rfl
     |some s=>
      have h1:zq x.k s=false:=by simpa using hd
      have h2:=hb s rfl _ hxl x (by simp)
      have h3:wS s x.k=true:=(rE h2).resolve_left (nv.1 h1)
      rw[hrl] at he
      have h4:wS s e.k=true:=by
       rcases List.mem_cons.1 he with rfl|he
       ·exact h3
       ·have:=fv cl
        rw[hrl] at this
        exact j6 h3 ((List.pairwise_cons.1 this).1 e he)
      have:e.k≠s:=fun e1=>og h4 e1.symm
      simpa using nv.2 this
    have hf:(cZ cl).filter (fun e=>!last.any (zq e.k))=cZ cl:=by
     rw[List.filter_eq_self];intro e he;simp[hbig e he]
    rw[hf,hrl,ih _ _ (by omega) hs' (fun s hs l hlm e he=>by
     injection hs with hs;subst hs
     rcases List.mem_or_eq_of_mem_set hlm with h1|rfl
     ·obtain⟨j,hj⟩:=List.mem_iff_getElem?.1 h1
      cases l with
      |nil=>cases he
      |cons y ys=>
       have h2:=(qn hl x xs hi j (List.getElem?_eq_some_iff.1 hj).1 y ys hj).1
       rcases List.mem_cons.1 he with rfl|he
       ·exact h2
       ·have h3:=(List.pairwise_cons.1 (hs' _ hlm)).1 e he
        rcases rE h2 with e1|e1
        ·rw[e1] at h3;exact j7 h3
        ·exact j7 (j6 e1 h3)
     ·exact j7 ((List.pairwise_cons.1 (hs _ hxl)).1 e he))]
    rw[List.filter_cons]
    cases hk:(!drop||!x.g)<;>simp
theorem pX(ls:List (List aC))(drop:Bool)(h:dG ls):pg ls drop=cU ls drop:=by
 unfold pg cU
 rw[HY drop _ ls none rfl h (fun s hs=>by cases hs)]
 simp
theorem dx(ls:List (List aC))(drop:Bool):iI (cU ls drop):=(fv ls).filter _
theorem lq(ls:List (List aC))(drop:Bool)(e:aC):e∈cU ls drop↔e∈cZ ls∧(!drop||!e.g)=true:=by
 unfold cU;rw[List.mem_filter]
theorem qK(ls:List (List aC))(drop:Bool):(pg ls drop).length≤cF ls:=Gg _ _ _ _
end Mg
end Go.Proofs.YtginkbjclkdglaaGreat
