/- maps.Keys and slices.Sorted of a map from texts to pointers: the kit's contracts as contracts of this frame. -/
import Derived.Shelf.SlIter.Nil
import Derived.Shelf.SortM.Plain
import Derived.Shelf.SortM.SortNone
import Derived.Ground.GgzProg
import Derived.Ground.SlgmProg
import Derived.Test.YtginkbjclkdglaaGreatDK3Z
import Derived.Test.YtginkbjclkdglaaGreatB2Z
import Derived.Lib.FrozenHead
set_option maxHeartbeats 8000000
set_option maxRecDepth 100000
namespace Go.Proofs.YtginkbjclkdglaaGreat
open Go Go.RowKit Go.Maps Go.Sort Go.Shelf Go.WideElems Go.MapKept Go.WideShapes
def Ma(_:Value):Option (DataW Unit×List MemPlace):=some (.nil,[])
def Nd(P:Program)(k:TypeId)(es:List PE):DataW Unit:=.map (((es.map fS).toArray.toList.map (rg P k Ma)).foldr DataW.insert [])
theorem Na{P:Program}{k:TypeId}(hk:P.underlying k=some .string){s:List UInt8}(hs:s.length≤maxLen):keyOf P k (vS s)=some (.string s):=by
 unfold vS
 have h2:(bf s).size≤maxLen:=by show s.toArray.size≤maxLen;simpa using hs
 simp[keyOf,hk,mapKey,h2]
 rfl
theorem M3{P:Program}{k:TypeId}(hk:P.underlying k=some .string){e:PE}(hs:e.1.length≤maxLen):rd P k Ma (fS e)=some (.string e.1,.nil):=rd_mk (born:=e.2.2) (val:=pV e.2.1) (Na hk hs) (rfl:Ma (pV e.2.1)=some (.nil,[]))
theorem M5{P:Program}{k:TypeId}{w:World}{b c:Nat}{es:List PE}(hk:P.underlying k=some .string)(hb:w.heap[b]?=some (cV es c))(hl:es.length≤maxLen)(hn:∀e∈es,e.1.length≤maxLen)(hc:∀e∈es,e.2.2<c)(hbn:(es.map (·.2.2)).Nodup)(hkn:(es.map (·.1)).Nodup):w.ownsMap P k Ma b es.length (Nd P k es):=by
 refine⟨(es.map fS).toArray,c,hb,⟨by simpa using hl,(stamped_iff _ _).2 ⟨fun x hx=>?_,?_,?_⟩,fun x hx=>?_⟩,by simp,rfl⟩
 ·simp only[List.mem_map] at hx
  obtain⟨e,he,rfl⟩:=hx
  exact hc e he
 ·have:((es.map fS).toArray.toList).map (·.born)=es.map (·.2.2):=by simp[fS,Function.comp_def]
  rw[this];exact hbn
 ·have:((es.map fS).toArray.toList)=es.map fS:=rfl
  rw[this,List.pairwise_map]
  refine(List.pairwise_map.1 hkn).imp (fun {x y} h he=>h ?_)
  have:(bf x.1)=bf y.1:=by
   have he:vS x.1=vS y.1:=he
   unfold vS at he
   injection he
  exact Ce this
 ·simp only[List.mem_map] at hx
  obtain⟨e,he,rfl⟩:=hx
  exact⟨_,M3 hk (hn e he)⟩
theorem LQ{P:Program}{k:TypeId}{es:List PE}(hk:P.underlying k=some .string)(hn:∀e∈es,e.1.length≤maxLen):(strKeys (Nd P k es)).Perm (es.map (·.1)):=by
 unfold Nd strKeys
 refine((sorted_perm _).map _).trans ?_
 have:((es.map fS).toArray.toList.map (rg P k Ma)).map (fun p=>strOf p.1)=es.map (·.1):=by
  have h0:(es.map fS).toArray.toList=es.map fS:=rfl
  rw[h0,List.map_map,List.map_map]
  refine List.map_congr_left (fun e he=>?_)
  show strOf (rg P k Ma (fS e)).1=e.1
  rw[rg_of (M3 hk (hn e he))];rfl
 rw[this]
theorem Hn{P:Program}{k:TypeId}{es:List PE}:Maps.size (Nd P k es)=es.length:=by
 unfold Nd Maps.size
 simp[length_sorted]
end Go.Proofs.YtginkbjclkdglaaGreat
set_option maxHeartbeats 8000000
set_option maxRecDepth 100000
namespace Go.Proofs
open Go.RowKit Go.Maps Go.Sort Go.Shelf
shelf_lay_g SlLaysZ.n7 Ggz 7 at Tryz 116 as Tryz.keysL
shelf_lay_g SlLaysZ.n6 Ggz 6 at Tryz 115 as Tryz.sortedL
shelf_lay_g SlLaysM.n6 Slgm 6 at Tryz 150 as Tryz.sortL
theorem Tryz.sortsL(m:Nat):AnyZ.SortsIn Tryz.prog Tryz.sortedL_ren Fence.wide m:=
 ⟨fun blk off cap ss W hH hblk hsz=>callsIn_wide.2 (AnyM.slices_Sort_string Tryz.sortL blk off cap ss W hH hblk hsz),
  fun p cap W=>callsIn_wide.2 (AnyM.slices_Sort_string_none Tryz.sortL p cap W)⟩
theorem Tryz.keys_at(mb:Option Nat)(W:World):CallsIn Fence.wide 5 Tryz.prog 116 #[.map mb] W fun e w'=>e= .returned (.func (.func 151) #[] #[.pointer (some ⟨W.heap.size,0,none⟩)])∧w'=W.alloc (.cells #[.map mb] 62):=
 AnyZ.keys_in Tryz.keysL Fence.wide 5 trivial rfl mb W
theorem Tryz.sorted_at{H:Type}(b bi nn:Nat)(D0:DataW H)(R:Value→Option (DataW H×List MemPlace))(w:World)(hBm:bi<w.heap.size)(hm:w.cell? ⟨bi,0,none⟩=some (.map (some b)))(hown:w.ownsMap Tryz.prog 9 R b nn D0)(hmax:Maps.size D0≤maxLen)(hbytes:Maps.size D0*16≤140737488355328):
 CallsIn Fence.wide 5 Tryz.prog 115 #[.func (.func 151) #[] #[.pointer (some ⟨bi,0,none⟩)]] w fun e w'=>∃(v:Value) (ss:List (List UInt8)),e= .returned v∧ss.Perm (strKeys D0)∧
  w'.ownsRow w.heap.size 9 1 v ss.length ((ss.mergeSort (fun x y=>decide (x≤y))).map encStr)∧(v= .slice none 0 0↔ss=[])∧Below w.heap.size w w':=by
 have hseq:SeqGives Fence.wide 2 Tryz.prog 151 #[.pointer (some ⟨bi,0,none⟩)] encStr (fun ss=>ss.Perm (strKeys D0)) (Maps.size D0) w:=
  AnyZ.keys_gives (ρ:=Tryz.keysL_ren) {Tryz.keysL with} Fence.wide _ trivial rfl (by omega) bi b nn D0 w hBm hm hown
 exact AnyZ.sorted_in Tryz.sortedL Fence.wide 5 trivial trivial trivial trivial rfl (by omega) (Tryz.sortsL _) (enters_of Tryz.func150 (by kernel_rfl) rfl) 151 #[.pointer (some ⟨bi,0,none⟩)] trivial (enters_of Tryz.func151 (by kernel_rfl) rfl) _ _ hmax hbytes _ hseq
end Go.Proofs
namespace Go.Proofs.YtginkbjclkdglaaGreat
open Go Go.RowKit Go.Maps Go.Sort Go.Shelf Go.WideElems Go.MapKept Go.WideShapes
def Gn(b:Nat):Obj:=.cells #[.map (some b)] 62 (0,0)
theorem Bm(b c:Nat)(es:List PE):aQ Tryz.prog 116 [.own 0 (.map (some b))] [.obj b (cV es c)] (fun r os=>∃bi,r= .fn (.func 151) [.ptr 1 bi [] 0]∧os=[.obj b (cV es c),.obj bi (Gn b)]):=by
 refine⟨⟨_,Tryz.func116,by kernel_rfl,by kernel_rfl⟩,fun w vals F hF hO hrep=>?_⟩
 obtain⟨hl,hv⟩:=hrep
 obtain⟨u,rfl⟩:∃u,vals=[u]:=by
  cases vals with
  |nil=>cases hl
  |cons u r=>cases r with
   |nil=>exact⟨u,rfl⟩
   |cons _ _=>simp at hl
 have hu:=hv 0 _ u Z Z
 rw[cf] at hu
 obtain⟨rfl,_⟩:=hu
 have hb:w.heap[b]?=some (cV es c):=hO.ok _ (List.mem_cons_self ..)
 have hlt:=(Array.getElem?_eq_some_iff.1 hb).1
 refine Calls.mono ((callsIn_wide (n:=5)).1 (Tryz.keys_at (some b) w)) ?_
 rintro e w' ⟨rfl,rfl⟩
 have hal:(w.alloc (Gn b)).heap[w.heap.size]?=some (Gn b):=(MapKept.heap_alloc w _).1
 have hold:(w.alloc (Gn b)).heap[b]?=some (cV es c):=((MapKept.heap_alloc w (Gn b)).2 b hlt).trans hb
 have hsz:(w.alloc (Gn b)).heap.size=w.heap.size+1:=by show (w.heap.push _).size=_;simp
 refine⟨_,_,[.obj b (cV es c),.obj w.heap.size (Gn b)],rfl,⟨w.heap.size,rfl,rfl⟩,(cD _ w).alloc _,⟨fun o ho=>?_,?_,fun b' hb'=>?_⟩,fun b' hb'=>?_,?_⟩
 ·rcases List.mem_cons.1 ho with rfl|ho
  ·exact hold
  ·rw[List.mem_singleton.1 ho];exact hal
 ·show [b,w.heap.size].Nodup
  simp;omega
 ·have hb':b'∈[b,w.heap.size]:=hb'
  show b'<(w.alloc (Gn b)).heap.size
  rw[hsz]
  rcases List.mem_cons.1 hb' with rfl|hb'
  ·omega
  ·rw[List.mem_singleton.1 hb'];omega
 ·have hb':b'∈[b,w.heap.size]:=hb'
  rcases List.mem_cons.1 hb' with rfl|hb'
  ·exact .inl (List.mem_singleton.2 Z)
  ·rw[List.mem_singleton.1 hb'];exact .inr (Nat.le_refl _)
 ·refine⟨[.func (.func 151) #[] #[.pointer (some ⟨w.heap.size,0,none⟩)]],?_,rfl⟩
  simp only[bw]
  exact⟨#[.pointer (some ⟨w.heap.size,0,none⟩)],rfl,by simp only[fK];exact⟨[_],[],rfl,by simp[bw],rfl⟩⟩
def jv(l:List (List UInt8)):List (List UInt8):=l.mergeSort (fun x y=>decide (x≤y))
theorem xU{w:World}{F:Nat→Prop}:∀l:List (List UInt8),(∀s∈l,s.length≤maxLen)→dq w F 1 (l.map AV.s) (l.map encStr)
 |[],_=>by simp only[List.map_nil,dq]
 |s::r,h=>by
  simp only[List.map_cons,dq]
  refine⟨[encStr s],r.map encStr,rfl,?_,rfl,xU r (fun x hx=>h x (List.mem_cons_of_mem _ hx))⟩
  simp only[bw]
  exact⟨rfl,h s (List.mem_cons_self ..)⟩
theorem wZ(kk b bi c:Nat)(es:List PE)(hl:es.length≤1000000)(hn:∀e∈es,e.1.length≤maxLen)(hc:∀e∈es,e.2.2<c)(hbn:(es.map (·.2.2)).Nodup)(hkn:(es.map (·.1)).Nodup):
 aQ Tryz.prog 115 [.fn (.func 151) [.ptr 1 bi [] 0]] [.obj b (cV es c),.obj bi (Gn b)] (fun r os=>∃v,r= .own kk v∧os=[.obj b (cV es c),.obj bi (Gn b),.row v 9 1 ((jv (es.map (·.1))).map AV.s)]):=by
 refine⟨⟨_,Tryz.func115,by kernel_rfl,by kernel_rfl⟩,fun w vals F hF hO hrep=>?_⟩
 obtain⟨hvl,hv⟩:=hrep
 obtain⟨u,rfl⟩:∃u,vals=[u]:=by
  cases vals with
  |nil=>cases hvl
  |cons u r=>cases r with
   |nil=>exact⟨u,rfl⟩
   |cons _ _=>simp at hvl
 obtain⟨cs,hcs,hue⟩:=hv 0 _ u Z Z
 simp only[bw,fK] at hcs
 obtain⟨vs,rfl,c1,c2,hvs,rfl,rfl⟩:=hcs
 have hvs:vs=#[.pointer (some ⟨bi,0,none⟩)]:=by
  apply Array.ext'
  simpa using hvs
 subst hvs
 have hue:u= .func (.func 151) #[] #[.pointer (some ⟨bi,0,none⟩)]:=hue
 subst hue
 have hb:w.heap[b]?=some (cV es c):=hO.ok _ (List.mem_cons_self ..)
 have hbi:w.heap[bi]?=some (Gn b):=hO.ok _ (List.mem_cons_of_mem _ (List.mem_cons_self ..))
 have hlb:=(Array.getElem?_eq_some_iff.1 hb).1
 have hlbi:=(Array.getElem?_eq_some_iff.1 hbi).1
 have hblk:iJ w bi 62 #[.map (some b)]:=hbi
 have hk:Tryz.prog.underlying 9=some .string:=by kernel_rfl
 have hown:=M5 (P:=Tryz.prog) (k:=9) (w:=w) hk hb (Nat.le_trans hl (by decide)) hn hc hbn hkn
 refine Calls.mono ((callsIn_wide (n:=5)).1 (Tryz.sorted_at b bi es.length _ _ w hlbi (hblk.cell 0) hown (by rw[Hn];exact Nat.le_trans hl (by decide)) (by rw[Hn];omega))) ?_
 rintro e w' ⟨v,ss,rfl,hS,hrow,hnil,hbel⟩
 have hSp:=hS.trans (LQ (P:=Tryz.prog) (k:=9) hk hn)
 have hms:ss.mergeSort (fun x y=>decide (x≤y))=jv (es.map (·.1)):=mergeSort_of_perm hSp
 rw[hms] at hrow
 have hln:ss.length=(jv (es.map (·.1))).length:=by rw[←hms,List.length_mergeSort]
 have hsn:∀s∈jv (es.map (·.1)),s.length≤maxLen:=fun s hs=>by
  have h1:s∈es.map (·.1):=(List.mergeSort_perm _ _).mem_iff.1 hs
  obtain⟨e,he,rfl⟩:=List.mem_map.1 h1
  exact hn e he
 have hfr:∀b',v.ownBlock=some b'→w.heap.size≤b'∧b'<w'.heap.size:=fun b' hb'=>World.ownsRow.lt hrow b' hb'
 have hbb:b≠bi:=fun he=>by subst he;rw[hb] at hbi;cases hbi
 have h1:w'.heap[b]?=some (cV es c):=(hbel.block b hlb).trans hb
 have h2:w'.heap[bi]?=some (Gn b):=(hbel.block bi hlbi).trans hbi
 have hsz:=hbel.size
 have hos:∀b',b'∈ct [HO.obj b (cV es c),.obj bi (Gn b),.row v 9 1 ((jv (es.map (·.1))).map AV.s)]→b'=b∨b'=bi∨v.ownBlock=some b':=fun b' hb'=>by
  rw[fa,fa,fa] at hb'
  rcases List.mem_append.1 hb' with h|h
  ·exact .inl (List.mem_singleton.1 h)
  rcases List.mem_append.1 h with h|h
  ·exact .inr (.inl (List.mem_singleton.1 h))
  rcases List.mem_append.1 h with h|h
  ·exact .inr (.inr (kH h))
  ·cases h
 refine⟨v,.own kk v,_,rfl,⟨v,rfl,rfl⟩,⟨hbel.os,hbel.tape,hbel.output,hbel.size,fun k hk _=>hbel.block k hk⟩,⟨fun o ho=>?_,?_,fun b' hb'=>?_⟩,fun b' hb'=>?_,cf.2 ⟨rfl,zb (ownsRow_base_a hrow (Nat.zero_le _))⟩⟩
 ·rcases List.mem_cons.1 ho with rfl|ho
  ·exact h1
  rcases List.mem_cons.1 ho with rfl|ho
  ·exact h2
  ·rw[List.mem_singleton.1 ho]
   refine⟨_,xU _ hsn,?_⟩
   rw[List.length_map,←hln]
   exact ownsRow_base_a hrow (Nat.zero_le _)
 ·rw[fa,fa,fa]
  show ([b]++([bi]++(v.ownBlock.toList++[]))).Nodup
  cases hq:v.ownBlock with
  |none=>simp[hbb]
  |some g=>
   have:=(hfr g hq).1
   simp only[Option.toList_some,List.append_nil,List.cons_append,List.nil_append,List.nodup_cons,List.mem_cons,List.not_mem_nil,or_false,not_or,not_false_eq_true,List.nodup_nil,and_true]
   exact⟨⟨hbb,by omega⟩,by omega⟩
 ·rcases hos b' hb' with rfl|rfl|h
  ·omega
  ·omega
  ·exact(hfr b' h).2
 ·rcases hos b' hb' with rfl|rfl|h
  ·exact .inl (by rw[fa];exact List.mem_append_left _ (List.mem_singleton.2 Z))
  ·exact .inl (by rw[fa,fa];exact List.mem_append_right _ (List.mem_append_left _ (List.mem_singleton.2 Z)))
  ·exact .inr (hfr b' h).1
end Go.Proofs.YtginkbjclkdglaaGreat
namespace Go.Proofs.YtginkbjclkdglaaGreat
open Go Go.RowKit
def gX(D:ez):List (List UInt8):=if D.dead=true then [] else jv (D.fs.map (·.nm))
theorem Kr(D:ez):D.es.map (·.1)=D.fs.map (·.nm):=by unfold ez.es;rw[List.map_map];rfl
theorem wn(bd bm:Nat)(D:ez)(ok:D.ok)(hl:D.fs.length≤1000000):aQ Tryz.prog 66 [.ptr 0 bd [] 0] (dk bd bm D) (fun v os=>v= .sl 1 ((gX D).map AV.s)∧os=dk bd bm D):=by
 have hL:dk bd bm D=[.var bd (.agg [.i .i64 D.room,.own 1 (.map (some bm)),.i .i64 D.fuse,.b D.dead]),.obj bm (cV D.es D.clk),bL (D.fs.map bZ.O)]:=rfl
 rw[hL]
 have k1:=Bm bm D.clk D.es
 have hel:D.es.length≤1000000:=by unfold ez.es;rw[List.length_map];exact hl
 have k2:=fun bi=>wZ 61 bm bi D.clk D.es hel (Ks ok) (Kt ok) (Ku ok) (by rw[Kr];exact ok.nd)
 rw[Kr] at k2
 unfold gX
 generalize hdd:D.dead=dd at*
 refine aA ab [(0,.var bd (.agg [.i .i64 D.room,.own 1 (.map (some bm)),.i .i64 D.fuse,.b dd])),(1,.obj bm (cV D.es D.clk)),(2,bL (D.fs.map bZ.O))] Tryz.func66 Z Tryz.ntmps66 aN Z Z (fun C=>?_) Z
 cases dd
 case true=>
  rw[if_pos Z]
  repeat' (first|refine ae ?_|refine aa ?_|refine ac (ax ?_)|refine ap (bC ?_)|refine aU ab (fun _=>?_)|refine aR Z ?_)
  all_goals
   exact aH [] [(0,_),(1,_),(2,_)] (.sl 1 (([]:List (List UInt8)).map AV.s)) Z (bX cQ Z) (az 0 Z (az 1 Z (az 2 Z .nil))) ⟨rfl,rfl⟩
 rw[if_neg (by decide)]
 generalize jv (D.fs.map (·.nm))=S at*
 repeat' (first|refine ae ?_|refine aa ?_|refine ac (ax ?_)|refine ah (ax ?_)|refine ap (bC ?_)|refine aU ab (fun _=>?_)|refine aB Z ?_|(refine bx [] [1] [1,60] Z k1 ⟨aJ,J⟩ Z dD Z Z ?_;rintro _ _ ⟨bi,rfl,rfl⟩;refine⟨_,rfl,rfl,?_⟩)|(refine bx [] [1,60] [1,60,61] Z (k2 _) ⟨aP,J⟩ Z dD Z Z ?_;rintro _ _ ⟨vS,rfl,rfl⟩;refine⟨_,rfl,rfl,?_⟩))
 all_goals
  exact aH [61] [(0,_),(1,_),(2,_)] (.sl 1 (S.map AV.s)) Z (bX (bP (.head _)) Z) (az 0 Z (az 1 Z (az 2 Z .nil))) ⟨rfl,rfl⟩
set_option maxHeartbeats 4000000
def ja:Nat→Nat→List UInt8
 |0,_=>[]
 |k+1,n=>UInt8.ofNat (48+n / 10^k%10)::ja k n
def lr:List UInt8:=[108,111,103,45]
def ci(n:Nat):List UInt8:=lr++ja 10 n
def ta:List UInt8→Nat→Option Nat
 |[],n=>some n
 |c::r,n=>if c.toNat<48∨57<c.toNat then none else ta r (10*n+(c.toNat - 48))
def kT(s:List UInt8):Option Nat:=if s.take 4=lr∧(s.drop 4).length=10 then ta (s.drop 4) 0 else none
theorem nH:∀k n,(ja k n).length=k
 |0,_=>rfl
 |k+1,n=>by unfold ja;rw[List.length_cons,nH k n]
theorem ji(n:Nat):(ci n).length=14:=by unfold ci;rw[List.length_append,nH];rfl
theorem BW(n:Nat):∀k,n%10^(k+1)=n / 10^k%10*10^k+n%10^k:=fun k=>by
 rw[Nat.pow_succ,Nat.mod_mul,Nat.mul_comm (10^k),Nat.add_comm]
theorem tD(x:Nat):(UInt8.ofNat (48+x%10)).toNat=48+x%10:=by
 rw[UInt8.toNat_ofNat']
 exact Nat.mod_eq_of_lt (by have:=Nat.mod_lt x (show 0<10 by decide);omega)
theorem x3:∀(k n a:Nat),ta (ja k n) a=some (a*10^k+n%10^k)
 |0,n,a=>by unfold ja ta;simp[Nat.mod_one]
 |k+1,n,a=>by
  have h1:=tD (n / 10^k)
  have h2:=Nat.mod_lt (n / 10^k) (show 0<10 by decide)
  unfold ja ta
  rw[if_neg (by rw[h1];omega),x3 k n,BW n k,h1,Nat.add_sub_cancel_left,Nat.pow_succ,Nat.add_mul,Nat.mul_comm 10 a,Nat.mul_assoc,Nat.mul_comm 10]
  rw[Nat.add_assoc]
theorem kM{n:Nat}(h:n<10000000000):kT (ci n)=some n:=by
 unfold kT ci
 have h1:(lr++ja 10 n).take 4=lr:=List.take_left (l₁:=lr)
 have h2:(lr++ja 10 n).drop 4=ja 10 n:=List.drop_left (l₁:=lr)
 rw[h1,h2,if_pos ⟨rfl,nH 10 n⟩,x3,Nat.mod_eq_of_lt (by exact h)]
 simp
theorem sa:∀(k n j:Nat),k≤j→ja k (n%10^j)=ja k n
 |0,_,_,_=>rfl
 |k+1,n,j,h=>by
  unfold ja
  rw[sa k n j (by omega)]
  congr 3
  obtain⟨i,rfl⟩:∃i,j=k+1+i:=⟨j - (k+1),by omega⟩
  rw[show (10:Nat)^(k+1+i)=10^k*(10*10^i) by rw[Nat.pow_add,Nat.pow_succ,Nat.mul_assoc],Nat.mod_mul_right_div_self,Nat.mod_mul_right_mod]
theorem yz:∀(r:List UInt8) (a m:Nat),ta r a=some m→∃v,v<10^r.length∧m=a*10^r.length+v∧ja r.length v=r
 |[],a,m,h=>by
  unfold ta at h
  cases h
  exact⟨0,by decide,by simp,rfl⟩
 |c::r,a,m,h=>by
  unfold ta at h
  split at h
  ·cases h
  ·next hc=>
   obtain⟨v,hv,hm,hd⟩:=yz r _ m h
   have hp:0<10^r.length:=Nat.pow_pos (by decide)
   have hq:(c.toNat - 48)*10^r.length+v<10^(r.length+1):=by
    rw[Nat.pow_succ]
    have:(c.toNat - 48)*10^r.length≤9*10^r.length:=Nat.mul_le_mul_right _ (by omega)
    omega
   refine⟨(c.toNat - 48)*10^r.length+v,hq,?_,?_⟩
   ·rw[hm,List.length_cons,Nat.pow_succ,Nat.add_mul,Nat.mul_comm (10^r.length) 10,←Nat.mul_assoc,Nat.mul_comm a 10];omega
   ·rw[List.length_cons]
    unfold ja
    have h1:((c.toNat - 48)*10^r.length+v) / 10^r.length=c.toNat - 48:=by
     rw[Nat.mul_comm,Nat.mul_add_div hp,Nat.div_eq_of_lt hv,Nat.add_zero]
    have h2:ja r.length ((c.toNat - 48)*10^r.length+v)=r:=by
     rw[←sa r.length _ r.length (Nat.le_refl _),Nat.mul_add_mod_self_right,Nat.mod_eq_of_lt hv,hd]
    rw[h1,h2,Nat.mod_eq_of_lt (show c.toNat - 48<10 by omega),show 48+(c.toNat - 48)=c.toNat by omega,UInt8.ofNat_toNat]
theorem vM{s:List UInt8}{m:Nat}(h:kT s=some m):ci m=s∧m<10000000000:=by
 unfold kT at h
 split at h
 ·next hc=>
  obtain⟨v,hv,hm,hd⟩:=yz _ _ _ h
  rw[hc.2] at hv hm hd
  have hmv:m=v:=by rw[hm];omega
  subst hmv
  refine⟨?_,hv⟩
  unfold ci
  rw[hd,←hc.1,List.take_append_drop]
 ·cases h
theorem yy:∀(k j n:Nat),n<10^j→j≤k→ja k n=List.replicate (k - j) 48++ja j n
 |0,j,n,_,h=>by
  have:j=0:=by omega
  subst this;rfl
 |k+1,j,n,h,hj=>by
  by_cases hk:j=k+1
  ·subst hk;rw[Nat.sub_self];rfl
  ·have h0:n / 10^k=0:=Nat.div_eq_of_lt (Nat.lt_of_lt_of_le h (Nat.pow_le_pow_right (by decide) (by omega)))
   unfold ja
   rw[h0,yy k j n h (by omega),show k+1 - j=(k - j)+1 by omega,List.replicate_succ]
   cases j<;>rfl
theorem Fc:∀(k n m:Nat),n<m→m<10^k→ja k n<ja k m
 |0,n,m,h,hm=>by exfalso;rw[Nat.pow_zero] at hm;omega
 |k+1,n,m,h,hm=>by
  have hp:0<10^k:=Nat.pow_pos (by decide)
  have hm1:m / 10^k<10:=by rw[Nat.div_lt_iff_lt_mul hp,Nat.mul_comm];exact hm
  have hle:n / 10^k≤m / 10^k:=Nat.div_le_div_right (Nat.le_of_lt h)
  unfold ja
  rcases Nat.lt_or_eq_of_le hle with hlt|heq
  ·refine List.Lex.rel ?_
   rw[UInt8.lt_iff_toNat_lt,tD,tD,Nat.mod_eq_of_lt hm1,Nat.mod_eq_of_lt (by omega)]
   omega
  ·rw[heq]
   refine List.Lex.cons ?_
   have h1:=Nat.div_add_mod n (10^k)
   have h2:=Nat.div_add_mod m (10^k)
   rw[heq] at h1
   have:=Fc k (n%10^k) (m%10^k) (by omega) (Nat.mod_lt _ hp)
   rw[sa k n k (Nat.le_refl _),sa k m k (Nat.le_refl _)] at this
   exact this
theorem HR{n m:Nat}(h:n<m)(hm:m<10000000000):ci n<ci m:=by
 unfold ci lr
 exact List.Lex.cons (List.Lex.cons (List.Lex.cons (List.Lex.cons (Fc 10 n m h hm))))
def jp(l:List (List UInt8)):List Nat:=l.filterMap kT
theorem xM:∀(l:List Nat),(∀n∈l,n<10000000000)→jp (l.map ci)=l
 |[],_=>rfl
 |n::r,h=>by
  unfold jp
  rw[List.map_cons,List.filterMap_cons,kM (h n (List.mem_cons_self ..))]
  exact congrArg _ (xM r (fun x hx=>h x (List.mem_cons_of_mem _ hx)))
def mQ(c:UInt8):Value:=.int .u8 (c.toNat:Int)
def xt(v:Value)(o:Obj)(e:TypeId)(b:Nat)(xs:List UInt8):Prop:=
 ∃cur fz cap,v= .slice (some ⟨b,0,none⟩) xs.length cap∧o= .cells cur e fz∧(cur.size≤fz.1∨fz.2=0)∧xs.length≤cap∧cap≤maxLen∧cur.size=cap∧cur.toList.take xs.length=xs.map mQ
section
variable {P:Program} (w:World)
end
section
variable {P:Program} {w:World}
end
section
variable {m:OM} {P:Program} {T:List (Nat×TI)} {C:il} {ops:Array Oper} {l:List Oper} {K:St→Prop} {n:Nat} {sl:List (Nat×AV)} {hp:List (Nat×HO)} {d:Nat} {ty:Nat} {pos:String} {aft:Array Edge} {gd:Option (Nat×Bool)}
theorem Lz(hT:cP P T)(hw:cH ops ⟨n,sl,hp⟩ gd=bE gd){x:Operand}{t e k b:Nat}{v:Value}{o:Obj}{e':TypeId}{xs:List UInt8}{sz0 by0:Nat}{z0:AV}(hx:ev ⟨n,sl,hp⟩ x= .own k v)(hM:xt v o e' b xs)
 (ht:bI T t=some ⟨.slice e,sz0,by0,z0⟩)(hd:Nat.blt d n=true)(h:aq m P C ops l ⟨n,(d,.i .i64 xs.length)::sl,hp⟩ K):aq m P C ops (⟨some d,.call ⟨.builtin .len,#[x],#[t]⟩,ty,pos,aft,gd⟩::l) ⟨n,sl,hp⟩ K:=by
 refine eI (d:=some d) hw none cT hd Z (fun a w hs=>?_) h
 have Ex:=bg hs x
 rw[hx,cf] at Ex
 obtain⟨cur,fz,cap,rfl,_⟩:=hM
 refine⟨.int .i64 xs.length,cq.2 Z,fun w' _=>?_⟩
 simp[execOp,resolve,invoke,builtin,Sem.run_bind,Sem.run_pure,Ex.1,Builtin.len_,run_underlying (ej (aX hT ht))]
 rfl
end
theorem ep.freezeM{C:il}{S:St}{a:Act}{w:World}(h:ep C S a w){k d e b:Nat}{v:Value}{o:Obj}{xs:List UInt8}(hM:xt v o e b xs)(hg:bU S.heap k=some (.obj b o))(hd:S.slot d= .own k v):ep C ⟨S.n,(d,.sl 1 (xs.map gy))::S.slots,dS S.heap k⟩ a w:=by
 obtain⟨j1,j2,j3⟩:=dl hg
 have h1:=h.del hg
 refine⟨h1.n,h1.df,fun i=>?_,h1.heap,h1.nd,h1.lt,h1.mod⟩
 have hslot:(⟨S.n,(d,AV.sl 1 (xs.map gy))::S.slots,dS S.heap k⟩:St).slot i=if d=i then .sl 1 (xs.map gy) else S.slot i:=pY ⟨S.n,S.slots,dS S.heap k⟩ d i (.sl 1 (xs.map gy))
 rw[hslot]
 by_cases hi:d=i
 ·subst hi
  rw[if_pos Z]
  have hs:=h.slots d
  rw[hd,cf] at hs
  have hr:w.heap[b]?=some o:=h.getHeap hg
  rw[hs.1]
  obtain⟨cur,fz,cap,rfl,rfl,g1,g2,g3,g4,g5⟩:=hM
  have hF:Fz C (dS S.heap k) w b:=⟨(h.lt b (fH hg (List.mem_singleton.2 Z))).1,(j2 h.nd).2 b (List.mem_singleton.2 Z),.inr (h.lt b (fH hg (List.mem_singleton.2 Z))).2⟩
  refine iW.2 ⟨_,cap,by rw[List.length_map],by rw[List.length_map];exact g2,g3,fun _=>⟨b,0,rfl,hF,n8 xs 0 (fun j c hj=>?_)⟩⟩
  rw[Nat.zero_add,cell_of_row w b j cur e fz hr]
  have hjl:=(List.getElem?_eq_some_iff.1 hj).1
  have h6:(cur.toList.take xs.length)[j]?=some (mQ c):=by rw[g5,List.getElem?_map,hj];rfl
  rw[List.getElem?_take,if_pos hjl,Array.getElem?_toList] at h6
  exact h6
 ·rw[if_neg hi];exact h1.slots i
section
variable {m:OM} {P:Program} {C:il} {ops:Array Oper} {o:Oper} {l:List Oper} {K:St→Prop} {n:Nat} {sl:List (Nat×AV)} {hp:List (Nat×HO)}
theorem GN{cc:Code}{K:Exit→St→Prop}{hp':List (Nat×HO)}(k d:Nat){e b:Nat}{v:Value}{ob:Obj}{xs:List UInt8}(hM:xt v ob e b xs)(hg:bU hp k=some (.obj b ob))(hd:ge sl d= .own k v)(hh:dS hp k=hp')
 (h:ag P C cc ⟨n,(d,.sl 1 (xs.map gy))::sl,hp'⟩ K):ag P C cc ⟨n,sl,hp⟩ K:=by
 subst hh
 exact⟨fun a w hs=>h.out a w (hs.freezeM (S:=⟨n,sl,hp⟩) hM hg hd)⟩
end
section
variable {m:OM} {P:Program} {T:List (Nat×TI)} {C:il} {ops:Array Oper} {l:List Oper} {K:St→Prop} {n:Nat} {sl:List (Nat×AV)} {hp:List (Nat×HO)} {d:Nat} {ty:Nat} {pos:String} {aft:Array Edge} {gd:Option (Nat×Bool)}
theorem JH(hT:cP P T)(hw:cH ops ⟨n,sl,hp⟩ gd=bE gd){t e e0 k:Nat}{x:Operand}{v:Value}{zs:List AV}(xs:List UInt8){sz0 by0 sz1 by1:Nat}{z0 z1:AV}{hp':Nat→Obj→List (Nat×HO)}
 (hx:ev ⟨n,sl,hp⟩ x= .own k v)(hg:bU hp k=some (.row v e0 1 zs))(hzs:zs=xs.map gy)(hpos:Nat.blt 0 xs.length=true)(h1:bI T t=some ⟨.slice e,sz0,by0,z0⟩)(h2:bI T e=some ⟨.int .u8,sz1,by1,z1⟩)
 (hd:Nat.blt d n=true)(hm:m.oke (some d) [k]=true)(hh:∀b' o',eT hp k (.obj b' o')=hp' b' o')
 (h:∀b o,xt v o e0 b xs→aq m P C ops l ⟨n,(d,.own k v)::sl,hp' b o⟩ K):aq m P C ops (⟨some d,.convert t t x,ty,pos,aft,gd⟩::l) ⟨n,sl,hp⟩ K:=by
 subst hzs
 refine eD hw [k] hm (by simp[jP,ej (aX hT h1)]) fun a w hs=>?_
 have Ex:=bg hs x
 rw[hx,cf] at Ex
 have hrow:=hs.getHeap hg
 have hpos:=pG hpos
 obtain⟨b,hb⟩:∃b,v.ownBlock=some b:=by
  obtain⟨cells,g1,g2⟩:=hrow
  rcases g2.2 with ⟨rfl,h0'⟩|⟨g,cap,cur,rfl,_⟩
  ·rw[List.length_map] at h0';omega
  ·exact⟨g,rfl⟩
 obtain⟨cells,cap,cur,g1,hv,g3,g4,g5,g6,g7⟩:=pO hrow hb
 rw[List.length_map] at hv g4 g7
 subst hv
 have hcells:=pF xs cells g1
 rw[Nat.mul_one] at g6 g7
 have hlt:b<w.heap.size:=g3.lt
 have hge:w.heap[b]= .cells cur e0 (0,0):=(Array.getElem?_eq_some_iff.1 g3).2
 have hsh:w.shape? b=some (e0,cur.size):=by
  unfold World.shape?
  rw[g3]
 have hnew:(w.freeze ⟨b,cur.size,none⟩ 1).heap[b]?=some (.cells cur e0 (cur.size,cur.size+1)):=by
  unfold World.freeze
  rw[if_neg (by decide)]
  simp only[]
  rw[Array.getElem?_eq_getElem (by simpa using hlt),Array.getElem_modify]
  simp[hge]
 have hmod:dE (fun b1=>b1∈HO.blk (.row (.slice (some ⟨b,0,none⟩) xs.length cap) e0 1 (xs.map gy))) w (w.freeze ⟨b,cur.size,none⟩ 1):=by
  refine⟨?_,?_,?_,?_,fun q _ hq=>?_⟩
  ·unfold World.freeze;rfl
  ·unfold World.freeze;rfl
  ·unfold World.freeze;rfl
  ·unfold World.freeze;simp
  ·have:q≠b:=fun he=>hq (by subst he;exact eY hb)
   unfold World.freeze
   rw[if_neg (by decide)]
   simp[Array.getElem?_modify,Ne.symm this]
 have hM:xt (.slice (some ⟨b,0,none⟩) xs.length cap) (.cells cur e0 (cur.size,cur.size+1)) e0 b xs:=
  ⟨cur,_,cap,rfl,rfl,.inl (Nat.le_refl _),g4,g5,g6,by rw[g7,hcells];rfl⟩
 have hrun:(convert t t (.slice (some ⟨b,0,none⟩) xs.length cap)).run P w= .ok (.slice (some ⟨b,0,none⟩) xs.length cap) (w.freeze ⟨b,cur.size,none⟩ 1):=by
  simp only[convert,Sem.run_bind,run_underlying (ej (aX hT h1)),run_underlying (nR (aX hT h2)),Result.andThen_ok,beq_self_eq_true,markStringish,run_shape,hsh,run_freeze,Sem.run_pure]
 refine⟨_,_,⟨n,sl,eT hp k (.obj b (.cells cur e0 (cur.size,cur.size+1)))⟩,.own k (.slice (some ⟨b,0,none⟩) xs.length cap),?_,hs.swap hg (.obj b _) hmod hnew (fun b1 hb1=>?_),hd,cf.2 ⟨rfl,Ex.2⟩,fV hg hmod (fun b1 hb1=>?_),by rw[hh];exact h _ _ hM⟩
 ·simp only[execOp,Ex.1,Sem.run_bind,hrun,Result.andThen_ok,Sem.run_pure]
 ·have hb2:b=b1:=(List.mem_singleton.1 hb1).symm
  subst hb2
  exact⟨by have:=hmod.size;omega,.inl (eY hb)⟩
 ·have hb2:b=b1:=(List.mem_singleton.1 hb1).symm
  subst hb2
  exact .inl (eY hb)
theorem HJ(hT:cP P T)(hw:cH ops ⟨n,sl,hp⟩ gd=bE gd){t:Nat}{x ix:Operand}{k b:Nat}{v:Value}{o:Obj}{e0:TypeId}{xs:List UInt8}{i:Int}{kk:IntKind}{e sz0 by_:Nat}{z:AV}{te:TI}
 (hx:ev ⟨n,sl,hp⟩ x= .own k v)(hM:xt v o e0 b xs)(hi:ev ⟨n,sl,hp⟩ ix= .i kk i)(ht:bI T t=some ⟨.slice e,sz0,by_,z⟩)(he:bI T e=some te)(hsz:te.sz=1)
 (hd:Nat.blt d n=true)(j:Nat)(hj:i=j)(hn:j<xs.length)(h:aq m P C ops l ⟨n,(d,.ptr k b [j] j)::sl,hp⟩ K):aq m P C ops (⟨some d,.indexAddr t x ix,ty,pos,aft,gd⟩::l) ⟨n,sl,hp⟩ K:=by
 subst hj
 refine eI (d:=some d) hw none cT hd Z (fun a w hs=>?_) h
 have Ex:=bg hs x;have Ei:=bg hs ix
 rw[hx,cf] at Ex
 rw[hi,cq] at Ei
 obtain⟨cur,fz,cap,rfl,rfl,g1,g2,g3,g4,g5⟩:=hM
 refine⟨_,dg.2 Z,fun w' _=>?_⟩
 have:=jD (P:=P) (aX hT ht) (aX hT he) b 0 xs.length cap (j:Int) kk (by omega) (by omega) w'
 rw[Nat.zero_add,hsz,Nat.mul_one] at this
 simp only[execOp,Ex.1,Ei,Sem.run_bind,this,Result.andThen_ok,Sem.run_pure]
 rfl
theorem HG(hT:cP P T)(hw:cH ops ⟨n,sl,hp⟩ gd=bE gd){t:Nat}{x y:Operand}{k b j off sz1 by1:Nat}{z1:AV}{v:Value}{o:Obj}{e0:TypeId}{xs:List UInt8}{c:UInt8}{u:AV}{hp':Obj→List (Nat×HO)}
 (hx:ev ⟨n,sl,hp⟩ x= .ptr k b [j] off)(ho:j=off)(hM:xt v o e0 b xs)(hg:bU hp k=some (.obj b o))(ht:bI T t=some ⟨.int .u8,sz1,by1,z1⟩)(hs1:sz1=1)(hy:ev ⟨n,sl,hp⟩ y=u)(hu:u=gy c)(hj:j<xs.length)
 (hm:m.oke none [k]=true)(hh:∀o',eT hp k (.obj b o')=hp' o')
 (h:∀o',xt v o' e0 b (xs.set j c)→aq m P C ops l ⟨n,sl,hp' o'⟩ K):aq m P C ops (⟨none,.store t x y,ty,pos,aft,gd⟩::l) ⟨n,sl,hp⟩ K:=by
 subst hs1;subst ho;subst hu
 refine mq hw [k] hm Z fun a w hs=>?_
 have Ex:=bg hs x
 have Ey:=bg hs y
 rw[hx,dg] at Ex
 rw[hy,show gy c=AV.i .u8 (c.toNat:Int) from rfl,cq] at Ey
 have hob:w.heap[b]?=some o:=hs.getHeap hg
 obtain⟨cur,fz,cap,hv,rfl,g1,g2,g3,g4,g5⟩:=hM
 have hbl:=(Array.getElem?_eq_some_iff.1 hob).1
 have hthere:w.there b j 1:=by
  intro i hi
  have:i=0:=by omega
  subst this
  refine⟨?_,?_⟩
  ·rw[Nat.add_zero,cell_of_row w b j cur e0 fz hob,Array.getElem?_eq_getElem (by omega)];rfl
  ·obtain⟨lo,hi'⟩:=fz
   simp only[World.frozen?,hob,Bool.and_eq_false_iff,decide_eq_false_iff_not,Nat.add_zero]
   simp only at g1
   omega
 have hrc:bw w (Fz C hp w) (gy c) [mQ c]:=by
  unfold gy
  simp only[bw];rfl
 have hst:=oS (P:=P) (aX hT ht) (y:=gy c) ⟨rfl,rfl⟩ hrc (b:=b) (o:=j) hthere
 have hsetc:w.setCells b j [mQ c]=w.setRow b (cur.setIfInBounds j (mQ c)):=by
  show (w.setCell ⟨b,j,none⟩ (mQ c))=_
  exact setCell_eq_setRow w b j cur e0 fz (mQ c) hob
 have hnew:=setRow_heap w b cur (cur.setIfInBounds j (mQ c)) e0 fz hob
 have hmod:dE (fun b1=>b1∈HO.blk (.obj b (.cells cur e0 fz))) w (w.setRow b (cur.setIfInBounds j (mQ c))):=
  ⟨rfl,rfl,rfl,by simp,fun q _ hq=>setRow_other w b q _ (fun he=>hq (by subst he;exact List.mem_singleton.2 Z))⟩
 have hM':xt v (.cells (cur.setIfInBounds j (mQ c)) e0 fz) e0 b (xs.set j c):=by
  refine⟨_,fz,cap,by rw[List.length_set];exact hv,rfl,by rw[Array.size_setIfInBounds];exact g1,by rw[List.length_set];exact g2,g3,by rw[Array.size_setIfInBounds];exact g4,?_⟩
  rw[List.length_set,Array.toList_setIfInBounds,List.take_set,g5,List.map_set]
 refine⟨_,⟨n,sl,eT hp k (.obj b (.cells (cur.setIfInBounds j (mQ c)) e0 fz))⟩,?_,hs.swap hg (.obj b _) hmod hnew (fun b1 hb1=>?_),fV hg hmod (fun b1 hb1=>.inl hb1),by rw[hh];exact h _ hM'⟩
 ·rw[hsetc] at hst
  have hst:(Instr.storeAt t (.pointer (some ⟨b,j,none⟩)) (mQ c)).run P w= .ok () (w.setRow b (cur.setIfInBounds j (mQ c))):=hst
  simp only[execOp,Ex,Ey,Sem.run_bind]
  rw[show Value.int .u8 (c.toNat:Int)=mQ c from rfl,hst]
  simp only[Result.andThen_ok,Sem.run_pure]
 ·have hb2:b=b1:=(List.mem_singleton.1 hb1).symm
  subst hb2
  exact⟨by have:=hmod.size;omega,.inl (List.mem_singleton.2 Z)⟩
end
end Go.Proofs.YtginkbjclkdglaaGreat
